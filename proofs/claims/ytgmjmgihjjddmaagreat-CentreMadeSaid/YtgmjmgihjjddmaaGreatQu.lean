/- Functions, evaluated. No condition. -/
import Derived.Test.YtgmjmgihjjddmaaGreatProg
import Derived.Test.YtgmjmgihjjddmaaGreatSqLI
import Derived.Test.YtgmjmgihjjddmaaGreatIn4
namespace Go.Proofs.YtgmjmgihjjddmaaGreat
open Go Go.Sq
open Go.Proofs.Tryz
noncomputable section
abbrev I6:Ty:=.int .i64
abbrev dd(τ:Ty):Sh:=.one (.data τ)
abbrev pt(b o:Nat):Sh:=.one (.ptr b o)
abbrev ow(b:Nat):Sh:=.one (.own b)
abbrev FO(e:Fun):Prop:=FunOk Tryz.prog e
abbrev yT0:Type:=List UInt8×Int×Int×Int×Int×Int×List (Int×Int×Int)
abbrev tT0:Ty:=.pair (.sl (.str)) (.pair (.sl (.pair (.str) (.pair I6 (.pair I6 (.pair I6 (.pair I6 (.pair I6 (.sl (.pair I6 (.pair I6 I6)))))))))) (.pair (.sl (.pair (.str) (.pair I6 I6))) (.pair (.sl (.pair (.str) (.pair I6 (.pair I6 (.pair I6 I6))))) (.pair I6 I6))))
abbrev tT1:Ty:=.pair I6 (.pair I6 (.pair I6 (.pair I6 (.pair I6 (.sl I6)))))
abbrev tT2:Ty:=.pair I6 (.pair I6 (.pair (.bool) (.bool)))
abbrev tT3:Ty:=.pair (.str) (.pair I6 (.pair I6 (.pair I6 I6)))
abbrev tT4:Ty:=.pair I6 (.pair I6 (.pair (.sl (.pair I6 (.bool))) I6))
abbrev tT5:Ty:=.pair I6 (.pair I6 (.pair I6 (.pair I6 (.pair I6 (.sl (.pair I6 (.pair I6 I6)))))))
abbrev tT6:Ty:=.pair (.sl I6) (.pair (.sl I6) (.sl (.bool)))
abbrev yB0:Type:=List (List UInt8)×List yT0×List (List UInt8×Int×Int)×List (List UInt8×Int×Int×Int×Int)×Int×Int
abbrev yB1:Type:=(List (Int×Int×Bool×Bool)×List Int×List Int×List Bool)×List (Int×Int×Int×Int×Int×List Int)×List (List UInt8×Int×Int×Int×Int)×Int
abbrev yB2:Type:=List UInt8×Int×Int×Int×Int
abbrev yB3:Type:=Int×Int×Int×Int×Int×List Int
abbrev yB4:Type:=List (Int×Int×Bool×Bool)
abbrev yB5:Type:=Int×Int×Int×Int×Int×List (Int×Bool)×Int
abbrev yB6:Type:=List (Int×Int×Bool×Bool)×List Int×List Int×List Bool
abbrev yB7:Type:=List Int×List Int×List Bool
abbrev yB8:Type:=Int×Int×List (Int×Bool)×Int
abbrev yB9:Type:=Int×List Int×yB5×List UInt8×Int×Int
abbrev yB10:Type:=Int×yB4×List Int×List Int×List Bool
abbrev yB11:Type:=(Int×List Int×List Int×yB4×List Int×List Int×List Bool×(List yB3)×(List yB2)×Int×yB4×List Int×List Int×List Bool×(List yB3)×(List yB2)×Int×List (List Int))⊕((List Int×List Int×yB4×List Int×List Int×List Bool×(List yB3)×(List yB2)×Int×yB4×List Int×List Int×List Bool×(List yB3)×(List yB2)×Int)⊕(Int×List Int×List Int×yB4×List Int×List Int×List Bool×(List yB3)×(List yB2)×Int))
abbrev yB12:Type:=List UInt8×Int×Int×Int×Int×Int×List (Int×Int×Int)
abbrev yB13:Type:=List (List UInt8×Int×Int)
abbrev yB14:Type:=List (List UInt8)×List (List UInt8)×List (List UInt8)×List (List UInt8)
abbrev yB15:Type:=Bool×yB4×List Int×List Int×List Bool×(List yB3)×List yB2
abbrev fd(n:String)(t o:Nat)(p:String)(b:Nat):Field:={ name:=n,type:=t,offset:=o,embedded:=false,tag := "",pkgPath:=p,byteOffset:=b }
def ti3:TI:=⟨3,.int .i64,1,8,.int .i64 0,.int .i64,false⟩
theorem tk3:ti3.ok prog:=⟨underlying3,by kernel_rfl,fun h=>by cases h⟩
def ti4:TI:=⟨4,.bool,1,1,.bool false,.bool,false⟩
theorem tk4:ti4.ok prog:=⟨underlying4,by kernel_rfl,fun h=>by cases h⟩
def ti5:TI:=⟨5,.int .u8,1,1,.int .u8 0,.int .u8,false⟩
theorem tk5:ti5.ok prog:=⟨underlying5,by kernel_rfl,fun h=>by cases h⟩
def ti9:TI:=⟨9,.string,1,16,.string ⟨#[]⟩,.str,false⟩
theorem tk9:ti9.ok prog:=⟨underlying9,by kernel_rfl,fun h=>by cases h⟩
def ti22:TI:=⟨22,.slice 3,1,24,.slice none 0 0,.sl I6,false⟩
theorem tk22:ti22.ok prog:=⟨underlying22,by kernel_rfl,fun h=>by cases h⟩
def ti27:TI:=⟨27,.slice 9,1,24,.slice none 0 0,.sl (.str),false⟩
theorem tk27:ti27.ok prog:=⟨underlying27,by kernel_rfl,fun h=>by cases h⟩
def ti28:TI:=⟨28,.slice 78,1,24,.slice none 0 0,.sl (.pair (.str) tT5),false⟩
theorem tk28:ti28.ok prog:=⟨underlying28,by kernel_rfl,fun h=>by cases h⟩
def ti29:TI:=⟨29,.slice 80,1,24,.slice none 0 0,.sl (.pair (.str) (.pair I6 I6)),false⟩
theorem tk29:ti29.ok prog:=⟨underlying29,by kernel_rfl,fun h=>by cases h⟩
def ti30:TI:=⟨30,.slice 93,1,24,.slice none 0 0,.sl tT3,false⟩
theorem tk30:ti30.ok prog:=⟨underlying30,by kernel_rfl,fun h=>by cases h⟩
def ti32:TI:=⟨32,.struct #[fd "Nodes" 27 0 "" 0,fd "Segments" 28 1 "" 24,fd "Ports" 29 2 "" 48,fd "Stations" 30 3 "" 72,fd "Vapour" 3 4 "" 96,fd "Settle" 3 5 "" 104],6,112,.agg #[.slice none 0 0,.slice none 0 0,.slice none 0 0,.slice none 0 0,.int .i64 0,.int .i64 0],.pair (.sl (.str)) (.pair (.sl (.pair (.str) tT5)) (.pair (.sl (.pair (.str) (.pair I6 I6))) (.pair (.sl tT3) (.pair I6 I6)))),true⟩
theorem tk32:ti32.ok prog:=⟨underlying32,by kernel_rfl,fun _=>⟨eqGuardType32,stoodInHeld32⟩⟩
def ti35:TI:=⟨35,.slice 141,1,24,.slice none 0 0,.sl tT2,false⟩
theorem tk35:ti35.ok prog:=⟨underlying35,by kernel_rfl,fun h=>by cases h⟩
def ti36:TI:=⟨36,.slice 4,1,24,.slice none 0 0,.sl (.bool),false⟩
theorem tk36:ti36.ok prog:=⟨underlying36,by kernel_rfl,fun h=>by cases h⟩
def ti38:TI:=⟨38,.struct #[fd "Rates" 22 0 "" 0,fd "Ports" 22 1 "" 24,fd "Pumps" 36 2 "" 48],3,72,.agg #[.slice none 0 0,.slice none 0 0,.slice none 0 0],.pair (.sl I6) (.pair (.sl I6) (.sl (.bool))),true⟩
theorem tk38:ti38.ok prog:=⟨underlying38,by kernel_rfl,fun _=>⟨eqGuardType38,stoodInHeld38⟩⟩
def ti40:TI:=⟨40,.struct #[fd "Valves" 35 0 "" 0,fd "Plan" 38 1 "" 24],4,96,.agg #[.slice none 0 0,.slice none 0 0,.slice none 0 0,.slice none 0 0],.pair (.sl tT2) tT6,true⟩
theorem tk40:ti40.ok prog:=⟨underlying40,by kernel_rfl,fun _=>⟨eqGuardType40,stoodInHeld40⟩⟩
def ti41:TI:=⟨41,.slice 104,1,24,.slice none 0 0,.sl tT1,false⟩
theorem tk41:ti41.ok prog:=⟨underlying41,by kernel_rfl,fun h=>by cases h⟩
def ti42:TI:=⟨42,.slice 86,1,24,.slice none 0 0,.sl tT3,false⟩
theorem tk42:ti42.ok prog:=⟨underlying42,by kernel_rfl,fun h=>by cases h⟩
def ti44:TI:=⟨44,.struct #[fd "Desk" 40 0 "" 0,fd "Stations" 41 4 "" 96,fd "Accounts" 42 5 "" 120,fd "Count" 3 6 "" 144],7,152,.agg #[.slice none 0 0,.slice none 0 0,.slice none 0 0,.slice none 0 0,.slice none 0 0,.slice none 0 0,.int .i64 0],.pair (.pair (.sl tT2) tT6) (.pair (.sl tT1) (.pair (.sl tT3) I6)),true⟩
theorem tk44:ti44.ok prog:=⟨underlying44,by kernel_rfl,fun _=>⟨eqGuardType44,stoodInHeld44⟩⟩
def ti45:TI:=⟨45,.slice 62,1,24,.slice none 0 0,.sl (.pair I6 (.pair (.sl I6) (.pair (.pair I6 (.pair I6 (.pair I6 tT4))) (.pair (.str) (.pair I6 I6))))),false⟩
theorem tk45:ti45.ok prog:=⟨underlying45,by kernel_rfl,fun h=>by cases h⟩
def ti48:TI:=⟨48,.slice 5,1,24,.slice none 0 0,.sl (.int .u8),false⟩
theorem tk48:ti48.ok prog:=⟨underlying48,by kernel_rfl,fun h=>by cases h⟩
def ti50:TI:=⟨50,.struct #[fd "Bytes" 48 0 "" 0,fd "Pending" 48 1 "" 24],2,48,.agg #[.slice none 0 0,.slice none 0 0],.pair (.sl (.int .u8)) (.sl (.int .u8)),true⟩
theorem tk50:ti50.ok prog:=⟨underlying50,by kernel_rfl,fun _=>⟨eqGuardType50,stoodInHeld50⟩⟩
def ti54:TI:=⟨54,.slice 97,1,24,.slice none 0 0,.sl (.pair I6 (.bool)),false⟩
theorem tk54:ti54.ok prog:=⟨underlying54,by kernel_rfl,fun h=>by cases h⟩
def ti56:TI:=⟨56,.struct #[fd "In" 3 0 "" 0,fd "Out" 3 1 "" 8,fd "Hops" 54 2 "" 16,fd "Rate" 3 3 "" 40],4,48,.agg #[.int .i64 0,.int .i64 0,.slice none 0 0,.int .i64 0],.pair I6 (.pair I6 (.pair (.sl (.pair I6 (.bool))) I6)),true⟩
theorem tk56:ti56.ok prog:=⟨underlying56,by kernel_rfl,fun _=>⟨eqGuardType56,stoodInHeld56⟩⟩
def ti58:TI:=⟨58,.struct #[fd "Kind" 3 0 "" 0,fd "Index" 3 1 "" 8,fd "Value" 3 2 "" 16,fd "Path" 56 3 "" 24],7,72,.agg #[.int .i64 0,.int .i64 0,.int .i64 0,.int .i64 0,.int .i64 0,.slice none 0 0,.int .i64 0],.pair I6 (.pair I6 (.pair I6 tT4)),true⟩
theorem tk58:ti58.ok prog:=⟨underlying58,by kernel_rfl,fun _=>⟨eqGuardType58,stoodInHeld58⟩⟩
def ti60:TI:=⟨60,.struct #[fd "Shipper" 9 0 "" 0,fd "Kind" 3 1 "" 16,fd "Volume" 3 2 "" 24],3,32,.agg #[.string ⟨#[]⟩,.int .i64 0,.int .i64 0],.pair (.str) (.pair I6 I6),true⟩
theorem tk60:ti60.ok prog:=⟨underlying60,by kernel_rfl,fun _=>⟨eqGuardType60,stoodInHeld60⟩⟩
def ti62:TI:=⟨62,.struct #[fd "Kind" 3 0 "" 0,fd "Values" 22 1 "" 8,fd "Step" 58 2 "" 32,fd "Entry" 60 9 "" 104],12,136,.agg #[.int .i64 0,.slice none 0 0,.int .i64 0,.int .i64 0,.int .i64 0,.int .i64 0,.int .i64 0,.slice none 0 0,.int .i64 0,.string ⟨#[]⟩,.int .i64 0,.int .i64 0],.pair I6 (.pair (.sl I6) (.pair (.pair I6 (.pair I6 (.pair I6 tT4))) (.pair (.str) (.pair I6 I6)))),true⟩
theorem tk62:ti62.ok prog:=⟨underlying62,by kernel_rfl,fun _=>⟨eqGuardType62,stoodInHeld62⟩⟩
def ti75:TI:=⟨75,.struct #[fd "At" 3 0 "" 0,fd "Height" 3 1 "" 8,fd "Limit" 3 2 "" 16],3,24,.agg #[.int .i64 0,.int .i64 0,.int .i64 0],.pair I6 (.pair I6 I6),true⟩
theorem tk75:ti75.ok prog:=⟨underlying75,by kernel_rfl,fun _=>⟨eqGuardType75,stoodInHeld75⟩⟩
def ti76:TI:=⟨76,.slice 75,1,24,.slice none 0 0,.sl (.pair I6 (.pair I6 I6)),false⟩
theorem tk76:ti76.ok prog:=⟨underlying76,by kernel_rfl,fun h=>by cases h⟩
def ti78:TI:=⟨78,.struct #[fd "Name" 9 0 "" 0,fd "From" 3 1 "" 16,fd "To" 3 2 "" 24,fd "Capacity" 3 3 "" 32,fd "Resist" 3 4 "" 40,fd "Wave" 3 5 "" 48,fd "Points" 76 6 "" 56],7,80,.agg #[.string ⟨#[]⟩,.int .i64 0,.int .i64 0,.int .i64 0,.int .i64 0,.int .i64 0,.slice none 0 0],.pair (.str) tT5,true⟩
theorem tk78:ti78.ok prog:=⟨underlying78,by kernel_rfl,fun _=>⟨eqGuardType78,stoodInHeld78⟩⟩
def ti80:TI:=⟨80,.struct #[fd "Name" 9 0 "" 0,fd "Node" 3 1 "" 16,fd "Pressure" 3 2 "" 24],3,32,.agg #[.string ⟨#[]⟩,.int .i64 0,.int .i64 0],.pair (.str) (.pair I6 I6),true⟩
theorem tk80:ti80.ok prog:=⟨underlying80,by kernel_rfl,fun _=>⟨eqGuardType80,stoodInHeld80⟩⟩
def ti86:TI:=⟨86,.struct #[fd "Shipper" 9 0 "" 0,fd "Received" 3 1 "" 16,fd "Delivered" 3 2 "" 24,fd "Slop" 3 3 "" 32,fd "Shared" 3 4 "" 40],5,48,.agg #[.string ⟨#[]⟩,.int .i64 0,.int .i64 0,.int .i64 0,.int .i64 0],.pair (.str) (.pair I6 (.pair I6 (.pair I6 I6))),true⟩
theorem tk86:ti86.ok prog:=⟨underlying86,by kernel_rfl,fun _=>⟨eqGuardType86,stoodInHeld86⟩⟩
def ti88:TI:=⟨88,.struct #[fd "L" 22 0 "" 0,fd "At" 3 1 "" 24],2,32,.agg #[.slice none 0 0,.int .i64 0],.pair (.sl I6) I6,true⟩
theorem tk88:ti88.ok prog:=⟨underlying88,by kernel_rfl,fun _=>⟨eqGuardType88,stoodInHeld88⟩⟩
def ti93:TI:=⟨93,.struct #[fd "Name" 9 0 "" 0,fd "Node" 3 1 "" 16,fd "Head" 3 2 "" 24,fd "Fall" 3 3 "" 32,fd "Suction" 3 4 "" 40],5,48,.agg #[.string ⟨#[]⟩,.int .i64 0,.int .i64 0,.int .i64 0,.int .i64 0],.pair (.str) (.pair I6 (.pair I6 (.pair I6 I6))),true⟩
theorem tk93:ti93.ok prog:=⟨underlying93,by kernel_rfl,fun _=>⟨eqGuardType93,stoodInHeld93⟩⟩
def ti97:TI:=⟨97,.struct #[fd "Segment" 3 0 "" 0,fd "Back" 4 1 "" 8],2,16,.agg #[.int .i64 0,.bool false],.pair I6 (.bool),true⟩
theorem tk97:ti97.ok prog:=⟨underlying97,by kernel_rfl,fun _=>⟨eqGuardType97,stoodInHeld97⟩⟩
def ti100:TI:=⟨100,.slice 48,1,24,.slice none 0 0,.sl (.sl (.int .u8)),false⟩
theorem tk100:ti100.ok prog:=⟨underlying100,by kernel_rfl,fun h=>by cases h⟩
def ti104:TI:=⟨104,.struct #[fd "Station" 3 0 "" 0,fd "Epoch" 3 1 "" 8,fd "Seq" 3 2 "" 16,fd "Time" 3 3 "" 24,fd "Kind" 3 4 "" 32,fd "Values" 22 5 "" 40],6,64,.agg #[.int .i64 0,.int .i64 0,.int .i64 0,.int .i64 0,.int .i64 0,.slice none 0 0],.pair I6 (.pair I6 (.pair I6 (.pair I6 (.pair I6 (.sl I6))))),true⟩
theorem tk104:ti104.ok prog:=⟨underlying104,by kernel_rfl,fun _=>⟨eqGuardType104,stoodInHeld104⟩⟩
def ti106:TI:=⟨106,.slice 60,1,24,.slice none 0 0,.sl (.pair (.str) (.pair I6 I6)),false⟩
theorem tk106:ti106.ok prog:=⟨underlying106,by kernel_rfl,fun h=>by cases h⟩
def ti135:TI:=⟨135,.slice 56,1,24,.slice none 0 0,.sl tT4,false⟩
theorem tk135:ti135.ok prog:=⟨underlying135,by kernel_rfl,fun h=>by cases h⟩
def ti141:TI:=⟨141,.struct #[fd "Travel" 3 0 "" 0,fd "Open" 3 1 "" 8,fd "Want" 4 2 "" 16,fd "Stuck" 4 3 "" 17],4,24,.agg #[.int .i64 0,.int .i64 0,.bool false,.bool false],.pair I6 (.pair I6 (.pair (.bool) (.bool))),true⟩
theorem tk141:ti141.ok prog:=⟨underlying141,by kernel_rfl,fun _=>⟨eqGuardType141,stoodInHeld141⟩⟩
def ti148:TI:=⟨148,.func #[32,151,62] #[51] false,1,8,.nilFunc,.fnl [75,76,77],false⟩
theorem tk148:ti148.ok prog:=⟨underlying148,by kernel_rfl,fun h=>by cases h⟩
def ti149:TI:=⟨149,.map 3 148,1,8,.map none,.unit,false⟩
theorem tk149:ti149.ok prog:=⟨underlying149,by kernel_rfl,fun h=>by cases h⟩
def ti162:TI:=⟨162,.struct #[fd "b" 48 0 "batchline/centre" 0,fd "at" 3 1 "batchline/centre" 24,fd "failed" 4 2 "batchline/centre" 32],3,40,.agg #[.slice none 0 0,.int .i64 0,.bool false],.pair (.sl (.int .u8)) (.pair I6 (.bool)),true⟩
theorem tk162:ti162.ok prog:=⟨underlying162,by kernel_rfl,fun _=>⟨eqGuardType162,stoodInHeld162⟩⟩
def ti173:TI:=⟨173,.int .u64,1,8,.int .u64 0,.int .u64,false⟩
theorem tk173:ti173.ok prog:=⟨underlying173,by kernel_rfl,fun h=>by cases h⟩
def ti181:TI:=⟨181,.array 4 27,4,96,.agg #[.slice none 0 0,.slice none 0 0,.slice none 0 0,.slice none 0 0],.pair (.sl (.str)) (.pair (.sl (.str)) (.pair (.sl (.str)) (.sl (.str)))),false⟩
theorem tk181:ti181.ok prog:=⟨underlying181,by kernel_rfl,fun h=>by cases h⟩
def ti185:TI:=⟨185,.int .u64,1,8,.int .u64 0,.int .u64,false⟩
theorem tk185:ti185.ok prog:=⟨underlying185,by kernel_rfl,fun h=>by cases h⟩
def ti197:TI:=⟨197,.struct #[fd "b" 48 0 "batchline/batchlineref41" 0,fd "at" 3 1 "batchline/batchlineref41" 24,fd "ok" 4 2 "batchline/batchlineref41" 32],3,40,.agg #[.slice none 0 0,.int .i64 0,.bool false],.pair (.sl (.int .u8)) (.pair I6 (.bool)),true⟩
theorem tk197:ti197.ok prog:=⟨underlying197,by kernel_rfl,fun _=>⟨eqGuardType197,stoodInHeld197⟩⟩
def ti206:TI:=⟨206,.struct #[fd "Segments" 36 0 "" 0,fd "Ports" 36 1 "" 24],2,48,.agg #[.slice none 0 0,.slice none 0 0],.pair (.sl (.bool)) (.sl (.bool)),true⟩
theorem tk206:ti206.ok prog:=⟨underlying206,by kernel_rfl,fun _=>⟨eqGuardType206,stoodInHeld206⟩⟩
def ti227:TI:=⟨227,.func #[3] #[4] false,1,8,.nilFunc,.clo 237 (.pair (.sl tT2) tT6),false⟩
theorem tk227:ti227.ok prog:=⟨underlying227,by kernel_rfl,fun h=>by cases h⟩
def ti231:TI:=⟨231,.int .u32,1,4,.int .u32 0,.int .u32,false⟩
theorem tk231:ti231.ok prog:=⟨underlying231,by kernel_rfl,fun h=>by cases h⟩
def ti240:TI:=⟨240,.func #[32,241,58] #[51] false,1,8,.nilFunc,.unit,false⟩
theorem tk240:ti240.ok prog:=⟨underlying240,by kernel_rfl,fun h=>by cases h⟩
def ti253:TI:=⟨253,.array 7 240,7,56,.agg #[.nilFunc,.nilFunc,.nilFunc,.nilFunc,.nilFunc,.nilFunc,.nilFunc],.unit,false⟩
theorem tk253:ti253.ok prog:=⟨underlying253,by kernel_rfl,fun h=>by cases h⟩
def ti260:TI:=⟨260,.array 24 3,24,192,.agg #[.int .i64 0,.int .i64 0,.int .i64 0,.int .i64 0,.int .i64 0,.int .i64 0,.int .i64 0,.int .i64 0,.int .i64 0,.int .i64 0,.int .i64 0,.int .i64 0,.int .i64 0,.int .i64 0,.int .i64 0,.int .i64 0,.int .i64 0,.int .i64 0,.int .i64 0,.int .i64 0,.int .i64 0,.int .i64 0,.int .i64 0,.int .i64 0],.arr 24 I6,true⟩
theorem tk260:ti260.ok prog:=⟨underlying260,by kernel_rfl,fun _=>⟨by kernel_rfl,by kernel_rfl⟩⟩
def ti262:TI:=⟨262,.struct #[fd "come" 260 0 "batchline/flow" 0,fd "leave" 260 24 "batchline/flow" 192],48,384,.agg #[.int .i64 0,.int .i64 0,.int .i64 0,.int .i64 0,.int .i64 0,.int .i64 0,.int .i64 0,.int .i64 0,.int .i64 0,.int .i64 0,.int .i64 0,.int .i64 0,.int .i64 0,.int .i64 0,.int .i64 0,.int .i64 0,.int .i64 0,.int .i64 0,.int .i64 0,.int .i64 0,.int .i64 0,.int .i64 0,.int .i64 0,.int .i64 0,.int .i64 0,.int .i64 0,.int .i64 0,.int .i64 0,.int .i64 0,.int .i64 0,.int .i64 0,.int .i64 0,.int .i64 0,.int .i64 0,.int .i64 0,.int .i64 0,.int .i64 0,.int .i64 0,.int .i64 0,.int .i64 0,.int .i64 0,.int .i64 0,.int .i64 0,.int .i64 0,.int .i64 0,.int .i64 0,.int .i64 0,.int .i64 0],.pair (.arr 24 I6) (.arr 24 I6),true⟩
theorem tk262:ti262.ok prog:=⟨underlying262,by kernel_rfl,fun _=>⟨eqGuardType262,stoodInHeld262⟩⟩
def types:List TI:=[ti3,ti4,ti5,ti9,ti22,ti27,ti28,ti29,ti30,ti32,ti35,ti36,ti38,ti40,ti41,ti42,ti44,ti45,ti48,ti50,ti54,ti56,ti58,ti60,ti62,ti75,ti76,ti78,ti80,ti86,ti88,ti93,ti97,ti100,ti104,ti106,ti135,ti141,ti148,ti149,ti162,ti173,ti181,ti185,ti197,ti206,ti227,ti231,ti240,ti253,ti260,ti262]
theorem qAs:Tys prog types:=⟨tk3,tk4,tk5,tk9,tk22,tk27,tk28,tk29,tk30,tk32,tk35,tk36,tk38,tk40,tk41,tk42,tk44,tk45,tk48,tk50,tk54,tk56,tk58,tk60,tk62,tk75,tk76,tk78,tk80,tk86,tk88,tk93,tk97,tk100,tk104,tk106,tk135,tk141,tk148,tk149,tk162,tk173,tk181,tk185,tk197,tk206,tk227,tk231,tk240,tk253,tk260,tk262,trivial⟩
def xt243:Ext:=qBs 243
theorem xk243:ExtOk prog xt243:=qyR func243 (by kernel_rfl) (by kernel_rfl) (by kernel_rfl) (by kernel_rfl)
theorem mx:prog.follows .mixedOrders=true:=by kernel_rfl
abbrev kk:Sh:=.one .keep
abbrev ii:Sh:=.one (.data (.int .i64))
abbrev bb:Sh:=.one (.data .bool)
abbrev ss:Sh:=.one (.data .str)
abbrev nn(r:Plan):Plan:=.mk [] none .nil r
abbrev mm(l r:Plan):Plan:=.mk [] none l r
abbrev kp(n:Nat):List Sh1:=List.replicate n .keep
theorem fi{e:Fun}{fn:Func}{c:Code}(ow:List Nat)(fs:List Fun)(N:Nat)(xs:List Ext)(p:Plan)(hf:Tryz.prog.funcs[e.f]? = some fn)(hfs:CxOk Tryz.prog ⟨types,ow,fs,N,xs⟩)(hb:fn.body=some c:=by exact rfl)(hname:(fn.name == "runtime.NumGoroutine")=false:=by kernel_rfl)(hN:fn.ntmps=N:=by exact rfl)(hnp:Nat.ble e.np N=true:=by exact rfl)(hnr:fn.results.toList.length=e.nr:=by exact rfl)(hregs:e.ji.regs.all (fun q=>Nat.blt q.1 e.np)=true:=by exact rfl)(h:∀x,e.tw x=evFun ⟨types,ow,fs,N,xs⟩ e.ji e.jo fn.results.toList c p x:=by intro x; kernel_rfl):FunOk Tryz.prog e:=
 FunOk.intro (C:=⟨types,ow,fs,N,xs⟩) hf hb hname hN hnp hnr hregs qAs hfs mx h
abbrev v0_:List (Nat×TypeId×List Sh1):=[(48,32,(kp 6)),(64,38,[.keep,.keep,.keep])]
abbrev a1_:List (Nat×ObSh):=[(1,.arr 141 tT2),(2,.arr 3 I6),(3,.arr 3 I6),(4,.arr 4 (.bool))]
abbrev v2_:List (Nat×TypeId×List Sh1):=[(0,88,[.data (.sl I6),.data I6]),(64,32,(kp 6)),(80,38,[.keep,.keep,.keep]),(96,38,[.own 416,.own 480,.own 1593])]
abbrev v3_:List (Nat×TypeId×List Sh1):=[(0,88,[.data (.sl I6),.data I6])]
abbrev v4_:List (Nat×TypeId×List Sh1):=[(0,88,[.keep,.keep]),(64,32,(kp 6)),(80,38,[.keep,.keep,.keep]),(96,38,[.own 416,.own 480,.own 1593])]
abbrev a5_:List (Nat×ObSh):=[(1049,.arr 9 (.str)),(1065,.arr 78 (.pair (.str) tT5)),(1081,.arr 80 (.pair (.str) (.pair I6 I6))),(1097,.arr 93 tT3)]
abbrev v6_:List (Nat×TypeId×List Sh1):=[(0,40,[.own 1,.own 2,.own 3,.own 4])]
abbrev v7_:List (Nat×TypeId×List Sh1):=[(32,32,(kp 6))]
abbrev a8_:List (Nat×ObSh):=[(1,.arr 141 tT2),(2,.arr 3 I6),(3,.arr 3 I6),(4,.arr 4 (.bool)),(5,.arr 104 tT1),(6,.arr 86 tT3)]
abbrev v9_:List (Nat×TypeId×List Sh1):=[(0,88,[.data (.sl I6),.data I6]),(48,32,(kp 6)),(64,32,[.own 1049,.own 1065,.own 1081,.own 1097,.keep,.keep])]
abbrev a10_:List (Nat×ObSh):=[(219,.arr 3 I6),(416,.arr 3 I6),(480,.arr 3 I6),(1593,.arr 4 (.bool))]
abbrev r11_:List (Nat×Sh):=[(0,dd (.pair (.sl (.int .u8)) (.sl (.int .u8)))),(1,dd (.pair (.pair (.sl tT2) tT6) (.pair (.sl tT1) (.pair (.sl tT3) I6)))),(2,ii)]
abbrev r12_:List (Nat×Sh):=[(0,dd (.pair (.pair (.sl tT2) tT6) (.pair (.sl tT1) (.pair (.sl tT3) I6)))),(1,ii)]
abbrev r13_:List (Nat×Sh):=[(0,dd tT0),(1,dd (.pair (.sl (.int .u8)) (.sl (.int .u8)))),(2,dd (.pair (.pair (.sl tT2) tT6) (.pair (.sl tT1) (.pair (.sl tT3) I6)))),(3,dd (.pair I6 (.pair (.sl I6) (.pair (.pair I6 (.pair I6 (.pair I6 tT4))) (.pair (.str) (.pair I6 I6))))))]
abbrev v14_:List (Nat×TypeId×List Sh1):=[(0,88,[.data (.sl I6),.data I6]),(48,32,(kp 6)),(64,32,[.own 1049,.own 1065,.keep,.keep,.keep,.keep])]
abbrev a15_:List (Nat×ObSh):=[(432,.arr 97 (.pair I6 (.bool))),(656,.arr 141 tT2),(657,.arr 3 I6),(658,.arr 3 I6),(659,.arr 4 (.bool))]
abbrev v16_:List (Nat×TypeId×List Sh1):=[(80,32,(kp 6)),(144,56,[.data I6,.data I6,.data (.sl (.pair I6 (.bool))),.data I6]),(176,56,[.keep,.data I6,.own 2873,.data I6])]
abbrev a17_:List (Nat×ObSh):=[(416,.arr 3 I6),(480,.arr 3 I6),(1593,.arr 4 (.bool))]
abbrev r18_:List (Nat×Sh):=[(0,dd tT0),(1,pt 0 0),(2,dd (.pair I6 (.pair (.sl I6) (.pair (.pair I6 (.pair I6 (.pair I6 tT4))) (.pair (.str) (.pair I6 I6))))))]
abbrev r19_:List (Nat×Sh):=[(0,dd (.pair (.sl (.int .u8)) (.sl (.int .u8))))]
abbrev r20_:List (Nat×Sh):=[(0,dd tT0),(1,dd (.pair (.pair (.sl tT2) tT6) (.pair (.sl tT1) (.pair (.sl tT3) I6)))),(2,dd (.pair I6 (.pair (.sl I6) (.pair (.pair I6 (.pair I6 (.pair I6 tT4))) (.pair (.str) (.pair I6 I6))))))]
abbrev a21_:List (Nat×ObSh):=[(80,.one 262 (.pair (.arr 24 I6) (.arr 24 I6))),(96,.one 262 (.pair (.arr 24 I6) (.arr 24 I6)))]
abbrev v22_:List (Nat×TypeId×List Sh1):=[(64,32,(kp 6)),(80,40,(kp 4)),(96,58,(kp 7)),(112,40,(kp 4)),(144,56,[.keep,.keep,.own 432,.keep]),(160,40,[.own 656,.own 657,.own 658,.own 659]),(192,97,[.keep,.keep])]
abbrev a23_:List (Nat×ObSh):=[(219,.arr 3 I6),(283,.arr 3 I6),(416,.arr 3 I6),(480,.arr 3 I6),(1593,.arr 4 (.bool))]
abbrev v24_:List (Nat×TypeId×List Sh1):=[(112,50,[.data (.sl (.int .u8)),.data (.sl (.int .u8))]),(128,44,[.data (.sl tT2),.data (.sl I6),.data (.sl I6),.data (.sl (.bool)),.data (.sl tT1),.data (.sl tT3),.data I6])]
abbrev v25_:List (Nat×TypeId×List Sh1):=[(48,62,(kp 12)),(192,162,[.data (.sl (.int .u8)),.data I6,.data (.bool)]),(96,62,[.keep,.own 1577,.keep,.keep,.keep,.keep,.keep,.own 1673,.keep,.keep,.keep,.keep])]
abbrev v26_:List (Nat×TypeId×List Sh1):=[(48,62,(kp 12)),(224,197,[.data (.sl (.int .u8)),.data I6,.data (.bool)]),(96,62,[.keep,.own 1577,.keep,.keep,.keep,.keep,.keep,.own 1673,.keep,.keep,.keep,.keep])]
abbrev a27_:List (Nat×ObSh):=[(107,.arr 3 I6),(288,.arr 4 (.bool))]
abbrev v28_:List (Nat×TypeId×List Sh1):=[(0,88,[.data (.sl I6),.data I6]),(144,78,(kp 7)),(160,78,[.keep,.keep,.keep,.keep,.keep,.keep,.own 2681])]
abbrev v29_:List (Nat×TypeId×List Sh1):=[(48,62,(kp 12)),(192,162,[.data (.sl (.int .u8)),.data I6,.data (.bool)]),(96,62,[.keep,.own 1577,.keep,.keep,.keep,.keep,.keep,.keep,.keep,.keep,.keep,.keep])]
abbrev a30_:List (Nat×ObSh):=[(400,.arr 3 I6),(464,.arr 3 I6),(171,.arr 56 tT4),(736,.arr 97 (.pair I6 (.bool)))]
abbrev v31_:List (Nat×TypeId×List Sh1):=[(48,62,(kp 12)),(224,197,[.data (.sl (.int .u8)),.data I6,.data (.bool)]),(96,62,[.keep,.own 1577,.keep,.keep,.keep,.keep,.keep,.keep,.keep,.keep,.keep,.keep])]
abbrev a32_:List (Nat×ObSh):=[(368,.arr 141 tT2),(369,.arr 3 I6),(370,.arr 3 I6),(371,.arr 4 (.bool)),(372,.arr 104 tT1),(373,.arr 86 tT3)]
abbrev r33_:List (Nat×Sh):=[(0,kk),(1,kk),(7,kk),(8,ii)]
abbrev r34_:List (Nat×Sh):=[(0,dd tT0),(1,pt 0 0),(2,dd (.pair I6 (.pair I6 (.pair I6 tT4))))]
abbrev r35_:List (Nat×Sh):=[(0,dd tT0),(1,dd (.pair (.sl tT2) tT6)),(2,dd (.pair I6 (.pair I6 (.pair I6 tT4))))]
abbrev v36_:List (Nat×TypeId×List Sh1):=[(64,32,(kp 6)),(80,38,[.keep,.keep,.keep])]
abbrev a37_:List (Nat×ObSh):=[(219,.arr 62 (.pair I6 (.pair (.sl I6) (.pair (.pair I6 (.pair I6 (.pair I6 tT4))) (.pair (.str) (.pair I6 I6))))))]
abbrev v38_:List (Nat×TypeId×List Sh1):=[(32,32,(kp 6)),(48,181,(kp 4)),(64,181,[.keep,.own 1065,.own 1081,.keep])]
abbrev r39_:List (Nat×Sh):=[(2,pt 48 0),(3,pt 64 0)]
abbrev a40_:List (Nat×ObSh):=[(7,.arr 141 tT2),(8,.arr 3 I6),(9,.arr 3 I6),(10,.arr 4 (.bool)),(11,.arr 104 tT1),(12,.arr 86 tT3)]
abbrev a41_:List (Nat×ObSh):=[(1577,.arr 3 I6),(1673,.arr 97 (.pair I6 (.bool)))]
abbrev v42_:List (Nat×TypeId×List Sh1):=[(32,32,(kp 6)),(48,181,(kp 4)),(64,181,[.keep,.own 1065,.keep,.keep])]
abbrev a43_:List (Nat×ObSh):=[(1049,.arr 9 (.str)),(256,.arr 78 (.pair (.str) tT5)),(336,.arr 80 (.pair (.str) (.pair I6 I6))),(416,.arr 93 tT3),(656,.arr 75 (.pair I6 (.pair I6 I6)))]
abbrev v44_:List (Nat×TypeId×List Sh1):=[(64,32,(kp 6)),(80,40,(kp 4)),(96,58,(kp 7)),(112,40,(kp 4))]
abbrev v45_:List (Nat×TypeId×List Sh1):=[(48,181,(kp 4)),(64,181,[.keep,.own 1065,.own 1081,.own 1097])]
abbrev a46_:List (Nat×ObSh):=[(1065,.arr 9 (.str)),(1081,.arr 9 (.str)),(1097,.arr 9 (.str))]
abbrev v47_:List (Nat×TypeId×List Sh1):=[(80,44,(kp 7)),(96,62,(kp 12)),(112,44,(kp 7)),(144,44,[.own 368,.own 369,.own 370,.own 371,.own 372,.own 373,.keep])]
abbrev r48_:List (Nat×Sh):=[(2,pt 48 0),(3,pt 64 0),(5,ow 107),(6,ow 288),(7,kk),(8,kk),(9,bb),(20,kk),(21,kk),(30,kk),(31,kk),(32,kk)]
abbrev r49_:List (Nat×Sh):=[(1,pt 32 0),(2,pt 48 0),(3,pt 64 0)]
abbrev v50_:List (Nat×TypeId×List Sh1):=[(48,32,(kp 6)),(64,40,(kp 4))]
abbrev v51_:List (Nat×TypeId×List Sh1):=[(48,32,(kp 6)),(192,56,[.keep,.keep,.own 736,.keep])]
abbrev a52_:List (Nat×ObSh):=[(107,.arr 3 I6),(256,.arr 4 (.bool))]
abbrev v53_:List (Nat×TypeId×List Sh1):=[(0,40,[.own 1,.own 2,.own 3,.own 4]),(96,58,(kp 7))]
abbrev v54_:List (Nat×TypeId×List Sh1):=[(0,162,[.data (.sl (.int .u8)),.data I6,.data (.bool)])]
abbrev a55_:List (Nat×ObSh):=[(128,.arr 141 tT2),(129,.arr 3 I6),(130,.arr 3 I6),(131,.arr 4 (.bool)),(1113,.arr 104 tT1),(192,.arr 86 tT3)]
abbrev v56_:List (Nat×TypeId×List Sh1):=[(0,197,[.data (.sl (.int .u8)),.data I6,.data (.bool)])]
abbrev r57_:List (Nat×Sh):=[(0,dd (.pair (.sl tT2) tT6)),(1,ii)]
abbrev a58_:List (Nat×ObSh):=[(0,.arr 5 (.int .u8))]
abbrev r59_:List (Nat×Sh):=[(0,dd (.pair (.sl (.int .u8)) (.sl (.int .u8)))),(1,ii)]
abbrev r60_:List (Nat×Sh):=[(0,dd (.pair I6 (.pair (.sl I6) (.pair (.pair I6 (.pair I6 (.pair I6 tT4))) (.pair (.str) (.pair I6 I6)))))),(1,ii)]
abbrev a61_:List (Nat×ObSh):=[(1049,.arr 9 (.str)),(1065,.arr 78 (.pair (.str) tT5))]
abbrev r62_:List (Nat×Sh):=[(0,dd (.sl (.int .u8)))]
abbrev r63_:List (Nat×Sh):=[(0,ii),(1,ii)]
abbrev r64_:List (Nat×Sh):=[(0,dd tT0),(1,dd tT6)]
abbrev v65_:List (Nat×TypeId×List Sh1):=[(64,60,[.keep,.keep,.keep])]
abbrev r66_:List (Nat×Sh):=[(0,dd (.pair I6 (.pair I6 (.pair I6 tT4))))]
abbrev v67_:List (Nat×TypeId×List Sh1):=[(432,88,[.keep,.keep]),(144,32,(kp 6)),(176,44,(kp 7)),(208,50,[.own 3353,.data (.sl (.int .u8))])]
abbrev r68_:List (Nat×Sh):=[(0,dd (.pair I6 (.pair (.sl I6) (.pair (.pair I6 (.pair I6 (.pair I6 tT4))) (.pair (.str) (.pair I6 I6))))))]
abbrev a69_:List (Nat×ObSh):=[(0,.arr 141 tT2),(1,.arr 3 I6),(2,.arr 3 I6),(3,.arr 4 (.bool)),(4,.arr 104 tT1),(5,.arr 86 tT3)]
abbrev a70_:List (Nat×ObSh):=[(0,.arr 141 tT2),(1,.arr 3 I6),(2,.arr 3 I6),(3,.arr 4 (.bool))]
abbrev v71_:List (Nat×TypeId×List Sh1):=[(0,44,[.own 7,.own 8,.own 9,.own 10,.own 11,.own 12,.data I6])]
abbrev a72_:List (Nat×ObSh):=[(2873,.arr 97 (.pair I6 (.bool)))]
abbrev v73_:List (Nat×TypeId×List Sh1):=[(48,32,(kp 6)),(64,56,(kp 4))]
abbrev v74_:List (Nat×TypeId×List Sh1):=[(32,38,[.keep,.keep,.keep]),(48,38,[.keep,.keep,.keep]),(64,38,[.own 1049,.keep,.own 160])]
abbrev v75_:List (Nat×TypeId×List Sh1):=[(0,44,[.own 1,.own 2,.own 3,.own 4,.own 5,.own 6,.data I6])]
abbrev v76_:List (Nat×TypeId×List Sh1):=[(0,88,[.keep,.keep]),(48,32,(kp 6)),(64,32,[.own 1049,.keep,.keep,.keep,.keep,.keep])]
abbrev r77_:List (Nat×Sh):=[(0,dd (.sl (.pair (.str) (.pair I6 I6)))),(1,.one (.fn [.pair (.str) (.pair I6 I6)] (.bool)))]
abbrev a78_:List (Nat×ObSh):=[(0,.one 262 (.pair (.arr 24 I6) (.arr 24 I6)))]
abbrev v79_:List (Nat×TypeId×List Sh1):=[(32,44,[.own 128,.own 129,.own 130,.own 131,.own 176,.own 224,.keep]),(48,44,(kp 7))]
abbrev a80_:List (Nat×ObSh):=[(91,.arr 48 (.sl (.int .u8)))]
abbrev r81_:List (Nat×Sh):=[(0,dd (.sl tT3)),(1,.one (.fn [.pair (.str) (.pair I6 (.pair I6 (.pair I6 I6)))] (.bool)))]
abbrev a82_:List (Nat×ObSh):=[(1065,.arr 9 (.str)),(1081,.arr 9 (.str))]
abbrev v83_:List (Nat×TypeId×List Sh1):=[(32,38,[.keep,.keep,.keep]),(48,206,[.keep,.keep]),(64,206,[.own 1049,.keep])]
abbrev r84_:List (Nat×Sh):=[(0,dd (.sl tT2)),(1,.one (.fn [.pair I6 (.pair I6 (.pair (.bool) (.bool)))] (.bool)))]
abbrev a85_:List (Nat×ObSh):=[(107,.arr 60 (.pair (.str) (.pair I6 I6)))]
abbrev r86_:List (Nat×Sh):=[(0,dd tT2),(1,ii)]
abbrev r87_:List (Nat×Sh):=[(0,dd (.sl (.int .u8))),(1,ii)]
abbrev r88_:List (Nat×Sh):=[(1,pt 32 0),(3,pt 64 0),(4,kk),(27,kk),(28,bb)]
abbrev r89_:List (Nat×Sh):=[(0,dd (.pair (.sl (.str)) (.pair (.sl (.str)) (.pair (.sl (.str)) (.sl (.str))))))]
abbrev v90_:List (Nat×TypeId×List Sh1):=[(0,44,[.own 1,.own 2,.own 3,.own 4,.own 5,.own 6,.keep]),(96,62,(kp 12))]
abbrev r91_:List (Nat×Sh):=[(0,dd (.int .u64)),(1,dd (.int .u64))]
abbrev a92_:List (Nat×ObSh):=[(400,.arr 3 I6),(464,.arr 3 I6),(171,.arr 56 tT4)]
abbrev v93_:List (Nat×TypeId×List Sh1):=[(48,141,[.keep,.data I6,.keep,.keep]),(80,141,(kp 4)),(96,141,(kp 4))]
abbrev v94_:List (Nat×TypeId×List Sh1):=[(48,141,[.data I6,.data I6,.data (.bool),.data (.bool)]),(80,141,(kp 4))]
abbrev a95_:List (Nat×ObSh):=[(2073,.arr 141 tT2),(416,.arr 3 I6),(480,.arr 3 I6),(544,.arr 4 (.bool))]
abbrev r96_:List (Nat×Sh):=[(1,pt 32 0),(4,kk),(5,bb)]
abbrev a97_:List (Nat×ObSh):=[(960,.arr 141 tT2),(961,.arr 3 I6),(962,.arr 3 I6),(963,.arr 4 (.bool))]
abbrev v98_:List (Nat×TypeId×List Sh1):=[(0,40,[.own 1,.own 2,.own 3,.own 4]),(64,32,(kp 6)),(96,58,(kp 7))]
abbrev v99_:List (Nat×TypeId×List Sh1):=[(80,104,[.data I6,.data I6,.data I6,.data I6,.data I6,.data (.sl I6)])]
abbrev r100_:List (Nat×Sh):=[(0,dd (.sl (.pair (.str) tT5))),(1,.one (.fn [.pair (.str) tT5] (.bool)))]
abbrev r101_:List (Nat×Sh):=[(0,dd (.pair (.pair (.sl tT2) tT6) (.pair (.sl tT1) (.pair (.sl tT3) I6))))]
abbrev r102_:List (Nat×Sh):=[(0,dd (.sl (.pair I6 (.bool)))),(1,.one (.fn [.pair I6 (.bool)] (.bool)))]
abbrev r103_:List (Nat×Sh):=[(0,dd (.pair (.sl (.int .u8)) (.sl (.int .u8)))),(1,dd (.sl (.int .u8)))]
abbrev r104_:List (Nat×Sh):=[(2,pt 48 0),(3,pt 64 0),(5,ii)]
abbrev v105_:List (Nat×TypeId×List Sh1):=[(32,32,(kp 6)),(96,181,(kp 4))]
abbrev r106_:List (Nat×Sh):=[(0,dd tT0),(1,ii),(2,dd (.pair (.sl (.int .u8)) (.sl (.int .u8))))]
abbrev r107_:List (Nat×Sh):=[(0,pt 0 0),(3,pt 64 0),(4,pt 80 0),(5,pt 96 0),(7,kk),(8,kk)]
abbrev r108_:List (Nat×Sh):=[(1,pt 32 0),(2,pt 48 0),(3,pt 64 0),(14,kk),(15,kk),(16,ii)]
abbrev r109_:List (Nat×Sh):=[(1,pt 32 0),(2,pt 48 0),(3,pt 64 0),(29,kk),(30,kk),(31,ii)]
abbrev v110_:List (Nat×TypeId×List Sh1):=[(32,58,(kp 7)),(64,56,(kp 4))]
abbrev r111_:List (Nat×Sh):=[(0,dd (.pair (.str) tT5))]
abbrev r112_:List (Nat×Sh):=[(0,.agg [.own 0,.own 1,.own 2,.own 3,.own 4,.own 5,.data I6])]
abbrev r113_:List (Nat×Sh):=[(0,dd tT0),(1,dd tT6),(2,ii)]
abbrev r114_:List (Nat×Sh):=[(2,pt 48 0),(4,pt 80 0)]
abbrev r115_:List (Nat×Sh):=[(0,ow 0),(1,ii)]
abbrev r116_:List (Nat×Sh):=[(5,dd (.int .u64)),(6,ow 123)]
abbrev v117_:List (Nat×TypeId×List Sh1):=[(32,60,[.keep,.keep,.keep])]
abbrev v118_:List (Nat×TypeId×List Sh1):=[(32,78,(kp 7))]
abbrev r119_:List (Nat×Sh):=[(2,pt 48 0),(3,pt 64 0),(5,ow 107),(6,ow 256),(7,ii)]
abbrev r120_:List (Nat×Sh):=[(2,pt 48 0),(3,pt 64 0),(5,ow 107),(6,ow 256),(7,kk)]
abbrev a121_:List (Nat×ObSh):=[(139,.arr 3 I6)]
abbrev a122_:List (Nat×ObSh):=[(2681,.arr 75 (.pair I6 (.pair I6 I6)))]
abbrev r123_:List (Nat×Sh):=[(2,pt 48 0),(7,ow 400),(8,ow 464),(9,ow 171),(10,kk)]
abbrev v124_:List (Nat×TypeId×List Sh1):=[(32,141,[.keep,.data I6,.keep,.keep]),(48,141,(kp 4))]
abbrev a125_:List (Nat×ObSh):=[(0,.arr 48 (.sl (.int .u8)))]
abbrev r126_:List (Nat×Sh):=[(0,dd (.pair (.sl (.int .u8)) (.sl (.int .u8)))),(1,ow 0)]
abbrev v127_:List (Nat×TypeId×List Sh1):=[(32,62,(kp 12)),(91,48,[.own 1481]),(128,56,(kp 4))]
abbrev a128_:List (Nat×ObSh):=[(1049,.arr 3 I6),(1065,.arr 3 I6),(160,.arr 4 (.bool))]
abbrev r129_:List (Nat×Sh):=[(0,pt 0 0),(2,pt 48 0),(3,pt 64 0),(5,kk),(9,kk)]
abbrev r130_:List (Nat×Sh):=[(2,pt 48 0),(3,pt 64 0),(44,kk),(45,kk),(46,ii)]
abbrev r131_:List (Nat×Sh):=[(0,kk),(4,ow 91),(5,kk),(6,kk),(7,kk),(37,bb)]
abbrev r132_:List (Nat×Sh):=[(0,dd (.pair (.str) (.pair I6 I6)))]
abbrev a133_:List (Nat×ObSh):=[(0,.arr 104 tT1)]
abbrev r134_:List (Nat×Sh):=[(0,dd (.sl tT3)),(1,dd (.pair (.str) (.pair I6 I6)))]
abbrev v135_:List (Nat×TypeId×List Sh1):=[(32,62,(kp 12)),(96,58,(kp 7))]
abbrev r136_:List (Nat×Sh):=[(0,dd (.sl I6)),(1,.one (.fn [.int .i64] (.bool)))]
abbrev r137_:List (Nat×Sh):=[(0,kk),(1,kk),(2,kk),(8,kk),(9,ii),(10,ii)]
abbrev r138_:List (Nat×Sh):=[(0,pt 0 0),(1,ii)]
abbrev r139_:List (Nat×Sh):=[(0,dd (.sl I6))]
abbrev r140_:List (Nat×Sh):=[(0,dd (.sl (.str))),(1,.one (.fn [.str] (.bool)))]
abbrev r141_:List (Nat×Sh):=[(0,ii),(1,ii),(2,ii)]
abbrev a142_:List (Nat×ObSh):=[(1481,.arr 5 (.int .u8))]
abbrev r143_:List (Nat×Sh):=[(0,kk),(1,kk),(5,ii)]
abbrev v144_:List (Nat×TypeId×List Sh1):=[(48,40,(kp 4)),(64,58,(kp 7)),(80,40,(kp 4))]
abbrev r145_:List (Nat×Sh):=[(0,dd tT0),(1,dd tT4)]
abbrev a146_:List (Nat×ObSh):=[(123,.arr 5 (.int .u8))]
abbrev a147_:List (Nat×ObSh):=[(75,.arr 3 I6)]
abbrev a148_:List (Nat×ObSh):=[(139,.arr 86 tT3)]
abbrev r149_:List (Nat×Sh):=[(0,kk),(6,kk),(7,ow 139)]
abbrev a150_:List (Nat×ObSh):=[(1065,.arr 9 (.str))]
abbrev r151_:List (Nat×Sh):=[(0,dd tT0),(1,ii)]
abbrev a152_:List (Nat×ObSh):=[(0,.arr 4 (.bool))]
def qo9(l:List Int):Option (Bool):=
 some (decide ((l.length:Int)<=400))
def qn1:Fun:=
 ⟨4,1,1,
 ⟨r139_,[],[]⟩,
 ⟨[(0,bb)],[],[]⟩,
 fun x=>qo9 x⟩
theorem qtd:FO qn1:=fi [] [] 6 [] .nil func4 ⟨trivial,trivial⟩
def qai(s:List yT0)(f:yT0×Unit->Option Bool)(v:Int):Option (Int⊕(Unit⊕Int)):=
 bif decide (v<(s.length:Int)) then(
 gd (inB v s.length)<|
 (f (s.getD v.toNat ([],(0,(0,(0,(0,(0,[])))))),())).bind fun r=>
 bif r then(
 some (.inr (.inr v)))
 else(
 some (.inl (wi64 (v+1)))))
 else(
 some (.inr (.inl ())))
def qaG(s:List yT0)(f:yT0×Unit->Option Bool):Option (Int):=
 (iter (fun x=>qai s f x) 0).bind fun s2=>
 s2.elim (fun s3=>
 some (-1))
 (fun s4=>
 some s4)
def qbn:Fun:=
 ⟨196,2,1,
 ⟨r100_,[],[]⟩,
 ⟨[(0,ii)],[],[]⟩,
 fun x=>qaG x.1 x.2⟩
theorem qcX:FO qbn:=fi [] [] 19 [] ((nn (mm (nn (mm (.mk [] (some (⟨r33_,[],[]⟩,[⟨.x 0,⟨[],[],[]⟩⟩,⟨.r,⟨[(4,ii)],[],[]⟩⟩])) .nil .nil) .nil)) .nil))) func196 ⟨trivial,trivial⟩
def qaq(s:List yT0)(f:yT0×Unit->Option Bool):Option (Bool):=
 (qaG s f).bind fun r=>
 some (decide (0<=r))
def qaK:Fun:=
 ⟨160,2,1,
 ⟨r100_,[],[]⟩,
 ⟨[(0,bb)],[],[]⟩,
 fun x=>qaq x.1 x.2⟩
theorem qbh:FO qaK:=fi [] [qbn] 9 [] .nil func160 ⟨⟨qcX,trivial⟩,trivial⟩
def qgu(s:yB12):Option (Bool):=
 bif decide ((s.2.2.2.2.2.2.length:Int)<2) then(
 some true)
 else(
 some (decide (8<(s.2.2.2.2.2.2.length:Int))))
def qhf:Fun:=
 ⟨161,1,1,
 ⟨r111_,[],[]⟩,
 ⟨[(0,bb)],[],[]⟩,
 fun x=>qgu x⟩
theorem qnj:FO qhf:=fi [] [] 13 [] .nil func161 ⟨trivial,trivial⟩
def qd0(n:yB0):Option (Bool):=
 Option.bind (α:=Bool) (
 bif decide ((n.1.length:Int)<1) then(
 some true)
 else(
 bif decide (24<(n.1.length:Int)) then(
 some true)
 else(
 bif decide (32<(n.2.1.length:Int)) then(
 some true)
 else(
 bif decide (24<(n.2.2.1.length:Int)) then(
 some true)
 else(
 some (decide (12<(n.2.2.2.1.length:Int)))))))) fun s=>
 bif s then(
 some false)
 else(
 (qaq n.2.1 (fun h=>(qgu h.1).bind fun y=>some y)).bind fun r=>
 some (!r))
def qi1:Fun:=
 ⟨115,1,1,
 ⟨[(0,dd tT0)],[],[]⟩,
 ⟨[(0,bb)],[],[]⟩,
 fun x=>qd0 x⟩
theorem qpa:FO qi1:=fi [] [qaK,qhf] 35 [] ((nn (mm (mm (.mk [.join [⟨.n,⟨[(1,pt 32 0),(30,bb)],v7_,[]⟩⟩]] none .nil .nil) .nil) .nil))) func115 ⟨⟨qbh,qnj,trivial⟩,trivial⟩
def qep(n:yB0)(v:Int)(out:List (List UInt8)):Option ((Int×List (List UInt8))⊕(List (List UInt8))):=
 bif decide (v<(n.2.1.length:Int)) then(
 gd (inB v n.2.1.length)<|
 gd (fits (out.length+1) 16)<|
 some (.inl (wi64 (v+1),out++[(n.2.1.getD v.toNat ([],(0,(0,(0,(0,(0,[]))))))).1])))
 else(
 some (.inr out))
def qeq(n:yB0)(v2:Int)(out2:List (List UInt8))(out3:List (List UInt8)):Option ((Int×List (List UInt8)×List (List UInt8))⊕(List (List UInt8)×List (List UInt8))):=
 bif decide (v2<(n.2.2.1.length:Int)) then(
 gd (inB v2 n.2.2.1.length)<|
 gd (fits (out3.length+1) 16)<|
 some (.inl (wi64 (v2+1),out2,out3++[(n.2.2.1.getD v2.toNat ([],(0,0))).1])))
 else(
 some (.inr (out2,out3)))
def qer(n:yB0)(v3:Int)(out4:List (List UInt8))(out5:List (List UInt8))(out6:List (List UInt8)):Option ((Int×List (List UInt8)×List (List UInt8)×List (List UInt8))⊕(List (List UInt8)×List (List UInt8)×List (List UInt8))):=
 bif decide (v3<(n.2.2.2.1.length:Int)) then(
 gd (inB v3 n.2.2.2.1.length)<|
 gd (fits (out6.length+1) 16)<|
 some (.inl (wi64 (v3+1),out4,out5,out6++[(n.2.2.2.1.getD v3.toNat ([],(0,(0,(0,0))))).1])))
 else(
 some (.inr (out4,out5,out6)))
def qb1(n:yB0):Option yB14:=
 (iter (fun x=>qep n x.1 x.2) (0,[])).bind fun s=>
 (iter (fun x2=>qeq n x2.1 x2.2.1 x2.2.2) (0,s,[])).bind fun s2=>
 (iter (fun x3=>qer n x3.1 x3.2.1 x3.2.2.1 x3.2.2.2) (0,s2.1,s2.2,[])).bind fun s3=>
 some (n.1,(s3.1,(s3.2.1,s3.2.2)))
def qgv:Fun:=
 ⟨116,1,1,
 ⟨[(0,dd tT0)],[],[]⟩,
 ⟨r89_,[],[]⟩,
 fun x=>qb1 x⟩
theorem qkr:FO qgv:=fi [] [] 59 [] ((nn (nn (nn (mm (nn (mm (.mk [] (some (⟨r108_,v42_,a150_⟩,[⟨.x 0,⟨r49_,v42_,a150_⟩⟩])) .nil .nil) .nil)) (mm (nn (mm (.mk [] (some (⟨r109_,v38_,a82_⟩,[⟨.x 2,⟨r49_,v38_,a82_⟩⟩])) .nil .nil) .nil)) (mm (nn (mm (.mk [] (some (⟨r130_,v45_,a46_⟩,[⟨.x 4,⟨r39_,v45_,a46_⟩⟩])) .nil .nil) .nil)) .nil))))))) func116 ⟨trivial,trivial⟩
def qay(s:List (List UInt8))(f:List UInt8×Unit->Option Bool)(v:Int):Option (Int⊕(Unit⊕Int)):=
 bif decide (v<(s.length:Int)) then(
 gd (inB v s.length)<|
 (f (s.getD v.toNat [],())).bind fun r=>
 bif r then(
 some (.inr (.inr v)))
 else(
 some (.inl (wi64 (v+1)))))
 else(
 some (.inr (.inl ())))
def qbf(s:List (List UInt8))(f:List UInt8×Unit->Option Bool):Option (Int):=
 (iter (fun x=>qay s f x) 0).bind fun s2=>
 s2.elim (fun s3=>
 some (-1))
 (fun s4=>
 some s4)
def qct:Fun:=
 ⟨162,2,1,
 ⟨r140_,[],[]⟩,
 ⟨[(0,ii)],[],[]⟩,
 fun x=>qbf x.1 x.2⟩
theorem qe0:FO qct:=fi [] [] 19 [] ((nn (mm (nn (mm (.mk [] (some (⟨r33_,[],[]⟩,[⟨.x 0,⟨[],[],[]⟩⟩,⟨.r,⟨[(4,ii)],[],[]⟩⟩])) .nil .nil) .nil)) .nil))) func162 ⟨trivial,trivial⟩
def qaz(s:List (List UInt8))(f:List UInt8×Unit->Option Bool):Option (Bool):=
 (qbf s f).bind fun r=>
 some (decide (0<=r))
def qb9:Fun:=
 ⟨117,2,1,
 ⟨r140_,[],[]⟩,
 ⟨[(0,bb)],[],[]⟩,
 fun x=>qaz x.1 x.2⟩
theorem qd1:FO qb9:=fi [] [qct] 9 [] .nil func117 ⟨⟨qe0,trivial⟩,trivial⟩
def qeI(c:Int):Option (Int):=
 Option.bind (α:=Unit⊕Unit⊕Int) (
 Option.bind (α:=Bool) (
 bif decide (97<=c) then(
 some (decide (c<=122)))
 else(
 some false)) fun s=>
 bif s then(
 some (.inr (.inr 1)))
 else(
 Option.bind (α:=Bool) (
 bif decide (48<=c) then(
 some (decide (c<=57)))
 else(
 some false)) fun s2=>
 bif s2 then(
 some (.inl ()))
 else(
 bif decide (c=45) then(
 some (.inl ()))
 else(
 some (.inr (.inl ())))))) fun s3=>
 s3.elim (fun s4=>
 some 2)
 (fun s5=>
 s5.elim (fun s6=>
 some 0)
 (fun s7=>
 some s7))
def qmH:Fun:=
 ⟨163,1,1,
 ⟨[(0,dd (.int .u8))],[],[]⟩,
 ⟨[(0,ii)],[],[]⟩,
 fun x=>qeI x⟩
theorem qrS:FO qmH:=fi [] [] 20 [] ((nn (mm (mm (mm (.mk [.join [⟨.n,⟨[],[],[]⟩⟩,⟨.x 0,⟨[],[],[]⟩⟩,⟨.r,⟨[(2,ii)],[],[]⟩⟩]] none (mm (mm (mm (mm (mm (mm (.mk [.join [⟨.n,⟨[(0,kk),(3,bb)],[],[]⟩⟩]] none .nil .nil) .nil) (mm (mm (.mk [.join [⟨.n,⟨[(0,kk),(10,bb)],[],[]⟩⟩]] none .nil .nil) .nil) .nil)) .nil) .nil) .nil) .nil) .nil) .nil) .nil) .nil))) func163 ⟨trivial,trivial⟩
def qb2(s:List UInt8)(v:Int):Option (Int⊕(Unit⊕Bool)):=
 bif decide (v<(s.length:Int)) then(
 gd (inB v s.length)<|
 (qeI (Int.ofNat (s.getD v.toNat 0).toNat)).bind fun r2=>
 bif decide (r2=0) then(
 some (.inr (.inr false)))
 else(
 some (.inl (wi64 (v+1)))))
 else(
 some (.inr (.inl ())))
def qcN(s:List UInt8):Option (Bool):=
 Option.bind (α:=Bool) (
 bif decide ((s.length:Int)<1) then(
 some true)
 else(
 bif decide (12<(s.length:Int)) then(
 some true)
 else(
 gd (inB 0 s.length)<|
 (qeI (Int.ofNat (s.getD 0 0).toNat)).bind fun r=>
 some (!decide (r=1))))) fun s2=>
 bif s2 then(
 some false)
 else(
 (iter (fun x=>qb2 s x) 0).bind fun s3=>
 s3.elim (fun s4=>
 some true)
 (fun s5=>
 some s5))
def qgM:Fun:=
 ⟨119,1,1,
 ⟨[(0,ss)],[],[]⟩,
 ⟨[(0,bb)],[],[]⟩,
 fun x=>qcN x⟩
theorem qjI:FO qgM:=fi [] [qmH] 29 [] ((nn (mm (mm (.mk [.join [⟨.n,⟨[(0,kk),(17,bb)],[],[]⟩⟩]] none .nil .nil) .nil) (mm (nn (mm (.mk [] (some (⟨[(0,kk),(19,kk),(20,ii)],[],[]⟩,[⟨.x 0,⟨[],[],[]⟩⟩,⟨.r,⟨[(2,bb)],[],[]⟩⟩])) .nil .nil) .nil)) .nil)))) func119 ⟨⟨qrS,trivial⟩,trivial⟩
def qcO(s:List UInt8):Option (Bool):=
 (qcN s).bind fun r=>
 some (!r)
def qia:Fun:=
 ⟨118,1,1,
 ⟨[(0,ss)],[],[]⟩,
 ⟨[(0,bb)],[],[]⟩,
 fun x=>qcO x⟩
theorem qn2:FO qia:=fi [] [qgM] 6 [] .nil func118 ⟨⟨qjI,trivial⟩,trivial⟩
def qaH(s:List (List UInt8))(v:List UInt8)(v2:Int):Option (Int⊕(Unit⊕Int)):=
 bif decide (v2<(s.length:Int)) then(
 gd (inB v2 s.length)<|
 bif decide (v=s.getD v2.toNat []) then(
 some (.inr (.inr v2)))
 else(
 some (.inl (wi64 (v2+1)))))
 else(
 some (.inr (.inl ())))
def qaT(s:List (List UInt8))(v:List UInt8):Option (Int):=
 (iter (fun x=>qaH s v x) 0).bind fun s2=>
 s2.elim (fun s3=>
 some (-1))
 (fun s4=>
 some s4)
def qc8:Fun:=
 ⟨164,2,1,
 ⟨[(0,dd (.sl (.str))),(1,ss)],[],[]⟩,
 ⟨[(0,ii)],[],[]⟩,
 fun x=>qaT x.1 x.2⟩
theorem qgw:FO qc8:=fi [] [] 19 [] ((nn (mm (nn (mm (.mk [] (some (⟨r33_,[],[]⟩,[⟨.x 0,⟨[],[],[]⟩⟩,⟨.r,⟨[(4,ii)],[],[]⟩⟩])) .nil .nil) .nil)) .nil))) func164 ⟨trivial,trivial⟩
def qk7(x:yB2)(v:yB2):Option (Bool):=
 some (decide (x.2.1=v.2.1))
def qib:Fun:=
 ⟨166,2,1,
 ⟨[(0,dd tT3),(1,.one (.sel tT3))],[],[]⟩,
 ⟨[(0,bb)],[],[]⟩,
 fun x=>qk7 x.1 x.2⟩
theorem qn3:FO qib:=fi [] [] 9 [] .nil func166 ⟨trivial,trivial⟩
def qaj(s:List yB2)(f:yB2×Unit->Option Bool)(v:Int):Option (Int⊕(Unit⊕Int)):=
 bif decide (v<(s.length:Int)) then(
 gd (inB v s.length)<|
 (f (s.getD v.toNat ([],(0,(0,(0,0)))),())).bind fun r=>
 bif r then(
 some (.inr (.inr v)))
 else(
 some (.inl (wi64 (v+1)))))
 else(
 some (.inr (.inl ())))
def qao(s:List yB2)(f:yB2×Unit->Option Bool):Option (Int):=
 (iter (fun x=>qaj s f x) 0).bind fun s2=>
 s2.elim (fun s3=>
 some (-1))
 (fun s4=>
 some s4)
def qaU:Fun:=
 ⟨165,2,1,
 ⟨r81_,[],[]⟩,
 ⟨[(0,ii)],[],[]⟩,
 fun x=>qao x.1 x.2⟩
theorem qbo:FO qaU:=fi [] [] 19 [] ((nn (mm (nn (mm (.mk [] (some (⟨r33_,[],[]⟩,[⟨.x 0,⟨[],[],[]⟩⟩,⟨.r,⟨[(4,ii)],[],[]⟩⟩])) .nil .nil) .nil)) .nil))) func165 ⟨trivial,trivial⟩
def qes(r:yB14)(v:Int)(v2:Int):Option (Int⊕(Unit⊕Bool)):=
 bif decide (v2<(([r.1,r.2.1,r.2.2.1,r.2.2.2].getD v.toNat []).length:Int)) then(
 gd (inB v2 ([r.1,r.2.1,r.2.2.1,r.2.2.2].getD v.toNat []).length)<|
 (qaT ([r.1,r.2.1,r.2.2.1,r.2.2.2].getD v.toNat []) (([r.1,r.2.1,r.2.2.1,r.2.2.2].getD v.toNat []).getD v2.toNat [])).bind fun r2=>
 bif decide (r2<v2) then(
 some (.inr (.inr true)))
 else(
 some (.inl (wi64 (v2+1)))))
 else(
 some (.inr (.inl ())))
def qet(r:yB14)(v:Int):Option (Int⊕(Unit⊕Bool)):=
 bif decide (v<4) then(
 gd (inB v 4)<|
 (iter (fun x=>qes r v x) 0).bind fun s=>
 s.elim (fun s2=>
 some (.inl (wi64 (v+1))))
 (fun s3=>
 some (.inr (.inr s3))))
 else(
 some (.inr (.inl ())))
def qeu(n:yB0)(v3:Int):Option (Int⊕(Unit⊕Bool)):=
 bif decide (v3<(n.2.2.2.1.length:Int)) then(
 gd (inB v3 n.2.2.2.1.length)<|
 (qao n.2.2.2.1 (fun h=>(qk7 h.1 ((n.2.2.2.1.getD v3.toNat ([],(0,(0,(0,0))))).1,(((n.2.2.2.1.getD v3.toNat ([],(0,(0,(0,0))))).2).1,((((n.2.2.2.1.getD v3.toNat ([],(0,(0,(0,0))))).2).2).1,(((((n.2.2.2.1.getD v3.toNat ([],(0,(0,(0,0))))).2).2).2).1,((((n.2.2.2.1.getD v3.toNat ([],(0,(0,(0,0))))).2).2).2).2))))).bind fun y=>some y)).bind fun r3=>
 bif decide (r3<v3) then(
 some (.inr (.inr true)))
 else(
 some (.inl (wi64 (v3+1)))))
 else(
 some (.inr (.inl ())))
def qe1(n:yB0):Option (Bool):=
 (qb1 (n.1,(n.2.1,(n.2.2.1,(n.2.2.2.1,(n.2.2.2.2.1,n.2.2.2.2.2)))))).bind fun r=>
 (iter (fun x2=>qet r x2) 0).bind fun s4=>
 s4.elim (fun s5=>
 (iter (fun x3=>qeu n x3) 0).bind fun s7=>
 s7.elim (fun s8=>
 some false)
 (fun s9=>
 some s9))
 (fun s6=>
 some s6)
def qks:Fun:=
 ⟨120,1,1,
 ⟨[(0,dd tT0)],[],[]⟩,
 ⟨[(0,bb)],[],[]⟩,
 fun x=>qe1 x⟩
theorem qpP:FO qks:=fi [] [qgv,qc8,qaU,qib] 43 [] ((nn (mm (nn (mm (.mk [] (some (⟨[(1,pt 32 0),(10,kk),(11,ii)],v7_,[]⟩,[⟨.x 0,⟨[(1,pt 32 0)],v7_,[]⟩⟩,⟨.r,⟨[(2,bb)],[],[]⟩⟩])) (nn (nn (mm (mm (nn (nn (mm (.mk [] (some (⟨[(1,pt 32 0),(4,kk),(10,kk),(11,kk),(14,kk),(15,kk),(16,ii)],v7_,[]⟩,[⟨.x 2,⟨[(1,pt 32 0),(10,kk),(11,kk)],v7_,[]⟩⟩,⟨.r,⟨[(2,bb)],[],[]⟩⟩])) .nil .nil) .nil))) .nil) .nil))) .nil) .nil)) (mm (nn (mm (.mk [] (some (⟨[(1,pt 32 0),(29,kk),(30,kk),(31,ii)],v7_,[]⟩,[⟨.x 4,⟨[],[],[]⟩⟩,⟨.r,⟨[(2,bb)],[],[]⟩⟩])) (nn (nn (mm (mm (nn (mm (.mk [.fv [(8,.pair (.str) (.pair I6 (.pair I6 (.pair I6 I6))))]] none .nil .nil) .nil)) .nil) .nil))) .nil) .nil)) .nil)))) func120 ⟨⟨qkr,qgw,qbo,qn3,trivial⟩,trivial⟩
def qe2(k:Int)(v:yB0):Option (Bool):=
 bif decide (k<0) then(
 some true)
 else(
 some (decide ((v.1.length:Int)<=k)))
def qic:Fun:=
 ⟨168,2,1,
 ⟨[(0,ii),(1,.one (.sel tT0))],[],[]⟩,
 ⟨[(0,bb)],[],[]⟩,
 fun x=>qe2 x.1 x.2⟩
theorem qn4:FO qic:=fi [] [] 13 [] .nil func168 ⟨trivial,trivial⟩
def qaO(s:List Int)(f:Int×Unit->Option Bool)(v:Int):Option (Int⊕(Unit⊕Int)):=
 bif decide (v<(s.length:Int)) then(
 gd (inB v s.length)<|
 (f (s.getD v.toNat 0,())).bind fun r=>
 bif r then(
 some (.inr (.inr v)))
 else(
 some (.inl (wi64 (v+1)))))
 else(
 some (.inr (.inl ())))
def qbO(s:List Int)(f:Int×Unit->Option Bool):Option (Int):=
 (iter (fun x=>qaO s f x) 0).bind fun s2=>
 s2.elim (fun s3=>
 some (-1))
 (fun s4=>
 some s4)
def qdt:Fun:=
 ⟨197,2,1,
 ⟨r136_,[],[]⟩,
 ⟨[(0,ii)],[],[]⟩,
 fun x=>qbO x.1 x.2⟩
theorem qhg:FO qdt:=fi [] [] 19 [] ((nn (mm (nn (mm (.mk [] (some (⟨r33_,[],[]⟩,[⟨.x 0,⟨[],[],[]⟩⟩,⟨.r,⟨[(4,ii)],[],[]⟩⟩])) .nil .nil) .nil)) .nil))) func197 ⟨trivial,trivial⟩
def qaE(s:List Int)(f:Int×Unit->Option Bool):Option (Bool):=
 (qbO s f).bind fun r=>
 some (decide (0<=r))
def qbg:Fun:=
 ⟨167,2,1,
 ⟨r136_,[],[]⟩,
 ⟨[(0,bb)],[],[]⟩,
 fun x=>qaE x.1 x.2⟩
theorem qbG:FO qbg:=fi [] [qdt] 9 [] .nil func167 ⟨⟨qhg,trivial⟩,trivial⟩
def qev(n:yB0)(v:Int)(all:List Int):Option ((Int×List Int)⊕(List Int)):=
 bif decide (v<(n.2.1.length:Int)) then(
 gd (inB v n.2.1.length)<|
 gd (fits (all.length+2) 8)<|
 some (.inl (wi64 (v+1),all++[((n.2.1.getD v.toNat ([],(0,(0,(0,(0,(0,[]))))))).2).1,(((n.2.1.getD v.toNat ([],(0,(0,(0,(0,(0,[]))))))).2).2).1])))
 else(
 some (.inr all))
def qew(n:yB0)(v2:Int)(all2:List Int):Option ((Int×List Int)⊕(List Int)):=
 bif decide (v2<(n.2.2.1.length:Int)) then(
 gd (inB v2 n.2.2.1.length)<|
 gd (fits (all2.length+1) 8)<|
 some (.inl (wi64 (v2+1),all2++[((n.2.2.1.getD v2.toNat ([],(0,0))).2).1])))
 else(
 some (.inr all2))
def qex(n:yB0)(v3:Int)(all3:List Int):Option ((Int×List Int)⊕(List Int)):=
 bif decide (v3<(n.2.2.2.1.length:Int)) then(
 gd (inB v3 n.2.2.2.1.length)<|
 gd (fits (all3.length+1) 8)<|
 some (.inl (wi64 (v3+1),all3++[((n.2.2.2.1.getD v3.toNat ([],(0,(0,(0,0))))).2).1])))
 else(
 some (.inr all3))
def qe3(n:yB0):Option (Bool):=
 (iter (fun x=>qev n x.1 x.2) (0,[])).bind fun s=>
 (iter (fun x2=>qew n x2.1 x2.2) (0,s)).bind fun s2=>
 (iter (fun x3=>qex n x3.1 x3.2) (0,s2)).bind fun s3=>
 (qaE s3 (fun h=>(qe2 h.1 (n.1,(n.2.1,(n.2.2.1,(n.2.2.2.1,(n.2.2.2.2.1,n.2.2.2.2.2)))))).bind fun y=>some y)).bind fun r=>
 some (!r)
def qkt:Fun:=
 ⟨121,1,1,
 ⟨[(0,dd tT0)],[],[]⟩,
 ⟨[(0,bb)],[],[]⟩,
 fun x=>qe3 x⟩
theorem qpQ:FO qkt:=fi [] [qbg,qic] 55 [] ((nn (nn (mm (nn (mm (.mk [] (some (⟨[(1,pt 32 0),(3,ow 75),(11,kk),(12,kk),(13,ii)],v7_,a147_⟩,[⟨.x 0,⟨[(1,pt 32 0),(3,ow 75)],v7_,a147_⟩⟩])) .nil .nil) .nil)) (mm (nn (mm (.mk [] (some (⟨[(1,pt 32 0),(3,ow 75),(26,kk),(27,kk),(28,ii)],v7_,a147_⟩,[⟨.x 2,⟨[(1,pt 32 0),(3,ow 75)],v7_,a147_⟩⟩])) .nil .nil) .nil)) (mm (nn (mm (.mk [] (some (⟨[(1,pt 32 0),(3,ow 75),(39,kk),(40,kk),(41,ii)],v7_,a147_⟩,[⟨.x 4,⟨[(1,pt 32 0),(3,ow 75)],v7_,a147_⟩⟩])) .nil .nil) .nil)) (mm (.mk [.fv [(1,.pair (.sl (.str)) (.pair (.sl (.pair (.str) tT5)) (.pair (.sl (.pair (.str) (.pair I6 I6))) (.pair (.sl tT3) (.pair I6 I6)))))]] none .nil .nil) .nil))))))) func121 ⟨⟨qbG,qn4,trivial⟩,trivial⟩
def qbP(n:Int)(least:Int)(most:Int):Option (Bool):=
 bif decide (least<=n) then(
 some (decide (n<=most)))
 else(
 some false)
def qe4:Fun:=
 ⟨173,3,1,
 ⟨r141_,[],[]⟩,
 ⟨[(0,bb)],[],[]⟩,
 fun x=>qbP x.1 x.2.1 x.2.2⟩
theorem qgN:FO qe4:=fi [] [] 15 [] .nil func173 ⟨trivial,trivial⟩
def qe5(s:yB12)(v:Int):Option (Int⊕(Unit⊕Bool)):=
 bif decide (v<(s.2.2.2.2.2.2.length:Int)) then(
 gd (inB v s.2.2.2.2.2.2.length)<|
 Option.bind (α:=Bool) (
 (qbP (((s.2.2.2.2.2.2.getD v.toNat (0,(0,0))).2).1) (-500) 5000).bind fun r4=>
 bif !r4 then(
 some true)
 else(
 (qbP (((s.2.2.2.2.2.2.getD v.toNat (0,(0,0))).2).2) 0 100000000).bind fun r5=>
 bif !r5 then(
 some true)
 else(
 bif decide (0<v) then(
 gd (inB (wi64 (v-1)) s.2.2.2.2.2.2.length)<|
 some (decide ((s.2.2.2.2.2.2.getD v.toNat (0,(0,0))).1<=(s.2.2.2.2.2.2.getD (wi64 (v-1)).toNat (0,(0,0))).1)))
 else(
 some false)))) fun s3=>
 bif s3 then(
 some (.inr (.inr false)))
 else(
 some (.inl (wi64 (v+1)))))
 else(
 some (.inr (.inl ())))
def qgf(s:yB12):Option (Bool):=
 Option.bind (α:=Bool) (
 bif decide (s.2.1=s.2.2.1) then(
 some true)
 else(
 (qbP s.2.2.2.1 1 1000000).bind fun r=>
 bif !r then(
 some true)
 else(
 (qbP s.2.2.2.2.1 0 1000).bind fun r2=>
 bif !r2 then(
 some true)
 else(
 (qbP s.2.2.2.2.2.1 0 100000).bind fun r3=>
 some (!r3))))) fun s2=>
 bif s2 then(
 some false)
 else(
 (iter (fun x=>qe5 s x) 0).bind fun s4=>
 s4.elim (fun s5=>
 gd (inB 0 s.2.2.2.2.2.2.length)<|
 bif decide ((s.2.2.2.2.2.2.getD 0 (0,(0,0))).1=0) then(
 gd (inB (wi64 ((s.2.2.2.2.2.2.length:Int)-1)) s.2.2.2.2.2.2.length)<|
 some (decide ((s.2.2.2.2.2.2.getD (wi64 ((s.2.2.2.2.2.2.length:Int)-1)).toNat (0,(0,0))).1=s.2.2.2.1)))
 else(
 some false))
 (fun s6=>
 some s6))
def qk8:Fun:=
 ⟨170,1,1,
 ⟨r111_,[],[]⟩,
 ⟨[(0,bb)],[],[]⟩,
 fun x=>qgf x⟩
theorem qq4:FO qk8:=fi [] [qe4] 83 [] ((nn (mm (mm (.mk [.join [⟨.n,⟨[(1,pt 32 0),(27,bb)],v118_,[]⟩⟩]] none .nil .nil) .nil) (mm (nn (mm (.mk [] (some (⟨[(1,pt 32 0),(29,kk),(30,kk),(31,ii)],v118_,[]⟩,[⟨.x 0,⟨[(1,pt 32 0)],v118_,[]⟩⟩,⟨.r,⟨[(2,bb)],[],[]⟩⟩])) (nn (nn (mm (mm (nn (mm (.mk [.join [⟨.n,⟨[(1,pt 32 0),(29,kk),(30,kk),(31,kk),(61,bb)],v118_,[]⟩⟩]] none .nil .nil) .nil)) .nil) .nil))) .nil) .nil)) .nil)))) func170 ⟨⟨qgN,trivial⟩,trivial⟩
def qey(s:yB12):Option (Bool):=
 (qgf (s.1,(s.2.1,(s.2.2.1,(s.2.2.2.1,(s.2.2.2.2.1,(s.2.2.2.2.2.1,s.2.2.2.2.2.2))))))).bind fun r=>
 some (!r)
def qhh:Fun:=
 ⟨169,1,1,
 ⟨r111_,[],[]⟩,
 ⟨[(0,bb)],[],[]⟩,
 fun x=>qey x⟩
theorem qnk:FO qhh:=fi [] [qk8] 6 [] .nil func169 ⟨⟨qq4,trivial⟩,trivial⟩
def qar(s:yB13)(f:(List UInt8×Int×Int)×Unit->Option Bool)(v:Int):Option (Int⊕(Unit⊕Int)):=
 bif decide (v<(s.length:Int)) then(
 gd (inB v s.length)<|
 (f (s.getD v.toNat ([],(0,0)),())).bind fun r=>
 bif r then(
 some (.inr (.inr v)))
 else(
 some (.inl (wi64 (v+1)))))
 else(
 some (.inr (.inl ())))
def qa0(s:yB13)(f:(List UInt8×Int×Int)×Unit->Option Bool):Option (Int):=
 (iter (fun x=>qar s f x) 0).bind fun s2=>
 s2.elim (fun s3=>
 some (-1))
 (fun s4=>
 some s4)
def qbX:Fun:=
 ⟨198,2,1,
 ⟨r77_,[],[]⟩,
 ⟨[(0,ii)],[],[]⟩,
 fun x=>qa0 x.1 x.2⟩
theorem qdW:FO qbX:=fi [] [] 19 [] ((nn (mm (nn (mm (.mk [] (some (⟨r33_,[],[]⟩,[⟨.x 0,⟨[],[],[]⟩⟩,⟨.r,⟨[(4,ii)],[],[]⟩⟩])) .nil .nil) .nil)) .nil))) func198 ⟨trivial,trivial⟩
def qaN(s:yB13)(f:(List UInt8×Int×Int)×Unit->Option Bool):Option (Bool):=
 (qa0 s f).bind fun r=>
 some (decide (0<=r))
def qbA:Fun:=
 ⟨171,2,1,
 ⟨r77_,[],[]⟩,
 ⟨[(0,bb)],[],[]⟩,
 fun x=>qaN x.1 x.2⟩
theorem qdp:FO qbA:=fi [] [qbX] 9 [] .nil func171 ⟨⟨qdW,trivial⟩,trivial⟩
def qez(p:List UInt8×Int×Int):Option (Bool):=
 (qbP p.2.2 0 100000000).bind fun r=>
 some (!r)
def qhi:Fun:=
 ⟨172,1,1,
 ⟨r132_,[],[]⟩,
 ⟨[(0,bb)],[],[]⟩,
 fun x=>qez x⟩
theorem qnl:FO qhi:=fi [] [qe4] 7 [] .nil func172 ⟨⟨qgN,trivial⟩,trivial⟩
def qaB(s:List yB2)(f:yB2×Unit->Option Bool):Option (Bool):=
 (qao s f).bind fun r=>
 some (decide (0<=r))
def qbi:Fun:=
 ⟨174,2,1,
 ⟨r81_,[],[]⟩,
 ⟨[(0,bb)],[],[]⟩,
 fun x=>qaB x.1 x.2⟩
theorem qcK:FO qbi:=fi [] [qaU] 9 [] .nil func174 ⟨⟨qbo,trivial⟩,trivial⟩
def qeA(s:yB2):Option (Bool):=
 (qbP s.2.2.1 0 100000000).bind fun r=>
 bif !r then(
 some true)
 else(
 (qbP s.2.2.2.1 0 100000).bind fun r2=>
 bif !r2 then(
 some true)
 else(
 (qbP s.2.2.2.2 0 100000000).bind fun r3=>
 some (!r3)))
def qhj:Fun:=
 ⟨175,1,1,
 ⟨[(0,dd tT3)],[],[]⟩,
 ⟨[(0,bb)],[],[]⟩,
 fun x=>qeA x⟩
theorem qnm:FO qhj:=fi [] [qe4] 19 [] .nil func175 ⟨⟨qgN,trivial⟩,trivial⟩
def qd2(n:yB0):Option (Bool):=
 (qaq n.2.1 (fun h=>(qey h.1).bind fun y=>some y)).bind fun r=>
 bif r then(
 some false)
 else(
 (qaN n.2.2.1 (fun h2=>(qez h2.1).bind fun y=>some y)).bind fun r2=>
 bif r2 then(
 some false)
 else(
 (qaB n.2.2.2.1 (fun h3=>(qeA h3.1).bind fun y=>some y)).bind fun r3=>
 bif r3 then(
 some false)
 else(
 (qbP n.2.2.2.2.1 (-100000) 100000000).bind fun r4=>
 bif r4 then(
 (qbP n.2.2.2.2.2 0 100).bind fun r5=>
 some r5)
 else(
 some false))))
def qi2:Fun:=
 ⟨122,1,1,
 ⟨[(0,dd tT0)],[],[]⟩,
 ⟨[(0,bb)],[],[]⟩,
 fun x=>qd2 x⟩
theorem qpb:FO qi2:=fi [] [qaK,qhh,qbA,qhi,qbi,qhj,qe4] 20 [] .nil func122 ⟨⟨qbh,qnk,qdp,qnl,qcK,qnm,qgN,trivial⟩,trivial⟩
def qeB(r2:yB14)(v:Int):Option (Int⊕(Unit⊕Int)):=
 bif decide (v<4) then(
 gd (inB v 4)<|
 (qaz ([r2.1,r2.2.1,r2.2.2.1,r2.2.2.2].getD v.toNat []) (fun h=>(qcO h.1).bind fun y=>some y)).bind fun r3=>
 bif r3 then(
 some (.inr (.inr 3)))
 else(
 some (.inl (wi64 (v+1)))))
 else(
 some (.inr (.inl ())))
def qcu(n:yB0):Option (Int):=
 (qd0 (n.1,(n.2.1,(n.2.2.1,(n.2.2.2.1,(n.2.2.2.2.1,n.2.2.2.2.2)))))).bind fun r=>
 bif !r then(
 some 4)
 else(
 (qb1 (n.1,(n.2.1,(n.2.2.1,(n.2.2.2.1,(n.2.2.2.2.1,n.2.2.2.2.2)))))).bind fun r2=>
 (iter (fun x=>qeB r2 x) 0).bind fun s=>
 s.elim (fun s2=>
 (qe1 (n.1,(n.2.1,(n.2.2.1,(n.2.2.2.1,(n.2.2.2.2.1,n.2.2.2.2.2)))))).bind fun r4=>
 bif r4 then(
 some 7)
 else(
 (qe3 (n.1,(n.2.1,(n.2.2.1,(n.2.2.2.1,(n.2.2.2.2.1,n.2.2.2.2.2)))))).bind fun r5=>
 bif !r5 then(
 some 8)
 else(
 (qd2 (n.1,(n.2.1,(n.2.2.1,(n.2.2.2.1,(n.2.2.2.2.1,n.2.2.2.2.2)))))).bind fun r6=>
 bif !r6 then(
 some 9)
 else(
 some 0))))
 (fun s3=>
 some s3))
def qcp:Fun:=
 ⟨66,1,1,
 ⟨[(0,dd tT0)],[],[]⟩,
 ⟨[(0,ii)],[],[]⟩,
 fun x=>qcu x⟩
theorem qc9:FO qcp:=fi [] [qi1,qgv,qb9,qia,qks,qkt,qi2] 27 [] ((nn (nn (mm (nn (mm (.mk [] (some (⟨[(1,pt 32 0),(9,kk),(10,ii)],v7_,[]⟩,[⟨.x 0,⟨[(1,pt 32 0)],v7_,[]⟩⟩,⟨.r,⟨[(2,ii)],[],[]⟩⟩])) .nil .nil) .nil)) .nil)))) func66 ⟨⟨qpa,qkr,qd1,qn2,qpP,qpQ,qpb,trivial⟩,trivial⟩
def qdu(v:Int×Int×Bool×Bool):Option (Bool):=
 bif decide (1<=v.1) then(
 bif decide (v.1<=60) then(
 bif decide (0<=v.2.1) then(
 some (decide (v.2.1<=v.1)))
 else(
 some false))
 else(
 some false))
 else(
 some false)
def qdf:Fun:=
 ⟨67,1,1,
 ⟨[(0,dd tT2)],[],[]⟩,
 ⟨[(0,bb)],[],[]⟩,
 fun x=>qdu x⟩
theorem qd3:FO qdf:=fi [] [] 23 [] .nil func67 ⟨trivial,trivial⟩
def qgg(n:yB0):Option (Int):=
 some (wi64 ((n.2.1.length:Int)+(n.2.2.1.length:Int)))
def qhk:Fun:=
 ⟨69,1,1,
 ⟨[(0,dd tT0)],[],[]⟩,
 ⟨[(0,ii)],[],[]⟩,
 fun x=>qgg x⟩
theorem qk9:FO qhk:=fi [] [] 10 [] .nil func69 ⟨trivial,trivial⟩
def qq5(x:Int)(y:Int):Option (Int×Int):=
 some (wu32 (Int.fdiv (wu64 ((wu64 x)*(wu64 y))) (2^shAmt .u64 32)),wu32 (wu64 ((wu64 x)*(wu64 y))))
def qn5:Fun:=
 ⟨176,2,2,
 ⟨[(0,dd (.int .u32)),(1,dd (.int .u32))],[],[]⟩,
 ⟨[(0,dd (.int .u32)),(1,dd (.int .u32))],[],[]⟩,
 fun x=>qq5 x.1 x.2⟩
theorem qwE:FO qn5:=fi [] [] 17 [] .nil func176 ⟨trivial,trivial⟩
def qla(x:Int)(y:Int):Option (Int×Int):=
 some (wu64 ((wu64 ((wu64 ((Int.fdiv x (2^shAmt .u64 32))*(Int.fdiv y (2^shAmt .u64 32))))+(Int.fdiv (wu64 ((wu64 ((Int.fdiv x (2^shAmt .u64 32))*(qgc .u64 y 4294967295)))+(Int.fdiv (wu64 ((qgc .u64 x 4294967295)*(qgc .u64 y 4294967295))) (2^shAmt .u64 32)))) (2^shAmt .u64 32))))+(Int.fdiv (wu64 ((qgc .u64 (wu64 ((wu64 ((Int.fdiv x (2^shAmt .u64 32))*(qgc .u64 y 4294967295)))+(Int.fdiv (wu64 ((qgc .u64 x 4294967295)*(qgc .u64 y 4294967295))) (2^shAmt .u64 32)))) 4294967295)+(wu64 ((qgc .u64 x 4294967295)*(Int.fdiv y (2^shAmt .u64 32)))))) (2^shAmt .u64 32))),wu64 (x*y))
def qid:Fun:=
 ⟨177,2,2,
 ⟨r91_,[],[]⟩,
 ⟨r91_,[],[]⟩,
 fun x=>qla x.1 x.2⟩
theorem qn6:FO qid:=fi [] [] 51 [] .nil func177 ⟨trivial,trivial⟩
def qjJ(x:Int)(y:Int):Option (Int×Int):=
 (qla x y).bind fun r=>
 some (r.1,r.2)
def qku:Fun:=
 ⟨123,2,2,
 ⟨r91_,[],[]⟩,
 ⟨r91_,[],[]⟩,
 fun x=>qjJ x.1 x.2⟩
theorem qpR:FO qku:=fi [] [qid] 30 [] .nil func123 ⟨⟨qn6,trivial⟩,trivial⟩
def qag(n:Int)(newslice:yB4):Option ((Int×List (Int×Int×Bool×Bool))⊕yB4):=
 bif decide (n<(newslice.length:Int)) then(
 gd (decide (0<newslice.length)&&inR n (newslice.length:Int) newslice.length)<|
 gd (decide (0<newslice.length)&&inR 0 n newslice.length)<|
 gd ((decide (newslice.length=newslice.length)&&(decide (newslice.length=newslice.length)&&decide (n.toNat<=newslice.length)))&&decide (0<newslice.length))<|
 some (.inl (wi64 (n+(Int.ofNat (min (newslice.take n.toNat).length (newslice.length-n.toNat)))),cpyD newslice n.toNat (newslice.take n.toNat))))
 else(
 some (.inr newslice))
def qa3(x:yB4)(count:Int):Option yB4:=
 Option.bind (α:=Unit) (
 bif decide (count<0) then(
 none)
 else(
 some ())) fun s=>
 (qjJ (wu64 (x.length:Int)) (wu64 count)).bind fun r=>
 Option.bind (α:=Bool) (
 bif decide (0<r.1) then(
 some true)
 else(
 some (decide (9223372036854775807<r.2)))) fun s2=>
 Option.bind (α:=Unit) (
 bif s2 then(
 none)
 else(
 some ())) fun s3=>
 gd (makeG 24 (wi64 r.2))<|
 gd ((true&&true)&&decide (0<(List.replicate (wi64 r.2).toNat ((0,(0,(false,false))):Int×Int×Bool×Bool)).length))<|
 (iter (fun x2=>qag x2.1 x2.2) (Int.ofNat (min x.length ((List.replicate (wi64 r.2).toNat ((0,(0,(false,false))):Int×Int×Bool×Bool)).length-0)),cpyD (List.replicate (wi64 r.2).toNat ((0,(0,(false,false))):Int×Int×Bool×Bool)) 0 x)).bind fun s4=>
 some s4
def qca:Fun:=
 ⟨68,2,1,
 ⟨[(0,dd (.sl tT2)),(1,ii)],[],[]⟩,
 ⟨[(0,ow 0)],[],[(0,.arr 141 tT2)]⟩,
 fun x=>qa3 x.1 x.2⟩
theorem qd4:FO qca:=fi [5000044] [qku] 48 [] ((nn (mm (nn (.mk [.join [⟨.n,⟨[(0,kk),(1,kk)],[],[]⟩⟩]] none .nil .nil)) (nn (mm (mm (.mk [.join [⟨.n,⟨[(0,kk),(6,kk),(26,bb)],[],[]⟩⟩]] none .nil .nil) (.mk [.join [⟨.n,⟨[(0,kk),(6,kk)],[],[]⟩⟩]] none .nil .nil)) (nn (nn (mm (mm (.mk [] (some (⟨[(7,ow 496),(8,ii)],[],[(496,.arr 141 tT2)]⟩,[⟨.x 0,⟨[(7,ow 496)],[],[(496,.arr 141 tT2)]⟩⟩])) .nil .nil) .nil) .nil)))))))) func68 ⟨⟨qpR,trivial⟩,trivial⟩
def qn7(n:yB0)(travel:Int):Option (yB6×Int):=
 (qcu (n.1,(n.2.1,(n.2.2.1,(n.2.2.2.1,(n.2.2.2.2.1,n.2.2.2.2.2)))))).bind fun r=>
 bif !decide (r=0) then(
 some (([],([],([],[]))),r))
 else(
 (qdu (travel,(0,(false,false)))).bind fun r2=>
 bif !r2 then(
 some (([],([],([],[]))),20))
 else(
 gd (makeG 8 (n.2.1.length:Int))<|
 gd (makeG 8 (n.2.2.1.length:Int))<|
 gd (makeG 1 (n.2.2.2.1.length:Int))<|
 (qgg (n.1,(n.2.1,(n.2.2.1,(n.2.2.2.1,(n.2.2.2.2.1,n.2.2.2.2.2)))))).bind fun r3=>
 (qa3 [(travel,(0,(false,false)))] r3).bind fun r4=>
 some ((r4,(List.replicate (n.2.1.length:Int).toNat (0:Int),(List.replicate (n.2.2.1.length:Int).toNat (0:Int),List.replicate (n.2.2.2.1.length:Int).toNat (false:Bool)))),0)))
def qpA:Fun:=
 ⟨37,2,2,
 ⟨r151_,[],[]⟩,
 ⟨r57_,[],[]⟩,
 fun x=>qn7 x.1 x.2⟩
theorem quA:FO qpA:=fi [] [qcp,qdf,qhk,qca] 41 [] .nil func37 ⟨⟨qc9,qd3,qk9,qd4,trivial⟩,trivial⟩
def qha(n:yB0)(travel:Int):Option (yB1×Int):=
 (qn7 (n.1,(n.2.1,(n.2.2.1,(n.2.2.2.1,(n.2.2.2.2.1,n.2.2.2.2.2))))) travel).bind fun r=>
 bif !decide (r.2=0) then(
 some ((([],([],([],[]))),([],([],0))),r.2))
 else(
 some (((r.1.1,(r.1.2.1,(r.1.2.2.1,r.1.2.2.2))),([],([],0))),0))
def qgO:Fun:=
 ⟨16,2,2,
 ⟨r151_,[],[]⟩,
 ⟨r12_,[],[]⟩,
 fun x=>qha x.1 x.2⟩
theorem qjK:FO qgO:=fi [] [qpA] 20 [] .nil func16 ⟨⟨quA,trivial⟩,trivial⟩
def qi3(s:List Int):Option (List Int):=
 bif Nat.beq s.length 0 then(bothO (
 some []) (
 gd (fits (0+s.length) 1)<|
 some ([]++s)))
 else(
 gd (fits (0+s.length) 1)<|
 some ([]++s))
def qaP:Fun:=
 ⟨49,1,1,
 ⟨r62_,[],[]⟩,
 ⟨r62_,[],[]⟩,
 fun x=>qi3 x⟩
theorem qhl:FO qaP:=fi [5] [] 8 [] .nil func49 ⟨trivial,trivial⟩
def qaM(s:List Int):Option (List Int):=gd (fits (0+s.length) 1) (some ([]++s))
def qbB:Fun:={ f:=qaP.f,np:=qaP.np,nr:=qaP.nr,ji:=qaP.ji,jo:=qaP.jo,tw:=fun x=>qaM x }
theorem qcA:FO qbB:=qhl.le fun x=>qjH x _
def qeW(s:yB4):Option yB4:=
 bif Nat.beq s.length 0 then(bothO (
 some []) (
 gd (fits (0+s.length) 24)<|
 some ([]++s)))
 else(
 gd (fits (0+s.length) 24)<|
 some ([]++s))
def qas:Fun:=
 ⟨139,1,1,
 ⟨[(0,dd (.sl tT2))],[],[]⟩,
 ⟨[(0,ow 0)],[],[(0,.arr 141 tT2)]⟩,
 fun x=>qeW x⟩
theorem qdX:FO qas:=fi [5] [] 8 [] .nil func139 ⟨trivial,trivial⟩
def qa5(s:yB4):Option yB4:=gd (fits (0+s.length) 24) (some ([]++s))
def qch:Fun:={ f:=qas.f,np:=qas.np,nr:=qas.nr,ji:=qas.ji,jo:=qas.jo,tw:=fun x=>qa5 x }
theorem qeJ:FO qch:=qdX.le fun x=>qjH x _
def qkU(s:List Int):Option (List Int):=
 bif Nat.beq s.length 0 then(bothO (
 some []) (
 gd (fits (0+s.length) 8)<|
 some ([]++s)))
 else(
 gd (fits (0+s.length) 8)<|
 some ([]++s))
def qa1:Fun:=
 ⟨84,1,1,
 ⟨r139_,[],[]⟩,
 ⟨[(0,ow 0)],[],[(0,.arr 3 I6)]⟩,
 fun x=>qkU x⟩
theorem qiL:FO qa1:=fi [5] [] 8 [] .nil func84 ⟨trivial,trivial⟩
def qbY(s:List Int):Option (List Int):=gd (fits (0+s.length) 8) (some ([]++s))
def qe6:Fun:={ f:=qa1.f,np:=qa1.np,nr:=qa1.nr,ji:=qa1.ji,jo:=qa1.jo,tw:=fun x=>qbY x }
theorem qjL:FO qe6:=qiL.le fun x=>qjH x _
def qi4(s:List Bool):Option (List Bool):=
 bif Nat.beq s.length 0 then(bothO (
 some []) (
 gd (fits (0+s.length) 1)<|
 some ([]++s)))
 else(
 gd (fits (0+s.length) 1)<|
 some ([]++s))
def qaQ:Fun:=
 ⟨140,1,1,
 ⟨[(0,dd (.sl (.bool)))],[],[]⟩,
 ⟨[(0,ow 0)],[],a152_⟩,
 fun x=>qi4 x⟩
theorem qhm:FO qaQ:=fi [5] [] 8 [] .nil func140 ⟨trivial,trivial⟩
def qco(s:List Bool):Option (List Bool):=gd (fits (0+s.length) 1) (some ([]++s))
def qd5:Fun:={ f:=qaQ.f,np:=qaQ.np,nr:=qaQ.nr,ji:=qaQ.ji,jo:=qaQ.jo,tw:=fun x=>qco x }
theorem qiM:FO qd5:=qhm.le fun x=>qjH x _
def qhn(d:yB6):Option (yB4×List Int×List Int×List Bool):=
 (qa5 d.1).bind fun r=>
 (qbY d.2.1).bind fun r2=>
 (qbY d.2.2.1).bind fun r3=>
 (qco d.2.2.2).bind fun r4=>
 some (r,r2,r3,r4)
def qlb:Fun:=
 ⟨86,1,1,
 ⟨[(0,dd (.pair (.sl tT2) tT6))],[],[]⟩,
 ⟨[(0,.agg [.own 0,.own 1,.own 2,.own 3])],[],a70_⟩,
 fun x=>qhn x⟩
theorem qpB:FO qlb:=fi [] [qch,qe6,qd5] 34 [] .nil func86 ⟨⟨qeJ,qjL,qiM,trivial⟩,trivial⟩
def qdq(s:List yB3):Option (List yB3):=
 bif Nat.beq s.length 0 then(bothO (
 some []) (
 gd (fits (0+s.length) 64)<|
 some ([]++s)))
 else(
 gd (fits (0+s.length) 64)<|
 some ([]++s))
def qak:Fun:=
 ⟨87,1,1,
 ⟨[(0,dd (.sl tT1))],[],[]⟩,
 ⟨[(0,ow 0)],[],a133_⟩,
 fun x=>qdq x⟩
theorem qcY:FO qak:=fi [5] [] 8 [] .nil func87 ⟨trivial,trivial⟩
def qaJ(s:List yB3):Option (List yB3):=gd (fits (0+s.length) 64) (some ([]++s))
def qby:Fun:={ f:=qak.f,np:=qak.np,nr:=qak.nr,ji:=qak.ji,jo:=qak.jo,tw:=fun x=>qaJ x }
theorem qdm:FO qby:=qcY.le fun x=>qjH x _
def qdL(s:List yB2):Option (List yB2):=
 bif Nat.beq s.length 0 then(bothO (
 some []) (
 gd (fits (0+s.length) 48)<|
 some ([]++s)))
 else(
 gd (fits (0+s.length) 48)<|
 some ([]++s))
def qam:Fun:=
 ⟨88,1,1,
 ⟨[(0,dd (.sl tT3))],[],[]⟩,
 ⟨[(0,ow 0)],[],[(0,.arr 86 tT3)]⟩,
 fun x=>qdL x⟩
theorem qdn:FO qam:=fi [5] [] 8 [] .nil func88 ⟨trivial,trivial⟩
def qan(s:List yB2):Option (List yB2):=gd (fits (0+s.length) 48) (some ([]++s))
def qa7:Fun:={ f:=qam.f,np:=qam.np,nr:=qam.nr,ji:=qam.ji,jo:=qam.jo,tw:=fun x=>qan x }
theorem qbH:FO qa7:=qdn.le fun x=>qjH x _
def qmA(s:List Int):Option (List Int):=
 bif Nat.beq s.length 0 then(bothO (
 some []) (
 gd (fits (0+s.length) 8)<|
 some ([]++s)))
 else(
 gd (fits (0+s.length) 8)<|
 some ([]++s))
def qba:Fun:=
 ⟨84,1,1,
 ⟨r139_,[],[]⟩,
 ⟨r139_,[],[]⟩,
 fun x=>qmA x⟩
theorem qjM:FO qba:=fi [5] [] 8 [] .nil func84 ⟨trivial,trivial⟩
def qbQ(s:List Int):Option (List Int):=gd (fits (0+s.length) 8) (some ([]++s))
def qcv:Fun:={ f:=qba.f,np:=qba.np,nr:=qba.nr,ji:=qba.ji,jo:=qba.jo,tw:=fun x=>qbQ x }
theorem qdv:FO qcv:=qjM.le fun x=>qjH x _
def qfN(r2:List yB3)(v:Int)(c2:List yB3)(c3:yB4)(c4:List Int)(c5:List Int)(c6:List Bool)(c7:List yB2):Option ((Int×(List yB3)×yB4×List Int×List Int×List Bool×List yB2)⊕(yB4×List Int×List Int×List Bool×(List yB3)×List yB2)):=
 bif decide (v<(r2.length:Int)) then(
 gd (inB v c2.length)<|
 (qbQ ((((((c2.getD v.toNat (0,(0,(0,(0,(0,[])))))).2).2).2).2).2)).bind fun r4=>
 gd (inB v c2.length)<|
 some (.inl (wi64 (v+1),c2.set v.toNat ((c2.getD v.toNat (0,(0,(0,(0,(0,[])))))).1,(((c2.getD v.toNat (0,(0,(0,(0,(0,[])))))).2).1,((((c2.getD v.toNat (0,(0,(0,(0,(0,[])))))).2).2).1,(((((c2.getD v.toNat (0,(0,(0,(0,(0,[])))))).2).2).2).1,((((((c2.getD v.toNat (0,(0,(0,(0,(0,[])))))).2).2).2).2).1,r4))))),c3,c4,c5,c6,c7)))
 else(
 some (.inr (c3,c4,c5,c6,c2,c7)))
def qbU(c:yB1):Option (Int×yB4×List Int×List Int×List Bool×(List yB3)×List yB2):=
 (qhn (c.1.1,(c.1.2.1,(c.1.2.2.1,c.1.2.2.2)))).bind fun r=>
 (qaJ c.2.1).bind fun r2=>
 (qan c.2.2.1).bind fun r3=>
 (iter (fun x=>qfN r2 x.1 x.2.1 x.2.2.1 x.2.2.2.1 x.2.2.2.2.1 x.2.2.2.2.2.1 x.2.2.2.2.2.2) (0,r2,r.1,r.2.1,r.2.2.1,r.2.2.2,r3)).bind fun s=>
 some (c.2.2.2,s.1,s.2.1,s.2.2.1,s.2.2.2.1,s.2.2.2.2.1,s.2.2.2.2.2)
def qiN:Fun:=
 ⟨50,1,1,
 ⟨r101_,[],[]⟩,
 ⟨r112_,[],a69_⟩,
 fun x=>qbU x⟩
theorem qmI:FO qiN:=fi [] [qlb,qby,qa7,qcv] 35 [] ((nn (nn (mm (nn (mm (.mk [] (some (⟨[(1,pt 32 0),(2,pt 48 0),(18,ow 176),(19,kk),(20,ii)],v79_,[(176,.arr 104 tT1),(128,.arr 141 tT2),(129,.arr 3 I6),(130,.arr 3 I6),(131,.arr 4 (.bool)),(224,.arr 86 tT3)]⟩,[⟨.x 0,⟨[(1,pt 32 0),(2,pt 48 0)],v79_,[(128,.arr 141 tT2),(129,.arr 3 I6),(130,.arr 3 I6),(131,.arr 4 (.bool)),(176,.arr 104 tT1),(224,.arr 86 tT3)]⟩⟩])) .nil .nil) .nil)) .nil)))) func50 ⟨⟨qpB,qdm,qbH,qdv,trivial⟩,trivial⟩
def qe7(s:yB5):Option (Bool):=
 bif decide (s.1=0) then(
 bif decide (s.2.1=0) then(
 bif decide (s.2.2.1=0) then(
 bif decide (s.2.2.2.1=0) then(
 bif decide (s.2.2.2.2.1=0) then(
 bif decide (s.2.2.2.2.2.2=0) then(
 some (decide ((s.2.2.2.2.2.1.length:Int)=0)))
 else(
 some false))
 else(
 some false))
 else(
 some false))
 else(
 some false))
 else(
 some false))
 else(
 some false)
def qgx:Fun:=
 ⟨130,1,1,
 ⟨r66_,[],[]⟩,
 ⟨[(0,bb)],[],[]⟩,
 fun x=>qe7 x⟩
theorem qkv:FO qgx:=fi [] [] 40 [] .nil func130 ⟨trivial,trivial⟩
def qbp(n:Int)(most:Int):Option (Bool):=
 bif decide (0<=n) then(
 some (decide (n<=most)))
 else(
 some false)
def qho:Fun:=
 ⟨178,2,1,
 ⟨r63_,[],[]⟩,
 ⟨[(0,bb)],[],[]⟩,
 fun x=>qbp x.1 x.2⟩
theorem qnn:FO qho:=fi [] [] 12 [] .nil func178 ⟨trivial,trivial⟩
def qbq(v:Int):Option (Bool):=
 bif decide (v<(-9007199254740992)) then(
 some true)
 else(
 some (decide (9007199254740992<v)))
def qhp:Fun:=
 ⟨179,1,1,
 ⟨[(0,ii)],[],[]⟩,
 ⟨[(0,bb)],[],[]⟩,
 fun x=>qbq x⟩
theorem qno:FO qhp:=fi [] [] 9 [] .nil func179 ⟨trivial,trivial⟩
def qfO(t:yB3):Option (Bool):=
 Option.bind (α:=Bool) (
 (qbp t.1 255).bind fun r=>
 bif !r then(
 some true)
 else(
 (qbp t.2.1 255).bind fun r2=>
 bif !r2 then(
 some true)
 else(
 (qbp t.2.2.1 2147483648).bind fun r3=>
 bif !r3 then(
 some true)
 else(
 (qbp t.2.2.2.1 1099511627776).bind fun r4=>
 bif !r4 then(
 some true)
 else(
 (qbp t.2.2.2.2.1 63).bind fun r5=>
 some (!r5)))))) fun s=>
 bif s then(
 some false)
 else(
 bif decide ((t.2.2.2.2.2.length:Int)<=16) then(
 (qaE t.2.2.2.2.2 (fun h=>(qbq h.1).bind fun y=>some y)).bind fun r6=>
 some (!r6))
 else(
 some false))
def qi5:Fun:=
 ⟨131,1,1,
 ⟨[(0,dd tT1)],[],[]⟩,
 ⟨[(0,bb)],[],[]⟩,
 fun x=>qfO x⟩
theorem qpc:FO qi5:=fi [] [qho,qbg,qhp] 47 [] ((nn (nn (mm (mm (.mk [.join [⟨.n,⟨[(1,pt 32 0),(36,bb)],[(32,104,(kp 6))],[]⟩⟩]] none .nil .nil) .nil) .nil)))) func131 ⟨⟨qnn,qbG,qno,trivial⟩,trivial⟩
def qax(x:List yB3)(target:Int)(cmp:yB3×Int×Unit->Option Int)(i:Int)(j:Int):Option ((Int×Int)⊕Int):=
 bif decide (i<j) then(
 gd (inB (wi64 (Int.fdiv (wu64 (wi64 (i+j))) (2^shAmt .u64 1))) x.length)<|
 (cmp (x.getD (wi64 (Int.fdiv (wu64 (wi64 (i+j))) (2^shAmt .u64 1))).toNat (0,(0,(0,(0,(0,[]))))),target,())).bind fun r=>
 bif decide (r<0) then(
 some (.inl (wi64 ((wi64 (Int.fdiv (wu64 (wi64 (i+j))) (2^shAmt .u64 1)))+1),j)))
 else(
 some (.inl (i,wi64 (Int.fdiv (wu64 (wi64 (i+j))) (2^shAmt .u64 1))))))
 else(
 some (.inr i))
def qaC(x:List yB3)(target:Int)(cmp:yB3×Int×Unit->Option Int):Option (Int×Bool):=
 (iter (fun x2=>qax x target cmp x2.1 x2.2) (0,(x.length:Int))).bind fun s=>
 bif decide (s<(x.length:Int)) then(
 gd (inB s x.length)<|
 (cmp (x.getD s.toNat (0,(0,(0,(0,(0,[]))))),target,())).bind fun r2=>
 some (s,decide (r2=0)))
 else(
 some (s,false))
def qaX:Fun:=
 ⟨180,3,2,
 ⟨[(0,dd (.sl tT1)),(1,ii),(2,.one (.fn [.pair I6 (.pair I6 (.pair I6 (.pair I6 (.pair I6 (.sl I6))))),.int .i64] I6))],[],[]⟩,
 ⟨[(0,ii),(1,bb)],[],[]⟩,
 fun x=>qaC x.1 x.2.1 x.2.2⟩
theorem qbM:FO qaX:=fi [] [] 49 [] ((nn (nn (nn (mm (mm (.mk [] (some (⟨r137_,[],[]⟩,[⟨.x 0,⟨[(0,kk),(1,kk),(2,kk),(8,kk),(9,ii)],[],[]⟩⟩])) .nil .nil) .nil) .nil))))) func180 ⟨trivial,trivial⟩
def qgP(x:Int):Option (Bool):=
 some (!decide (x=x))
def qkw:Fun:=
 ⟨199,1,1,
 ⟨[(0,ii)],[],[]⟩,
 ⟨[(0,bb)],[],[]⟩,
 fun x=>qgP x⟩
theorem qpS:FO qkw:=fi [] [] 6 [] .nil func199 ⟨trivial,trivial⟩
def qhq(x:Int)(y:Int):Option (Int):=
 (qgP x).bind fun r=>
 (qgP y).bind fun r2=>
 bif r then(
 bif r2 then(
 some 0)
 else(
 some (-1)))
 else(
 bif r2 then(
 some 1)
 else(
 bif decide (x<y) then(
 some (-1))
 else(
 bif decide (y<x) then(
 some 1)
 else(
 some 0))))
def qie:Fun:=
 ⟨182,2,1,
 ⟨r63_,[],[]⟩,
 ⟨[(0,ii)],[],[]⟩,
 fun x=>qhq x.1 x.2⟩
theorem qn8:FO qie:=fi [] [qkw] 20 [] .nil func182 ⟨⟨qpS,trivial⟩,trivial⟩
def qcZ(t:yB3)(s:Int):Option (Int):=
 (qhq t.1 s).bind fun r=>
 some r
def qkx:Fun:=
 ⟨181,2,1,
 ⟨[(0,dd tT1),(1,ii)],[],[]⟩,
 ⟨[(0,ii)],[],[]⟩,
 fun x=>qcZ x.1 x.2⟩
theorem qpT:FO qkx:=fi [] [qie] 9 [] .nil func181 ⟨⟨qn8,trivial⟩,trivial⟩
def qjN(l:List yB3)(station:Int):Option (Int×Bool):=
 (qaC l station (fun h=>(qcZ h.1 h.2.1).bind fun y=>some y)).bind fun r=>
 some (r.1,r.2)
def qmJ:Fun:=
 ⟨132,2,2,
 ⟨[(0,dd (.sl tT1)),(1,ii)],[],[]⟩,
 ⟨[(0,ii),(1,bb)],[],[]⟩,
 fun x=>qjN x.1 x.2⟩
theorem qrT:FO qmJ:=fi [] [qaX,qkx] 11 [] .nil func132 ⟨⟨qbM,qpT,trivial⟩,trivial⟩
def qbr:Fun:=qge 133 104 tT1 64
theorem qda:FO qbr:=qCK ⟨_,func133,(by kernel_rfl),rfl⟩ underlying41 tk104.info rfl (by decide) (by decide) qBV (ins_grow' tk104.info rfl (by decide)) qyU
def qe8(a:yB3)(b:yB3):Option (Bool):=
 bif decide (a.1=b.1) then(
 bif decide (a.2.1<b.2.1) then(
 some true)
 else(
 bif decide (a.2.1=b.2.1) then(
 some (decide (a.2.2.1<b.2.2.1)))
 else(
 some false)))
 else(
 some false)
def qif:Fun:=
 ⟨134,2,1,
 ⟨[(0,dd tT1),(1,dd tT1)],[],[]⟩,
 ⟨[(0,bb)],[],[]⟩,
 fun x=>qe8 x.1 x.2⟩
theorem qn9:FO qif:=fi [] [] 31 [] .nil func134 ⟨trivial,trivial⟩
def qgQ(v:yB0)(r:yB9)(c:Int)(c2:yB4)(c3:List Int)(c4:List Int)(c5:List Bool)(c6:List yB3)(c7:List yB2):Option (Int×Int×yB4×List Int×List Int×List Bool×(List yB3)×List yB2):=
 Option.bind (α:=yB15) (
 bif decide ((r.2.1.length:Int)<5) then(
 some (true,c2,c3,c4,c5,c6,c7))
 else(
 (qe7 (r.2.2.1.1,(r.2.2.1.2.1,(r.2.2.1.2.2.1,(r.2.2.1.2.2.2.1,(r.2.2.1.2.2.2.2.1,(r.2.2.1.2.2.2.2.2.1,r.2.2.1.2.2.2.2.2.2))))))).bind fun r2=>
 bif !r2 then(
 some (true,c2,c3,c4,c5,c6,c7))
 else(
 some ((!(decide (r.2.2.2.1=[])&&(decide (r.2.2.2.2.1=0)&&decide (r.2.2.2.2.2=0)))),c2,c3,c4,c5,c6,c7)))) fun s=>
 bif s.1 then(
 some (28,c,s.2.1,s.2.2.1,s.2.2.2.1,s.2.2.2.2.1,s.2.2.2.2.2.1,s.2.2.2.2.2.2))
 else(
 gd (inB 0 r.2.1.length)<|
 gd (inB 1 r.2.1.length)<|
 gd (inB 2 r.2.1.length)<|
 gd (inB 3 r.2.1.length)<|
 gd (inB 4 r.2.1.length)<|
 gd (cutG (some (.i64,5)) none r.2.1.length)<|
 (qbQ (r.2.1.drop 5)).bind fun r3=>
 (qfO (r.2.1.getD 0 0,(r.2.1.getD 1 0,(r.2.1.getD 2 0,(r.2.1.getD 3 0,(r.2.1.getD 4 0,r3)))))).bind fun r4=>
 bif !r4 then(
 some (28,c,s.2.1,s.2.2.1,s.2.2.2.1,s.2.2.2.2.1,s.2.2.2.2.2.1,s.2.2.2.2.2.2))
 else(
 (qjN s.2.2.2.2.2.1 (r.2.1.getD 0 0)).bind fun r5=>
 bif !r5.2 then(
 (insT 64 r5.1 s.2.2.2.2.2.1 [(r.2.1.getD 0 0,(r.2.1.getD 1 0,(r.2.1.getD 2 0,(r.2.1.getD 3 0,(r.2.1.getD 4 0,r3)))))]).bind fun r6=>
 some (0,c,s.2.1,s.2.2.1,s.2.2.2.1,s.2.2.2.2.1,r6,s.2.2.2.2.2.2))
 else(
 gd (inB r5.1 s.2.2.2.2.2.1.length)<|
 (qe8 (s.2.2.2.2.2.1.getD r5.1.toNat (0,(0,(0,(0,(0,[])))))) (r.2.1.getD 0 0,(r.2.1.getD 1 0,(r.2.1.getD 2 0,(r.2.1.getD 3 0,(r.2.1.getD 4 0,r3)))))).bind fun r7=>
 bif !r7 then(
 some (6,c,s.2.1,s.2.2.1,s.2.2.2.1,s.2.2.2.2.1,s.2.2.2.2.2.1,s.2.2.2.2.2.2))
 else(
 gd (inB r5.1 s.2.2.2.2.2.1.length)<|
 some (0,c,s.2.1,s.2.2.1,s.2.2.2.1,s.2.2.2.2.1,s.2.2.2.2.2.1.set r5.1.toNat (r.2.1.getD 0 0,(r.2.1.getD 1 0,(r.2.1.getD 2 0,(r.2.1.getD 3 0,(r.2.1.getD 4 0,r3))))),s.2.2.2.2.2.2)))))
def qky:Fun:=
 ⟨75,3,1,
 ⟨r18_,v75_,a8_⟩,
 ⟨[(0,ii)],v71_,a40_⟩,
 fun x=>qgQ x.1 x.2.1 x.2.2.1 x.2.2.2.1 x.2.2.2.2.1 x.2.2.2.2.2.1 x.2.2.2.2.2.2.1 x.2.2.2.2.2.2.2.1 x.2.2.2.2.2.2.2.2⟩
theorem qpU:FO qky:=fi [78] [qgx,qcv,qi5,qmJ,qbr,qif] 93 [] ((nn (mm (mm (.mk [.join [⟨.n,⟨[(1,pt 0 0),(5,pt 96 0),(26,bb)],v90_,a8_⟩⟩]] none .nil .nil) .nil) .nil))) func75 ⟨⟨qkv,qdv,qpc,qrT,qda,qn9,trivial⟩,trivial⟩
def qap(s:yB4)(f:(Int×Int×Bool×Bool)×Unit->Option Bool)(v:Int):Option (Int⊕(Unit⊕Int)):=
 bif decide (v<(s.length:Int)) then(
 gd (inB v s.length)<|
 (f (s.getD v.toNat (0,(0,(false,false))),())).bind fun r=>
 bif r then(
 some (.inr (.inr v)))
 else(
 some (.inl (wi64 (v+1)))))
 else(
 some (.inr (.inl ())))
def qaR(s:yB4)(f:(Int×Int×Bool×Bool)×Unit->Option Bool):Option (Int):=
 (iter (fun x=>qap s f x) 0).bind fun s2=>
 s2.elim (fun s3=>
 some (-1))
 (fun s4=>
 some s4)
def qbI:Fun:=
 ⟨219,2,1,
 ⟨r84_,[],[]⟩,
 ⟨[(0,ii)],[],[]⟩,
 fun x=>qaR x.1 x.2⟩
theorem qdw:FO qbI:=fi [] [] 19 [] ((nn (mm (nn (mm (.mk [] (some (⟨r33_,[],[]⟩,[⟨.x 0,⟨[],[],[]⟩⟩,⟨.r,⟨[(4,ii)],[],[]⟩⟩])) .nil .nil) .nil)) .nil))) func219 ⟨trivial,trivial⟩
def qau(s:yB4)(f:(Int×Int×Bool×Bool)×Unit->Option Bool):Option (Bool):=
 (qaR s f).bind fun r=>
 some (decide (0<=r))
def qbs:Fun:=
 ⟨201,2,1,
 ⟨r84_,[],[]⟩,
 ⟨[(0,bb)],[],[]⟩,
 fun x=>qau x.1 x.2⟩
theorem qdb:FO qbs:=fi [] [qbI] 9 [] .nil func201 ⟨⟨qdw,trivial⟩,trivial⟩
def qgh(v:Int×Int×Bool×Bool):Option (Bool):=
 (qdu (v.1,(v.2.1,(v.2.2.1,v.2.2.2)))).bind fun r=>
 some (!r)
def qlc:Fun:=
 ⟨202,1,1,
 ⟨[(0,dd tT2)],[],[]⟩,
 ⟨[(0,bb)],[],[]⟩,
 fun x=>qgh x⟩
theorem qq6:FO qlc:=fi [] [qdf] 6 [] .nil func202 ⟨⟨qd3,trivial⟩,trivial⟩
def qhr(rate:Int)(most:Int):Option (Bool):=
 bif decide (wi64 (0-most)<=rate) then(
 some (decide (rate<=most)))
 else(
 some false)
def qiO:Fun:=
 ⟨220,2,1,
 ⟨r63_,[],[]⟩,
 ⟨[(0,bb)],[],[]⟩,
 fun x=>qhr x.1 x.2⟩
theorem qmK:FO qiO:=fi [] [] 14 [] .nil func220 ⟨trivial,trivial⟩
def qig(rate:Int):Option (Bool):=
 (qhr rate 1000).bind fun r=>
 some (!r)
def qld:Fun:=
 ⟨221,1,1,
 ⟨[(0,ii)],[],[]⟩,
 ⟨[(0,bb)],[],[]⟩,
 fun x=>qig x⟩
theorem qq7:FO qld:=fi [] [qiO] 6 [] .nil func221 ⟨⟨qmK,trivial⟩,trivial⟩
def qdc(vfrom:Int)(to:Int)(rate:Int)(s:List Int×List Int):Option (List Int×List Int):=
 Option.bind (α:=Int×Int×Int×List Int×List Int) (
 bif decide (rate<0) then(
 some (to,vfrom,wi64 (0-rate),s))
 else(
 some (vfrom,to,rate,s))) fun s2=>
 Option.bind (α:=List Int×List Int) (
 bif decide (0<=s2.1) then(
 gd (inB s2.1 24)<|
 gd (inB s2.1 24)<|
 some (s2.2.2.2.1,s2.2.2.2.2.set s2.1.toNat (wi64 ((s2.2.2.2.2.getD s2.1.toNat 0)+s2.2.2.1))))
 else(
 some s2.2.2.2)) fun s3=>
 bif decide (0<=s2.2.1) then(
 gd (inB s2.2.1 24)<|
 gd (inB s2.2.1 24)<|
 some (s3.1.set s2.2.1.toNat (wi64 ((s3.1.getD s2.2.1.toNat 0)+s2.2.2.1)),s3.2))
 else(
 some s3)
def qhs:Fun:=
 ⟨233,4,0,
 ⟨[(0,.one (.ael 0 48)),(1,ii),(2,ii),(3,ii)],[],a78_⟩,
 ⟨[],[],a78_⟩,
 fun x=>qdc x.1 x.2.1 x.2.2.1 x.2.2.2⟩
theorem qnp:FO qhs:=fi [] [] 40 [] ((mm (nn (.mk [.join [⟨.n,⟨[(0,.one (.ael 0 48)),(1,ii),(2,ii),(3,ii)],[],a78_⟩⟩]] none .nil .nil)) (mm (nn (.mk [.join [⟨.n,⟨[(0,.one (.ael 0 48)),(2,kk),(3,kk)],[],a78_⟩⟩]] none .nil .nil)) .nil))) func233 ⟨trivial,trivial⟩
def qdx(n:yB0)(p:yB7)(v:Int)(v2:List Int×List Int)(out:List Int×List Int):Option ((Int×(List Int×List Int)×List Int×List Int)⊕((List Int×List Int)×List Int×List Int)):=
 bif decide (v<(n.2.1.length:Int)) then(
 gd (inB v n.2.1.length)<|
 gd (inB v p.1.length)<|
 (qdc (((n.2.1.getD v.toNat ([],(0,(0,(0,(0,(0,[]))))))).2).1) ((((n.2.1.getD v.toNat ([],(0,(0,(0,(0,(0,[]))))))).2).2).1) (p.1.getD v.toNat 0) out).bind fun r=>
 some (.inl (wi64 (v+1),v2,r)))
 else(
 some (.inr (v2,out)))
def qdy(n:yB0)(p:yB7)(v3:Int)(v4:List Int×List Int)(out2:List Int×List Int):Option ((Int×(List Int×List Int)×List Int×List Int)⊕((List Int×List Int)×List Int×List Int)):=
 bif decide (v3<(n.2.2.1.length:Int)) then(
 gd (inB v3 n.2.2.1.length)<|
 gd (inB v3 p.2.1.length)<|
 (qdc (-1) (((n.2.2.1.getD v3.toNat ([],(0,0))).2).1) (p.2.1.getD v3.toNat 0) out2).bind fun r2=>
 some (.inl (wi64 (v3+1),v4,r2)))
 else(
 some (.inr (v4,out2)))
def qle(n:yB0)(p:yB7):Option (List Int×List Int):=
 (iter (fun x=>qdx n p x.1 x.2.1 x.2.2) (0,((List.replicate 24 0),(List.replicate 24 0)),((List.replicate 24 0),(List.replicate 24 0)))).bind fun s=>
 (iter (fun x2=>qdy n p x2.1 x2.2.1 x2.2.2) (0,s.1,s.2)).bind fun s2=>
 some s2.2
def qlf:Fun:=
 ⟨222,2,1,
 ⟨r64_,[],[]⟩,
 ⟨[(0,dd (.pair (.arr 24 I6) (.arr 24 I6)))],[],[]⟩,
 fun x=>qle x.1 x.2⟩
theorem qpC:FO qlf:=fi [3000004,3000005] [qhs] 47 [] ((nn (nn (mm (nn (mm (.mk [] (some (⟨[(2,pt 48 0),(3,pt 64 0),(4,.one (.ael 80 48)),(5,.one (.ael 96 48)),(11,kk),(12,kk),(13,ii)],v0_,a21_⟩,[⟨.x 0,⟨[(2,pt 48 0),(3,pt 64 0),(4,.one (.ael 80 48)),(5,.one (.ael 96 48))],v0_,a21_⟩⟩])) .nil .nil) .nil)) (mm (nn (mm (.mk [] (some (⟨[(3,pt 64 0),(4,.one (.ael 80 48)),(5,.one (.ael 96 48)),(30,kk),(31,kk),(32,ii)],[(64,38,[.keep,.keep,.keep])],a21_⟩,[⟨.x 2,⟨[(4,.one (.ael 80 48)),(5,.one (.ael 96 48))],[],a21_⟩⟩])) .nil .nil) .nil)) .nil))))) func222 ⟨⟨qnp,trivial⟩,trivial⟩
def qoa(s:yB12)(rate:Int):Option (Int×Int):=
 bif decide (rate<0) then(
 some (s.2.2.1,s.2.1))
 else(
 some (s.2.1,s.2.2.1))
def qpD:Fun:=
 ⟨234,2,2,
 ⟨[(0,dd (.pair (.str) tT5)),(1,ii)],[],[]⟩,
 ⟨r63_,[],[]⟩,
 fun x=>qoa x.1 x.2⟩
theorem quB:FO qpD:=fi [] [] 16 [] .nil func234 ⟨trivial,trivial⟩
def qb3(n:yB0)(p:yB7)(k:Int)(v:Int)(out2:List Int)(there2:List Bool):Option ((Int×List Int×List Bool)⊕((List Int×List Bool)⊕(List Int×List Bool))):=
 bif decide (v<(n.2.1.length:Int)) then(
 gd (inB v n.2.1.length)<|
 gd (inB v p.1.length)<|
 (qoa ((n.2.1.getD v.toNat ([],(0,(0,(0,(0,(0,[]))))))).1,(((n.2.1.getD v.toNat ([],(0,(0,(0,(0,(0,[]))))))).2).1,((((n.2.1.getD v.toNat ([],(0,(0,(0,(0,(0,[]))))))).2).2).1,(((((n.2.1.getD v.toNat ([],(0,(0,(0,(0,(0,[]))))))).2).2).2).1,((((((n.2.1.getD v.toNat ([],(0,(0,(0,(0,(0,[]))))))).2).2).2).2).1,(((((((n.2.1.getD v.toNat ([],(0,(0,(0,(0,(0,[]))))))).2).2).2).2).2).1,((((((n.2.1.getD v.toNat ([],(0,(0,(0,(0,(0,[]))))))).2).2).2).2).2).2)))))) (p.1.getD v.toNat 0)).bind fun r=>
 Option.bind (α:=Bool×List Int×List Bool) (
 gd (inB v p.1.length)<|
 bif !decide (p.1.getD v.toNat 0=0) then(
 bif decide (r.2=k) then(
 gd (inB r.1 there2.length)<|
 some ((!(there2.getD r.1.toNat false)),out2,there2))
 else(
 some (false,out2,there2)))
 else(
 some (false,out2,there2))) fun s=>
 bif s.1 then(
 some (.inr (.inl (s.2.1,s.2.2))))
 else(
 some (.inl (wi64 (v+1),s.2.1,s.2.2))))
 else(
 some (.inr (.inr (out2,there2))))
def qaV(n:yB0)(p:yB7)(k:Int)(out:List Int)(there:List Bool):Option ((Int×List Int×List Bool)⊕(List Int)):=
 bif decide (k<(n.1.length:Int)) then(
 Option.bind (α:=Int×List Int×List Bool) (
 gd (inB k there.length)<|
 bif there.getD k.toNat false then(
 some (k,out,there))
 else(
 (iter (fun x=>qb3 n p k x.1 x.2.1 x.2.2) (0,out,there)).bind fun s2=>
 s2.elim (fun s3=>
 some (k,s3.1,s3.2))
 (fun s4=>
 gd (inB k s4.2.length)<|
 gd (fits (s4.1.length+1) 8)<|
 some ((-1),s4.1++[k],s4.2.set k.toNat true)))) fun s5=>
 some (.inl (wi64 (s5.1+1),s5.2.1,s5.2.2)))
 else(
 some (.inr out))
def qma(n:yB0)(p:yB7):Option (List Int):=
 gd (makeG 1 (n.1.length:Int))<|
 (iter (fun x2=>qaV n p x2.1 x2.2.1 x2.2.2) (0,[],List.replicate (n.1.length:Int).toNat (false:Bool))).bind fun s6=>
 some s6
def qob:Fun:=
 ⟨223,2,1,
 ⟨r64_,[],[]⟩,
 ⟨[(0,ow 0)],[],[(0,.arr 3 I6)]⟩,
 fun x=>qma x.1 x.2⟩
theorem qte:FO qob:=fi [] [qpD] 72 [] ((nn (mm (nn (nn (nn (mm (nn (mm (.mk [] (some (⟨r119_,v0_,a52_⟩,[⟨.x 0,⟨[(5,ow 107)],[],[(107,.arr 3 I6)]⟩⟩])) (nn (mm (.mk [.join [⟨.n,⟨r119_,v0_,a52_⟩⟩]] none (nn (mm (nn (mm (.mk [] (some (⟨[(2,pt 48 0),(3,pt 64 0),(5,ow 107),(6,ow 256),(7,kk),(28,kk),(29,kk),(30,ii)],v0_,a52_⟩,[⟨.x 1,⟨r120_,v0_,a52_⟩⟩,⟨.x 2,⟨r120_,v0_,a52_⟩⟩])) (nn (nn (mm (mm (nn (nn (mm (.mk [.join [⟨.n,⟨[(2,pt 48 0),(3,pt 64 0),(5,ow 107),(6,ow 256),(7,kk),(28,kk),(29,kk),(30,kk),(62,bb)],v0_,a52_⟩⟩]] none .nil .nil) .nil))) .nil) .nil))) .nil) .nil)) .nil)) .nil) .nil)) .nil) .nil)) .nil)))) .nil))) func223 ⟨⟨quB,trivial⟩,trivial⟩
def qgR(n:yB0)(p:yB7)(v:Int):Option (Int⊕(Unit⊕Int)):=
 bif decide (v<(n.2.1.length:Int)) then(
 gd (inB v n.2.1.length)<|
 gd (inB v p.1.length)<|
 (qhr (p.1.getD v.toNat 0) (min 1000 (((((n.2.1.getD v.toNat ([],(0,(0,(0,(0,(0,[]))))))).2).2).2).1))).bind fun r2=>
 bif !r2 then(
 some (.inr (.inr 1)))
 else(
 some (.inl (wi64 (v+1)))))
 else(
 some (.inr (.inl ())))
def qfx(n:yB0)(p:yB7):Option (Int):=
 (qcu (n.1,(n.2.1,(n.2.2.1,(n.2.2.2.1,(n.2.2.2.2.1,n.2.2.2.2.2)))))).bind fun r=>
 bif !decide (r=0) then(
 some r)
 else(
 Option.bind (α:=Bool) (
 bif !decide ((p.1.length:Int)=(n.2.1.length:Int)) then(
 some true)
 else(
 bif !decide ((p.2.1.length:Int)=(n.2.2.1.length:Int)) then(
 some true)
 else(
 some (!decide ((p.2.2.length:Int)=(n.2.2.2.1.length:Int)))))) fun s=>
 bif s then(
 some 9)
 else(
 (iter (fun x=>qgR n p x) 0).bind fun s2=>
 s2.elim (fun s3=>
 (qaE p.2.1 (fun h=>(qig h.1).bind fun y=>some y)).bind fun r3=>
 bif r3 then(
 some 1)
 else(
 (qle (n.1,(n.2.1,(n.2.2.1,(n.2.2.2.1,(n.2.2.2.2.1,n.2.2.2.2.2))))) (p.1,(p.2.1,p.2.2))).bind fun r4=>
 bif !((List.range 24).all fun i=>decide ((r4.1.getD i 0)=(r4.2.getD i 0))) then(
 some 12)
 else(
 (qma (n.1,(n.2.1,(n.2.2.1,(n.2.2.2.1,(n.2.2.2.2.1,n.2.2.2.2.2))))) (p.1,(p.2.1,p.2.2))).bind fun r5=>
 bif decide ((r5.length:Int)<(n.1.length:Int)) then(
 some 13)
 else(
 some 0))))
 (fun s4=>
 some s4)))
def qe9:Fun:=
 ⟨203,2,1,
 ⟨r64_,[],[]⟩,
 ⟨[(0,ii)],[],[]⟩,
 fun x=>qfx x.1 x.2⟩
theorem qgS:FO qe9:=fi [3000008] [qcp,qiO,qbg,qld,qlf,qob] 77 [] ((nn (nn (mm (mm (.mk [.join [⟨.n,⟨[(2,pt 48 0),(3,pt 64 0),(38,bb)],v0_,[]⟩⟩]] none .nil .nil) .nil) (mm (nn (mm (.mk [] (some (⟨[(2,pt 48 0),(3,pt 64 0),(40,kk),(41,kk),(42,ii)],v0_,[]⟩,[⟨.x 0,⟨r39_,v0_,[]⟩⟩,⟨.r,⟨[(4,ii)],[],[]⟩⟩])) .nil .nil) .nil)) .nil))))) func203 ⟨⟨qc9,qmK,qbG,qq7,qpC,qte,trivial⟩,trivial⟩
def qci(rates:List Int)(v:Int)(out:List Bool):Option ((Int×List Bool)⊕(List Bool)):=
 bif decide (v<(rates.length:Int)) then(
 gd (inB v rates.length)<|
 gd (fits (out.length+1) 1)<|
 some (.inl (wi64 (v+1),out++[(!decide (rates.getD v.toNat 0=0))])))
 else(
 some (.inr out))
def qgi(rates:List Int):Option (List Bool):=
 (iter (fun x=>qci rates x.1 x.2) (0,[])).bind fun s=>
 some s
def qlg:Fun:=
 ⟨224,1,1,
 ⟨r139_,[],[]⟩,
 ⟨[(0,ow 0)],[],a152_⟩,
 fun x=>qgi x⟩
theorem qq8:FO qlg:=fi [] [] 19 [] ((nn (nn (mm (nn (mm (.mk [] (some (⟨[(3,ow 75),(6,kk),(7,kk),(8,ii)],[],[(75,.arr 4 (.bool))]⟩,[⟨.x 0,⟨[(3,ow 75)],[],[(75,.arr 4 (.bool))]⟩⟩])) .nil .nil) .nil)) .nil)))) func224 ⟨trivial,trivial⟩
def qfy(n:yB0)(p:yB7):Option (Int×List Bool×List Bool):=
 (qcu (n.1,(n.2.1,(n.2.2.1,(n.2.2.2.1,(n.2.2.2.2.1,n.2.2.2.2.2)))))).bind fun r=>
 bif !decide (r=0) then(
 some (r,[],[]))
 else(
 (qfx (n.1,(n.2.1,(n.2.2.1,(n.2.2.2.1,(n.2.2.2.2.1,n.2.2.2.2.2))))) (p.1,(p.2.1,p.2.2))).bind fun r2=>
 bif !decide (r2=0) then(
 some (r2,[],[]))
 else(
 (qgi p.1).bind fun r3=>
 (qgi p.2.1).bind fun r4=>
 some (0,r3,r4)))
def qiP:Fun:=
 ⟨204,2,2,
 ⟨r64_,[],[]⟩,
 ⟨[(0,.agg [.own 0,.own 1]),(1,ii)],[],[(0,.arr 4 (.bool)),(1,.arr 4 (.bool))]⟩,
 fun x=>qfy x.1 x.2⟩
theorem qmL:FO qiP:=fi [] [qcp,qe9,qlg] 28 [] .nil func204 ⟨⟨qc9,qgS,qq8,trivial⟩,trivial⟩
def qd6(l:List Bool×List Bool):Option (List Bool):=
 gd (fits (0+l.1.length) 1)<|
 gd (fits (([]++l.1).length+l.2.length) 1)<|
 some (([]++l.1)++l.2)
def qfz:Fun:=
 ⟨205,1,1,
 ⟨[(0,dd (.pair (.sl (.bool)) (.sl (.bool))))],[],[]⟩,
 ⟨[(0,ow 0)],[],a152_⟩,
 fun x=>qd6 x⟩
theorem qi6:FO qfz:=fi [] [] 11 [] .nil func205 ⟨trivial,trivial⟩
def qmb(v:Int×Int×Bool×Bool):Option (Bool):=
 (qdu (v.1,(v.2.1,(v.2.2.1,v.2.2.2)))).bind fun r=>
 bif r then(
 some (decide (v.2.1=v.1)))
 else(
 some false)
def qoc:Fun:=
 ⟨225,1,1,
 ⟨[(0,dd tT2)],[],[]⟩,
 ⟨[(0,bb)],[],[]⟩,
 fun x=>qmb x⟩
theorem qtf:FO qoc:=fi [] [qdf] 12 [] .nil func225 ⟨⟨qd3,trivial⟩,trivial⟩
def qi7(v:Int×Int×Bool×Bool):Option (Bool):=
 (qmb (v.1,(v.2.1,(v.2.2.1,v.2.2.2)))).bind fun r=>
 bif r then(
 some v.2.2.1)
 else(
 some false)
def qjO:Fun:=
 ⟨206,1,1,
 ⟨[(0,dd tT2)],[],[]⟩,
 ⟨[(0,bb)],[],[]⟩,
 fun x=>qi7 x⟩
theorem qod:FO qjO:=fi [] [qoc] 9 [] .nil func206 ⟨⟨qtf,trivial⟩,trivial⟩
def qih(n:yB0)(p:yB7)(node:Int):Option (Int×Int):=
 (qfx (n.1,(n.2.1,(n.2.2.1,(n.2.2.2.1,(n.2.2.2.2.1,n.2.2.2.2.2))))) (p.1,(p.2.1,p.2.2))).bind fun r=>
 bif !decide (r=0) then(
 some (0,r))
 else(
 Option.bind (α:=Bool) (
 bif decide (node<0) then(
 some true)
 else(
 some (decide ((n.1.length:Int)<=node)))) fun s=>
 bif s then(
 some (0,8))
 else(
 (qle (n.1,(n.2.1,(n.2.2.1,(n.2.2.2.1,(n.2.2.2.2.1,n.2.2.2.2.2))))) (p.1,(p.2.1,p.2.2))).bind fun r2=>
 gd (inB node 24)<|
 some (r2.1.getD node.toNat 0,0)))
def qlh:Fun:=
 ⟨235,3,2,
 ⟨r113_,[],[]⟩,
 ⟨r63_,[],[]⟩,
 fun x=>qih x.1 x.2.1 x.2.2⟩
theorem qq9:FO qlh:=fi [] [qe9,qlf] 30 [] ((nn (nn (mm (mm (.mk [.join [⟨.n,⟨[(2,kk),(3,pt 64 0),(4,pt 80 0),(23,bb)],v36_,[]⟩⟩]] none .nil .nil) .nil) .nil)))) func235 ⟨⟨qgS,qpC,trivial⟩,trivial⟩
def qht(n:yB0)(p:yB7)(station:Int):Option (Bool):=
 gd (inB station n.2.2.2.1.length)<|
 (qih (n.1,(n.2.1,(n.2.2.1,(n.2.2.2.1,(n.2.2.2.2.1,n.2.2.2.2.2))))) (p.1,(p.2.1,p.2.2)) (((n.2.2.2.1.getD station.toNat ([],(0,(0,(0,0))))).2).1)).bind fun r=>
 bif decide (r.2=0) then(
 some (!decide (r.1=0)))
 else(
 some false)
def qiQ:Fun:=
 ⟨226,3,1,
 ⟨r113_,[],[]⟩,
 ⟨[(0,bb)],[],[]⟩,
 fun x=>qht x.1 x.2.1 x.2.2⟩
theorem qmM:FO qiQ:=fi [] [qlh] 27 [] .nil func226 ⟨⟨qq9,trivial⟩,trivial⟩
def qjP(n:yB0)(p:yB7)(v:Int):Option (Int⊕(Unit⊕Bool)):=
 bif decide (v<(p.2.2.length:Int)) then(
 gd (inB v p.2.2.length)<|
 Option.bind (α:=Bool) (
 bif p.2.2.getD v.toNat false then(
 bif decide (v<(n.2.2.2.1.length:Int)) then(
 (qht (n.1,(n.2.1,(n.2.2.1,(n.2.2.2.1,(n.2.2.2.2.1,n.2.2.2.2.2))))) (p.1,(p.2.1,p.2.2)) v).bind fun r=>
 some (!r))
 else(
 some false))
 else(
 some false)) fun s=>
 bif s then(
 some (.inr (.inr true)))
 else(
 some (.inl (wi64 (v+1)))))
 else(
 some (.inr (.inl ())))
def qi8(n:yB0)(p:yB7):Option (Bool):=
 (iter (fun x=>qjP n p x) 0).bind fun s2=>
 s2.elim (fun s3=>
 some false)
 (fun s4=>
 some s4)
def qjQ:Fun:=
 ⟨207,2,1,
 ⟨r64_,[],[]⟩,
 ⟨[(0,bb)],[],[]⟩,
 fun x=>qi8 x.1 x.2⟩
theorem qoe:FO qjQ:=fi [] [qiQ] 31 [] ((nn (mm (nn (mm (.mk [] (some (⟨[(2,pt 48 0),(3,pt 64 0),(8,kk),(9,kk),(10,ii)],v0_,[]⟩,[⟨.x 0,⟨[],[],[]⟩⟩,⟨.r,⟨[(4,bb)],[],[]⟩⟩])) (nn (nn (mm (mm (nn (mm (.mk [.join [⟨.n,⟨[(2,pt 48 0),(3,pt 64 0),(8,kk),(9,kk),(10,kk),(29,bb)],v0_,[]⟩⟩]] none .nil .nil) .nil)) .nil) .nil))) .nil) .nil)) .nil))) func207 ⟨⟨qmM,trivial⟩,trivial⟩
def qb4(d:yB6)(r6:List Bool)(v:Int)(v2:List Bool):Option ((Int×List Bool)⊕(Unit⊕Int)):=
 bif decide (v<(r6.length:Int)) then(
 gd (inB v v2.length)<|
 Option.bind (α:=Bool×List Bool) (
 bif v2.getD v.toNat false then(
 gd (inB v d.1.length)<|
 (qi7 (d.1.getD v.toNat (0,(0,(false,false))))).bind fun r7=>
 some ((!r7),v2))
 else(
 some (false,v2))) fun s2=>
 bif s2.1 then(
 some (.inr (.inr 21)))
 else(
 some (.inl (wi64 (v+1),s2.2))))
 else(
 some (.inr (.inl ())))
def qmc(n:yB0)(d:yB6):Option (Int):=
 (qcu (n.1,(n.2.1,(n.2.2.1,(n.2.2.2.1,(n.2.2.2.2.1,n.2.2.2.2.2)))))).bind fun r=>
 bif !decide (r=0) then(
 some r)
 else(
 Option.bind (α:=Bool) (
 (qgg (n.1,(n.2.1,(n.2.2.1,(n.2.2.2.1,(n.2.2.2.2.1,n.2.2.2.2.2)))))).bind fun r2=>
 bif !decide ((d.1.length:Int)=r2) then(
 some true)
 else(
 (qau d.1 (fun h=>(qgh h.1).bind fun y=>some y)).bind fun r3=>
 some r3)) fun s=>
 bif s then(
 some 20)
 else(
 (qfx (n.1,(n.2.1,(n.2.2.1,(n.2.2.2.1,(n.2.2.2.2.1,n.2.2.2.2.2))))) (d.2.1,(d.2.2.1,d.2.2.2))).bind fun r4=>
 bif !decide (r4=0) then(
 some r4)
 else(
 (qfy (n.1,(n.2.1,(n.2.2.1,(n.2.2.2.1,(n.2.2.2.2.1,n.2.2.2.2.2))))) (d.2.1,(d.2.2.1,d.2.2.2))).bind fun r5=>
 bif !decide (r5.1=0) then(
 some r5.1)
 else(
 (qd6 (r5.2.1,r5.2.2)).bind fun r6=>
 (iter (fun x=>qb4 d r6 x.1 x.2) (0,r6)).bind fun s3=>
 s3.elim (fun s4=>
 (qi8 (n.1,(n.2.1,(n.2.2.1,(n.2.2.2.1,(n.2.2.2.2.1,n.2.2.2.2.2))))) (d.2.1,(d.2.2.1,d.2.2.2))).bind fun r8=>
 bif r8 then(
 some 21)
 else(
 some 0))
 (fun s5=>
 some s5)))))
def qof:Fun:=
 ⟨185,2,1,
 ⟨[(0,dd tT0),(1,dd (.pair (.sl tT2) tT6))],[],[]⟩,
 ⟨[(0,ii)],[],[]⟩,
 fun x=>qmc x.1 x.2⟩
theorem qtg:FO qof:=fi [] [qcp,qhk,qbs,qlc,qe9,qiP,qfz,qjO,qjQ] 67 [] ((nn (nn (mm (mm (.mk [.join [⟨.n,⟨[(2,pt 48 0),(3,pt 64 0),(26,bb)],v50_,[]⟩⟩]] none .nil .nil) .nil) (nn (nn (nn (mm (nn (mm (.mk [] (some (⟨[(2,pt 48 0),(3,pt 64 0),(45,ow 736),(46,kk),(47,ii)],v50_,[(736,.arr 4 (.bool))]⟩,[⟨.x 0,⟨r39_,v50_,[]⟩⟩,⟨.r,⟨[(4,ii)],[],[]⟩⟩])) (nn (nn (mm (mm (nn (mm (.mk [.join [⟨.n,⟨[(2,pt 48 0),(3,pt 64 0),(45,ow 736),(46,kk),(47,kk),(61,bb)],v50_,[(736,.arr 4 (.bool))]⟩⟩]] none .nil .nil) .nil)) .nil) .nil))) .nil) .nil)) .nil)))))))) func185 ⟨⟨qc9,qk9,qdb,qq6,qgS,qmL,qi6,qod,qoe,trivial⟩,trivial⟩
def qmd(s:yB5):Option (Bool):=
 Option.bind (α:=Bool) (
 bif decide (s.2.2.2.1=0) then(
 bif decide (s.2.2.2.2.1=0) then(
 bif decide ((s.2.2.2.2.2.1.length:Int)=0) then(
 some (decide (s.2.2.2.2.2.2=0)))
 else(
 some false))
 else(
 some false))
 else(
 some false)) fun s2=>
 Option.bind (α:=Bool) (
 bif decide (s.1=1) then(
 some (decide (s.1=1)))
 else(
 Option.bind (α:=Bool) (
 bif decide (s.1=2) then(
 some (decide (s.1=2)))
 else(
 Option.bind (α:=Bool) (
 bif decide (s.1=3) then(
 some (decide (s.1=3)))
 else(
 some (decide (s.1=4)))) fun s3=>
 some s3)) fun s4=>
 some s4)) fun s5=>
 bif s5 then(
 bif decide (s.2.2.1=0) then(
 some s2)
 else(
 some false))
 else(
 bif decide (s.1=5) then(
 bif decide (s.2.1=0) then(
 some (decide (s.2.2.2.2.2.2=0)))
 else(
 some false))
 else(
 bif decide (s.1=6) then(
 bif decide (s.2.1=0) then(
 some s2)
 else(
 some false))
 else(
 some false)))
def qog:Fun:=
 ⟨208,1,1,
 ⟨r66_,[],[]⟩,
 ⟨[(0,bb)],[],[]⟩,
 fun x=>qmd x⟩
theorem qth:FO qog:=fi [] [] 57 [] ((nn (nn (mm (.mk [.join [⟨.n,⟨[(1,pt 32 0),(3,pt 64 0),(4,bb)],v110_,[]⟩⟩]] none .nil .nil) (mm (nn (mm (mm (nn (.mk [.join [⟨.n,⟨r88_,v110_,[]⟩⟩]] none .nil (nn (.mk [.join [⟨.n,⟨r88_,v110_,[]⟩⟩]] none .nil (nn (.mk [.join [⟨.n,⟨r88_,v110_,[]⟩⟩]] none .nil .nil)))))) .nil) .nil)) .nil))))) func208 ⟨trivial,trivial⟩
def qgT(v:Int×Int×Bool×Bool)(vopen:Bool):Option ((Int×Int×Bool×Bool)×Int):=
 (qdu (v.1,(v.2.1,(v.2.2.1,v.2.2.2)))).bind fun r=>
 bif !r then(
 some ((v.1,(v.2.1,(v.2.2.1,v.2.2.2))),20))
 else(
 some ((v.1,(v.2.1,(vopen,v.2.2.2))),0))
def qkz:Fun:=
 ⟨227,2,2,
 ⟨[(0,dd tT2),(1,bb)],[],[]⟩,
 ⟨r86_,[],[]⟩,
 fun x=>qgT x.1 x.2⟩
theorem qpV:FO qkz:=fi [] [qdf] 13 [] .nil func227 ⟨⟨qd3,trivial⟩,trivial⟩
def qli(n:yB0)(s:yB5)(d:yB4)(d2:List Int)(d3:List Int)(d4:List Bool):Option yB10:=
 Option.bind (α:=Bool×yB4×List Int×List Int×List Bool) (
 bif decide (s.2.1<0) then(
 some (true,d,d2,d3,d4))
 else(
 some (decide ((d.length:Int)<=s.2.1),d,d2,d3,d4))) fun s2=>
 bif s2.1 then(
 some (8,s2.2.1,s2.2.2.1,s2.2.2.2.1,s2.2.2.2.2))
 else(
 Option.bind (α:=(yB4×List Int×List Int×List Bool)⊕yB10) (
 bif decide (s.1=2) then(
 (qfy (n.1,(n.2.1,(n.2.2.1,(n.2.2.2.1,(n.2.2.2.2.1,n.2.2.2.2.2))))) (s2.2.2.1,(s2.2.2.2.1,s2.2.2.2.2))).bind fun r=>
 bif !decide (r.1=0) then(
 some (.inr (r.1,s2.2.1,s2.2.2.1,s2.2.2.2.1,s2.2.2.2.2)))
 else(
 (qd6 (r.2.1,r.2.2)).bind fun r2=>
 gd (inB s.2.1 r2.length)<|
 bif r2.getD s.2.1.toNat false then(
 some (.inr (22,s2.2.1,s2.2.2.1,s2.2.2.2.1,s2.2.2.2.2)))
 else(
 some (.inl (s2.2.1,s2.2.2.1,s2.2.2.2.1,s2.2.2.2.2)))))
 else(
 some (.inl (s2.2.1,s2.2.2.1,s2.2.2.2.1,s2.2.2.2.2)))) fun s3=>
 s3.elim (fun s4=>
 gd (inB s.2.1 s4.1.length)<|
 (qgT (s4.1.getD s.2.1.toNat (0,(0,(false,false)))) (decide (s.1=1))).bind fun r3=>
 gd (inB s.2.1 s4.1.length)<|
 some (r3.2,s4.1.set s.2.1.toNat (r3.1.1,(r3.1.2.1,(r3.1.2.2.1,r3.1.2.2.2))),s4.2.1,s4.2.2.1,s4.2.2.2))
 (fun s5=>
 some (s5.1,s5.2.1,s5.2.2.1,s5.2.2.2.1,s5.2.2.2.2)))
def qpE:Fun:=
 ⟨209,3,1,
 ⟨r34_,v6_,a1_⟩,
 ⟨[(0,ii)],v6_,a1_⟩,
 fun x=>qli x.1 x.2.1 x.2.2.1 x.2.2.2.1 x.2.2.2.2.1 x.2.2.2.2.2⟩
theorem quC:FO qpE:=fi [] [qiP,qfz,qkz] 69 [] ((nn (mm (mm (.mk [.join [⟨.n,⟨[(1,pt 0 0),(3,pt 64 0),(5,pt 96 0),(23,bb)],v98_,a1_⟩⟩]] none .nil .nil) .nil) (mm (nn (.mk [.join [⟨.n,⟨[(1,pt 0 0),(5,pt 96 0)],v53_,a1_⟩⟩,⟨.r,⟨[(6,ii)],v6_,a1_⟩⟩]] none .nil .nil)) .nil)))) func209 ⟨⟨qmL,qi6,qpV,trivial⟩,trivial⟩
def qoh(n:yB0)(s:yB5)(d:yB4)(d2:List Int)(d3:List Int)(d4:List Bool):Option yB10:=
 Option.bind (α:=Bool×yB4×List Int×List Int×List Bool) (
 bif decide (s.2.1<0) then(
 some (true,d,d2,d3,d4))
 else(
 some (decide ((n.2.2.2.1.length:Int)<=s.2.1),d,d2,d3,d4))) fun s2=>
 bif s2.1 then(
 some (8,s2.2.1,s2.2.2.1,s2.2.2.2.1,s2.2.2.2.2))
 else(
 Option.bind (α:=Bool×yB4×List Int×List Int×List Bool) (
 bif decide (s.1=3) then(
 (qht (n.1,(n.2.1,(n.2.2.1,(n.2.2.2.1,(n.2.2.2.2.1,n.2.2.2.2.2))))) (s2.2.2.1,(s2.2.2.2.1,s2.2.2.2.2)) s.2.1).bind fun r=>
 some ((!r),s2.2.1,s2.2.2.1,s2.2.2.2.1,s2.2.2.2.2))
 else(
 some (false,s2.2.1,s2.2.2.1,s2.2.2.2.1,s2.2.2.2.2))) fun s3=>
 bif s3.1 then(
 some (22,s3.2.1,s3.2.2.1,s3.2.2.2.1,s3.2.2.2.2))
 else(
 gd (inB s.2.1 s3.2.2.2.2.length)<|
 some (0,s3.2.1,s3.2.2.1,s3.2.2.2.1,s3.2.2.2.2.set s.2.1.toNat (decide (s.1=3)))))
def qra:Fun:=
 ⟨210,3,1,
 ⟨r34_,v6_,a1_⟩,
 ⟨[(0,ii)],v6_,a1_⟩,
 fun x=>qoh x.1 x.2.1 x.2.2.1 x.2.2.2.1 x.2.2.2.2.1 x.2.2.2.2.2⟩
theorem qvN:FO qra:=fi [] [qiQ] 43 [] ((nn (mm (mm (.mk [.join [⟨.n,⟨[(1,pt 0 0),(3,pt 64 0),(5,pt 96 0),(17,bb)],v98_,a1_⟩⟩]] none .nil .nil) .nil) (mm (mm (.mk [.join [⟨.n,⟨[(1,pt 0 0),(5,pt 96 0),(31,bb)],v53_,a1_⟩⟩]] none .nil .nil) .nil) .nil)))) func210 ⟨⟨qmM,trivial⟩,trivial⟩
def qgU(i:Int)(v:yB0):Option (Bool):=
 bif decide (0<=i) then(
 some (decide (i<(v.2.2.1.length:Int))))
 else(
 some false)
def qkA:Fun:=
 ⟨244,2,1,
 ⟨[(0,ii),(1,.one (.sel tT0))],[],[]⟩,
 ⟨[(0,bb)],[],[]⟩,
 fun x=>qgU x.1 x.2⟩
theorem qpW:FO qkA:=fi [] [] 13 [] .nil func244 ⟨trivial,trivial⟩
def qme(n:yB0)(h:Int×Bool):Option (Int×Int):=
 gd (inB h.1 n.2.1.length)<|
 bif h.2 then(
 some ((((n.2.1.getD h.1.toNat ([],(0,(0,(0,(0,(0,[]))))))).2).2).1,((n.2.1.getD h.1.toNat ([],(0,(0,(0,(0,(0,[]))))))).2).1))
 else(
 some (((n.2.1.getD h.1.toNat ([],(0,(0,(0,(0,(0,[]))))))).2).1,(((n.2.1.getD h.1.toNat ([],(0,(0,(0,(0,(0,[]))))))).2).2).1))
def qoi:Fun:=
 ⟨245,2,2,
 ⟨[(0,dd tT0),(1,dd (.pair I6 (.bool)))],[],[]⟩,
 ⟨r63_,[],[]⟩,
 fun x=>qme x.1 x.2⟩
theorem qti:FO qoi:=fi [] [] 23 [] .nil func245 ⟨trivial,trivial⟩
def qbb(s:List Int)(v:Int)(v2:Int):Option (Int⊕(Unit⊕Int)):=
 bif decide (v2<(s.length:Int)) then(
 gd (inB v2 s.length)<|
 bif decide (v=s.getD v2.toNat 0) then(
 some (.inr (.inr v2)))
 else(
 some (.inl (wi64 (v2+1)))))
 else(
 some (.inr (.inl ())))
def qdY(s:List Int)(v:Int):Option (Int):=
 (iter (fun x=>qbb s v x) 0).bind fun s2=>
 s2.elim (fun s3=>
 some (-1))
 (fun s4=>
 some s4)
def qfa:Fun:=
 ⟨249,2,1,
 ⟨[(0,dd (.sl I6)),(1,ii)],[],[]⟩,
 ⟨[(0,ii)],[],[]⟩,
 fun x=>qdY x.1 x.2⟩
theorem qjR:FO qfa:=fi [] [] 19 [] ((nn (mm (nn (mm (.mk [] (some (⟨r33_,[],[]⟩,[⟨.x 0,⟨[],[],[]⟩⟩,⟨.r,⟨[(4,ii)],[],[]⟩⟩])) .nil .nil) .nil)) .nil))) func249 ⟨trivial,trivial⟩
def qb5(s:List Int)(v:Int):Option (Bool):=
 (qdY s v).bind fun r=>
 some (decide (0<=r))
def qdV:Fun:=
 ⟨246,2,1,
 ⟨[(0,dd (.sl I6)),(1,ii)],[],[]⟩,
 ⟨[(0,bb)],[],[]⟩,
 fun x=>qb5 x.1 x.2⟩
theorem qh6:FO qdV:=fi [] [qfa] 9 [] .nil func246 ⟨⟨qjR,trivial⟩,trivial⟩
def qcB(n:yB0)(p:yB8)(vat:Int)(v:Int)(passed:List Int):Option ((Int×Int×List Int)⊕(Int⊕Bool)):=
 bif decide (v<(p.2.2.1.length:Int)) then(
 gd (inB v p.2.2.1.length)<|
 Option.bind (α:=Bool×List Int) (
 bif decide ((p.2.2.1.getD v.toNat (0,false)).1<0) then(
 some (true,passed))
 else(
 some (decide ((n.2.1.length:Int)<=(p.2.2.1.getD v.toNat (0,false)).1),passed))) fun s2=>
 bif s2.1 then(
 some (.inr (.inr false)))
 else(
 (qme (n.1,(n.2.1,(n.2.2.1,(n.2.2.2.1,(n.2.2.2.2.1,n.2.2.2.2.2))))) ((p.2.2.1.getD v.toNat (0,false)).1,(p.2.2.1.getD v.toNat (0,false)).2)).bind fun r3=>
 Option.bind (α:=Bool×List Int) (
 bif !decide (r3.1=vat) then(
 some (true,s2.2))
 else(
 (qb5 s2.2 r3.2).bind fun r4=>
 some (r4,s2.2))) fun s3=>
 bif s3.1 then(
 some (.inr (.inr false)))
 else(
 gd (fits (s3.2.length+1) 8)<|
 some (.inl (r3.2,wi64 (v+1),s3.2++[r3.2])))))
 else(
 some (.inr (.inl vat)))
def qjS(n:yB0)(p:yB8):Option (Bool):=
 Option.bind (α:=Bool) (
 (qgU p.1 (n.1,(n.2.1,(n.2.2.1,(n.2.2.2.1,(n.2.2.2.2.1,n.2.2.2.2.2)))))).bind fun r=>
 bif !r then(
 some true)
 else(
 (qgU p.2.1 (n.1,(n.2.1,(n.2.2.1,(n.2.2.2.1,(n.2.2.2.2.1,n.2.2.2.2.2)))))).bind fun r2=>
 bif !r2 then(
 some true)
 else(
 bif decide (p.1=p.2.1) then(
 some true)
 else(
 bif decide (p.2.2.2<1) then(
 some true)
 else(
 bif decide (1000<p.2.2.2) then(
 some true)
 else(
 some (decide (32<(p.2.2.1.length:Int))))))))) fun s=>
 bif s then(
 some false)
 else(
 gd (inB p.1 n.2.2.1.length)<|
 (iter (fun x=>qcB n p x.1 x.2.1 x.2.2) (((n.2.2.1.getD p.1.toNat ([],(0,0))).2).1,0,[((n.2.2.1.getD p.1.toNat ([],(0,0))).2).1])).bind fun s4=>
 s4.elim (fun s5=>
 gd (inB p.2.1 n.2.2.1.length)<|
 some (decide (s5=((n.2.2.1.getD p.2.1.toNat ([],(0,0))).2).1)))
 (fun s6=>
 some s6))
def qmN:Fun:=
 ⟨236,2,1,
 ⟨r145_,[],[]⟩,
 ⟨[(0,bb)],[],[]⟩,
 fun x=>qjS x.1 x.2⟩
theorem qrU:FO qmN:=fi [56] [qkA,qoi,qdV] 104 [] ((nn (mm (.mk [.fv [(2,.pair (.sl (.str)) (.pair (.sl (.pair (.str) tT5)) (.pair (.sl (.pair (.str) (.pair I6 I6))) (.pair (.sl tT3) (.pair I6 I6)))))]] none .nil .nil) (mm (mm (.mk [.join [⟨.n,⟨[(2,kk),(3,pt 64 0),(47,bb)],[(64,56,(kp 4))],[]⟩⟩]] none .nil .nil) .nil) (nn (nn (mm (nn (mm (.mk [] (some (⟨[(2,kk),(3,pt 64 0),(6,ii),(7,ow 139),(58,kk),(59,kk),(60,ii)],[(64,56,(kp 4))],a121_⟩,[⟨.x 0,⟨[(2,kk),(3,pt 64 0),(6,ii)],[(64,56,(kp 4))],[]⟩⟩,⟨.r,⟨[(4,bb)],[],[]⟩⟩])) (nn (nn (mm (mm (nn (mm (mm (.mk [.join [⟨.n,⟨[(2,kk),(3,pt 64 0),(6,kk),(7,ow 139),(9,pt 160 0),(58,kk),(59,kk),(60,kk),(74,bb)],[(64,56,(kp 4)),(160,97,[.keep,.keep])],a121_⟩⟩]] none .nil .nil) .nil) (nn (mm (mm (.mk [.join [⟨.n,⟨[(2,kk),(3,pt 64 0),(7,ow 139),(11,kk),(58,kk),(59,kk),(60,kk),(88,bb)],[(64,56,(kp 4))],a121_⟩⟩]] none .nil .nil) .nil) .nil)))) .nil) .nil))) .nil) .nil)) .nil))))))) func236 ⟨⟨qpW,qti,qh6,trivial⟩,trivial⟩
def qjT(n:yB0)(p:yB8):Option (Bool):=
 (qcu (n.1,(n.2.1,(n.2.2.1,(n.2.2.2.1,(n.2.2.2.2.1,n.2.2.2.2.2)))))).bind fun r=>
 bif decide (r=0) then(
 (qjS (n.1,(n.2.1,(n.2.2.1,(n.2.2.2.1,(n.2.2.2.2.1,n.2.2.2.2.2))))) (p.1,(p.2.1,(p.2.2.1,p.2.2.2)))).bind fun r2=>
 some r2)
 else(
 some false)
def qmO:Fun:=
 ⟨228,2,1,
 ⟨r145_,[],[]⟩,
 ⟨[(0,bb)],[],[]⟩,
 fun x=>qjT x.1 x.2⟩
theorem qrV:FO qmO:=fi [] [qcp,qmN] 13 [] .nil func228 ⟨⟨qc9,qrU,trivial⟩,trivial⟩
def qeR(i:Int)(v:yB6):Option (Bool):=
 gd (inB i v.1.length)<|
 (qi7 (v.1.getD i.toNat (0,(0,(false,false))))).bind fun r=>
 some r
def qhu:Fun:=
 ⟨237,2,1,
 ⟨[(0,ii),(1,.one (.sel (.pair (.sl tT2) tT6)))],[],[]⟩,
 ⟨[(0,bb)],[],[]⟩,
 fun x=>qeR x.1 x.2⟩
theorem qlj:FO qhu:=fi [] [qjO] 10 [] .nil func237 ⟨⟨qod,trivial⟩,trivial⟩
def qmf(p:yB7)(h:Int×Bool):Option (Int):=
 bif h.2 then(
 gd (inB h.1 p.1.length)<|
 some (wi64 (0-(p.1.getD h.1.toNat 0))))
 else(
 gd (inB h.1 p.1.length)<|
 some (p.1.getD h.1.toNat 0))
def qoj:Fun:=
 ⟨240,2,1,
 ⟨[(0,dd tT6),(1,dd (.pair I6 (.bool)))],[],[]⟩,
 ⟨[(0,ii)],[],[]⟩,
 fun x=>qmf x.1 x.2⟩
theorem qtj:FO qoj:=fi [] [] 20 [] .nil func240 ⟨trivial,trivial⟩
def qeS(h:Int×Bool)(v:yB6)(v2:yB6)(v3:Int):Option (Bool):=
 (qmf v.2 (h.1,h.2)).bind fun r=>
 (qeR h.1 v2).bind fun r2=>
 bif !r2 then(
 some true)
 else(
 bif decide (r<0) then(
 some true)
 else(
 some (decide (wi64 (r+v3)<0))))
def qlk:Fun:=
 ⟨239,4,1,
 ⟨[(0,dd (.pair I6 (.bool))),(1,.one (.sel (.pair (.sl tT2) tT6))),(2,.one (.sel (.clo 237 (.pair (.sl tT2) tT6)))),(3,.one (.sel I6))],[],[]⟩,
 ⟨[(0,bb)],[],[]⟩,
 fun x=>qeS x.1 x.2.1 x.2.2.1 x.2.2.2⟩
theorem qrb:FO qlk:=fi [] [qoj,qhu] 26 [] .nil func239 ⟨⟨qtj,qlj,trivial⟩,trivial⟩
def qat(s:List (Int×Bool))(f:(Int×Bool)×Unit->Option Bool)(v:Int):Option (Int⊕(Unit⊕Int)):=
 bif decide (v<(s.length:Int)) then(
 gd (inB v s.length)<|
 (f (s.getD v.toNat (0,false),())).bind fun r=>
 bif r then(
 some (.inr (.inr v)))
 else(
 some (.inl (wi64 (v+1)))))
 else(
 some (.inr (.inl ())))
def qa6(s:List (Int×Bool))(f:(Int×Bool)×Unit->Option Bool):Option (Int):=
 (iter (fun x=>qat s f x) 0).bind fun s2=>
 s2.elim (fun s3=>
 some (-1))
 (fun s4=>
 some s4)
def qcj:Fun:=
 ⟨247,2,1,
 ⟨r102_,[],[]⟩,
 ⟨[(0,ii)],[],[]⟩,
 fun x=>qa6 x.1 x.2⟩
theorem qeK:FO qcj:=fi [] [] 19 [] ((nn (mm (nn (mm (.mk [] (some (⟨r33_,[],[]⟩,[⟨.x 0,⟨[],[],[]⟩⟩,⟨.r,⟨[(4,ii)],[],[]⟩⟩])) .nil .nil) .nil)) .nil))) func247 ⟨trivial,trivial⟩
def qaW(s:List (Int×Bool))(f:(Int×Bool)×Unit->Option Bool):Option (Bool):=
 (qa6 s f).bind fun r=>
 some (decide (0<=r))
def qbR:Fun:=
 ⟨238,2,1,
 ⟨r102_,[],[]⟩,
 ⟨[(0,bb)],[],[]⟩,
 fun x=>qaW x.1 x.2⟩
theorem qdM:FO qbR:=fi [] [qcj] 9 [] .nil func238 ⟨⟨qeK,trivial⟩,trivial⟩
def qmg(n:yB0)(d:yB6)(x:yB8)(vby:Int):Option (Bool):=
 gd (inB x.1 d.2.2.1.length)<|
 gd (inB x.2.1 d.2.2.1.length)<|
 Option.bind (α:=Bool×List (Int×Int×Bool×Bool)×List Int×List Int×List Bool) (
 (qeR (wi64 ((n.2.1.length:Int)+x.1)) (d.1,(d.2.1,(d.2.2.1,d.2.2.2)))).bind fun r=>
 bif !r then(
 some (true,(d.1,(d.2.1,(d.2.2.1,d.2.2.2)))))
 else(
 (qeR (wi64 ((n.2.1.length:Int)+x.2.1)) (d.1,(d.2.1,(d.2.2.1,d.2.2.2)))).bind fun r2=>
 bif !r2 then(
 some (true,(d.1,(d.2.1,(d.2.2.1,d.2.2.2)))))
 else(
 bif decide (d.2.2.1.getD x.1.toNat 0<0) then(
 some (true,(d.1,(d.2.1,(d.2.2.1,d.2.2.2)))))
 else(
 bif decide (wi64 (0-(d.2.2.1.getD x.2.1.toNat 0))<0) then(
 some (true,(d.1,(d.2.1,(d.2.2.1,d.2.2.2)))))
 else(
 bif decide (wi64 ((d.2.2.1.getD x.1.toNat 0)+vby)<0) then(
 some (true,(d.1,(d.2.1,(d.2.2.1,d.2.2.2)))))
 else(
 some (decide (wi64 ((wi64 (0-(d.2.2.1.getD x.2.1.toNat 0)))+vby)<0),(d.1,(d.2.1,(d.2.2.1,d.2.2.2)))))))))) fun s=>
 bif s.1 then(
 some false)
 else(
 (qaW x.2.2.1 (fun h=>(qeS h.1 (d.1,(d.2.1,(d.2.2.1,d.2.2.2))) s.2 vby).bind fun y=>some y)).bind fun r3=>
 some (!r3))
def qok:Fun:=
 ⟨229,4,1,
 ⟨[(0,dd tT0),(1,dd (.pair (.sl tT2) tT6)),(2,dd tT4),(3,ii)],[],[]⟩,
 ⟨[(0,bb)],[],[]⟩,
 fun x=>qmg x.1 x.2.1 x.2.2.1 x.2.2.2⟩
theorem qtk:FO qok:=fi [] [qhu,qbR,qlk] 73 [] ((nn (mm (.mk [.fv [(5,.pair (.sl tT2) tT6)]] none .nil .nil) (nn (nn (mm (mm (.mk [.join [⟨.n,⟨[(5,kk),(6,pt 112 0),(7,pt 128 0),(9,pt 160 0),(67,bb)],[(112,56,(kp 4)),(128,3,[.keep]),(160,227,[.data (.clo 237 (.pair (.sl tT2) tT6))])],[]⟩⟩]] none .nil .nil) .nil) (mm (.mk [.fv [(9,.clo 237 (.pair (.sl tT2) tT6)),(7,.int .i64)]] none .nil .nil) .nil))))))) func229 ⟨⟨qlj,qdM,qrb,trivial⟩,trivial⟩
def qii(h:Int×Bool)(rate:Int):Option (Int):=
 bif h.2 then(
 some (wi64 (0-rate)))
 else(
 some rate)
def qll:Fun:=
 ⟨241,2,1,
 ⟨[(0,dd (.pair I6 (.bool))),(1,ii)],[],[]⟩,
 ⟨[(0,ii)],[],[]⟩,
 fun x=>qii x.1 x.2⟩
theorem qrc:FO qll:=fi [] [] 10 [] .nil func241 ⟨trivial,trivial⟩
def qc0(x:yB8)(rate:Int)(v:Int)(p5:yB4)(p6:List Int)(p7:List Int)(p8:List Bool):Option (yB10⊕(yB4×List Int×List Int×List Bool)):=
 bif decide (v<(x.2.2.1.length:Int)) then(
 gd (inB v x.2.2.1.length)<|
 gd (inB ((x.2.2.1.getD v.toNat (0,false)).1) p6.length)<|
 (qii ((x.2.2.1.getD v.toNat (0,false)).1,(x.2.2.1.getD v.toNat (0,false)).2) rate).bind fun r=>
 gd (inB ((x.2.2.1.getD v.toNat (0,false)).1) p6.length)<|
 some (.inl (wi64 (v+1),p5,p6.set (((x.2.2.1.getD v.toNat (0,false)).1).toNat) (wi64 ((p6.getD (((x.2.2.1.getD v.toNat (0,false)).1).toNat) 0)+r)),p7,p8)))
 else(
 some (.inr (p5,p6,p7,p8)))
def qmh(x:yB8)(rate:Int)(p:yB4)(p2:List Int)(p3:List Int)(p4:List Bool):Option (yB4×List Int×List Int×List Bool):=
 gd (inB x.1 p3.length)<|
 gd (inB x.1 p3.length)<|
 gd (inB x.2.1 (p3.set x.1.toNat (wi64 ((p3.getD x.1.toNat 0)+rate))).length)<|
 gd (inB x.2.1 (p3.set x.1.toNat (wi64 ((p3.getD x.1.toNat 0)+rate))).length)<|
 (iter (fun x2=>qc0 x rate x2.1 x2.2.1 x2.2.2.1 x2.2.2.2.1 x2.2.2.2.2) (0,p,p2,(p3.set x.1.toNat (wi64 ((p3.getD x.1.toNat 0)+rate))).set x.2.1.toNat (wi64 (((p3.set x.1.toNat (wi64 ((p3.getD x.1.toNat 0)+rate))).getD x.2.1.toNat 0)-rate)),p4)).bind fun s=>
 some (s.1,s.2.1,s.2.2.1,s.2.2.2)
def qol:Fun:=
 ⟨230,3,0,
 ⟨[(0,pt 0 1),(1,dd tT4),(2,ii)],v6_,a1_⟩,
 ⟨[],v6_,a1_⟩,
 fun x=>qmh x.1 x.2.1 x.2.2.1 x.2.2.2.1 x.2.2.2.2.1 x.2.2.2.2.2⟩
theorem qtl:FO qol:=fi [] [qll] 51 [] ((nn (nn (nn (nn (mm (.mk [] (some (⟨[(0,pt 0 1),(2,kk),(31,kk),(32,kk),(33,ii)],v6_,a1_⟩,[⟨.x 0,⟨[],v6_,a1_⟩⟩])) .nil .nil) .nil)))))) func230 ⟨⟨qrc,trivial⟩,trivial⟩
def qjU(n:yB0)(s:yB5)(d:yB4)(d2:List Int)(d3:List Int)(d4:List Bool):Option yB10:=
 Option.bind (α:=Bool×yB4×List Int×List Int×List Bool) (
 bif decide (s.2.2.1<(-1000)) then(
 some (true,d,d2,d3,d4))
 else(
 some (decide (1000<s.2.2.1),d,d2,d3,d4))) fun s2=>
 bif s2.1 then(
 some (23,s2.2.1,s2.2.2.1,s2.2.2.2.1,s2.2.2.2.2))
 else(
 (qjT (n.1,(n.2.1,(n.2.2.1,(n.2.2.2.1,(n.2.2.2.2.1,n.2.2.2.2.2))))) (s.2.2.2.1,(s.2.2.2.2.1,(s.2.2.2.2.2.1,max s.2.2.1 (wi64 (0-s.2.2.1)))))).bind fun r=>
 bif !r then(
 some (23,s2.2.1,s2.2.2.1,s2.2.2.2.1,s2.2.2.2.2))
 else(
 (qmg (n.1,(n.2.1,(n.2.2.1,(n.2.2.2.1,(n.2.2.2.2.1,n.2.2.2.2.2))))) (s2.2.1,(s2.2.2.1,(s2.2.2.2.1,s2.2.2.2.2))) (s.2.2.2.1,(s.2.2.2.2.1,(s.2.2.2.2.2.1,max s.2.2.1 (wi64 (0-s.2.2.1))))) s.2.2.1).bind fun r2=>
 bif !r2 then(
 some (22,s2.2.1,s2.2.2.1,s2.2.2.2.1,s2.2.2.2.2))
 else(
 (qmh (s.2.2.2.1,(s.2.2.2.2.1,(s.2.2.2.2.2.1,max s.2.2.1 (wi64 (0-s.2.2.1))))) s.2.2.1 s2.2.1 s2.2.2.1 s2.2.2.2.1 s2.2.2.2.2).bind fun r3=>
 (qfx (n.1,(n.2.1,(n.2.2.1,(n.2.2.2.1,(n.2.2.2.2.1,n.2.2.2.2.2))))) (r3.2.1,(r3.2.2.1,r3.2.2.2))).bind fun r4=>
 bif !decide (r4=0) then(
 some (r4,r3.1,r3.2.1,r3.2.2.1,r3.2.2.2))
 else(
 (qi8 (n.1,(n.2.1,(n.2.2.1,(n.2.2.2.1,(n.2.2.2.2.1,n.2.2.2.2.2))))) (r3.2.1,(r3.2.2.1,r3.2.2.2))).bind fun r5=>
 bif r5 then(
 some (22,r3.1,r3.2.1,r3.2.2.1,r3.2.2.2))
 else(
 some (0,r3.1,r3.2.1,r3.2.2.1,r3.2.2.2))))))
def qmP:Fun:=
 ⟨211,3,1,
 ⟨r34_,v6_,a1_⟩,
 ⟨[(0,ii)],v6_,a1_⟩,
 fun x=>qjU x.1 x.2.1 x.2.2.1 x.2.2.2.1 x.2.2.2.2.1 x.2.2.2.2.2⟩
theorem qrW:FO qmP:=fi [] [qmO,qok,qol,qe9,qjQ] 61 [] ((nn (nn (mm (mm (.mk [.join [⟨.n,⟨[(1,pt 0 0),(3,pt 64 0),(5,pt 96 0),(7,pt 128 0),(18,bb)],[(0,40,[.own 1,.own 2,.own 3,.own 4]),(64,32,(kp 6)),(96,58,(kp 7)),(128,56,(kp 4))],a1_⟩⟩]] none .nil .nil) .nil) .nil)))) func211 ⟨⟨qrV,qtk,qtl,qgS,qoe,trivial⟩,trivial⟩
def qpd(v:Int×Int×Bool×Bool):Option (Int):=
 bif v.2.2.1 then(
 some v.1)
 else(
 some 0)
def qom:Fun:=
 ⟨248,1,1,
 ⟨[(0,dd tT2)],[],[]⟩,
 ⟨[(0,ii)],[],[]⟩,
 fun x=>qpd x⟩
theorem qtm:FO qom:=fi [] [] 7 [] .nil func248 ⟨trivial,trivial⟩
def qjV(v:Int×Int×Bool×Bool)(ticks:Int):Option (Int×Int×Bool×Bool):=
 (qpd (v.1,(v.2.1,(v.2.2.1,v.2.2.2)))).bind fun r=>
 Option.bind (α:=Int) (
 bif v.2.2.2 then(
 some v.2.1)
 else(
 Option.bind (α:=Int) (
 bif decide (v.2.1<r) then(
 some (min r (wi64 (v.2.1+ticks))))
 else(
 some (max r (wi64 (v.2.1-ticks))))) fun s=>
 some s)) fun s2=>
 bif decide (v.1=v.1)&&(decide (s2=v.2.1)&&((v.2.2.1==v.2.2.1)&&(v.2.2.2==v.2.2.2))) then(
 some (v.1,(v.2.1,(v.2.2.1,v.2.2.2))))
 else(
 some (v.1,(s2,(v.2.2.1,v.2.2.2))))
def qmQ:Fun:=
 ⟨242,2,1,
 ⟨r86_,[],[]⟩,
 ⟨[(0,dd tT2)],[],[]⟩,
 fun x=>qjV x.1 x.2⟩
theorem qrX:FO qmQ:=fi [] [qom] 37 [] ((nn (nn (mm (nn (mm (nn (.mk [.join [⟨.n,⟨[(2,pt 48 0),(4,pt 80 0),(5,pt 96 0)],v93_,[]⟩⟩]] none .nil (nn (.mk [.join [⟨.n,⟨[(2,pt 48 0),(4,pt 80 0),(5,pt 96 0)],v93_,[]⟩⟩]] none .nil .nil)))) .nil)) .nil)))) func242 ⟨⟨qtm,trivial⟩,trivial⟩
def qmi(v:Int×Int×Bool×Bool)(ticks:Int):Option ((Int×Int×Bool×Bool)×Int):=
 (qdu (v.1,(v.2.1,(v.2.2.1,v.2.2.2)))).bind fun r=>
 bif !r then(
 some ((v.1,(v.2.1,(v.2.2.1,v.2.2.2))),20))
 else(
 Option.bind (α:=Bool) (
 bif decide (ticks<0) then(
 some true)
 else(
 some (decide (400<ticks)))) fun s=>
 bif s then(
 some ((v.1,(v.2.1,(v.2.2.1,v.2.2.2))),1))
 else(
 (qjV (v.1,(v.2.1,(v.2.2.1,v.2.2.2))) ticks).bind fun r2=>
 some ((r2.1,(r2.2.1,(r2.2.2.1,r2.2.2.2))),0)))
def qon:Fun:=
 ⟨231,2,2,
 ⟨r86_,[],[]⟩,
 ⟨r86_,[],[]⟩,
 fun x=>qmi x.1 x.2⟩
theorem qtn:FO qon:=fi [] [qdf,qmQ] 22 [] ((nn (mm (mm (nn (nn (mm (.mk [.join [⟨.n,⟨[(1,kk),(2,pt 48 0),(4,pt 80 0),(11,bb)],[(48,141,(kp 4)),(80,141,(kp 4))],[]⟩⟩]] none .nil .nil) .nil))) .nil) .nil))) func231 ⟨⟨qd3,qrX,trivial⟩,trivial⟩
def qdz(s:yB5)(s2:Bool×yB4×List Int×List Int×List Bool)(v2:Int)(d5:yB4)(d6:List Int)(d7:List Int)(d8:List Bool):Option (yB10⊕((yB4×List Int×List Int×List Bool)⊕yB10)):=
 bif decide (v2<(s2.2.1.length:Int)) then(
 gd (inB v2 d5.length)<|
 (qmi ((d5.getD v2.toNat (0,(0,(false,false)))).1,(((d5.getD v2.toNat (0,(0,(false,false)))).2).1,((((d5.getD v2.toNat (0,(0,(false,false)))).2).2).1,(((d5.getD v2.toNat (0,(0,(false,false)))).2).2).2))) s.2.2.1).bind fun r=>
 bif !decide (r.2=0) then(
 some (.inr (.inr (r.2,d5,d6,d7,d8))))
 else(
 gd (inB v2 d5.length)<|
 some (.inl (wi64 (v2+1),d5.set v2.toNat (r.1.1,(r.1.2.1,(r.1.2.2.1,r.1.2.2.2))),d6,d7,d8))))
 else(
 some (.inr (.inl (d5,d6,d7,d8))))
def qoo(v:yB0)(s:yB5)(d:yB4)(d2:List Int)(d3:List Int)(d4:List Bool):Option yB10:=
 Option.bind (α:=Bool×yB4×List Int×List Int×List Bool) (
 bif decide (s.2.2.1<1) then(
 some (true,d,d2,d3,d4))
 else(
 some (decide (100<s.2.2.1),d,d2,d3,d4))) fun s2=>
 bif s2.1 then(
 some (1,s2.2.1,s2.2.2.1,s2.2.2.2.1,s2.2.2.2.2))
 else(
 (iter (fun x=>qdz s s2 x.1 x.2.1 x.2.2.1 x.2.2.2.1 x.2.2.2.2) (0,s2.2.1,s2.2.2.1,s2.2.2.2.1,s2.2.2.2.2)).bind fun s3=>
 s3.elim (fun s4=>
 some (0,s4.1,s4.2.1,s4.2.2.1,s4.2.2.2))
 (fun s5=>
 some (s5.1,s5.2.1,s5.2.2.1,s5.2.2.2.1,s5.2.2.2.2)))
def qpF:Fun:=
 ⟨212,3,1,
 ⟨r34_,v6_,a1_⟩,
 ⟨[(0,ii)],v6_,a1_⟩,
 fun x=>qoo x.1 x.2.1 x.2.2.1 x.2.2.2.1 x.2.2.2.2.1 x.2.2.2.2.2⟩
theorem quD:FO qpF:=fi [] [qon] 47 [] ((nn (mm (mm (.mk [.join [⟨.n,⟨[(1,pt 0 0),(5,pt 96 0),(18,bb)],v53_,a1_⟩⟩]] none .nil .nil) .nil) (mm (nn (mm (.mk [] (some (⟨[(1,pt 0 0),(5,pt 96 0),(22,ow 1),(23,kk),(24,ii)],v53_,a1_⟩,[⟨.x 0,⟨[],v6_,a1_⟩⟩,⟨.r,⟨[(6,ii)],v6_,a1_⟩⟩])) .nil .nil) .nil)) .nil)))) func212 ⟨⟨qtn,trivial⟩,trivial⟩
def qmj(n:yB0)(s:yB5)(d:yB4)(d2:List Int)(d3:List Int)(d4:List Bool):Option yB10:=
 (qmd (s.1,(s.2.1,(s.2.2.1,(s.2.2.2.1,(s.2.2.2.2.1,(s.2.2.2.2.2.1,s.2.2.2.2.2.2))))))).bind fun r=>
 bif !r then(
 some (22,d,d2,d3,d4))
 else(
 bif decide (s.1=0) then(gd (inB 0 7)<|
 none)
 else(
 bif decide (s.1=1) then(gd (inB 1 7)<|
 (qli (n.1,(n.2.1,(n.2.2.1,(n.2.2.2.1,(n.2.2.2.2.1,n.2.2.2.2.2))))) (s.1,(s.2.1,(s.2.2.1,(s.2.2.2.1,(s.2.2.2.2.1,(s.2.2.2.2.2.1,s.2.2.2.2.2.2)))))) d d2 d3 d4).bind fun r2=>
 some (r2.1,r2.2.1,r2.2.2.1,r2.2.2.2.1,r2.2.2.2.2))
 else(
 bif decide (s.1=2) then(gd (inB 2 7)<|
 (qli (n.1,(n.2.1,(n.2.2.1,(n.2.2.2.1,(n.2.2.2.2.1,n.2.2.2.2.2))))) (s.1,(s.2.1,(s.2.2.1,(s.2.2.2.1,(s.2.2.2.2.1,(s.2.2.2.2.2.1,s.2.2.2.2.2.2)))))) d d2 d3 d4).bind fun r3=>
 some (r3.1,r3.2.1,r3.2.2.1,r3.2.2.2.1,r3.2.2.2.2))
 else(
 bif decide (s.1=3) then(gd (inB 3 7)<|
 (qoh (n.1,(n.2.1,(n.2.2.1,(n.2.2.2.1,(n.2.2.2.2.1,n.2.2.2.2.2))))) (s.1,(s.2.1,(s.2.2.1,(s.2.2.2.1,(s.2.2.2.2.1,(s.2.2.2.2.2.1,s.2.2.2.2.2.2)))))) d d2 d3 d4).bind fun r4=>
 some (r4.1,r4.2.1,r4.2.2.1,r4.2.2.2.1,r4.2.2.2.2))
 else(
 bif decide (s.1=4) then(gd (inB 4 7)<|
 (qoh (n.1,(n.2.1,(n.2.2.1,(n.2.2.2.1,(n.2.2.2.2.1,n.2.2.2.2.2))))) (s.1,(s.2.1,(s.2.2.1,(s.2.2.2.1,(s.2.2.2.2.1,(s.2.2.2.2.2.1,s.2.2.2.2.2.2)))))) d d2 d3 d4).bind fun r5=>
 some (r5.1,r5.2.1,r5.2.2.1,r5.2.2.2.1,r5.2.2.2.2))
 else(
 bif decide (s.1=5) then(gd (inB 5 7)<|
 (qjU (n.1,(n.2.1,(n.2.2.1,(n.2.2.2.1,(n.2.2.2.2.1,n.2.2.2.2.2))))) (s.1,(s.2.1,(s.2.2.1,(s.2.2.2.1,(s.2.2.2.2.1,(s.2.2.2.2.2.1,s.2.2.2.2.2.2)))))) d d2 d3 d4).bind fun r6=>
 some (r6.1,r6.2.1,r6.2.2.1,r6.2.2.2.1,r6.2.2.2.2))
 else(
 bif decide (s.1=6) then(gd (inB 6 7)<|
 (qoo (n.1,(n.2.1,(n.2.2.1,(n.2.2.2.1,(n.2.2.2.2.1,n.2.2.2.2.2))))) (s.1,(s.2.1,(s.2.2.1,(s.2.2.2.1,(s.2.2.2.2.1,(s.2.2.2.2.2.1,s.2.2.2.2.2.2)))))) d d2 d3 d4).bind fun r7=>
 some (r7.1,r7.2.1,r7.2.2.1,r7.2.2.2.1,r7.2.2.2.2))
 else(
 none))))))))
def qop:Fun:=
 ⟨186,3,1,
 ⟨r34_,v6_,a1_⟩,
 ⟨[(0,ii)],v6_,a1_⟩,
 fun x=>qmj x.1 x.2.1 x.2.2.1 x.2.2.2.1 x.2.2.2.2.1 x.2.2.2.2.2⟩
theorem qto:FO qop:=fi [4000014] [qog,qpE,qra,qmP,qpF] 20 [] .nil func186 ⟨⟨qth,quC,qvN,qrW,quD,trivial⟩,trivial⟩
def qmk(n:yB0)(d:yB6)(s:yB5):Option yB10:=
 (qmc (n.1,(n.2.1,(n.2.2.1,(n.2.2.2.1,(n.2.2.2.2.1,n.2.2.2.2.2))))) (d.1,(d.2.1,(d.2.2.1,d.2.2.2)))).bind fun r=>
 bif !decide (r=0) then(
 (qhn (d.1,(d.2.1,(d.2.2.1,d.2.2.2)))).bind fun r2=>
 some (r,r2.1,r2.2.1,r2.2.2.1,r2.2.2.2))
 else(
 (qhn (d.1,(d.2.1,(d.2.2.1,d.2.2.2)))).bind fun r3=>
 (qmj (n.1,(n.2.1,(n.2.2.1,(n.2.2.2.1,(n.2.2.2.2.1,n.2.2.2.2.2))))) (s.1,(s.2.1,(s.2.2.1,(s.2.2.2.1,(s.2.2.2.2.1,(s.2.2.2.2.2.1,s.2.2.2.2.2.2)))))) r3.1 r3.2.1 r3.2.2.1 r3.2.2.2).bind fun r4=>
 bif !decide (r4.1=0) then(
 (qhn (d.1,(d.2.1,(d.2.2.1,d.2.2.2)))).bind fun r5=>
 some (r4.1,r5.1,r5.2.1,r5.2.2.1,r5.2.2.2))
 else(
 some (0,r4.2.1,r4.2.2.1,r4.2.2.2.1,r4.2.2.2.2)))
def qoq:Fun:=
 ⟨135,3,2,
 ⟨r35_,[],[]⟩,
 ⟨[(0,.agg [.own 0,.own 1,.own 2,.own 3]),(1,ii)],[],a70_⟩,
 fun x=>qmk x.1 x.2.1 x.2.2⟩
theorem qtp:FO qoq:=fi [] [qof,qlb,qop] 30 [] .nil func135 ⟨⟨qtg,qpB,qto,trivial⟩,trivial⟩
def qfP(n:yB0)(r:yB9)(c:Int)(c2:yB4)(c3:List Int)(c4:List Int)(c5:List Bool)(c6:List yB3)(c7:List yB2):Option (Int×Int×yB4×List Int×List Int×List Bool×(List yB3)×List yB2):=
 Option.bind (α:=yB15) (
 bif decide (0<(r.2.1.length:Int)) then(
 some (true,c2,c3,c4,c5,c6,c7))
 else(
 some ((!(decide (r.2.2.2.1=[])&&(decide (r.2.2.2.2.1=0)&&decide (r.2.2.2.2.2=0)))),c2,c3,c4,c5,c6,c7))) fun s=>
 bif s.1 then(
 some (28,c,s.2.1,s.2.2.1,s.2.2.2.1,s.2.2.2.2.1,s.2.2.2.2.2.1,s.2.2.2.2.2.2))
 else(
 (qmk (n.1,(n.2.1,(n.2.2.1,(n.2.2.2.1,(n.2.2.2.2.1,n.2.2.2.2.2))))) (s.2.1,(s.2.2.1,(s.2.2.2.1,s.2.2.2.2.1))) (r.2.2.1.1,(r.2.2.1.2.1,(r.2.2.1.2.2.1,(r.2.2.1.2.2.2.1,(r.2.2.1.2.2.2.2.1,(r.2.2.1.2.2.2.2.2.1,r.2.2.1.2.2.2.2.2.2))))))).bind fun r2=>
 some (r2.1,c,r2.2.1,r2.2.2.1,r2.2.2.2.1,r2.2.2.2.2,s.2.2.2.2.2.1,s.2.2.2.2.2.2))
def qi9:Fun:=
 ⟨76,3,1,
 ⟨r18_,v75_,a8_⟩,
 ⟨[(0,ii)],v71_,a40_⟩,
 fun x=>qfP x.1 x.2.1 x.2.2.1 x.2.2.2.1 x.2.2.2.2.1 x.2.2.2.2.2.1 x.2.2.2.2.2.2.1 x.2.2.2.2.2.2.2.1 x.2.2.2.2.2.2.2.2⟩
theorem qpe:FO qi9:=fi [] [qoq] 35 [] ((nn (mm (mm (.mk [.join [⟨.n,⟨[(1,pt 0 0),(3,pt 64 0),(5,pt 96 0),(18,bb)],[(0,44,[.own 1,.own 2,.own 3,.own 4,.own 5,.own 6,.keep]),(64,32,(kp 6)),(96,62,(kp 12))],a8_⟩⟩]] none .nil .nil) .nil) .nil))) func76 ⟨⟨qtp,trivial⟩,trivial⟩
def qck(n:Int):Option (Bool):=
 bif decide (0<=n) then(
 some (decide (n<=1099511627776)))
 else(
 some false)
def qfb:Fun:=
 ⟨213,1,1,
 ⟨[(0,ii)],[],[]⟩,
 ⟨[(0,bb)],[],[]⟩,
 fun x=>qck x⟩
theorem qij:FO qfb:=fi [] [] 9 [] .nil func213 ⟨trivial,trivial⟩
def qdA(n:Int):Option (Bool):=
 bif decide ((-1099511627776)<=n) then(
 some (decide (n<=1099511627776)))
 else(
 some false)
def qfc:Fun:=
 ⟨214,1,1,
 ⟨[(0,ii)],[],[]⟩,
 ⟨[(0,bb)],[],[]⟩,
 fun x=>qdA x⟩
theorem qik:FO qfc:=fi [] [] 9 [] .nil func214 ⟨trivial,trivial⟩
def qcw(a:yB2):Option (Bool):=
 (qck a.2.1).bind fun r=>
 bif r then(
 (qck a.2.2.1).bind fun r2=>
 bif r2 then(
 (qck a.2.2.2.1).bind fun r3=>
 bif r3 then(
 (qdA a.2.2.2.2).bind fun r4=>
 some r4)
 else(
 some false))
 else(
 some false))
 else(
 some false)
def qgy:Fun:=
 ⟨191,1,1,
 ⟨[(0,dd tT3)],[],[]⟩,
 ⟨[(0,bb)],[],[]⟩,
 fun x=>qcw x⟩
theorem qkB:FO qgy:=fi [] [qfb,qfc] 21 [] .nil func191 ⟨⟨qij,qik,trivial⟩,trivial⟩
def qdd(l:List yB2)(v:Int):Option (Int⊕(Unit⊕Bool)):=
 bif decide (v<(l.length:Int)) then(
 gd (inB v l.length)<|
 Option.bind (α:=Bool) (
 (qcw ((l.getD v.toNat ([],(0,(0,(0,0))))).1,(((l.getD v.toNat ([],(0,(0,(0,0))))).2).1,((((l.getD v.toNat ([],(0,(0,(0,0))))).2).2).1,(((((l.getD v.toNat ([],(0,(0,(0,0))))).2).2).2).1,((((l.getD v.toNat ([],(0,(0,(0,0))))).2).2).2).2))))).bind fun r=>
 bif !r then(
 some true)
 else(
 (qcN ((l.getD v.toNat ([],(0,(0,(0,0))))).1)).bind fun r2=>
 bif !r2 then(
 some true)
 else(
 bif decide (0<v) then(
 gd (inB (wi64 (v-1)) l.length)<|
 some (Op.bytesLess ((l.getD v.toNat ([],(0,(0,(0,0))))).1) ((l.getD (wi64 (v-1)).toNat ([],(0,(0,(0,0))))).1) || decide ((l.getD v.toNat ([],(0,(0,(0,0))))).1=(l.getD (wi64 (v-1)).toNat ([],(0,(0,(0,0))))).1)))
 else(
 some false)))) fun s=>
 bif s then(
 some (.inr (.inr false)))
 else(
 some (.inl (wi64 (v+1)))))
 else(
 some (.inr (.inl ())))
def qgV(l:List yB2):Option (Bool):=
 (iter (fun x=>qdd l x) 0).bind fun s2=>
 s2.elim (fun s3=>
 some (decide ((l.length:Int)<=64)))
 (fun s4=>
 some s4)
def qkC:Fun:=
 ⟨187,1,1,
 ⟨[(0,dd (.sl tT3))],[],[]⟩,
 ⟨[(0,bb)],[],[]⟩,
 fun x=>qgV x⟩
theorem qpX:FO qkC:=fi [] [qgy,qgM] 40 [] ((nn (mm (nn (mm (.mk [] (some (⟨[(0,kk),(5,kk),(6,kk),(7,ii)],[],[]⟩,[⟨.x 0,⟨[(0,kk)],[],[]⟩⟩,⟨.r,⟨[(2,bb)],[],[]⟩⟩])) (nn (nn (mm (mm (nn (mm (.mk [.join [⟨.n,⟨[(0,kk),(5,kk),(6,kk),(7,kk),(35,bb)],[],[]⟩⟩]] none .nil .nil) .nil)) .nil) .nil))) .nil) .nil)) .nil))) func187 ⟨⟨qkB,qjI,trivial⟩,trivial⟩
def qd7(e:List UInt8×Int×Int):Option (Bool):=
 Option.bind (α:=Bool) (
 bif decide (e.2.1=1) then(
 some (decide (e.2.1=1)))
 else(
 Option.bind (α:=Bool) (
 bif decide (e.2.1=2) then(
 some (decide (e.2.1=2)))
 else(
 some (decide (e.2.1=3)))) fun s=>
 some s)) fun s2=>
 bif s2 then(
 (qck e.2.2).bind fun r=>
 bif r then(
 (qcN e.1).bind fun r2=>
 some r2)
 else(
 some false))
 else(
 bif decide (e.2.1=4) then(
 (qdA e.2.2).bind fun r3=>
 bif r3 then(
 (qcN e.1).bind fun r4=>
 some r4)
 else(
 some false))
 else(
 some false))
def qja:Fun:=
 ⟨188,1,1,
 ⟨r132_,[],[]⟩,
 ⟨[(0,bb)],[],[]⟩,
 fun x=>qd7 x⟩
theorem qpf:FO qja:=fi [] [qfb,qgM,qfc] 27 [] ((nn (mm (nn (mm (mm (nn (.mk [.join [⟨.n,⟨r96_,v117_,[]⟩⟩]] none .nil (nn (.mk [.join [⟨.n,⟨r96_,v117_,[]⟩⟩]] none .nil .nil)))) .nil) .nil)) .nil))) func188 ⟨⟨qij,qjI,qik,trivial⟩,trivial⟩
def qav(x:List yB2)(target:List UInt8)(cmp:yB2×List UInt8×Unit->Option Int)(i:Int)(j:Int):Option ((Int×Int)⊕Int):=
 bif decide (i<j) then(
 gd (inB (wi64 (Int.fdiv (wu64 (wi64 (i+j))) (2^shAmt .u64 1))) x.length)<|
 (cmp (x.getD (wi64 (Int.fdiv (wu64 (wi64 (i+j))) (2^shAmt .u64 1))).toNat ([],(0,(0,(0,0)))),target,())).bind fun r=>
 bif decide (r<0) then(
 some (.inl (wi64 ((wi64 (Int.fdiv (wu64 (wi64 (i+j))) (2^shAmt .u64 1)))+1),j)))
 else(
 some (.inl (i,wi64 (Int.fdiv (wu64 (wi64 (i+j))) (2^shAmt .u64 1))))))
 else(
 some (.inr i))
def qaA(x:List yB2)(target:List UInt8)(cmp:yB2×List UInt8×Unit->Option Int):Option (Int×Bool):=
 (iter (fun x2=>qav x target cmp x2.1 x2.2) (0,(x.length:Int))).bind fun s=>
 bif decide (s<(x.length:Int)) then(
 gd (inB s x.length)<|
 (cmp (x.getD s.toNat ([],(0,(0,(0,0)))),target,())).bind fun r2=>
 some (s,decide (r2=0)))
 else(
 some (s,false))
def qaS:Fun:=
 ⟨215,3,2,
 ⟨[(0,dd (.sl tT3)),(1,ss),(2,.one (.fn [.pair (.str) (.pair I6 (.pair I6 (.pair I6 I6))),.str] I6))],[],[]⟩,
 ⟨[(0,ii),(1,bb)],[],[]⟩,
 fun x=>qaA x.1 x.2.1 x.2.2⟩
theorem qbJ:FO qaS:=fi [] [] 49 [] ((nn (nn (nn (mm (mm (.mk [] (some (⟨r137_,[],[]⟩,[⟨.x 0,⟨[(0,kk),(1,kk),(2,kk),(8,kk),(9,ii)],[],[]⟩⟩])) .nil .nil) .nil) .nil))))) func215 ⟨trivial,trivial⟩
def qcT(a:List UInt8)(b:List UInt8):Option (Int):=
 (qBr a b).bind fun r=>
 some r
def qcx:Fun:=
 ⟨232,2,1,
 ⟨[(0,ss),(1,ss)],[],[]⟩,
 ⟨[(0,ii)],[],[]⟩,
 fun x=>qcT x.1 x.2⟩
theorem qfd:FO qcx:=fi [] [] 8 [xt243] .nil func232 ⟨trivial,⟨xk243,trivial⟩⟩
def qlm(a:List UInt8)(b:List UInt8):Option (Int):=
 (qcT a b).bind fun r=>
 some r
def qil:Fun:=
 ⟨217,2,1,
 ⟨[(0,ss),(1,ss)],[],[]⟩,
 ⟨[(0,ii)],[],[]⟩,
 fun x=>qlm x.1 x.2⟩
theorem qor:FO qil:=fi [] [qcx] 8 [] .nil func217 ⟨⟨qfd,trivial⟩,trivial⟩
def qd8(a:yB2)(s:List UInt8):Option (Int):=
 (qlm a.1 s).bind fun r=>
 some r
def qjb:Fun:=
 ⟨216,2,1,
 ⟨[(0,dd tT3),(1,ss)],[],[]⟩,
 ⟨[(0,ii)],[],[]⟩,
 fun x=>qd8 x.1 x.2⟩
theorem qpg:FO qjb:=fi [] [qil] 9 [] .nil func216 ⟨⟨qor,trivial⟩,trivial⟩
def qim(l:List yB2)(shipper:List UInt8):Option (Int×Bool):=
 (qaA l shipper (fun h=>(qd8 h.1 h.2.1).bind fun y=>some y)).bind fun r=>
 some (r.1,r.2)
def qln:Fun:=
 ⟨189,2,2,
 ⟨[(0,dd (.sl tT3)),(1,ss)],[],[]⟩,
 ⟨[(0,ii),(1,bb)],[],[]⟩,
 fun x=>qim x.1 x.2⟩
theorem qrd:FO qln:=fi [] [qaS,qjb] 11 [] .nil func189 ⟨⟨qbJ,qpg,trivial⟩,trivial⟩
def qdg(a:yB2)(e:List UInt8×Int×Int):Option yB2:=
 Option.bind (α:=Int×Int×Int×Int) (
 bif decide (e.2.1=1) then(
 some (wi64 (a.2.1+e.2.2),a.2.2.1,a.2.2.2.1,a.2.2.2.2))
 else(
 Option.bind (α:=Int×Int×Int) (
 bif decide (e.2.1=2) then(
 some (wi64 (a.2.2.1+e.2.2),a.2.2.2.1,a.2.2.2.2))
 else(
 Option.bind (α:=Int×Int) (
 bif decide (e.2.1=3) then(
 some (wi64 (a.2.2.2.1+e.2.2),a.2.2.2.2))
 else(
 Option.bind (α:=Int) (
 bif decide (e.2.1=4) then(
 some (wi64 (a.2.2.2.2+e.2.2)))
 else(
 some a.2.2.2.2)) fun s=>
 some (a.2.2.2.1,s))) fun s2=>
 some (a.2.2.1,s2.1,s2.2))) fun s3=>
 some (a.2.1,s3.1,s3.2.1,s3.2.2))) fun s4=>
 some (a.1,(s4.1,(s4.2.1,(s4.2.2.1,s4.2.2.2))))
def qjc:Fun:=
 ⟨190,2,1,
 ⟨[(0,dd tT3),(1,dd (.pair (.str) (.pair I6 I6)))],[],[]⟩,
 ⟨[(0,dd tT3)],[],[]⟩,
 fun x=>qdg x.1 x.2⟩
theorem qph:FO qjc:=fi [] [] 40 [] ((nn (mm (nn (mm (nn (.mk [.join [⟨.n,⟨r114_,[(48,86,[.keep,.data I6,.data I6,.data I6,.data I6]),(80,86,(kp 5))],[]⟩⟩]] none .nil (nn (.mk [.join [⟨.n,⟨r114_,[(48,86,[.keep,.keep,.data I6,.data I6,.data I6]),(80,86,(kp 5))],[]⟩⟩]] none .nil (nn (.mk [.join [⟨.n,⟨r114_,[(48,86,[.keep,.keep,.keep,.data I6,.data I6]),(80,86,(kp 5))],[]⟩⟩]] none .nil (nn (.mk [.join [⟨.n,⟨r114_,[(48,86,[.keep,.keep,.keep,.keep,.data I6]),(80,86,(kp 5))],[]⟩⟩]] none .nil .nil)))))))) .nil)) .nil))) func190 ⟨trivial,trivial⟩
def qgj(l:List yB2)(e:List UInt8×Int×Int):Option (Int×List yB2):=
 (qan l).bind fun r=>
 Option.bind (α:=Bool×List yB2) (
 (qgV l).bind fun r2=>
 bif !r2 then(
 some (true,r))
 else(
 (qd7 (e.1,(e.2.1,e.2.2))).bind fun r3=>
 some ((!r3),r))) fun s=>
 bif s.1 then(
 some (27,s.2))
 else(
 (qim l e.1).bind fun r4=>
 Option.bind (α:=List UInt8×Int×Int×Int×Int×List yB2) (
 bif r4.2 then(
 gd (inB r4.1 l.length)<|
 some ((l.getD r4.1.toNat ([],(0,(0,(0,0))))).1,((l.getD r4.1.toNat ([],(0,(0,(0,0))))).2).1,(((l.getD r4.1.toNat ([],(0,(0,(0,0))))).2).2).1,((((l.getD r4.1.toNat ([],(0,(0,(0,0))))).2).2).2).1,((((l.getD r4.1.toNat ([],(0,(0,(0,0))))).2).2).2).2,s.2))
 else(
 some (e.1,0,0,0,0,s.2))) fun s2=>
 (qdg (s2.1,(s2.2.1,(s2.2.2.1,(s2.2.2.2.1,s2.2.2.2.2.1)))) (e.1,(e.2.1,e.2.2))).bind fun r5=>
 Option.bind (α:=Bool×List yB2) (
 (qcw (r5.1,(r5.2.1,(r5.2.2.1,(r5.2.2.2.1,r5.2.2.2.2))))).bind fun r6=>
 bif !r6 then(
 some (true,s2.2.2.2.2.2))
 else(
 bif !r4.2 then(
 some (decide ((l.length:Int)=64),s2.2.2.2.2.2))
 else(
 some (false,s2.2.2.2.2.2)))) fun s3=>
 bif s3.1 then(
 some (4,s3.2))
 else(
 bif r4.2 then(
 gd (inB r4.1 s3.2.length)<|
 some (0,s3.2.set r4.1.toNat (r5.1,(r5.2.1,(r5.2.2.1,(r5.2.2.2.1,r5.2.2.2.2))))))
 else(
 gd (decide (r4.1=r4.1)&&cutG none (some (.i64,r4.1)) s3.2.length)<|
 gd (fits ((s3.2.take r4.1.toNat).length+1) 48)<|
 gd (cutG (some (.i64,r4.1)) none l.length)<|
 gd (fits (((s3.2.take r4.1.toNat)++[(r5.1,(r5.2.1,(r5.2.2.1,(r5.2.2.2.1,r5.2.2.2.2))))]).length+(l.drop r4.1.toNat).length) 48)<|
 some (0,((s3.2.take r4.1.toNat)++[(r5.1,(r5.2.1,(r5.2.2.1,(r5.2.2.2.1,r5.2.2.2.2))))])++(l.drop r4.1.toNat)))))
def qlo:Fun:=
 ⟨136,2,2,
 ⟨r134_,[],[]⟩,
 ⟨r115_,[],[(0,.arr 86 tT3)]⟩,
 fun x=>qgj x.1 x.2⟩
theorem qre:FO qlo:=fi [61] [qa7,qkC,qja,qln,qjc,qgy] 69 [] ((nn (nn (mm (mm (.mk [.join [⟨.n,⟨[(0,kk),(3,pt 64 0),(6,ow 192),(19,bb)],v65_,[(192,.arr 86 tT3)]⟩⟩]] none .nil .nil) .nil) (nn (nn (mm (nn (.mk [.join [⟨.n,⟨[(0,kk),(3,pt 64 0),(6,ow 192),(7,kk),(8,kk),(9,pt 160 0)],[(64,60,[.keep,.keep,.keep]),(160,86,[.data (.str),.data I6,.data I6,.data I6,.data I6])],[(192,.arr 86 tT3)]⟩⟩]] none .nil .nil)) (mm (nn (mm (.mk [.join [⟨.n,⟨[(0,kk),(6,ow 192),(7,kk),(8,kk),(9,pt 160 0),(50,bb)],[(160,86,(kp 5))],[(192,.arr 86 tT3)]⟩⟩]] none .nil .nil) .nil)) (nn (mm (.mk [.fz [6]] none .nil .nil) .nil)))))))))) func136 ⟨⟨qbH,qpX,qpf,qrd,qph,qkB,trivial⟩,trivial⟩
def qjW(v:yB0)(r:yB9)(c:Int)(c2:yB4)(c3:List Int)(c4:List Int)(c5:List Bool)(c6:List yB3)(c7:List yB2):Option (Int×Int×yB4×List Int×List Int×List Bool×(List yB3)×List yB2):=
 Option.bind (α:=yB15) (
 bif decide (0<(r.2.1.length:Int)) then(
 some (true,c2,c3,c4,c5,c6,c7))
 else(
 (qe7 (r.2.2.1.1,(r.2.2.1.2.1,(r.2.2.1.2.2.1,(r.2.2.1.2.2.2.1,(r.2.2.1.2.2.2.2.1,(r.2.2.1.2.2.2.2.2.1,r.2.2.1.2.2.2.2.2.2))))))).bind fun r2=>
 some ((!r2),c2,c3,c4,c5,c6,c7))) fun s=>
 bif s.1 then(
 some (28,c,s.2.1,s.2.2.1,s.2.2.2.1,s.2.2.2.2.1,s.2.2.2.2.2.1,s.2.2.2.2.2.2))
 else(
 (qgj s.2.2.2.2.2.2 (r.2.2.2.1,(r.2.2.2.2.1,r.2.2.2.2.2))).bind fun r3=>
 some (r3.1,c,s.2.1,s.2.2.1,s.2.2.2.1,s.2.2.2.2.1,s.2.2.2.2.2.1,r3.2))
def qmR:Fun:=
 ⟨77,3,1,
 ⟨r18_,v75_,a8_⟩,
 ⟨[(0,ii)],v71_,a40_⟩,
 fun x=>qjW x.1 x.2.1 x.2.2.1 x.2.2.2.1 x.2.2.2.2.1 x.2.2.2.2.2.1 x.2.2.2.2.2.2.1 x.2.2.2.2.2.2.2.1 x.2.2.2.2.2.2.2.2⟩
theorem qrY:FO qmR:=fi [] [qgx,qlo] 34 [] ((nn (mm (mm (.mk [.join [⟨.n,⟨[(1,pt 0 0),(5,pt 96 0),(18,bb)],v90_,a8_⟩⟩]] none .nil .nil) .nil) .nil))) func77 ⟨⟨qkv,qre,trivial⟩,trivial⟩
def qcU(n:yB0)(c:yB1)(r:yB9):Option (yB1×Int):=
 bif decide (c.2.2.2=1000) then(
 (qbU ((c.1.1,(c.1.2.1,(c.1.2.2.1,c.1.2.2.2))),(c.2.1,(c.2.2.1,c.2.2.2)))).bind fun r2=>
 some (((r2.2.1,(r2.2.2.1,(r2.2.2.2.1,r2.2.2.2.2.1))),(r2.2.2.2.2.2.1,(r2.2.2.2.2.2.2,r2.1))),4))
 else(
 bif !((mget keyI (mput keyI (mput keyI (mput keyI [] 1 1) 2 2) 3 3) r.1).isSome) then(
 (qbU ((c.1.1,(c.1.2.1,(c.1.2.2.1,c.1.2.2.2))),(c.2.1,(c.2.2.1,c.2.2.2)))).bind fun r3=>
 some (((r3.2.1,(r3.2.2.1,(r3.2.2.2.1,r3.2.2.2.2.1))),(r3.2.2.2.2.2.1,(r3.2.2.2.2.2.2,r3.1))),28))
 else(
 (qbU ((c.1.1,(c.1.2.1,(c.1.2.2.1,c.1.2.2.2))),(c.2.1,(c.2.2.1,c.2.2.2)))).bind fun r4=>
 bif decide ((mget keyI (mput keyI (mput keyI (mput keyI [] 1 1) 2 2) 3 3) r.1).getD 0=1) then(
 (qgQ (n.1,(n.2.1,(n.2.2.1,(n.2.2.2.1,(n.2.2.2.2.1,n.2.2.2.2.2))))) (r.1,(r.2.1,((r.2.2.1.1,(r.2.2.1.2.1,(r.2.2.1.2.2.1,(r.2.2.1.2.2.2.1,(r.2.2.1.2.2.2.2.1,(r.2.2.1.2.2.2.2.2.1,r.2.2.1.2.2.2.2.2.2)))))),(r.2.2.2.1,(r.2.2.2.2.1,r.2.2.2.2.2))))) r4.1 r4.2.1 r4.2.2.1 r4.2.2.2.1 r4.2.2.2.2.1 r4.2.2.2.2.2.1 r4.2.2.2.2.2.2).bind fun r5=>
 bif !decide (r5.1=0) then(
 (qbU ((c.1.1,(c.1.2.1,(c.1.2.2.1,c.1.2.2.2))),(c.2.1,(c.2.2.1,c.2.2.2)))).bind fun r6=>
 some (((r6.2.1,(r6.2.2.1,(r6.2.2.2.1,r6.2.2.2.2.1))),(r6.2.2.2.2.2.1,(r6.2.2.2.2.2.2,r6.1))),r5.1))
 else(
 some (((r5.2.2.1,(r5.2.2.2.1,(r5.2.2.2.2.1,r5.2.2.2.2.2.1))),(r5.2.2.2.2.2.2.1,(r5.2.2.2.2.2.2.2,wi64 (r5.2.1+1)))),0)))
 else(
 bif decide ((mget keyI (mput keyI (mput keyI (mput keyI [] 1 1) 2 2) 3 3) r.1).getD 0=2) then(
 (qfP (n.1,(n.2.1,(n.2.2.1,(n.2.2.2.1,(n.2.2.2.2.1,n.2.2.2.2.2))))) (r.1,(r.2.1,((r.2.2.1.1,(r.2.2.1.2.1,(r.2.2.1.2.2.1,(r.2.2.1.2.2.2.1,(r.2.2.1.2.2.2.2.1,(r.2.2.1.2.2.2.2.2.1,r.2.2.1.2.2.2.2.2.2)))))),(r.2.2.2.1,(r.2.2.2.2.1,r.2.2.2.2.2))))) r4.1 r4.2.1 r4.2.2.1 r4.2.2.2.1 r4.2.2.2.2.1 r4.2.2.2.2.2.1 r4.2.2.2.2.2.2).bind fun r7=>
 bif !decide (r7.1=0) then(
 (qbU ((c.1.1,(c.1.2.1,(c.1.2.2.1,c.1.2.2.2))),(c.2.1,(c.2.2.1,c.2.2.2)))).bind fun r8=>
 some (((r8.2.1,(r8.2.2.1,(r8.2.2.2.1,r8.2.2.2.2.1))),(r8.2.2.2.2.2.1,(r8.2.2.2.2.2.2,r8.1))),r7.1))
 else(
 some (((r7.2.2.1,(r7.2.2.2.1,(r7.2.2.2.2.1,r7.2.2.2.2.2.1))),(r7.2.2.2.2.2.2.1,(r7.2.2.2.2.2.2.2,wi64 (r7.2.1+1)))),0)))
 else(
 bif decide ((mget keyI (mput keyI (mput keyI (mput keyI [] 1 1) 2 2) 3 3) r.1).getD 0=3) then(
 (qjW (n.1,(n.2.1,(n.2.2.1,(n.2.2.2.1,(n.2.2.2.2.1,n.2.2.2.2.2))))) (r.1,(r.2.1,((r.2.2.1.1,(r.2.2.1.2.1,(r.2.2.1.2.2.1,(r.2.2.1.2.2.2.1,(r.2.2.1.2.2.2.2.1,(r.2.2.1.2.2.2.2.2.1,r.2.2.1.2.2.2.2.2.2)))))),(r.2.2.2.1,(r.2.2.2.2.1,r.2.2.2.2.2))))) r4.1 r4.2.1 r4.2.2.1 r4.2.2.2.1 r4.2.2.2.2.1 r4.2.2.2.2.2.1 r4.2.2.2.2.2.2).bind fun r9=>
 bif !decide (r9.1=0) then(
 (qbU ((c.1.1,(c.1.2.1,(c.1.2.2.1,c.1.2.2.2))),(c.2.1,(c.2.2.1,c.2.2.2)))).bind fun r10=>
 some (((r10.2.1,(r10.2.2.1,(r10.2.2.2.1,r10.2.2.2.2.1))),(r10.2.2.2.2.2.1,(r10.2.2.2.2.2.2,r10.1))),r9.1))
 else(
 some (((r9.2.2.1,(r9.2.2.2.1,(r9.2.2.2.2.1,r9.2.2.2.2.2.1))),(r9.2.2.2.2.2.2.1,(r9.2.2.2.2.2.2.2,wi64 (r9.2.1+1)))),0)))
 else(
 none)))))
def qfe:Fun:=
 ⟨42,3,2,
 ⟨r20_,[],[]⟩,
 ⟨r12_,[],[]⟩,
 fun x=>qcU x.1 x.2.1 x.2.2⟩
theorem qhv:FO qfe:=fi [4000036] [qiN,qky,qi9,qmR] 47 [] .nil func42 ⟨⟨qmI,qpU,qpe,qrY,trivial⟩,trivial⟩
def qdh(u:Int)(out:List Int):Option ((Int×List Int)⊕(Int×List Int)):=
 bif decide (128<=u) then(
 gd (fits (out.length+1) 1)<|
 some (.inl (Int.fdiv u (2^shAmt .u64 7),out++[bitOr .u8 (wu8 u) 128])))
 else(
 some (.inr (u,out)))
def qhw(b:List Int)(n:Int):Option (List Int):=
 gd (fits (0+b.length) 1)<|
 (iter (fun x=>qdh x.1 x.2) (qq2 .u64 (wu64 ((wu64 n)*2^shAmt .u64 1)) (wu64 (Int.fdiv n (2^shAmt .i64 63))),([]++b))).bind fun s=>
 gd (fits (s.2.length+1) 1)<|
 some (s.2++[wu8 s.1])
def qmS:Fun:=
 ⟨81,2,1,
 ⟨r87_,[],[]⟩,
 ⟨[(0,ow 0)],[],a58_⟩,
 fun x=>qhw x.1 x.2⟩
theorem qrZ:FO qmS:=fi [] [] 31 [] ((nn (nn (nn (mm (mm (.mk [] (some (⟨r116_,[],a146_⟩,[⟨.x 0,⟨r116_,[],a146_⟩⟩])) .nil .nil) .nil) .nil))))) func81 ⟨trivial,trivial⟩
def qbS(l:List Int)(v2:Int)(v3:List Int):Option ((Int×List Int)⊕(List Int)):=
 bif decide (v2<(l.length:Int)) then(
 gd (inB v2 l.length)<|
 (qhw v3 (l.getD v2.toNat 0)).bind fun r=>
 some (.inl (wi64 (v2+1),r)))
 else(
 some (.inr v3))
def qaF(l:List Int)(v:List Int):Option (List Int):=
 (iter (fun x=>qbS l x.1 x.2) (0,v)).bind fun s=>
 some s
def qin:Fun:=
 ⟨80,2,0,
 ⟨[(0,dd (.sl I6)),(1,pt 0 0)],[(0,48,[.own 1])],[(1,.arr 5 (.int .u8))]⟩,
 ⟨[],[(0,48,[.own 2])],[(2,.arr 5 (.int .u8))]⟩,
 fun x=>qaF x.1 x.2⟩
theorem qos:FO qin:=fi [] [qmS] 15 [] ((nn (mm (.mk [] (some (⟨[(1,pt 0 0),(5,kk),(6,kk),(7,ii)],[(0,48,[.own 25])],[(25,.arr 5 (.int .u8))]⟩,[⟨.x 0,⟨[],[(0,48,[.own 25])],[(25,.arr 5 (.int .u8))]⟩⟩])) .nil .nil) .nil))) func80 ⟨⟨qrZ,trivial⟩,trivial⟩
def qbV(r:yB9)(v:Int)(out:List Int):Option ((Int×List Int)⊕(List Int)):=
 bif decide (v<(r.2.2.1.2.2.2.2.2.1.length:Int)) then(
 gd (inB v r.2.2.1.2.2.2.2.2.1.length)<|
 Option.bind (α:=Int×List Int) (
 bif (r.2.2.1.2.2.2.2.2.1.getD v.toNat (0,false)).2 then(
 some (1,out))
 else(
 some (0,out))) fun s3=>
 (qaF [(r.2.2.1.2.2.2.2.2.1.getD v.toNat (0,false)).1,s3.1] s3.2).bind fun r5=>
 some (.inl (wi64 (v+1),r5)))
 else(
 some (.inr out))
def qdN(r:yB9):Option (Int×List Int):=
 Option.bind (α:=Bool) (
 bif decide (21<(r.2.1.length:Int)) then(
 some true)
 else(
 bif decide (32<(r.2.2.1.2.2.2.2.2.1.length:Int)) then(
 some true)
 else(
 some (decide (12<(r.2.2.2.1.length:Int)))))) fun s=>
 bif s then(
 some (4,[]))
 else(
 Option.bind (α:=List Int) (
 some []) fun s2=>
 (qaF [r.1,(r.2.1.length:Int)] s2).bind fun r2=>
 (qaF r.2.1 r2).bind fun r3=>
 (qaF [r.2.2.1.1,r.2.2.1.2.1,r.2.2.1.2.2.1,r.2.2.1.2.2.2.1,r.2.2.1.2.2.2.2.1,(r.2.2.1.2.2.2.2.2.1.length:Int)] r3).bind fun r4=>
 (iter (fun x=>qbV r x.1 x.2) (0,r4)).bind fun s4=>
 (qaF [r.2.2.1.2.2.2.2.2.2,r.2.2.2.2.1,r.2.2.2.2.2,(r.2.2.2.1.length:Int)] s4).bind fun r6=>
 gd (Nat.blt 0 (r6.length+r.2.2.2.1.length)&&fits (r6.length+r.2.2.2.1.length) 1)<|
 some (0,r6++qk2 r.2.2.2.1))
def qgz:Fun:=
 ⟨46,1,2,
 ⟨r68_,[],[]⟩,
 ⟨r115_,[],a58_⟩,
 fun x=>qdN x⟩
theorem qkD:FO qgz:=fi [] [qin] 100 [] ((nn (mm (mm (.mk [.join [⟨.n,⟨[(1,pt 32 0),(29,bb)],[(32,62,(kp 12))],[]⟩⟩]] none .nil .nil) .nil) (mm (.mk [.join [⟨.n,⟨[(1,pt 32 0),(4,pt 91 0)],[(32,62,(kp 12)),(91,48,[.own 1481])],a142_⟩⟩]] none .nil .nil) (nn (nn (nn (nn (nn (mm (nn (mm (.mk [] (some (⟨[(1,pt 32 0),(4,pt 91 0),(5,.one (.clp 80 91 0)),(7,pt 128 0),(65,kk),(66,kk),(67,ii)],v127_,a142_⟩,[⟨.x 0,⟨[(1,pt 32 0),(4,pt 91 0),(5,.one (.clp 80 91 0)),(7,pt 128 0)],v127_,a142_⟩⟩])) (nn (nn (mm (mm (nn (nn (mm (nn (.mk [.join [⟨.n,⟨[(1,pt 32 0),(4,pt 91 0),(5,.one (.clp 80 91 0)),(7,pt 128 0),(9,pt 160 0),(10,ii),(65,kk),(66,kk),(67,kk)],[(32,62,(kp 12)),(91,48,[.own 1481]),(128,56,(kp 4)),(160,97,[.keep,.keep])],a142_⟩⟩]] none .nil .nil)) .nil))) .nil) .nil))) .nil) .nil)) .nil)))))))))) func46 ⟨⟨qos,trivial⟩,trivial⟩
def qdO(parts:List (List Int))(v:Int)(out:List Int):Option ((Int×List Int)⊕(List Int)):=
 bif decide (v<(parts.length:Int)) then(
 gd (inB v parts.length)<|
 gd (fits (out.length+(parts.getD v.toNat []).length) 1)<|
 some (.inl (wi64 (v+1),out++(parts.getD v.toNat []))))
 else(
 some (.inr out))
def qbl(parts:List (List Int)):Option (List Int):=
 (iter (fun x=>qdO parts x.1 x.2) (0,[])).bind fun s=>
 some s
def qce:Fun:=
 ⟨92,1,1,
 ⟨[(0,dd (.sl (.sl (.int .u8))))],[],[]⟩,
 ⟨[(0,ow 0)],[],a58_⟩,
 fun x=>qbl x⟩
theorem qcP:FO qce:=fi [] [] 17 [] ((nn (nn (mm (nn (mm (.mk [] (some (⟨[(3,ow 75),(6,kk),(7,kk),(8,ii)],[],[(75,.arr 5 (.int .u8))]⟩,[⟨.x 0,⟨[(3,ow 75)],[],[(75,.arr 5 (.int .u8))]⟩⟩])) .nil .nil) .nil)) .nil)))) func92 ⟨trivial,trivial⟩
def qpY(u:Int)(out:List Int):Option ((Int×List Int)⊕(Int×List Int)):=
 bif decide (128<=u) then(
 gd (fits (out.length+1) 1)<|
 some (.inl (Int.fdiv u (2^shAmt .u64 7),out++[bitOr .u8 (wu8 u) 128])))
 else(
 some (.inr (u,out)))
def qjX(b:List Int)(n:Int):Option (List Int):=
 gd (fits (0+b.length) 1)<|
 (iter (fun x=>qpY x.1 x.2) (qq2 .u64 (wu64 ((wu64 n)*2^shAmt .u64 1)) (wu64 (Int.fdiv n (2^shAmt .i64 63))),([]++b))).bind fun s=>
 gd (fits (s.2.length+1) 1)<|
 some (s.2++[wu8 s.1])
def qkE:Fun:=
 ⟨81,2,1,
 ⟨r87_,[],[]⟩,
 ⟨r62_,[],[]⟩,
 fun x=>qjX x.1 x.2⟩
theorem qpZ:FO qkE:=fi [] [] 31 [] ((nn (nn (nn (mm (mm (.mk [] (some (⟨r116_,[],a146_⟩,[⟨.x 0,⟨r116_,[],a146_⟩⟩])) .nil .nil) .nil) .nil))))) func81 ⟨trivial,trivial⟩
def qgW(b:List Int):Option (Int×List Int):=
 bif decide (4000<(b.length:Int)) then(
 some (4,[]))
 else(
 (qjX [] (b.length:Int)).bind fun r=>
 (qbl [r,b]).bind fun r2=>
 some (0,r2))
def qkF:Fun:=
 ⟨89,1,2,
 ⟨r62_,[],[]⟩,
 ⟨r115_,[],a58_⟩,
 fun x=>qgW x⟩
theorem qp0:FO qkF:=fi [] [qkE,qce] 13 [] .nil func89 ⟨⟨qpZ,qcP,trivial⟩,trivial⟩
def qdi(f:List Int×List Int):Option (List Int×List Int):=
 (qbl [f.1]).bind fun r=>
 (qbl [f.2]).bind fun r2=>
 some (r,r2)
def qjd:Fun:=
 ⟨90,1,1,
 ⟨r19_,[],[]⟩,
 ⟨r19_,[],[]⟩,
 fun x=>qdi x⟩
theorem qpi:FO qjd:=fi [] [qce] 12 [] .nil func90 ⟨⟨qcP,trivial⟩,trivial⟩
def qcC(b:List Int)(vat:Int)(u:Int)(v:Int):Option ((Int×Int)⊕(Unit⊕(Int×Int×Int))):=
 bif decide (v<10) then(
 bif decide ((b.length:Int)<=wi64 (vat+v)) then(
 some (.inr (.inr (0,0,2))))
 else(
 gd (inB (wi64 (vat+v)) b.length)<|
 gd (!decide (wi64 (7*v)<0))<|
 bif decide (128<=b.getD (wi64 (vat+v)).toNat 0) then(
 some (.inl (bitOr .u64 u (wu64 ((wu64 (qgc .u8 (b.getD (wi64 (vat+v)).toNat 0) 127))*2^shAmt .u64 (wi64 (7*v)))),wi64 (v+1))))
 else(
 Option.bind (α:=Bool) (
 bif decide (v=9) then(
 bif decide (1<b.getD (wi64 (vat+v)).toNat 0) then(
 some true)
 else(
 bif decide (0<v) then(
 some (decide (b.getD (wi64 (vat+v)).toNat 0=0)))
 else(
 some false)))
 else(
 bif decide (0<v) then(
 some (decide (b.getD (wi64 (vat+v)).toNat 0=0)))
 else(
 some false))) fun s2=>
 bif s2 then(
 some (.inr (.inr (0,0,3))))
 else(
 some (.inr (.inr (qq2 .i64 (wi64 (Int.fdiv (bitOr .u64 u (wu64 ((wu64 (qgc .u8 (b.getD (wi64 (vat+v)).toNat 0) 127))*2^shAmt .u64 (wi64 (7*v))))) (2^shAmt .u64 1))) (wi64 (0-(wi64 (qgc .u64 (bitOr .u64 u (wu64 ((wu64 (qgc .u8 (b.getD (wi64 (vat+v)).toNat 0) 127))*2^shAmt .u64 (wi64 (7*v))))) 1)))),wi64 ((wi64 (vat+v))+1),0)))))))
 else(
 some (.inr (.inl ())))
def qml(b:List Int)(vat:Int):Option (Int×Int×Int):=
 Option.bind (α:=Bool) (
 bif decide (vat<0) then(
 some true)
 else(
 some (decide ((b.length:Int)<vat)))) fun s=>
 bif s then(
 some (0,0,1))
 else(
 (iter (fun x=>qcC b vat x.1 x.2) (0,0)).bind fun s3=>
 s3.elim (fun s4=>
 some (0,0,3))
 (fun s5=>
 some (s5.1,s5.2.1,s5.2.2)))
def qnq:Fun:=
 ⟨141,2,3,
 ⟨r87_,[],[]⟩,
 ⟨r141_,[],[]⟩,
 fun x=>qml x.1 x.2⟩
theorem qrf:FO qnq:=fi [] [] 70 [] ((nn (mm (mm (.mk [.join [⟨.n,⟨[(0,kk),(1,kk),(17,bb)],[],[]⟩⟩]] none .nil .nil) .nil) (nn (mm (nn (mm (.mk [] (some (⟨[(0,kk),(1,kk),(7,dd (.int .u64)),(18,ii)],[],[]⟩,[⟨.x 0,⟨[],[],[]⟩⟩,⟨.r,⟨[(4,ii),(5,ii),(6,ii)],[],[]⟩⟩])) (nn (nn (mm (mm (nn (nn (nn (nn (nn (mm (mm (.mk [.join [⟨.n,⟨[(1,kk),(7,kk),(8,kk),(56,bb)],[],[]⟩⟩]] none .nil .nil) .nil) .nil)))))) .nil) .nil))) .nil) .nil)) .nil))))) func141 ⟨trivial,trivial⟩
def qhx(b:List Int)(vat:Int)(out:List (List Int)):Option ((Int×List (List Int))⊕(Int×List (List Int))):=
 bif decide (vat<(b.length:Int)) then(
 (qml b vat).bind fun r=>
 Option.bind (α:=Bool×List (List Int)) (
 bif !decide (r.2.2=0) then(
 some (true,out))
 else(
 bif decide (r.1<0) then(
 some (true,out))
 else(
 bif decide (4000<r.1) then(
 some (true,out))
 else(
 some (decide (wi64 ((b.length:Int)-r.2.1)<r.1),out))))) fun s=>
 bif s.1 then(
 some (.inr (vat,s.2)))
 else(
 gd (inR r.2.1 (wi64 (r.2.1+r.1)) b.length)<|
 (qaM ((b.take (wi64 (r.2.1+r.1)).toNat).drop r.2.1.toNat)).bind fun r2=>
 gd (fits (s.2.length+1) 24)<|
 some (.inl (wi64 (r.2.1+r.1),s.2++[r2]))))
 else(
 some (.inr (vat,out)))
def qgk(b:List Int):Option (Int×List (List Int)):=
 (iter (fun x=>qhx b x.1 x.2) (0,[])).bind fun s2=>
 some (s2.1,s2.2)
def qhy:Fun:=
 ⟨91,1,2,
 ⟨r62_,[],[]⟩,
 ⟨r115_,[],a125_⟩,
 fun x=>qgk x⟩
theorem qlp:FO qhy:=fi [] [qnq,qbB] 53 [] ((nn (nn (nn (mm (mm (.mk [] (some (⟨[(0,kk),(4,ow 91),(5,ii)],[],a80_⟩,[⟨.x 0,⟨[(4,ow 91),(5,ii)],[],a80_⟩⟩])) (nn (mm (nn (mm (mm (.mk [.join [⟨.n,⟨r131_,[],a80_⟩⟩]] none .nil .nil) .nil) .nil)) .nil)) .nil) .nil) .nil))))) func91 ⟨⟨qrf,qcA,trivial⟩,trivial⟩
def qfQ(f:List Int×List Int)(b:List Int):Option ((List Int×List Int)×Int):=
 (qgW b).bind fun r=>
 bif !decide (r.1=0) then(
 (qdi (f.1,f.2)).bind fun r2=>
 some ((r2.1,r2.2),r.1))
 else(
 (qgk f.1).bind fun r3=>
 bif !decide (r3.1=(f.1.length:Int)) then(
 (qdi (f.1,f.2)).bind fun r4=>
 some ((r4.1,r4.2),21))
 else(
 bif decide (65536<wi64 ((wi64 ((f.1.length:Int)+(f.2.length:Int)))+(r.2.length:Int))) then(
 (qdi (f.1,f.2)).bind fun r5=>
 some ((r5.1,r5.2),29))
 else(
 (qbl [f.1]).bind fun r6=>
 (qbl [f.2,r.2]).bind fun r7=>
 some ((r6,r7),0))))
def qje:Fun:=
 ⟨51,2,2,
 ⟨r103_,[],[]⟩,
 ⟨r59_,[],[]⟩,
 fun x=>qfQ x.1 x.2⟩
theorem qpj:FO qje:=fi [] [qkF,qjd,qhy,qce] 56 [] ((nn (nn (nn (nn (nn (mm (.mk [.fz [6]] none .nil .nil) .nil))))))) func51 ⟨⟨qp0,qpi,qlp,qcP,trivial⟩,trivial⟩
def qjY(f:List Int×List Int)(keep:Int):Option (List Int×List Int):=
 gd (cutG none (some (.i64,min (max 0 keep) (f.2.length:Int))) f.2.length)<|
 (qbl [f.1,f.2.take (min (max 0 keep) (f.2.length:Int)).toNat]).bind fun r=>
 some (r,[])
def qkG:Fun:=
 ⟨93,2,1,
 ⟨r59_,[],[]⟩,
 ⟨r19_,[],[]⟩,
 fun x=>qjY x.1 x.2⟩
theorem qp1:FO qkG:=fi [] [qce] 19 [] .nil func93 ⟨⟨qcP,trivial⟩,trivial⟩
def qio(f:List Int×List Int):Option (List Int×List Int):=
 (qjY (f.1,f.2) (f.2.length:Int)).bind fun r=>
 some (r.1,r.2)
def qlq:Fun:=
 ⟨52,1,1,
 ⟨r19_,[],[]⟩,
 ⟨r19_,[],[]⟩,
 fun x=>qio x⟩
theorem qrg:FO qlq:=fi [] [qkG] 8 [] .nil func52 ⟨⟨qp1,trivial⟩,trivial⟩
def qgl(n:yB0)(f:List Int×List Int)(c:yB1)(r:yB9):Option ((List Int×List Int)×yB1×Int):=
 (qaM f.1).bind fun r2=>
 (qaM f.2).bind fun r3=>
 (qcU (n.1,(n.2.1,(n.2.2.1,(n.2.2.2.1,(n.2.2.2.2.1,n.2.2.2.2.2))))) ((c.1.1,(c.1.2.1,(c.1.2.2.1,c.1.2.2.2))),(c.2.1,(c.2.2.1,c.2.2.2))) (r.1,(r.2.1,((r.2.2.1.1,(r.2.2.1.2.1,(r.2.2.1.2.2.1,(r.2.2.1.2.2.2.1,(r.2.2.1.2.2.2.2.1,(r.2.2.1.2.2.2.2.2.1,r.2.2.1.2.2.2.2.2.2)))))),(r.2.2.2.1,(r.2.2.2.2.1,r.2.2.2.2.2)))))).bind fun r4=>
 bif !decide (r4.2=0) then(
 (qbU ((c.1.1,(c.1.2.1,(c.1.2.2.1,c.1.2.2.2))),(c.2.1,(c.2.2.1,c.2.2.2)))).bind fun r5=>
 some ((r2,r3),((r5.2.1,(r5.2.2.1,(r5.2.2.2.1,r5.2.2.2.2.1))),(r5.2.2.2.2.2.1,(r5.2.2.2.2.2.2,r5.1))),r4.2))
 else(
 (qdN (r.1,(r.2.1,((r.2.2.1.1,(r.2.2.1.2.1,(r.2.2.1.2.2.1,(r.2.2.1.2.2.2.1,(r.2.2.1.2.2.2.2.1,(r.2.2.1.2.2.2.2.2.1,r.2.2.1.2.2.2.2.2.2)))))),(r.2.2.2.1,(r.2.2.2.2.1,r.2.2.2.2.2)))))).bind fun r6=>
 bif !decide (r6.1=0) then(
 (qbU ((c.1.1,(c.1.2.1,(c.1.2.2.1,c.1.2.2.2))),(c.2.1,(c.2.2.1,c.2.2.2)))).bind fun r7=>
 some ((r2,r3),((r7.2.1,(r7.2.2.1,(r7.2.2.2.1,r7.2.2.2.2.1))),(r7.2.2.2.2.2.1,(r7.2.2.2.2.2.2,r7.1))),r6.1))
 else(
 (qfQ (f.1,f.2) r6.2).bind fun r8=>
 bif !decide (r8.2=0) then(
 (qbU ((c.1.1,(c.1.2.1,(c.1.2.2.1,c.1.2.2.2))),(c.2.1,(c.2.2.1,c.2.2.2)))).bind fun r9=>
 some ((r2,r3),((r9.2.1,(r9.2.2.1,(r9.2.2.2.1,r9.2.2.2.2.1))),(r9.2.2.2.2.2.1,(r9.2.2.2.2.2.2,r9.1))),r8.2))
 else(
 (qio (r8.1.1,r8.1.2)).bind fun r10=>
 some ((r10.1,r10.2),((r4.1.1.1,(r4.1.1.2.1,(r4.1.1.2.2.1,r4.1.1.2.2.2))),(r4.1.2.1,(r4.1.2.2.1,r4.1.2.2.2))),0))))
def qhz:Fun:=
 ⟨20,4,3,
 ⟨r13_,[],[]⟩,
 ⟨r11_,[],[]⟩,
 fun x=>qgl x.1 x.2.1 x.2.2.1 x.2.2.2⟩
theorem qlr:FO qhz:=fi [] [qbB,qfe,qiN,qgz,qje,qlq] 62 [] ((nn (nn (nn (nn (nn (nn (mm (.mk [.fz [14]] none .nil .nil) .nil)))))))) func20 ⟨⟨qcA,qhv,qmI,qkD,qpj,qrg,trivial⟩,trivial⟩
def qhA(f:List Int×List Int)(keep:Int):Option (List Int×List Int):=
 gd (fits (0+f.1.length) 1)<|
 gd (cutG none (some (.i64,max 0 (min keep (f.2.length:Int)))) f.2.length)<|
 gd (fits (([]++f.1).length+(f.2.take (max 0 (min keep (f.2.length:Int))).toNat).length) 1)<|
 some ([],([]++f.1)++(f.2.take (max 0 (min keep (f.2.length:Int))).toNat))
def qiR:Fun:=
 ⟨22,2,1,
 ⟨r59_,[],[]⟩,
 ⟨[(0,.agg [.own 0,.data (.sl (.int .u8))])],[],a58_⟩,
 fun x=>qhA x.1 x.2⟩
theorem qmT:FO qiR:=fi [12] [] 22 [] .nil func22 ⟨trivial,trivial⟩
def qff(f:List Int×List Int):Option ((List Int×List Int)×List (List Int)):=
 (qgk f.1).bind fun r=>
 gd (cutG none (some (.i64,r.1)) f.1.length)<|
 (qbl [f.1.take r.1.toNat]).bind fun r2=>
 some ((r2,[]),r.2)
def qip:Fun:=
 ⟨53,1,2,
 ⟨r19_,[],[]⟩,
 ⟨r126_,[],a125_⟩,
 fun x=>qff x⟩
theorem qot:FO qip:=fi [] [qhy,qce] 20 [] .nil func53 ⟨⟨qlp,qcP,trivial⟩,trivial⟩
def qaa(r:List Int)(r2:Int)(r3:Bool):Option (Int×List Int×Int×Bool):=
 (qml r r2).bind fun r4=>
 Option.bind (α:=Bool) (
 bif r3 then(
 some true)
 else(
 some (!decide (r4.2.2=0)))) fun s=>
 bif s then(
 some (0,r,r2,true))
 else(
 some (r4.1,r,r4.2.1,r3))
def qc1:Fun:=
 ⟨94,1,1,
 ⟨[(0,pt 0 0)],v54_,[]⟩,
 ⟨[(0,ii)],v54_,[]⟩,
 fun x=>qaa x.1 x.2.1 x.2.2⟩
theorem qfg:FO qc1:=fi [] [qnq] 35 [] ((nn (nn (mm (mm (.mk [.join [⟨.n,⟨[(0,pt 0 0),(3,kk),(4,kk),(26,bb)],[(0,162,[.keep,.keep,.keep])],[]⟩⟩]] none .nil .nil) .nil) .nil)))) func94 ⟨⟨qrf,trivial⟩,trivial⟩
def qaI(most:Int)(r:List Int)(r2:Int)(r3:Bool):Option (Int×List Int×Int×Bool):=
 (qaa r r2 r3).bind fun r4=>
 Option.bind (α:=Bool) (
 bif decide (r4.1<0) then(
 some true)
 else(
 some (decide (most<r4.1)))) fun s=>
 bif s then(
 some (0,r4.2.1,r4.2.2.1,true))
 else(
 some (r4.1,r4.2.1,r4.2.2.1,r4.2.2.2))
def qfs:Fun:=
 ⟨95,2,1,
 ⟨r138_,v54_,[]⟩,
 ⟨[(0,ii)],v54_,[]⟩,
 fun x=>qaI x.1 x.2.1 x.2.2.1 x.2.2.2⟩
theorem qkV:FO qfs:=fi [] [qc1] 19 [] ((nn (nn (mm (mm (.mk [.join [⟨.n,⟨[(0,pt 0 0),(5,kk),(14,bb)],[(0,162,[.keep,.keep,.keep])],[]⟩⟩]] none .nil .nil) .nil) .nil)))) func95 ⟨⟨qfg,trivial⟩,trivial⟩
def qbt(r2:Int×List Int×Int×Bool)(v:Int)(r3:List Int)(r4:Int)(r5:Bool)(out:List Int):Option ((Int×List Int×Int×Bool×List Int)⊕(List Int×Int×Bool×List Int)):=
 bif decide (v<r2.1) then(
 (qaa r3 r4 r5).bind fun r6=>
 gd (fits (out.length+1) 8)<|
 some (.inl (wi64 (v+1),r6.2.1,r6.2.2.1,r6.2.2.2,out++[r6.1])))
 else(
 some (.inr (r3,r4,r5,out)))
def qbu(r12:Int×List Int×Int×Bool)(v2:Int)(r13:List Int)(r14:Int)(r15:Bool)(p:List Int)(p2:List (Int×Bool)):Option ((Int×List Int×Int×Bool×List Int×List (Int×Bool))⊕(List Int×Int×Bool×List Int×List (Int×Bool))):=
 bif decide (v2<r12.1) then(
 (qaa r13 r14 r15).bind fun r16=>
 (qaI 1 r16.2.1 r16.2.2.1 r16.2.2.2).bind fun r17=>
 gd (fits (p2.length+1) 16)<|
 some (.inl (wi64 (v2+1),r17.2.1,r17.2.2.1,r17.2.2.2,p,p2++[(r16.1,decide (r17.1=1))])))
 else(
 some (.inr (r13,r14,r15,p,p2)))
def qgX(b:List Int):Option (yB9×Int):=
 (qaa b 0 false).bind fun r=>
 (qaI 21 r.2.1 r.2.2.1 r.2.2.2).bind fun r2=>
 (iter (fun x=>qbt r2 x.1 x.2.1 x.2.2.1 x.2.2.2.1 x.2.2.2.2) (0,r2.2.1,r2.2.2.1,r2.2.2.2,[])).bind fun s=>
 (qaa s.1 s.2.1 s.2.2.1).bind fun r7=>
 (qaa r7.2.1 r7.2.2.1 r7.2.2.2).bind fun r8=>
 (qaa r8.2.1 r8.2.2.1 r8.2.2.2).bind fun r9=>
 (qaa r9.2.1 r9.2.2.1 r9.2.2.2).bind fun r10=>
 (qaa r10.2.1 r10.2.2.1 r10.2.2.2).bind fun r11=>
 (qaI 32 r11.2.1 r11.2.2.1 r11.2.2.2).bind fun r12=>
 (iter (fun x2=>qbu r12 x2.1 x2.2.1 x2.2.2.1 x2.2.2.2.1 x2.2.2.2.2.1 x2.2.2.2.2.2) (0,r12.2.1,r12.2.2.1,r12.2.2.2,s.2.2.2,[])).bind fun s2=>
 (qaa s2.1 s2.2.1 s2.2.2.1).bind fun r18=>
 (qaa r18.2.1 r18.2.2.1 r18.2.2.2).bind fun r19=>
 (qaa r19.2.1 r19.2.2.1 r19.2.2.2).bind fun r20=>
 (qaI 12 r20.2.1 r20.2.2.1 r20.2.2.2).bind fun r21=>
 Option.bind (α:=Bool×List Int×List (Int×Bool)) (
 bif r21.2.2.2 then(
 some (true,s2.2.2.2.1,s2.2.2.2.2))
 else(
 some ((!decide (wi64 ((b.length:Int)-r21.2.2.1)=r21.1)),s2.2.2.2.1,s2.2.2.2.2))) fun s3=>
 bif s3.1 then(
 some ((0,([],((0,(0,(0,(0,(0,([],0)))))),([],(0,0))))),3))
 else(
 gd (cutG (some (.i64,r21.2.2.1)) none b.length)<|
 some ((r.1,(s3.2.1,((r7.1,(r8.1,(r9.1,(r10.1,(r11.1,(s3.2.2,r18.1)))))),(qcV (b.drop r21.2.2.1.toNat),(r19.1,r20.1))))),0))
def qkH:Fun:=
 ⟨54,1,2,
 ⟨r62_,[],[]⟩,
 ⟨r60_,[],[]⟩,
 fun x=>qgX x⟩
theorem qp2:FO qkH:=fi [] [qc1,qfs] 113 [] ((nn (nn (nn (nn (mm (nn (mm (.mk [] (some (⟨[(0,kk),(2,pt 48 0),(4,pt 192 0),(5,pt 96 0),(16,kk),(17,ii)],v29_,[(1577,.arr 3 I6)]⟩,[⟨.x 0,⟨[(0,kk),(2,pt 48 0),(4,pt 192 0),(5,pt 96 0)],v29_,[(1577,.arr 3 I6)]⟩⟩])) .nil .nil) .nil)) (nn (nn (mm (nn (mm (.mk [] (some (⟨[(0,kk),(2,pt 48 0),(4,pt 192 0),(5,pt 96 0),(6,pt 96 5),(52,kk),(53,ii)],v25_,a41_⟩,[⟨.x 2,⟨[(0,kk),(2,pt 48 0),(4,pt 192 0),(5,pt 96 0),(6,pt 96 5)],v25_,a41_⟩⟩])) .nil .nil) .nil)) (nn (nn (mm (mm (.mk [.join [⟨.n,⟨[(0,kk),(2,pt 48 0),(4,pt 192 0),(5,pt 96 0),(101,bb)],[(48,62,(kp 12)),(192,162,[.keep,.keep,.keep]),(96,62,[.keep,.own 1577,.keep,.keep,.keep,.keep,.keep,.own 1673,.keep,.keep,.keep,.keep])],a41_⟩⟩]] none .nil .nil) .nil) .nil)))))))))))) func54 ⟨⟨qfg,qkV,trivial⟩,trivial⟩
def qfA(n:yB0)(r:List Int)(r2:List Int)(r4:(List Int×List Int)×List (List Int))(v:Int)(v2:List Int)(v3:List Int)(v4:yB4)(v5:List Int)(v6:List Int)(v7:List Bool)(v8:List yB3)(v9:List yB2)(v10:Int)(c:yB4)(c2:List Int)(c3:List Int)(c4:List Bool)(c5:List yB3)(c6:List yB2)(c7:Int)(v11:List (List Int)):Option yB11:=
 bif decide (v<(r4.2.length:Int)) then(
 gd (inB v v11.length)<|
 (qgX (v11.getD v.toNat [])).bind fun r5=>
 bif !decide (r5.2=0) then(
 some (.inr (.inr (28,r,r2,[],[],[],[],[],[],0))))
 else(
 (qcU (n.1,(n.2.1,(n.2.2.1,(n.2.2.2.1,(n.2.2.2.2.1,n.2.2.2.2.2))))) ((c,(c2,(c3,c4))),(c5,(c6,c7))) (r5.1.1,(r5.1.2.1,((r5.1.2.2.1.1,(r5.1.2.2.1.2.1,(r5.1.2.2.1.2.2.1,(r5.1.2.2.1.2.2.2.1,(r5.1.2.2.1.2.2.2.2.1,(r5.1.2.2.1.2.2.2.2.2.1,r5.1.2.2.1.2.2.2.2.2.2)))))),(r5.1.2.2.2.1,(r5.1.2.2.2.2.1,r5.1.2.2.2.2.2)))))).bind fun r6=>
 bif !decide (r6.2=0) then(
 some (.inr (.inr (28,r,r2,[],[],[],[],[],[],0))))
 else(
 some (.inl (wi64 (v+1),v2,v3,v4,v5,v6,v7,v8,v9,v10,r6.1.1.1,r6.1.1.2.1,r6.1.1.2.2.1,r6.1.1.2.2.2,r6.1.2.1,r6.1.2.2.1,r6.1.2.2.2,v11)))))
 else(
 some (.inr (.inl (v2,v3,v4,v5,v6,v7,v8,v9,v10,c,c2,c3,c4,c5,c6,c7))))
def qd9(n:yB0)(travel:Int)(f:List Int×List Int):Option ((List Int×List Int)×yB1×Int):=
 (qaM f.1).bind fun r=>
 (qaM f.2).bind fun r2=>
 (qha (n.1,(n.2.1,(n.2.2.1,(n.2.2.2.1,(n.2.2.2.2.1,n.2.2.2.2.2))))) travel).bind fun r3=>
 bif !decide (r3.2=0) then(
 some ((r,r2),(([],([],([],[]))),([],([],0))),r3.2))
 else(
 (qff (f.1,f.2)).bind fun r4=>
 (iter (fun x=>qfA n r r2 r4 x.1 x.2.1 x.2.2.1 x.2.2.2.1 x.2.2.2.2.1 x.2.2.2.2.2.1 x.2.2.2.2.2.2.1 x.2.2.2.2.2.2.2.1 x.2.2.2.2.2.2.2.2.1 x.2.2.2.2.2.2.2.2.2.1 x.2.2.2.2.2.2.2.2.2.2.1 x.2.2.2.2.2.2.2.2.2.2.2.1 x.2.2.2.2.2.2.2.2.2.2.2.2.1 x.2.2.2.2.2.2.2.2.2.2.2.2.2.1 x.2.2.2.2.2.2.2.2.2.2.2.2.2.2.1 x.2.2.2.2.2.2.2.2.2.2.2.2.2.2.2.1 x.2.2.2.2.2.2.2.2.2.2.2.2.2.2.2.2.1 x.2.2.2.2.2.2.2.2.2.2.2.2.2.2.2.2.2) (0,[],[],[],[],[],[],[],[],0,r3.1.1.1,r3.1.1.2.1,r3.1.1.2.2.1,r3.1.1.2.2.2,r3.1.2.1,r3.1.2.2.1,r3.1.2.2.2,r4.2)).bind fun s=>
 s.elim (fun s2=>
 some ((r4.1.1,r4.1.2),((s2.2.2.2.2.2.2.2.2.2.1,(s2.2.2.2.2.2.2.2.2.2.2.1,(s2.2.2.2.2.2.2.2.2.2.2.2.1,s2.2.2.2.2.2.2.2.2.2.2.2.2.1))),(s2.2.2.2.2.2.2.2.2.2.2.2.2.2.1,(s2.2.2.2.2.2.2.2.2.2.2.2.2.2.2.1,s2.2.2.2.2.2.2.2.2.2.2.2.2.2.2.2))),0))
 (fun s3=>
 some ((s3.2.1,s3.2.2.1),((s3.2.2.2.1,(s3.2.2.2.2.1,(s3.2.2.2.2.2.1,s3.2.2.2.2.2.2.1))),(s3.2.2.2.2.2.2.2.1,(s3.2.2.2.2.2.2.2.2.1,s3.2.2.2.2.2.2.2.2.2))),s3.1)))
def qfB:Fun:=
 ⟨21,3,3,
 ⟨r106_,[],[]⟩,
 ⟨r11_,[],[]⟩,
 fun x=>qd9 x.1 x.2.1 x.2.2⟩
theorem qjf:FO qfB:=fi [] [qbB,qgO,qip,qkH,qfe] 70 [] ((nn (nn (nn (nn (nn (mm (nn (mm (.mk [] (some (⟨[(3,pt 64 0),(6,pt 112 0),(7,pt 128 0),(9,pt 160 0),(10,pt 176 0),(12,pt 208 0),(41,ow 624),(42,kk),(43,ii)],[(64,32,(kp 6)),(112,50,[.data (.sl (.int .u8)),.data (.sl (.int .u8))]),(128,44,[.data (.sl tT2),.data (.sl I6),.data (.sl I6),.data (.sl (.bool)),.data (.sl tT1),.data (.sl tT3),.data I6]),(160,50,[.keep,.keep]),(176,44,[.data (.sl tT2),.data (.sl I6),.data (.sl I6),.data (.sl (.bool)),.data (.sl tT1),.data (.sl tT3),.data I6]),(208,50,[.keep,.keep])],[(624,.arr 48 (.sl (.int .u8)))]⟩,[⟨.x 0,⟨[(6,pt 112 0),(7,pt 128 0),(10,pt 176 0),(12,pt 208 0)],[(112,50,[.data (.sl (.int .u8)),.data (.sl (.int .u8))]),(128,44,[.data (.sl tT2),.data (.sl I6),.data (.sl I6),.data (.sl (.bool)),.data (.sl tT1),.data (.sl tT3),.data I6]),(176,44,[.data (.sl tT2),.data (.sl I6),.data (.sl I6),.data (.sl (.bool)),.data (.sl tT1),.data (.sl tT3),.data I6]),(208,50,[.keep,.keep])],[]⟩⟩,⟨.r,⟨[(6,pt 112 0),(7,pt 128 0),(8,ii)],v24_,[]⟩⟩])) .nil .nil) .nil)) .nil))))))) func21 ⟨⟨qcA,qjK,qot,qp2,qhv,trivial⟩,trivial⟩
def qfh(a:yB4)(b:yB4)(i:Int):Option (Int⊕(Unit⊕Bool)):=
 bif decide (i<(a.length:Int)) then(
 gd (inB i a.length)<|
 gd (inB i b.length)<|
 bif !(decide ((a.getD i.toNat (0,(0,(false,false)))).1=(b.getD i.toNat (0,(0,(false,false)))).1)&&(decide (((a.getD i.toNat (0,(0,(false,false)))).2).1=((b.getD i.toNat (0,(0,(false,false)))).2).1)&&(((((a.getD i.toNat (0,(0,(false,false)))).2).2).1==(((b.getD i.toNat (0,(0,(false,false)))).2).2).1)&&((((a.getD i.toNat (0,(0,(false,false)))).2).2).2==(((b.getD i.toNat (0,(0,(false,false)))).2).2).2)))) then(
 some (.inr (.inr false)))
 else(
 some (.inl (wi64 (i+1)))))
 else(
 some (.inr (.inl ())))
def qmm(a:yB4)(b:yB4):Option (Bool):=
 bif !decide ((a.length:Int)=(b.length:Int)) then(
 some false)
 else(
 (iter (fun x=>qfh a b x) 0).bind fun s=>
 s.elim (fun s2=>
 some true)
 (fun s3=>
 some s3))
def qou:Fun:=
 ⟨72,2,1,
 ⟨[(0,dd (.sl tT2)),(1,dd (.sl tT2))],[],[]⟩,
 ⟨[(0,bb)],[],[]⟩,
 fun x=>qmm x.1 x.2⟩
theorem qtq:FO qou:=fi [] [] 26 [] ((nn (nn (mm (nn (mm (.mk [] (some (⟨r143_,[],[]⟩,[⟨.x 0,⟨[],[],[]⟩⟩,⟨.r,⟨[(4,bb)],[],[]⟩⟩])) .nil .nil) .nil)) .nil)))) func72 ⟨trivial,trivial⟩
def qcQ(a:List Int)(b:List Int)(i:Int):Option (Int⊕(Unit⊕Bool)):=
 bif decide (i<(a.length:Int)) then(
 gd (inB i a.length)<|
 gd (inB i b.length)<|
 bif !decide (a.getD i.toNat 0=b.getD i.toNat 0) then(
 some (.inr (.inr false)))
 else(
 some (.inl (wi64 (i+1)))))
 else(
 some (.inr (.inl ())))
def qdj(a:List Int)(b:List Int):Option (Bool):=
 bif !decide ((a.length:Int)=(b.length:Int)) then(
 some false)
 else(
 (iter (fun x=>qcQ a b x) 0).bind fun s=>
 s.elim (fun s2=>
 some true)
 (fun s3=>
 some s3))
def qfC:Fun:=
 ⟨74,2,1,
 ⟨[(0,dd (.sl I6)),(1,dd (.sl I6))],[],[]⟩,
 ⟨[(0,bb)],[],[]⟩,
 fun x=>qdj x.1 x.2⟩
theorem qjg:FO qfC:=fi [] [] 26 [] ((nn (nn (mm (nn (mm (.mk [] (some (⟨r143_,[],[]⟩,[⟨.x 0,⟨[],[],[]⟩⟩,⟨.r,⟨[(4,bb)],[],[]⟩⟩])) .nil .nil) .nil)) .nil)))) func74 ⟨trivial,trivial⟩
def qcy(a:List Bool)(b:List Bool)(i:Int):Option (Int⊕(Unit⊕Bool)):=
 bif decide (i<(a.length:Int)) then(
 gd (inB i a.length)<|
 gd (inB i b.length)<|
 bif !(a.getD i.toNat false==b.getD i.toNat false) then(
 some (.inr (.inr false)))
 else(
 some (.inl (wi64 (i+1)))))
 else(
 some (.inr (.inl ())))
def qfi(a:List Bool)(b:List Bool):Option (Bool):=
 bif !decide ((a.length:Int)=(b.length:Int)) then(
 some false)
 else(
 (iter (fun x=>qcy a b x) 0).bind fun s=>
 s.elim (fun s2=>
 some true)
 (fun s3=>
 some s3))
def qiq:Fun:=
 ⟨129,2,1,
 ⟨[(0,dd (.sl (.bool))),(1,dd (.sl (.bool)))],[],[]⟩,
 ⟨[(0,bb)],[],[]⟩,
 fun x=>qfi x.1 x.2⟩
theorem qov:FO qiq:=fi [] [] 26 [] ((nn (nn (mm (nn (mm (.mk [] (some (⟨r143_,[],[]⟩,[⟨.x 0,⟨[],[],[]⟩⟩,⟨.r,⟨[(4,bb)],[],[]⟩⟩])) .nil .nil) .nil)) .nil)))) func129 ⟨trivial,trivial⟩
def qfR(a:yB7)(b:yB7):Option (Bool):=
 (qdj a.1 b.1).bind fun r=>
 bif r then(
 (qdj a.2.1 b.2.1).bind fun r2=>
 bif r2 then(
 (qfi a.2.2 b.2.2).bind fun r3=>
 some r3)
 else(
 some false))
 else(
 some false)
def qjh:Fun:=
 ⟨73,2,1,
 ⟨[(0,dd tT6),(1,dd tT6)],[],[]⟩,
 ⟨[(0,bb)],[],[]⟩,
 fun x=>qfR x.1 x.2⟩
theorem qpk:FO qjh:=fi [] [qfC,qiq] 24 [] .nil func73 ⟨⟨qjg,qov,trivial⟩,trivial⟩
def qmn(a:yB6)(b:yB6):Option (Bool):=
 (qmm a.1 b.1).bind fun r=>
 bif r then(
 (qfR (a.2.1,(a.2.2.1,a.2.2.2)) (b.2.1,(b.2.2.1,b.2.2.2))).bind fun r2=>
 some r2)
 else(
 some false)
def qow:Fun:=
 ⟨39,2,1,
 ⟨[(0,dd (.pair (.sl tT2) tT6)),(1,dd (.pair (.sl tT2) tT6))],[],[]⟩,
 ⟨[(0,bb)],[],[]⟩,
 fun x=>qmn x.1 x.2⟩
theorem qtr:FO qow:=fi [] [qou,qjh] 17 [] .nil func39 ⟨⟨qtq,qpk,trivial⟩,trivial⟩
def qfj(a:List yB2)(b:List yB2)(i:Int):Option (Int⊕(Unit⊕Bool)):=
 bif decide (i<(a.length:Int)) then(
 gd (inB i a.length)<|
 gd (inB i b.length)<|
 bif !(decide ((a.getD i.toNat ([],(0,(0,(0,0))))).1=(b.getD i.toNat ([],(0,(0,(0,0))))).1)&&(decide (((a.getD i.toNat ([],(0,(0,(0,0))))).2).1=((b.getD i.toNat ([],(0,(0,(0,0))))).2).1)&&(decide ((((a.getD i.toNat ([],(0,(0,(0,0))))).2).2).1=(((b.getD i.toNat ([],(0,(0,(0,0))))).2).2).1)&&(decide (((((a.getD i.toNat ([],(0,(0,(0,0))))).2).2).2).1=((((b.getD i.toNat ([],(0,(0,(0,0))))).2).2).2).1)&&decide (((((a.getD i.toNat ([],(0,(0,(0,0))))).2).2).2).2=((((b.getD i.toNat ([],(0,(0,(0,0))))).2).2).2).2))))) then(
 some (.inr (.inr false)))
 else(
 some (.inl (wi64 (i+1)))))
 else(
 some (.inr (.inl ())))
def qmo(a:List yB2)(b:List yB2):Option (Bool):=
 bif !decide ((a.length:Int)=(b.length:Int)) then(
 some false)
 else(
 (iter (fun x=>qfj a b x) 0).bind fun s=>
 s.elim (fun s2=>
 some true)
 (fun s3=>
 some s3))
def qox:Fun:=
 ⟨40,2,1,
 ⟨[(0,dd (.sl tT3)),(1,dd (.sl tT3))],[],[]⟩,
 ⟨[(0,bb)],[],[]⟩,
 fun x=>qmo x.1 x.2⟩
theorem qts:FO qox:=fi [] [] 26 [] ((nn (nn (mm (nn (mm (.mk [] (some (⟨r143_,[],[]⟩,[⟨.x 0,⟨[],[],[]⟩⟩,⟨.r,⟨[(4,bb)],[],[]⟩⟩])) .nil .nil) .nil)) .nil)))) func40 ⟨trivial,trivial⟩
def qbT(a:yB3)(b:yB3):Option (Bool):=
 bif decide (a.1=b.1) then(
 bif decide (a.2.1=b.2.1) then(
 bif decide (a.2.2.1=b.2.2.1) then(
 bif decide (a.2.2.2.1=b.2.2.2.1) then(
 bif decide (a.2.2.2.2.1=b.2.2.2.2.1) then(
 (qdj a.2.2.2.2.2 b.2.2.2.2.2).bind fun r=>
 some r)
 else(
 some false))
 else(
 some false))
 else(
 some false))
 else(
 some false))
 else(
 some false)
def qdB:Fun:=
 ⟨41,2,1,
 ⟨[(0,dd tT1),(1,dd tT1)],[],[]⟩,
 ⟨[(0,bb)],[],[]⟩,
 fun x=>qbT x.1 x.2⟩
theorem qgm:FO qdB:=fi [] [qfC] 45 [] .nil func41 ⟨⟨qjg,trivial⟩,trivial⟩
def qfk(a:yB1)(b:yB1)(i:Int):Option (Int⊕(Unit⊕Bool)):=
 bif decide (i<(a.2.1.length:Int)) then(
 gd (inB i a.2.1.length)<|
 gd (inB i b.2.1.length)<|
 (qbT (a.2.1.getD i.toNat (0,(0,(0,(0,(0,[])))))) (b.2.1.getD i.toNat (0,(0,(0,(0,(0,[]))))))).bind fun r3=>
 bif !r3 then(
 some (.inr (.inr false)))
 else(
 some (.inl (wi64 (i+1)))))
 else(
 some (.inr (.inl ())))
def qeT(a:yB1)(b:yB1):Option (Bool):=
 Option.bind (α:=Bool) (
 bif !decide (a.2.2.2=b.2.2.2) then(
 some true)
 else(
 (qmn (a.1.1,(a.1.2.1,(a.1.2.2.1,a.1.2.2.2))) (b.1.1,(b.1.2.1,(b.1.2.2.1,b.1.2.2.2)))).bind fun r=>
 bif !r then(
 some true)
 else(
 (qmo a.2.2.1 b.2.2.1).bind fun r2=>
 bif !r2 then(
 some true)
 else(
 some (!decide ((a.2.1.length:Int)=(b.2.1.length:Int))))))) fun s=>
 bif s then(
 some false)
 else(
 (iter (fun x=>qfk a b x) 0).bind fun s2=>
 s2.elim (fun s3=>
 some true)
 (fun s4=>
 some s4))
def qgY:Fun:=
 ⟨18,2,1,
 ⟨[(0,dd (.pair (.pair (.sl tT2) tT6) (.pair (.sl tT1) (.pair (.sl tT3) I6)))),(1,dd (.pair (.pair (.sl tT2) tT6) (.pair (.sl tT1) (.pair (.sl tT3) I6))))],[],[]⟩,
 ⟨[(0,bb)],[],[]⟩,
 fun x=>qeT x.1 x.2⟩
theorem qjZ:FO qgY:=fi [] [qow,qox,qdB] 55 [] ((nn (mm (mm (.mk [.join [⟨.n,⟨[(2,pt 48 0),(3,pt 64 0),(35,bb)],[(48,44,(kp 7)),(64,44,(kp 7))],[]⟩⟩]] none .nil .nil) .nil) (mm (nn (mm (.mk [] (some (⟨r104_,[(48,44,(kp 7)),(64,44,(kp 7))],[]⟩,[⟨.x 0,⟨[],[],[]⟩⟩,⟨.r,⟨[(4,bb)],[],[]⟩⟩])) .nil .nil) .nil)) .nil)))) func18 ⟨⟨qtr,qts,qgm,trivial⟩,trivial⟩
def qhB:Option (Bool):=
 (qha (([[97],[98]]:List (List UInt8)),([([103],(0,(1,(10,(0,(0,[(0,(0,1000)),(10,(0,1000))]))))))],([([112],(0,0)),([113],(1,0))],([],(0,0))))) 2).bind fun r=>
 (qgl (([[97],[98]]:List (List UInt8)),([([103],(0,(1,(10,(0,(0,[(0,(0,1000)),(10,(0,1000))]))))))],([([112],(0,0)),([113],(1,0))],([],(0,0))))) ([],[]) ((r.1.1.1,(r.1.1.2.1,(r.1.1.2.2.1,r.1.1.2.2.2))),(r.1.2.1,(r.1.2.2.1,r.1.2.2.2))) (3,([],((0,(0,(0,(0,(0,([],0)))))),([97],(1,5)))))).bind fun r2=>
 (qhA (r2.1.1,r2.1.2) 0).bind fun r3=>
 (qd9 (([[97],[98]]:List (List UInt8)),([([103],(0,(1,(10,(0,(0,[(0,(0,1000)),(10,(0,1000))]))))))],([([112],(0,0)),([113],(1,0))],([],(0,0))))) 2 (r3.2,r3.1)).bind fun r4=>
 bif decide (r.2=0) then(
 bif decide (r2.2.2=0) then(
 bif decide (r4.2.2=0) then(
 bif decide (r2.2.1.2.2.2=1) then(
 bif decide ((r4.2.1.2.2.1.length:Int)=1) then(
 gd (inB 0 r4.2.1.2.2.1.length)<|
 bif decide (((r4.2.1.2.2.1.getD 0 ([],(0,(0,(0,0))))).2).1=5) then(
 (qeT ((r2.2.1.1.1,(r2.2.1.1.2.1,(r2.2.1.1.2.2.1,r2.2.1.1.2.2.2))),(r2.2.1.2.1,(r2.2.1.2.2.1,r2.2.1.2.2.2))) ((r4.2.1.1.1,(r4.2.1.1.2.1,(r4.2.1.1.2.2.1,r4.2.1.1.2.2.2))),(r4.2.1.2.1,(r4.2.1.2.2.1,r4.2.1.2.2.2)))).bind fun r5=>
 some r5)
 else(
 some false))
 else(
 some false))
 else(
 some false))
 else(
 some false))
 else(
 some false))
 else(
 some false)
def qmU:Fun:=
 ⟨5,0,1,
 ⟨[],[],[]⟩,
 ⟨[(0,bb)],[],[]⟩,
 fun x=>qhB⟩
theorem qr0:FO qmU:=fi [] [qgO,qhz,qiR,qfB,qgY] 76 [] .nil func5 ⟨⟨qjK,qlr,qmT,qjf,qjZ,trivial⟩,trivial⟩
def qqg(l:List Int):Option (List Int×Int):=
 gd (cutG none (some (.i64,min (l.length:Int) 2000)) l.length)<|
 some (l.take (min (l.length:Int) 2000).toNat,0)
def qrh:Fun:=
 ⟨6,1,1,
 ⟨r139_,[],[]⟩,
 ⟨[(0,pt 0 0)],v3_,[]⟩,
 fun x=>qqg x⟩
theorem qvO:FO qrh:=fi [] [] 10 [] .nil func6 ⟨trivial,trivial⟩
def qir(s:List Int)(s2:Int):Option (Int×List Int×Int):=
 bif decide ((s.length:Int)<=s2) then(
 some (0,s,s2))
 else(
 gd (inB (wi64 ((wi64 (s2+1))-1)) s.length)<|
 some (s.getD (wi64 ((wi64 (s2+1))-1)).toNat 0,s,wi64 (s2+1)))
def qls:Fun:=
 ⟨28,1,1,
 ⟨[(0,pt 0 0)],v3_,[]⟩,
 ⟨[(0,ii)],v3_,[]⟩,
 fun x=>qir x.1 x.2⟩
theorem qri:FO qls:=fi [] [] 31 [] .nil func28 ⟨trivial,trivial⟩
def qoy(x:Int)(n:Int):Option (Int):=
 bif decide (n<1) then(
 some 0)
 else(
 gd (!decide (n=0))<|
 bif decide (Int.tmod x n<0) then(
 some (wi64 ((Int.tmod x n)+n)))
 else(
 some (Int.tmod x n)))
def qnr:Fun:=
 ⟨27,2,1,
 ⟨r63_,[],[]⟩,
 ⟨[(0,ii)],[],[]⟩,
 fun x=>qoy x.1 x.2⟩
theorem qrj:FO qnr:=fi [] [] 16 [] .nil func27 ⟨trivial,trivial⟩
def qab(n:Int)(s:List Int)(s2:Int):Option (Int×List Int×Int):=
 (qir s s2).bind fun r=>
 (qoy r.1 n).bind fun r2=>
 some (r2,r.2.1,r.2.2)
def qa4:Fun:=
 ⟨8,2,1,
 ⟨r138_,v3_,[]⟩,
 ⟨[(0,ii)],v3_,[]⟩,
 fun x=>qab x.1 x.2.1 x.2.2⟩
theorem qbc:FO qa4:=fi [] [qls,qnr] 9 [] .nil func8 ⟨⟨qri,qrj,trivial⟩,trivial⟩
def qac(l:List Int)(s:List Int)(s2:Int):Option (Int×List Int×Int):=
 (qab (l.length:Int) s s2).bind fun r=>
 gd (inB r.1 l.length)<|
 some (l.getD r.1.toNat 0,r.2.1,r.2.2)
def qbv:Fun:=
 ⟨23,2,1,
 ⟨[(0,pt 0 0),(1,dd (.sl I6))],v3_,[]⟩,
 ⟨[(0,ii)],v3_,[]⟩,
 fun x=>qac x.1 x.2.1 x.2.2⟩
theorem qbW:FO qbv:=fi [] [qa4] 12 [] .nil func23 ⟨⟨qbc,trivial⟩,trivial⟩
def qa8(lo:Int)(hi:Int)(s:List Int)(s2:Int):Option (Int×List Int×Int):=
 (qab (wi64 ((wi64 (hi-lo))+1)) s s2).bind fun r=>
 some (wi64 (lo+r.1),r.2.1,r.2.2)
def qdP:Fun:=
 ⟨24,3,1,
 ⟨[(0,pt 0 0),(1,ii),(2,ii)],v3_,[]⟩,
 ⟨[(0,ii)],v3_,[]⟩,
 fun x=>qa8 x.1 x.2.1 x.2.2.1 x.2.2.2⟩
theorem qfD:FO qdP:=fi [] [qa4] 15 [] .nil func24 ⟨⟨qbc,trivial⟩,trivial⟩
def qdC(first:List UInt8)(n:Int):Option (List UInt8):=
 gd (Nat.ble (first.length+(qcV [wu8 (wi64 (97+(Int.tmod n 26)))]).length) 9223372036854775807)<|
 some (first++(qcV [wu8 (wi64 (97+(Int.tmod n 26)))]))
def qis:Fun:=
 ⟨25,2,1,
 ⟨[(0,ss),(1,ii)],[],[]⟩,
 ⟨[(0,ss)],[],[]⟩,
 fun x=>qdC x.1 x.2⟩
theorem qlt:FO qis:=fi [] [] 13 [] .nil func25 ⟨trivial,trivial⟩
def qhC(r3:Int×List Int×Int)(r6:Int×List Int×Int)(vat:Int)(s4:List Int)(s5:Int)(x:List (Int×Int×Int)):Option ((Int×List Int×Int×List (Int×Int×Int))⊕(List Int×Int×List (Int×Int×Int))):=
 Option.bind (α:=Bool×List Int×Int×List (Int×Int×Int)) (
 bif decide ((x.length:Int)<7) then(
 (qab 3 s4 s5).bind fun r8=>
 some (decide (0<r8.1),r8.2.1,r8.2.2,x))
 else(
 some (false,s4,s5,x))) fun s6=>
 bif s6.1 then(
 (qa8 1 40 s6.2.1 s6.2.2.1).bind fun r9=>
 bif decide (r3.1<=wi64 (vat+r9.1)) then(
 some (.inr (r9.2.1,r9.2.2,s6.2.2.2)))
 else(
 (qa8 (-5) 60 r9.2.1 r9.2.2).bind fun r10=>
 (qac ([1,1,10]:List Int) r10.2.1 r10.2.2).bind fun r11=>
 (qab 3 r11.2.1 r11.2.2).bind fun r12=>
 gd (fits (s6.2.2.2.length+1) 24)<|
 some (.inl (wi64 (vat+r9.1),r12.2.1,r12.2.2,s6.2.2.2++[(wi64 (vat+r9.1),(wi64 (r10.1*r11.1),wi64 (r6.1-(wi64 (r12.1*1000)))))]))))
 else(
 some (.inr (s6.2.1,s6.2.2.1,s6.2.2.2)))
def qde(k:Int)(vfrom:Int)(to:Int)(s:List Int)(s2:Int):Option (yT0×List Int×Int):=
 (qab 4 s s2).bind fun r=>
 Option.bind (α:=Int×Int) (
 bif decide (r.1=0) then(
 some (to,vfrom))
 else(
 some (vfrom,to))) fun s3=>
 (qdC [103] k).bind fun r2=>
 (qac ([1,2,7,20,60,200,1000]:List Int) r.2.1 r.2.2).bind fun r3=>
 (qac ([0,1,5,1000]:List Int) r3.2.1 r3.2.2).bind fun r4=>
 (qac ([0,50,1000,100000]:List Int) r4.2.1 r4.2.2).bind fun r5=>
 (qac ([1000000,6000000,100000000]:List Int) r5.2.1 r5.2.2).bind fun r6=>
 (qa8 (-5) 30 r6.2.1 r6.2.2).bind fun r7=>
 (iter (fun x2=>qhC r3 r6 x2.1 x2.2.1 x2.2.2.1 x2.2.2.2) (0,r7.2.1,r7.2.2,[(0,(r7.1,r6.1))])).bind fun s7=>
 (qa8 (-5) 30 s7.1 s7.2.1).bind fun r13=>
 gd (fits (s7.2.2.length+1) 24)<|
 some ((r2,(s3.1,(s3.2,(r3.1,(r4.1,(r5.1,s7.2.2++[(r3.1,(r13.1,r6.1))])))))),r13.2.1,r13.2.2)
def qhD:Fun:=
 ⟨26,4,1,
 ⟨[(0,pt 0 0),(1,ii),(2,ii),(3,ii)],v3_,[]⟩,
 ⟨r111_,v3_,[]⟩,
 fun x=>qde x.1 x.2.1 x.2.2.1 x.2.2.2.1 x.2.2.2.2⟩
theorem qns:FO qhD:=fi [] [qa4,qis,qbv,qdP] 90 [] ((nn (mm (nn (.mk [.join [⟨.n,⟨[(0,pt 0 0),(1,kk),(2,ii),(3,ii),(8,pt 144 0)],[(0,88,[.keep,.keep]),(144,78,(kp 7))],[]⟩⟩]] none .nil .nil)) (nn (nn (nn (mm (nn (mm (.mk [] (some (⟨[(0,pt 0 0),(8,pt 144 0),(9,pt 160 0),(10,kk),(11,ii)],v28_,a122_⟩,[⟨.x 0,⟨[(0,pt 0 0),(8,pt 144 0),(9,pt 160 0),(10,kk)],v28_,a122_⟩⟩])) (mm (mm (.mk [.join [⟨.n,⟨[(0,pt 0 0),(8,pt 144 0),(9,pt 160 0),(10,kk),(11,kk),(51,bb)],v28_,a122_⟩⟩]] none .nil .nil) .nil) .nil) .nil) .nil)) .nil))))))) func26 ⟨⟨qbc,qlt,qbW,qfD,trivial⟩,trivial⟩
def qhE(i:Int)(n:List (List UInt8)):Option ((Int×List (List UInt8))⊕(List (List UInt8))):=
 bif decide (0<i) then(
 (qdC [110] (n.length:Int)).bind fun r4=>
 gd (fits (n.length+1) 16)<|
 some (.inl (wi64 (i-1),n++[r4])))
 else(
 some (.inr n))
def qhF(s3:List (List UInt8))(i2:Int)(s4:List Int)(s5:Int)(n2:List (List UInt8))(n3:List yT0):Option ((Int×List Int×Int×List (List UInt8)×List yT0)⊕(List Int×Int×List (List UInt8)×List yT0)):=
 bif decide (i2<wi64 ((s3.length:Int)-1)) then(
 (qde (n3.length:Int) i2 (wi64 (i2+1)) s4 s5).bind fun r5=>
 gd (fits (n3.length+1) 80)<|
 some (.inl (wi64 (i2+1),r5.2.1,r5.2.2,n2,n3++[(r5.1.1,(r5.1.2.1,(r5.1.2.2.1,(r5.1.2.2.2.1,(r5.1.2.2.2.2.1,(r5.1.2.2.2.2.2.1,r5.1.2.2.2.2.2.2))))))])))
 else(
 some (.inr (s4,s5,n2,n3)))
def qhG(s3:List (List UInt8))(i3:Int)(s7:List Int)(s8:Int)(n4:List (List UInt8))(n5:List yT0):Option ((Int×List Int×Int×List (List UInt8)×List yT0)⊕(List Int×Int×List (List UInt8)×List yT0)):=
 bif decide (0<i3) then(
 (qab (wi64 ((s3.length:Int)-1)) s7 s8).bind fun r7=>
 (qa8 (wi64 (r7.1+1)) (wi64 ((s3.length:Int)-1)) r7.2.1 r7.2.2).bind fun r8=>
 (qde (n5.length:Int) r7.1 r8.1 r8.2.1 r8.2.2).bind fun r9=>
 gd (fits (n5.length+1) 80)<|
 some (.inl (wi64 (i3-1),r9.2.1,r9.2.2,n4,n5++[(r9.1.1,(r9.1.2.1,(r9.1.2.2.1,(r9.1.2.2.2.1,(r9.1.2.2.2.2.1,(r9.1.2.2.2.2.2.1,r9.1.2.2.2.2.2.2))))))])))
 else(
 some (.inr (s7,s8,n4,n5)))
def qhH(s3:List (List UInt8))(i4:Int)(s10:List Int)(s11:Int)(n6:List (List UInt8))(n7:List yT0)(n8:yB13)(n9:List yB2):Option ((Int×List Int×Int×List (List UInt8)×(List yT0)×yB13×List yB2)⊕(List Int×Int×List (List UInt8)×(List yT0)×yB13×List yB2)):=
 bif decide (i4<=wi64 ((s3.length:Int)-1)) then(
 Option.bind (α:=Bool×List Int×Int×List (List UInt8)×(List yT0)×yB13×List yB2) (
 bif decide (i4=0) then(
 some (true,s10,s11,n6,n7,n8,n9))
 else(
 bif decide (i4=wi64 ((s3.length:Int)-1)) then(
 some (true,s10,s11,n6,n7,n8,n9))
 else(
 (qab 2 s10 s11).bind fun r10=>
 some (decide (r10.1=0),r10.2.1,r10.2.2,n6,n7,n8,n9)))) fun s12=>
 Option.bind (α:=List Int×Int×List (List UInt8)×(List yT0)×yB13×List yB2) (
 bif s12.1 then(
 (qdC [113] (s12.2.2.2.2.2.1.length:Int)).bind fun r11=>
 (qac ([300000,1000000,0,5000000]:List Int) s12.2.1 s12.2.2.1).bind fun r12=>
 gd (fits (s12.2.2.2.2.2.1.length+1) 32)<|
 some (r12.2.1,r12.2.2,s12.2.2.2.1,s12.2.2.2.2.1,s12.2.2.2.2.2.1++[(r11,(i4,r12.1))],s12.2.2.2.2.2.2))
 else(
 some (s12.2.1,s12.2.2.1,s12.2.2.2.1,s12.2.2.2.2.1,s12.2.2.2.2.2.1,s12.2.2.2.2.2.2))) fun s13=>
 Option.bind (α:=Bool×List Int×Int×List (List UInt8)×(List yT0)×yB13×List yB2) (
 bif decide (i4<wi64 ((s3.length:Int)-1)) then(
 (qab 3 s13.1 s13.2.1).bind fun r13=>
 some (decide (r13.1=0),r13.2.1,r13.2.2,s13.2.2.1,s13.2.2.2.1,s13.2.2.2.2.1,s13.2.2.2.2.2))
 else(
 some (false,s13.1,s13.2.1,s13.2.2.1,s13.2.2.2.1,s13.2.2.2.2.1,s13.2.2.2.2.2))) fun s14=>
 Option.bind (α:=List Int×Int×List (List UInt8)×(List yT0)×yB13×List yB2) (
 bif s14.1 then(
 (qdC [115] (s14.2.2.2.2.2.2.length:Int)).bind fun r14=>
 (qac ([500000,2000000,0]:List Int) s14.2.1 s14.2.2.1).bind fun r15=>
 (qac ([0,200,100000]:List Int) r15.2.1 r15.2.2).bind fun r16=>
 (qac ([0,100000,400000]:List Int) r16.2.1 r16.2.2).bind fun r17=>
 gd (fits (s14.2.2.2.2.2.2.length+1) 48)<|
 some (r17.2.1,r17.2.2,s14.2.2.2.1,s14.2.2.2.2.1,s14.2.2.2.2.2.1,s14.2.2.2.2.2.2++[(r14,(i4,(r15.1,(r16.1,r17.1))))]))
 else(
 some (s14.2.1,s14.2.2.1,s14.2.2.2.1,s14.2.2.2.2.1,s14.2.2.2.2.2.1,s14.2.2.2.2.2.2))) fun s15=>
 some (.inl (wi64 (i4+1),s15.1,s15.2.1,s15.2.2.1,s15.2.2.2.1,s15.2.2.2.2.1,s15.2.2.2.2.2)))
 else(
 some (.inr (s10,s11,n6,n7,n8,n9)))
def qeC(s:List Int)(s2:Int):Option (yB0×List Int×Int):=
 (qac ([(-100000),0,50000]:List Int) s s2).bind fun r=>
 (qac ([0,1,5,100]:List Int) r.2.1 r.2.2).bind fun r2=>
 (qa8 2 6 r2.2.1 r2.2.2).bind fun r3=>
 (iter (fun x=>qhE x.1 x.2) (r3.1,[])).bind fun s3=>
 (iter (fun x2=>qhF s3 x2.1 x2.2.1 x2.2.2.1 x2.2.2.2.1 x2.2.2.2.2) (0,r3.2.1,r3.2.2,s3,[])).bind fun s6=>
 (qab 4 s6.1 s6.2.1).bind fun r6=>
 (iter (fun x3=>qhG s3 x3.1 x3.2.1 x3.2.2.1 x3.2.2.2.1 x3.2.2.2.2) (r6.1,r6.2.1,r6.2.2,s6.2.2.1,s6.2.2.2)).bind fun s9=>
 (iter (fun x4=>qhH s3 x4.1 x4.2.1 x4.2.2.1 x4.2.2.2.1 x4.2.2.2.2.1 x4.2.2.2.2.2.1 x4.2.2.2.2.2.2) (0,s9.1,s9.2.1,s9.2.2.1,s9.2.2.2,[],[])).bind fun s16=>
 some ((s16.2.2.1,(s16.2.2.2.1,(s16.2.2.2.2.1,(s16.2.2.2.2.2,(r.1,r2.1))))),s16.1,s16.2.1)
def qhI:Fun:=
 ⟨7,1,1,
 ⟨[(0,pt 0 0)],v3_,[]⟩,
 ⟨[(0,dd tT0)],v3_,[]⟩,
 fun x=>qeC x.1 x.2⟩
theorem qnt:FO qhI:=fi [] [qbv,qdP,qis,qhD,qa4] 139 [] ((nn (nn (mm (nn (mm (.mk [] (some (⟨[(0,pt 0 0),(2,pt 48 0),(3,pt 64 0),(4,ii)],v76_,[(1049,.arr 9 (.str))]⟩,[⟨.x 0,⟨[(0,pt 0 0),(2,pt 48 0),(3,pt 64 0)],v76_,[(1049,.arr 9 (.str))]⟩⟩])) .nil .nil) .nil)) (nn (mm (nn (mm (.mk [] (some (⟨[(0,pt 0 0),(2,pt 48 0),(3,pt 64 0),(5,kk),(6,ii)],v14_,a61_⟩,[⟨.x 2,⟨[(0,pt 0 0),(2,pt 48 0),(3,pt 64 0),(5,kk)],v14_,a61_⟩⟩])) .nil .nil) .nil)) (mm (nn (mm (.mk [] (some (⟨[(0,pt 0 0),(2,pt 48 0),(3,pt 64 0),(5,kk),(7,ii)],v14_,a61_⟩,[⟨.x 4,⟨[(0,pt 0 0),(2,pt 48 0),(3,pt 64 0),(5,kk)],v14_,a61_⟩⟩])) .nil .nil) .nil)) (mm (nn (mm (.mk [] (some (⟨[(0,pt 0 0),(2,pt 48 0),(3,pt 64 0),(5,kk),(9,ii)],v9_,a5_⟩,[⟨.x 6,⟨r39_,[(48,32,(kp 6)),(64,32,[.own 1049,.own 1065,.own 1081,.own 1097,.keep,.keep]),(0,88,[.data (.sl I6),.data I6])],a5_⟩⟩])) (nn (mm (mm (mm (mm (.mk [.join [⟨.n,⟨[(0,pt 0 0),(2,pt 48 0),(3,pt 64 0),(5,kk),(9,kk),(95,bb)],v9_,a5_⟩⟩]] none .nil .nil) (.mk [.join [⟨.n,⟨r129_,v9_,a5_⟩⟩]] none .nil .nil)) (mm (.mk [.join [⟨.n,⟨[(0,pt 0 0),(2,pt 48 0),(3,pt 64 0),(5,kk),(9,kk),(117,bb)],v9_,a5_⟩⟩]] none .nil .nil) (.mk [.join [⟨.n,⟨r129_,v9_,a5_⟩⟩]] none .nil .nil))) .nil) .nil)) .nil) .nil)) .nil)))))))) func7 ⟨⟨qbW,qfD,qlt,qns,qbc,trivial⟩,trivial⟩
def qbx(n:Int)(low:Int)(high:Int):Option (Bool):=
 bif decide (low<=n) then(
 some (decide (n<=high)))
 else(
 some false)
def qnu:Fun:=
 ⟨124,3,1,
 ⟨r141_,[],[]⟩,
 ⟨[(0,bb)],[],[]⟩,
 fun x=>qbx x.1 x.2.1 x.2.2⟩
theorem qrk:FO qnu:=fi [] [] 15 [] .nil func124 ⟨trivial,trivial⟩
def qr1(n:yB0)(v:Int)(out:List (List UInt8)):Option ((Int×List (List UInt8))⊕(List (List UInt8))):=
 bif decide (v<(n.2.1.length:Int)) then(
 gd (inB v n.2.1.length)<|
 gd (fits (out.length+1) 16)<|
 some (.inl (wi64 (v+1),out++[(n.2.1.getD v.toNat ([],(0,(0,(0,(0,(0,[]))))))).1])))
 else(
 some (.inr out))
def qr2(n:yB0)(v2:Int)(out2:List (List UInt8))(out3:List (List UInt8)):Option ((Int×List (List UInt8)×List (List UInt8))⊕(List (List UInt8)×List (List UInt8))):=
 bif decide (v2<(n.2.2.1.length:Int)) then(
 gd (inB v2 n.2.2.1.length)<|
 gd (fits (out3.length+1) 16)<|
 some (.inl (wi64 (v2+1),out2,out3++[(n.2.2.1.getD v2.toNat ([],(0,0))).1])))
 else(
 some (.inr (out2,out3)))
def qr3(n:yB0)(v3:Int)(out4:List (List UInt8))(out5:List (List UInt8))(out6:List (List UInt8)):Option ((Int×List (List UInt8)×List (List UInt8)×List (List UInt8))⊕(List (List UInt8)×List (List UInt8)×List (List UInt8))):=
 bif decide (v3<(n.2.2.2.1.length:Int)) then(
 gd (inB v3 n.2.2.2.1.length)<|
 gd (fits (out6.length+1) 16)<|
 some (.inl (wi64 (v3+1),out4,out5,out6++[(n.2.2.2.1.getD v3.toNat ([],(0,(0,(0,0))))).1])))
 else(
 some (.inr (out4,out5,out6)))
def qnv(n:yB0):Option yB14:=
 (iter (fun x=>qr1 n x.1 x.2) (0,[])).bind fun s=>
 (iter (fun x2=>qr2 n x2.1 x2.2.1 x2.2.2) (0,s,[])).bind fun s2=>
 (iter (fun x3=>qr3 n x3.1 x3.2.1 x3.2.2.1 x3.2.2.2) (0,s2.1,s2.2,[])).bind fun s3=>
 some (n.1,(s3.1,(s3.2.1,s3.2.2)))
def qmV:Fun:=
 ⟨125,1,1,
 ⟨[(0,dd tT0)],[],[]⟩,
 ⟨r89_,[],[]⟩,
 fun x=>qnv x⟩
theorem qr4:FO qmV:=fi [] [] 59 [] ((nn (nn (nn (mm (nn (mm (.mk [] (some (⟨r108_,v42_,a150_⟩,[⟨.x 0,⟨r49_,v42_,a150_⟩⟩])) .nil .nil) .nil)) (mm (nn (mm (.mk [] (some (⟨r109_,v38_,a82_⟩,[⟨.x 2,⟨r49_,v38_,a82_⟩⟩])) .nil .nil) .nil)) (mm (nn (mm (.mk [] (some (⟨r130_,v45_,a46_⟩,[⟨.x 4,⟨r39_,v45_,a46_⟩⟩])) .nil .nil) .nil)) .nil))))))) func125 ⟨trivial,trivial⟩
def qb6(s:List UInt8)(i:Int):Option (Int⊕(Unit⊕Bool)):=
 bif decide (i<(s.length:Int)) then(
 Option.bind (α:=Bool) (
 gd (inB i s.length)<|
 bif decide ((Int.ofNat (s.getD i.toNat 0).toNat)<97) then(
 gd (inB i s.length)<|
 bif decide ((Int.ofNat (s.getD i.toNat 0).toNat)<48) then(
 gd (inB i s.length)<|
 some (!decide ((Int.ofNat (s.getD i.toNat 0).toNat)=45)))
 else(
 gd (inB i s.length)<|
 bif decide (57<(Int.ofNat (s.getD i.toNat 0).toNat)) then(
 gd (inB i s.length)<|
 some (!decide ((Int.ofNat (s.getD i.toNat 0).toNat)=45)))
 else(
 some false)))
 else(
 gd (inB i s.length)<|
 bif decide (122<(Int.ofNat (s.getD i.toNat 0).toNat)) then(
 gd (inB i s.length)<|
 bif decide ((Int.ofNat (s.getD i.toNat 0).toNat)<48) then(
 gd (inB i s.length)<|
 some (!decide ((Int.ofNat (s.getD i.toNat 0).toNat)=45)))
 else(
 gd (inB i s.length)<|
 bif decide (57<(Int.ofNat (s.getD i.toNat 0).toNat)) then(
 gd (inB i s.length)<|
 some (!decide ((Int.ofNat (s.getD i.toNat 0).toNat)=45)))
 else(
 some false)))
 else(
 some false))) fun s3=>
 bif s3 then(
 some (.inr (.inr false)))
 else(
 some (.inl (wi64 (i+1)))))
 else(
 some (.inr (.inl ())))
def qcq(s:List UInt8):Option (Bool):=
 Option.bind (α:=Bool) (
 bif decide ((s.length:Int)<1) then(
 some true)
 else(
 bif decide (12<(s.length:Int)) then(
 some true)
 else(
 gd (inB 0 s.length)<|
 bif decide ((Int.ofNat (s.getD 0 0).toNat)<97) then(
 some true)
 else(
 gd (inB 0 s.length)<|
 some (decide (122<(Int.ofNat (s.getD 0 0).toNat))))))) fun s2=>
 bif s2 then(
 some false)
 else(
 (iter (fun x=>qb6 s x) 0).bind fun s4=>
 s4.elim (fun s5=>
 some true)
 (fun s6=>
 some s6))
def qgZ:Fun:=
 ⟨126,1,1,
 ⟨[(0,ss)],[],[]⟩,
 ⟨[(0,bb)],[],[]⟩,
 fun x=>qcq x⟩
theorem qj0:FO qgZ:=fi [] [] 56 [] ((nn (mm (mm (.mk [.join [⟨.n,⟨[(0,kk),(21,bb)],[],[]⟩⟩]] none .nil .nil) .nil) (mm (nn (mm (.mk [] (some (⟨[(0,kk),(3,ii)],[],[]⟩,[⟨.x 0,⟨[],[],[]⟩⟩,⟨.r,⟨[(2,bb)],[],[]⟩⟩])) (nn (mm (mm (mm (.mk [.join [⟨.n,⟨[(0,kk),(3,kk),(55,bb)],[],[]⟩⟩]] none .nil .nil) .nil) .nil) .nil)) .nil) .nil)) .nil)))) func126 ⟨trivial,trivial⟩
def qfS(l:List (List UInt8))(v:Int)(k:Int):Option (Int⊕(Unit⊕Bool)):=
 bif decide (k<v) then(
 gd (inB v l.length)<|
 gd (inB k l.length)<|
 bif decide (l.getD v.toNat []=l.getD k.toNat []) then(
 some (.inr (.inr true)))
 else(
 some (.inl (wi64 (k+1)))))
 else(
 some (.inr (.inl ())))
def qiS(l:List (List UInt8))(v:Int):Option (Int⊕(Unit⊕Bool)):=
 bif decide (v<(l.length:Int)) then(
 (iter (fun x=>qfS l v x) 0).bind fun s=>
 s.elim (fun s2=>
 some (.inl (wi64 (v+1))))
 (fun s3=>
 some (.inr (.inr s3))))
 else(
 some (.inr (.inl ())))
def qj1(l:List (List UInt8)):Option (Bool):=
 (iter (fun x2=>qiS l x2) 0).bind fun s4=>
 s4.elim (fun s5=>
 some false)
 (fun s6=>
 some s6)
def qmW:Fun:=
 ⟨127,1,1,
 ⟨[(0,dd (.sl (.str)))],[],[]⟩,
 ⟨[(0,bb)],[],[]⟩,
 fun x=>qj1 x⟩
theorem qr5:FO qmW:=fi [] [] 25 [] ((nn (mm (nn (mm (.mk [] (some (⟨[(0,kk),(6,kk),(7,ii)],[],[]⟩,[⟨.x 0,⟨[],[],[]⟩⟩,⟨.r,⟨[(2,bb)],[],[]⟩⟩])) (nn (nn (mm (mm (nn (nn (mm (.mk [] (some (⟨[(0,kk),(3,kk),(4,ii),(6,kk),(7,kk)],[],[]⟩,[⟨.x 2,⟨[(0,kk),(6,kk),(7,kk)],[],[]⟩⟩,⟨.r,⟨[(2,bb)],[],[]⟩⟩])) .nil .nil) .nil))) .nil) .nil))) .nil) .nil)) .nil))) func127 ⟨trivial,trivial⟩
def qfl(s:yB12)(v:Int):Option (Int⊕(Unit⊕Bool)):=
 bif decide (v<(s.2.2.2.2.2.2.length:Int)) then(
 gd (inB v s.2.2.2.2.2.2.length)<|
 Option.bind (α:=Bool) (
 bif decide (0<v) then(
 gd (inB (wi64 (v-1)) s.2.2.2.2.2.2.length)<|
 bif decide ((s.2.2.2.2.2.2.getD v.toNat (0,(0,0))).1<=(s.2.2.2.2.2.2.getD (wi64 (v-1)).toNat (0,(0,0))).1) then(
 some true)
 else(
 (qbx (((s.2.2.2.2.2.2.getD v.toNat (0,(0,0))).2).1) (-500) 5000).bind fun r4=>
 bif !r4 then(
 some true)
 else(
 (qbx (((s.2.2.2.2.2.2.getD v.toNat (0,(0,0))).2).2) 0 100000000).bind fun r5=>
 some (!r5))))
 else(
 (qbx (((s.2.2.2.2.2.2.getD v.toNat (0,(0,0))).2).1) (-500) 5000).bind fun r6=>
 bif !r6 then(
 some true)
 else(
 (qbx (((s.2.2.2.2.2.2.getD v.toNat (0,(0,0))).2).2) 0 100000000).bind fun r7=>
 some (!r7)))) fun s3=>
 bif s3 then(
 some (.inr (.inr false)))
 else(
 some (.inl (wi64 (v+1)))))
 else(
 some (.inr (.inl ())))
def qeU(s:yB12):Option (Bool):=
 Option.bind (α:=Bool) (
 bif decide (s.2.1=s.2.2.1) then(
 some true)
 else(
 (qbx s.2.2.2.1 1 1000000).bind fun r=>
 bif !r then(
 some true)
 else(
 (qbx s.2.2.2.2.1 0 1000).bind fun r2=>
 bif !r2 then(
 some true)
 else(
 (qbx s.2.2.2.2.2.1 0 100000).bind fun r3=>
 bif !r3 then(
 some true)
 else(
 gd (inB 0 s.2.2.2.2.2.2.length)<|
 bif !decide ((s.2.2.2.2.2.2.getD 0 (0,(0,0))).1=0) then(
 some true)
 else(
 gd (inB (wi64 ((s.2.2.2.2.2.2.length:Int)-1)) s.2.2.2.2.2.2.length)<|
 some (!decide ((s.2.2.2.2.2.2.getD (wi64 ((s.2.2.2.2.2.2.length:Int)-1)).toNat (0,(0,0))).1=s.2.2.2.1)))))))) fun s2=>
 bif s2 then(
 some false)
 else(
 (iter (fun x=>qfl s x) 0).bind fun s4=>
 s4.elim (fun s5=>
 some true)
 (fun s6=>
 some s6))
def qlu:Fun:=
 ⟨128,1,1,
 ⟨r111_,[],[]⟩,
 ⟨[(0,bb)],[],[]⟩,
 fun x=>qeU x⟩
theorem qrl:FO qlu:=fi [] [qnu] 85 [] ((nn (mm (mm (.mk [.join [⟨.n,⟨[(1,pt 32 0),(49,bb)],v118_,[]⟩⟩]] none .nil .nil) .nil) (mm (nn (mm (.mk [] (some (⟨[(1,pt 32 0),(51,kk),(52,kk),(53,ii)],v118_,[]⟩,[⟨.x 0,⟨[],[],[]⟩⟩,⟨.r,⟨[(2,bb)],[],[]⟩⟩])) (nn (nn (mm (mm (nn (mm (.mk [.join [⟨.n,⟨[(1,pt 32 0),(51,kk),(52,kk),(53,kk),(83,bb)],v118_,[]⟩⟩]] none .nil .nil) .nil)) .nil) .nil))) .nil) .nil)) .nil)))) func128 ⟨⟨qrk,trivial⟩,trivial⟩
def qea(n:yB0)(v:Int):Option (Int⊕(Unit⊕Int)):=
 bif decide (v<(n.2.1.length:Int)) then(
 gd (inB v n.2.1.length)<|
 (qbx ((((((((n.2.1.getD v.toNat ([],(0,(0,(0,(0,(0,[]))))))).2).2).2).2).2).2).length:Int) 2 8).bind fun r2=>
 bif !r2 then(
 some (.inr (.inr 4)))
 else(
 some (.inl (wi64 (v+1)))))
 else(
 some (.inr (.inl ())))
def qdk(v2:List (List UInt8))(v3:List (List UInt8))(v4:List (List UInt8))(v5:List (List UInt8))(v6:Int)(v7:List (List UInt8))(v8:List (List UInt8))(v9:List (List UInt8))(v10:List (List UInt8))(v11:Int):Option ((List (List UInt8)×List (List UInt8)×List (List UInt8)×List (List UInt8)×Int)⊕(yB14⊕Int)):=
 bif decide (v11<(([v2,v3,v4,v5].getD v6.toNat []).length:Int)) then(
 gd (inB v11 ([v2,v3,v4,v5].getD v6.toNat []).length)<|
 (qcq (([v2,v3,v4,v5].getD v6.toNat []).getD v11.toNat [])).bind fun r4=>
 bif !r4 then(
 some (.inr (.inr 3)))
 else(
 some (.inl (v7,v8,v9,v10,wi64 (v11+1)))))
 else(
 some (.inr (.inl (v7,v8,v9,v10))))
def qfT(v2:List (List UInt8))(v3:List (List UInt8))(v4:List (List UInt8))(v5:List (List UInt8))(v6:Int):Option ((List (List UInt8)×List (List UInt8)×List (List UInt8)×List (List UInt8)×Int)⊕(Unit⊕Int)):=
 bif decide (v6<4) then(
 gd (inB v6 4)<|
 (iter (fun x2=>qdk v2 v3 v4 v5 v6 x2.1 x2.2.1 x2.2.2.1 x2.2.2.2.1 x2.2.2.2.2) (v2,v3,v4,v5,0)).bind fun s5=>
 s5.elim (fun s6=>
 some (.inl (s6.1,s6.2.1,s6.2.2.1,s6.2.2.2,wi64 (v6+1))))
 (fun s7=>
 some (.inr (.inr s7))))
 else(
 some (.inr (.inl ())))
def qfU(v12:List (List UInt8))(v13:List (List UInt8))(v14:List (List UInt8))(v15:List (List UInt8))(v16:Int):Option ((List (List UInt8)×List (List UInt8)×List (List UInt8)×List (List UInt8)×Int)⊕(Unit⊕Int)):=
 bif decide (v16<4) then(
 gd (inB v16 4)<|
 (qj1 ([v12,v13,v14,v15].getD v16.toNat [])).bind fun r5=>
 bif r5 then(
 some (.inr (.inr 7)))
 else(
 some (.inl (v12,v13,v14,v15,wi64 (v16+1)))))
 else(
 some (.inr (.inl ())))
def qfV(n:yB0)(v17:Int)(k:Int):Option (Int⊕(Unit⊕Int)):=
 bif decide (k<v17) then(
 gd (inB v17 n.2.2.2.1.length)<|
 gd (inB k n.2.2.2.1.length)<|
 bif decide (((n.2.2.2.1.getD v17.toNat ([],(0,(0,(0,0))))).2).1=((n.2.2.2.1.getD k.toNat ([],(0,(0,(0,0))))).2).1) then(
 some (.inr (.inr 7)))
 else(
 some (.inl (wi64 (k+1)))))
 else(
 some (.inr (.inl ())))
def qfW(n:yB0)(v17:Int):Option (Int⊕(Unit⊕Int)):=
 bif decide (v17<(n.2.2.2.1.length:Int)) then(
 (iter (fun x5=>qfV n v17 x5) 0).bind fun s14=>
 s14.elim (fun s15=>
 some (.inl (wi64 (v17+1))))
 (fun s16=>
 some (.inr (.inr s16))))
 else(
 some (.inr (.inl ())))
def qeb(n:yB0)(v18:Int):Option (Int⊕(Unit⊕Int)):=
 bif decide (v18<(n.2.1.length:Int)) then(
 gd (inB v18 n.2.1.length)<|
 Option.bind (α:=Bool) (
 (qbx (((n.2.1.getD v18.toNat ([],(0,(0,(0,(0,(0,[]))))))).2).1) 0 (wi64 ((n.1.length:Int)-1))).bind fun r6=>
 bif !r6 then(
 some true)
 else(
 (qbx ((((n.2.1.getD v18.toNat ([],(0,(0,(0,(0,(0,[]))))))).2).2).1) 0 (wi64 ((n.1.length:Int)-1))).bind fun r7=>
 some (!r7))) fun s20=>
 bif s20 then(
 some (.inr (.inr 8)))
 else(
 some (.inl (wi64 (v18+1)))))
 else(
 some (.inr (.inl ())))
def qec(n:yB0)(v19:Int):Option (Int⊕(Unit⊕Int)):=
 bif decide (v19<(n.2.2.1.length:Int)) then(
 gd (inB v19 n.2.2.1.length)<|
 (qbx (((n.2.2.1.getD v19.toNat ([],(0,0))).2).1) 0 (wi64 ((n.1.length:Int)-1))).bind fun r8=>
 bif !r8 then(
 some (.inr (.inr 8)))
 else(
 some (.inl (wi64 (v19+1)))))
 else(
 some (.inr (.inl ())))
def qed(n:yB0)(v20:Int):Option (Int⊕(Unit⊕Int)):=
 bif decide (v20<(n.2.2.2.1.length:Int)) then(
 gd (inB v20 n.2.2.2.1.length)<|
 (qbx (((n.2.2.2.1.getD v20.toNat ([],(0,(0,(0,0))))).2).1) 0 (wi64 ((n.1.length:Int)-1))).bind fun r9=>
 bif !r9 then(
 some (.inr (.inr 8)))
 else(
 some (.inl (wi64 (v20+1)))))
 else(
 some (.inr (.inl ())))
def qee(n:yB0)(v21:Int):Option (Int⊕(Unit⊕Int)):=
 bif decide (v21<(n.2.1.length:Int)) then(
 gd (inB v21 n.2.1.length)<|
 (qeU ((n.2.1.getD v21.toNat ([],(0,(0,(0,(0,(0,[]))))))).1,(((n.2.1.getD v21.toNat ([],(0,(0,(0,(0,(0,[]))))))).2).1,((((n.2.1.getD v21.toNat ([],(0,(0,(0,(0,(0,[]))))))).2).2).1,(((((n.2.1.getD v21.toNat ([],(0,(0,(0,(0,(0,[]))))))).2).2).2).1,((((((n.2.1.getD v21.toNat ([],(0,(0,(0,(0,(0,[]))))))).2).2).2).2).1,(((((((n.2.1.getD v21.toNat ([],(0,(0,(0,(0,(0,[]))))))).2).2).2).2).2).1,((((((n.2.1.getD v21.toNat ([],(0,(0,(0,(0,(0,[]))))))).2).2).2).2).2).2))))))).bind fun r10=>
 bif !r10 then(
 some (.inr (.inr 9)))
 else(
 some (.inl (wi64 (v21+1)))))
 else(
 some (.inr (.inl ())))
def qdD(n:yB0)(v22:Int):Option (Int⊕(Unit⊕Int)):=
 bif decide (v22<(n.2.2.1.length:Int)) then(
 gd (inB v22 n.2.2.1.length)<|
 (qbx (((n.2.2.1.getD v22.toNat ([],(0,0))).2).2) 0 100000000).bind fun r11=>
 bif !r11 then(
 some (.inr (.inr 9)))
 else(
 some (.inl (wi64 (v22+1)))))
 else(
 some (.inr (.inl ())))
def qdE(n:yB0)(v23:Int):Option (Int⊕(Unit⊕Int)):=
 bif decide (v23<(n.2.2.2.1.length:Int)) then(
 gd (inB v23 n.2.2.2.1.length)<|
 Option.bind (α:=Bool) (
 (qbx ((((n.2.2.2.1.getD v23.toNat ([],(0,(0,(0,0))))).2).2).1) 0 100000000).bind fun r12=>
 bif !r12 then(
 some true)
 else(
 (qbx (((((n.2.2.2.1.getD v23.toNat ([],(0,(0,(0,0))))).2).2).2).1) 0 100000).bind fun r13=>
 bif !r13 then(
 some true)
 else(
 (qbx (((((n.2.2.2.1.getD v23.toNat ([],(0,(0,(0,0))))).2).2).2).2) 0 100000000).bind fun r14=>
 some (!r14)))) fun s36=>
 bif s36 then(
 some (.inr (.inr 9)))
 else(
 some (.inl (wi64 (v23+1)))))
 else(
 some (.inr (.inl ())))
def qeL(n:yB0):Option (Int):=
 Option.bind (α:=Bool) (
 (qbx (n.1.length:Int) 1 24).bind fun r=>
 bif !r then(
 some true)
 else(
 bif decide (32<(n.2.1.length:Int)) then(
 some true)
 else(
 bif decide (24<(n.2.2.1.length:Int)) then(
 some true)
 else(
 some (decide (12<(n.2.2.2.1.length:Int))))))) fun s=>
 bif s then(
 some 4)
 else(
 (iter (fun x=>qea n x) 0).bind fun s2=>
 s2.elim (fun s3=>
 (qnv (n.1,(n.2.1,(n.2.2.1,(n.2.2.2.1,(n.2.2.2.2.1,n.2.2.2.2.2)))))).bind fun r3=>
 (iter (fun x3=>qfT x3.1 x3.2.1 x3.2.2.1 x3.2.2.2.1 x3.2.2.2.2) (r3.1,r3.2.1,r3.2.2.1,r3.2.2.2,0)).bind fun s8=>
 s8.elim (fun s9=>
 (iter (fun x4=>qfU x4.1 x4.2.1 x4.2.2.1 x4.2.2.2.1 x4.2.2.2.2) (r3.1,r3.2.1,r3.2.2.1,r3.2.2.2,0)).bind fun s11=>
 s11.elim (fun s12=>
 (iter (fun x6=>qfW n x6) 0).bind fun s17=>
 s17.elim (fun s18=>
 (iter (fun x7=>qeb n x7) 0).bind fun s21=>
 s21.elim (fun s22=>
 (iter (fun x8=>qec n x8) 0).bind fun s24=>
 s24.elim (fun s25=>
 (iter (fun x9=>qed n x9) 0).bind fun s27=>
 s27.elim (fun s28=>
 (iter (fun x10=>qee n x10) 0).bind fun s30=>
 s30.elim (fun s31=>
 (iter (fun x11=>qdD n x11) 0).bind fun s33=>
 s33.elim (fun s34=>
 (iter (fun x12=>qdE n x12) 0).bind fun s37=>
 s37.elim (fun s38=>
 Option.bind (α:=Bool) (
 (qbx n.2.2.2.2.1 (-100000) 100000000).bind fun r15=>
 bif !r15 then(
 some true)
 else(
 (qbx n.2.2.2.2.2 0 100).bind fun r16=>
 some (!r16))) fun s40=>
 bif s40 then(
 some 9)
 else(
 some 0))
 (fun s39=>
 some s39))
 (fun s35=>
 some s35))
 (fun s32=>
 some s32))
 (fun s29=>
 some s29))
 (fun s26=>
 some s26))
 (fun s23=>
 some s23))
 (fun s19=>
 some s19))
 (fun s13=>
 some s13))
 (fun s10=>
 some s10))
 (fun s4=>
 some s4))
def qef:Fun:=
 ⟨70,1,1,
 ⟨[(0,dd tT0)],[],[]⟩,
 ⟨[(0,ii)],[],[]⟩,
 fun x=>qeL x⟩
theorem qfX:FO qef:=fi [] [qnu,qmV,qgZ,qmW,qlu] 219 [] ((nn (mm (mm (.mk [.join [⟨.n,⟨[(1,pt 32 0),(49,bb)],v7_,[]⟩⟩]] none .nil .nil) .nil) (mm (nn (mm (.mk [] (some (⟨[(1,pt 32 0),(51,kk),(52,kk),(53,ii)],v7_,[]⟩,[⟨.x 0,⟨[(1,pt 32 0)],v7_,[]⟩⟩,⟨.r,⟨[(2,ii)],[],[]⟩⟩])) .nil .nil) .nil)) (nn (mm (nn (mm (.mk [] (some (⟨[(1,pt 32 0),(5,pt 96 0),(65,.agg [.data (.sl (.str)),.data (.sl (.str)),.data (.sl (.str)),.data (.sl (.str))]),(66,ii)],v105_,[]⟩,[⟨.x 2,⟨[(1,pt 32 0),(5,pt 96 0)],v105_,[]⟩⟩,⟨.r,⟨[(2,ii)],[],[]⟩⟩])) (nn (nn (mm (mm (nn (nn (mm (.mk [] (some (⟨[(1,pt 32 0),(5,pt 96 0),(65,.agg [.data (.sl (.str)),.data (.sl (.str)),.data (.sl (.str)),.data (.sl (.str))]),(66,kk),(69,kk),(70,kk),(71,ii)],v105_,[]⟩,[⟨.x 4,⟨[(1,pt 32 0),(5,pt 96 0),(65,.agg [.data (.sl (.str)),.data (.sl (.str)),.data (.sl (.str)),.data (.sl (.str))]),(66,kk)],v105_,[]⟩⟩,⟨.r,⟨[(2,ii)],[],[]⟩⟩])) .nil .nil) .nil))) .nil) .nil))) .nil) .nil)) (mm (nn (mm (.mk [] (some (⟨[(1,pt 32 0),(80,.agg [.data (.sl (.str)),.data (.sl (.str)),.data (.sl (.str)),.data (.sl (.str))]),(81,ii)],v7_,[]⟩,[⟨.x 6,⟨[(1,pt 32 0)],v7_,[]⟩⟩,⟨.r,⟨[(2,ii)],[],[]⟩⟩])) .nil .nil) .nil)) (mm (nn (mm (.mk [] (some (⟨[(1,pt 32 0),(89,kk),(90,ii)],v7_,[]⟩,[⟨.x 8,⟨[(1,pt 32 0)],v7_,[]⟩⟩,⟨.r,⟨[(2,ii)],[],[]⟩⟩])) (nn (nn (mm (mm (nn (nn (mm (.mk [] (some (⟨[(1,pt 32 0),(12,kk),(13,ii),(89,kk),(90,kk)],v7_,[]⟩,[⟨.x 10,⟨[(1,pt 32 0),(89,kk),(90,kk)],v7_,[]⟩⟩,⟨.r,⟨[(2,ii)],[],[]⟩⟩])) .nil .nil) .nil))) .nil) .nil))) .nil) .nil)) (nn (mm (nn (mm (.mk [] (some (⟨[(1,pt 32 0),(14,kk),(117,kk),(118,kk),(119,ii)],v7_,[]⟩,[⟨.x 12,⟨[(1,pt 32 0),(14,kk)],v7_,[]⟩⟩,⟨.r,⟨[(2,ii)],[],[]⟩⟩])) (nn (nn (mm (mm (nn (mm (.mk [.join [⟨.n,⟨[(1,pt 32 0),(14,kk),(117,kk),(118,kk),(119,kk),(134,bb)],v7_,[]⟩⟩]] none .nil .nil) .nil)) .nil) .nil))) .nil) .nil)) (mm (nn (mm (.mk [] (some (⟨[(1,pt 32 0),(14,kk),(137,kk),(138,kk),(139,ii)],v7_,[]⟩,[⟨.x 14,⟨[(1,pt 32 0),(14,kk)],v7_,[]⟩⟩,⟨.r,⟨[(2,ii)],[],[]⟩⟩])) .nil .nil) .nil)) (mm (nn (mm (.mk [] (some (⟨[(1,pt 32 0),(14,kk),(150,kk),(151,kk),(152,ii)],v7_,[]⟩,[⟨.x 16,⟨[(1,pt 32 0)],v7_,[]⟩⟩,⟨.r,⟨[(2,ii)],[],[]⟩⟩])) .nil .nil) .nil)) (mm (nn (mm (.mk [] (some (⟨[(1,pt 32 0),(163,kk),(164,kk),(165,ii)],v7_,[]⟩,[⟨.x 18,⟨[(1,pt 32 0)],v7_,[]⟩⟩,⟨.r,⟨[(2,ii)],[],[]⟩⟩])) .nil .nil) .nil)) (mm (nn (mm (.mk [] (some (⟨[(1,pt 32 0),(174,kk),(175,kk),(176,ii)],v7_,[]⟩,[⟨.x 20,⟨[(1,pt 32 0)],v7_,[]⟩⟩,⟨.r,⟨[(2,ii)],[],[]⟩⟩])) .nil .nil) .nil)) (mm (nn (mm (.mk [] (some (⟨[(1,pt 32 0),(186,kk),(187,kk),(188,ii)],v7_,[]⟩,[⟨.x 22,⟨[(1,pt 32 0)],v7_,[]⟩⟩,⟨.r,⟨[(2,ii)],[],[]⟩⟩])) (nn (nn (mm (mm (nn (mm (.mk [.join [⟨.n,⟨[(1,pt 32 0),(186,kk),(187,kk),(188,kk),(207,bb)],v7_,[]⟩⟩]] none .nil .nil) .nil)) .nil) .nil))) .nil) .nil)) (mm (mm (.mk [.join [⟨.n,⟨[(218,bb)],[],[]⟩⟩]] none .nil .nil) .nil) .nil)))))))))))))))) func70 ⟨⟨qrk,qr4,qj0,qr5,qrl,trivial⟩,trivial⟩
def qdQ(n:yB0):Option (Int):=
 some (wi64 ((n.2.1.length:Int)+(n.2.2.1.length:Int)))
def qgA:Fun:=
 ⟨71,1,1,
 ⟨[(0,dd tT0)],[],[]⟩,
 ⟨[(0,ii)],[],[]⟩,
 fun x=>qdQ x⟩
theorem qkI:FO qgA:=fi [] [] 10 [] .nil func71 ⟨trivial,trivial⟩
def qg0(n:yB0)(travel:Int)(i:Int)(d:yB4)(d2:List Int)(d3:List Int)(d4:List Bool):Option (yB10⊕(yB4×List Int×List Int×List Bool)):=
 (qdQ (n.1,(n.2.1,(n.2.2.1,(n.2.2.2.1,(n.2.2.2.2.1,n.2.2.2.2.2)))))).bind fun r2=>
 bif decide (i<r2) then(
 gd (fits (d.length+1) 24)<|
 some (.inl (wi64 (i+1),d++[(travel,(0,(false,false)))],d2,d3,d4)))
 else(
 some (.inr (d,d2,d3,d4)))
def qfE(n:yB0)(travel:Int):Option (yB6×Int):=
 (qeL (n.1,(n.2.1,(n.2.2.1,(n.2.2.2.1,(n.2.2.2.2.1,n.2.2.2.2.2)))))).bind fun r=>
 bif !decide (r=0) then(
 some (([],([],([],[]))),r))
 else(
 Option.bind (α:=Bool) (
 bif decide (travel<1) then(
 some true)
 else(
 some (decide (60<travel)))) fun s=>
 bif s then(
 some (([],([],([],[]))),20))
 else(
 gd (makeG 8 (n.2.1.length:Int))<|
 gd (makeG 8 (n.2.2.1.length:Int))<|
 gd (makeG 1 (n.2.2.2.1.length:Int))<|
 (iter (fun x=>qg0 n travel x.1 x.2.1 x.2.2.1 x.2.2.2.1 x.2.2.2.2) (0,[],List.replicate (n.2.1.length:Int).toNat (0:Int),List.replicate (n.2.2.1.length:Int).toNat (0:Int),List.replicate (n.2.2.2.1.length:Int).toNat (false:Bool))).bind fun s2=>
 some ((s2.1,(s2.2.1,(s2.2.2.1,s2.2.2.2))),0)))
def qoz:Fun:=
 ⟨38,2,2,
 ⟨r151_,[],[]⟩,
 ⟨r57_,[],[]⟩,
 fun x=>qfE x.1 x.2⟩
theorem qtt:FO qoz:=fi [] [qef,qgA] 50 [] ((nn (nn (mm (mm (.mk [.join [⟨.n,⟨[(1,kk),(2,pt 48 0),(4,pt 80 0),(20,bb)],[(48,32,(kp 6)),(80,40,(kp 4))],[]⟩⟩]] none .nil .nil) .nil) (nn (mm (nn (mm (.mk [] (some (⟨[(1,kk),(2,pt 48 0),(4,pt 80 0),(7,pt 128 0),(8,ii)],[(48,32,(kp 6)),(80,40,(kp 4)),(128,40,[.own 2073,.own 416,.own 480,.own 544])],a95_⟩,[⟨.x 0,⟨[(4,pt 80 0),(7,pt 128 0)],[(80,40,(kp 4)),(128,40,[.own 2073,.own 416,.own 480,.own 544])],a95_⟩⟩])) .nil .nil) .nil)) .nil)))))) func38 ⟨⟨qfX,qkI,trivial⟩,trivial⟩
def qji(n:yB0)(travel:Int):Option (yB1×Int):=
 (qfE (n.1,(n.2.1,(n.2.2.1,(n.2.2.2.1,(n.2.2.2.2.1,n.2.2.2.2.2))))) travel).bind fun r=>
 bif !decide (r.2=0) then(
 some ((([],([],([],[]))),([],([],0))),r.2))
 else(
 some (((r.1.1,(r.1.2.1,(r.1.2.2.1,r.1.2.2.2))),([],([],0))),0))
def qit:Fun:=
 ⟨17,2,2,
 ⟨r151_,[],[]⟩,
 ⟨r12_,[],[]⟩,
 fun x=>qji x.1 x.2⟩
theorem qlv:FO qit:=fi [] [qoz] 20 [] .nil func17 ⟨⟨qtt,trivial⟩,trivial⟩
def qdZ(i:Int)(s3:List Int)(s4:Int)(t:List Int):Option ((Int×List Int×Int×List Int)⊕(List Int×Int×List Int)):=
 bif decide (0<i) then(
 (qac ([0,(-1),62,63,(-63),(-62),9007199254740992,(-9007199254740992),126,1000]:List Int) s3 s4).bind fun r6=>
 gd (fits (t.length+1) 8)<|
 some (.inl (wi64 (i-1),r6.2.1,r6.2.2,t++[r6.1])))
 else(
 some (.inr (s3,s4,t)))
def qdR(station:Int)(s:List Int)(s2:Int):Option (yB3×List Int×Int):=
 (qab 3 s s2).bind fun r=>
 (qab 6 r.2.1 r.2.2).bind fun r2=>
 (qac ([0,125,63,62,1099511627776]:List Int) r2.2.1 r2.2.2).bind fun r3=>
 (qab 64 r3.2.1 r3.2.2).bind fun r4=>
 (qab 4 r4.2.1 r4.2.2).bind fun r5=>
 (iter (fun x=>qdZ x.1 x.2.1 x.2.2.1 x.2.2.2) (r5.1,r5.2.1,r5.2.2,[])).bind fun s5=>
 some ((station,(r.1,(r2.1,(r3.1,(r4.1,s5.2.2))))),s5.1,s5.2.1)
def qgJ:Fun:=
 ⟨33,2,1,
 ⟨r138_,v3_,[]⟩,
 ⟨[(0,dd tT1)],v3_,[]⟩,
 fun x=>qdR x.1 x.2.1 x.2.2⟩
theorem qmB:FO qgJ:=fi [] [qa4,qbv] 33 [] ((nn (nn (mm (nn (mm (.mk [] (some (⟨[(0,pt 0 0),(4,pt 80 0),(5,pt 96 0),(6,ii)],[(0,88,[.data (.sl I6),.data I6]),(80,104,(kp 6)),(96,104,[.keep,.keep,.keep,.keep,.keep,.own 1641])],[(1641,.arr 3 I6)]⟩,[⟨.x 0,⟨[(4,pt 80 0),(5,pt 96 0)],[(80,104,(kp 6)),(96,104,[.keep,.keep,.keep,.keep,.keep,.own 1641]),(0,88,[.data (.sl I6),.data I6])],[(1641,.arr 3 I6)]⟩⟩])) .nil .nil) .nil)) .nil)))) func33 ⟨⟨qbc,qbW,trivial⟩,trivial⟩
def qb7(l:List (List UInt8))(s:List Int)(s2:Int):Option (List UInt8×List Int×Int):=
 (qab (l.length:Int) s s2).bind fun r=>
 gd (inB r.1 l.length)<|
 some (l.getD r.1.toNat [],r.2.1,r.2.2)
def qgB:Fun:=
 ⟨36,2,1,
 ⟨[(0,pt 0 0),(1,dd (.sl (.str)))],v3_,[]⟩,
 ⟨[(0,ss)],v3_,[]⟩,
 fun x=>qb7 x.1 x.2.1 x.2.2⟩
theorem qkJ:FO qgB:=fi [] [qa4] 12 [] .nil func36 ⟨⟨qbc,trivial⟩,trivial⟩
def qfF(i:Int)(s3:List Int)(s4:Int)(l:yB13):Option ((Int×List Int×Int×List (List UInt8×Int×Int))⊕(List Int×Int×List (List UInt8×Int×Int))):=
 bif decide (0<i) then(
 (qb7 ([[97],[98,111],[99,51],[100,101,108,116,97],[101]]:List (List UInt8)) s3 s4).bind fun r2=>
 (qab 4 r2.2.1 r2.2.2).bind fun r3=>
 (qab 1000 r3.2.1 r3.2.2).bind fun r4=>
 (qac [0,1,50,r4.1,1073741824] r4.2.1 r4.2.2).bind fun r5=>
 Option.bind (α:=Bool×List Int×Int×List (List UInt8×Int×Int)) (
 bif decide (wi64 (1+r3.1)=4) then(
 (qab 2 r5.2.1 r5.2.2).bind fun r6=>
 some (decide (r6.1=0),r6.2.1,r6.2.2,l))
 else(
 some (false,r5.2.1,r5.2.2,l))) fun s5=>
 Option.bind (α:=Int×List (List UInt8×Int×Int)) (
 bif s5.1 then(
 some (wi64 (0-r5.1),s5.2.2.2))
 else(
 some (r5.1,s5.2.2.2))) fun s6=>
 gd (fits (s6.2.length+1) 32)<|
 some (.inl (wi64 (i-1),s5.2.1,s5.2.2.1,s6.2++[(r2.1,(wi64 (1+r3.1),s6.1))])))
 else(
 some (.inr (s3,s4,l)))
def qfY(most:Int)(s:List Int)(s2:Int):Option (List Int×Int×List (List UInt8×Int×Int)):=
 (qab (wi64 (most+1)) s s2).bind fun r=>
 (iter (fun x=>qfF x.1 x.2.1 x.2.2.1 x.2.2.2) (r.1,r.2.1,r.2.2,[])).bind fun s7=>
 some (s7.1,s7.2.1,s7.2.2)
def qjj:Fun:=
 ⟨34,2,1,
 ⟨r138_,v3_,[]⟩,
 ⟨[(0,ow 1)],v3_,[(1,.arr 60 (.pair (.str) (.pair I6 I6)))]⟩,
 fun x=>qfY x.1 x.2.1 x.2.2⟩
theorem qpl:FO qjj:=fi [] [qa4,qgB,qbv] 45 [] ((nn (nn (mm (nn (mm (.mk [] (some (⟨[(0,pt 0 0),(5,ow 107),(6,ii)],v3_,a85_⟩,[⟨.x 0,⟨[(5,ow 107)],v3_,a85_⟩⟩])) (nn (mm (mm (nn (mm (mm (.mk [.join [⟨.n,⟨[(0,pt 0 0),(5,ow 107),(6,kk),(7,pt 128 0),(35,bb)],[(0,88,[.data (.sl I6),.data I6]),(128,60,[.keep,.keep,.keep])],a85_⟩⟩]] none .nil .nil) (.mk [.join [⟨.n,⟨[(0,pt 0 0),(5,ow 107),(6,kk),(7,pt 128 0)],[(0,88,[.keep,.keep]),(128,60,[.keep,.keep,.data I6])],a85_⟩⟩]] none .nil .nil)) .nil)) .nil) .nil)) .nil) .nil)) .nil)))) func34 ⟨⟨qbc,qkJ,qbW,trivial⟩,trivial⟩
def qtu(n:Int):Option (Int):=
 some (max n (wi64 (0-n)))
def qrm:Fun:=
 ⟨111,1,1,
 ⟨[(0,ii)],[],[]⟩,
 ⟨[(0,ii)],[],[]⟩,
 fun x=>qtu x⟩
theorem qvP:FO qrm:=fi [] [] 7 [] .nil func111 ⟨trivial,trivial⟩
def qlw(p:yB7)(v:Int)(out:List Int)(out2:List Bool):Option ((Int×List Int×List Bool)⊕(List Int×List Bool)):=
 bif decide (v<(p.1.length:Int)) then(
 gd (inB v p.1.length)<|
 gd (fits (out.length+1) 8)<|
 some (.inl (wi64 (v+1),out++[wi64 (0-(p.1.getD v.toNat 0))],out2)))
 else(
 some (.inr (out,out2)))
def qlx(p:yB7)(v2:Int)(out3:List Int)(out4:List Int)(out5:List Bool):Option ((Int×List Int×List Int×List Bool)⊕yB7):=
 bif decide (v2<(p.2.1.length:Int)) then(
 gd (inB v2 p.2.1.length)<|
 gd (fits (out4.length+1) 8)<|
 some (.inl (wi64 (v2+1),out3,out4++[wi64 (0-(p.2.1.getD v2.toNat 0))],out5)))
 else(
 some (.inr (out3,out4,out5)))
def qiu(p:yB7):Option yB7:=
 gd (fits (0+p.2.2.length) 1)<|
 (iter (fun x=>qlw p x.1 x.2.1 x.2.2) (0,[],([]++p.2.2))).bind fun s=>
 (iter (fun x2=>qlx p x2.1 x2.2.1 x2.2.2.1 x2.2.2.2) (0,s.1,[],s.2)).bind fun s2=>
 some (s2.1,(s2.2.1,s2.2.2))
def qly:Fun:=
 ⟨112,1,1,
 ⟨[(0,dd tT6)],[],[]⟩,
 ⟨[(0,dd tT6)],[],[]⟩,
 fun x=>qiu x⟩
theorem qrn:FO qly:=fi [6] [] 48 [] ((nn (nn (mm (nn (mm (.mk [] (some (⟨[(1,pt 32 0),(2,pt 48 0),(3,pt 64 0),(13,kk),(14,ii)],v74_,[(1049,.arr 3 I6),(160,.arr 4 (.bool))]⟩,[⟨.x 0,⟨r49_,v74_,[(1049,.arr 3 I6),(160,.arr 4 (.bool))]⟩⟩])) .nil .nil) .nil)) (mm (nn (mm (.mk [] (some (⟨[(1,pt 32 0),(2,pt 48 0),(3,pt 64 0),(31,kk),(32,ii)],[(32,38,[.keep,.keep,.keep]),(48,38,[.keep,.keep,.keep]),(64,38,[.own 1049,.own 1065,.own 160])],a128_⟩,[⟨.x 2,⟨r39_,[(48,38,[.keep,.keep,.keep]),(64,38,[.own 1049,.own 1065,.own 160])],a128_⟩⟩])) .nil .nil) .nil)) .nil))))) func112 ⟨trivial,trivial⟩
def qkK(n:yB0)(i:Int)(s3:List Int)(s4:Int)(p:List Int)(p2:List Int)(p3:List Bool):Option ((Int×List Int×Int×List Int×List Int×List Bool)⊕(List Int×Int×List Int×List Int×List Bool)):=
 bif decide (i<(n.2.2.2.1.length:Int)) then(
 (qab 2 s3 s4).bind fun r=>
 gd (fits (p3.length+1) 1)<|
 some (.inl (wi64 (i+1),r.2.1,r.2.2,p,p2,p3++[decide (r.1=0)])))
 else(
 some (.inr (s3,s4,p,p2,p3)))
def qeD(n:yB0)(r4:Int×List Int×Int)(r6:Int×List Int×Int)(vat:Int)(vend2:Int)(v:Int)(s11:List Int)(s12:Int)(way2:List Int)(p10:List Int)(p11:List Int)(p12:List Bool):Option ((Int×Int×List Int×Int×List Int×List Int×List Int×List Bool)⊕(Int×List Int×Int×List Int×List Int×List Int×List Bool)):=
 bif decide (v<(n.2.2.1.length:Int)) then(
 gd (inB v n.2.2.1.length)<|
 Option.bind (α:=Bool×List Int×Int×List Int×List Int×List Int×List Bool) (
 bif decide (((n.2.2.1.getD v.toNat ([],(0,0))).2).1=vat) then(
 bif !decide (v=r4.1) then(
 gd (inB v p11.length)<|
 bif decide (p11.getD v.toNat 0<=0) then(
 gd (inB v p11.length)<|
 bif decide ((-1000)<=wi64 ((p11.getD v.toNat 0)-r6.1)) then(
 bif decide (0<(way2.length:Int)) then(
 (qab 2 s11 s12).bind fun r7=>
 some (decide (r7.1=0),r7.2.1,r7.2.2,way2,p10,p11,p12))
 else(
 some (false,s11,s12,way2,p10,p11,p12)))
 else(
 some (false,s11,s12,way2,p10,p11,p12)))
 else(
 some (false,s11,s12,way2,p10,p11,p12)))
 else(
 some (false,s11,s12,way2,p10,p11,p12)))
 else(
 some (false,s11,s12,way2,p10,p11,p12))) fun s13=>
 Option.bind (α:=Int×List Int×List Int×List Int×List Bool) (
 bif s13.1 then(
 some (v,s13.2.2.2.1,s13.2.2.2.2.1,s13.2.2.2.2.2.1,s13.2.2.2.2.2.2))
 else(
 some (vend2,s13.2.2.2.1,s13.2.2.2.2.1,s13.2.2.2.2.2.1,s13.2.2.2.2.2.2))) fun s14=>
 some (.inl (s14.1,wi64 (v+1),s13.2.1,s13.2.2.1,s14.2.1,s14.2.2.1,s14.2.2.2.1,s14.2.2.2.2)))
 else(
 some (.inr (vend2,s11,s12,way2,p10,p11,p12)))
def qeE(n:yB0)(r6:Int×List Int×Int)(vat:Int)(v2:Int)(way3:List Int)(out:List Int)(p13:List Int)(p14:List Int)(p15:List Bool):Option ((Int×List Int×List Int×List Int×List Int×List Bool)⊕(List Int×List Int×List Int×List Int×List Bool)):=
 bif decide (v2<(n.2.1.length:Int)) then(
 gd (inB v2 n.2.1.length)<|
 Option.bind (α:=Bool×List Int×List Int×List Int×List Int×List Bool) (
 bif decide (((n.2.1.getD v2.toNat ([],(0,(0,(0,(0,(0,[]))))))).2).1=vat) then(
 bif decide (vat<wi64 ((wi64 ((((n.2.1.getD v2.toNat ([],(0,(0,(0,(0,(0,[]))))))).2).1)+((((n.2.1.getD v2.toNat ([],(0,(0,(0,(0,(0,[]))))))).2).2).1)))-vat)) then(
 gd (inB v2 p13.length)<|
 (qtu (p13.getD v2.toNat 0)).bind fun r8=>
 some (decide (wi64 (r8+r6.1)<=min 1000 (((((n.2.1.getD v2.toNat ([],(0,(0,(0,(0,(0,[]))))))).2).2).2).1)),way3,out,p13,p14,p15))
 else(
 some (false,way3,out,p13,p14,p15)))
 else(
 bif decide ((((n.2.1.getD v2.toNat ([],(0,(0,(0,(0,(0,[]))))))).2).2).1=vat) then(
 bif decide (vat<wi64 ((wi64 ((((n.2.1.getD v2.toNat ([],(0,(0,(0,(0,(0,[]))))))).2).1)+((((n.2.1.getD v2.toNat ([],(0,(0,(0,(0,(0,[]))))))).2).2).1)))-vat)) then(
 gd (inB v2 p13.length)<|
 (qtu (p13.getD v2.toNat 0)).bind fun r9=>
 some (decide (wi64 (r9+r6.1)<=min 1000 (((((n.2.1.getD v2.toNat ([],(0,(0,(0,(0,(0,[]))))))).2).2).2).1)),way3,out,p13,p14,p15))
 else(
 some (false,way3,out,p13,p14,p15)))
 else(
 some (false,way3,out,p13,p14,p15)))) fun s16=>
 Option.bind (α:=List Int×List Int×List Int×List Int×List Bool) (
 bif s16.1 then(
 gd (fits (s16.2.2.1.length+1) 8)<|
 some (s16.2.1,s16.2.2.1++[v2],s16.2.2.2.1,s16.2.2.2.2.1,s16.2.2.2.2.2))
 else(
 some (s16.2.1,s16.2.2.1,s16.2.2.2.1,s16.2.2.2.2.1,s16.2.2.2.2.2))) fun s17=>
 some (.inl (wi64 (v2+1),s17.1,s17.2.1,s17.2.2.1,s17.2.2.2.1,s17.2.2.2.2)))
 else(
 some (.inr (way3,out,p13,p14,p15)))
def qeF(n:yB0)(r4:Int×List Int×Int)(r6:Int×List Int×Int)(vat:Int)(vend:Int)(s9:List Int)(s10:Int)(way:List Int)(p7:List Int)(p8:List Int)(p9:List Bool):Option ((Int×Int×List Int×Int×List Int×List Int×List Int×List Bool)⊕(Int×List Int×Int×List Int×List Int×List Int×List Bool)):=
 bif decide (vend<0) then(
 (iter (fun x2=>qeD n r4 r6 vat x2.1 x2.2.1 x2.2.2.1 x2.2.2.2.1 x2.2.2.2.2.1 x2.2.2.2.2.2.1 x2.2.2.2.2.2.2.1 x2.2.2.2.2.2.2.2) (vend,0,s9,s10,way,p7,p8,p9)).bind fun s15=>
 bif decide (0<=s15.1) then(
 some (.inr (s15.1,s15.2.1,s15.2.2.1,s15.2.2.2.1,s15.2.2.2.2.1,s15.2.2.2.2.2.1,s15.2.2.2.2.2.2)))
 else(
 (iter (fun x3=>qeE n r6 vat x3.1 x3.2.1 x3.2.2.1 x3.2.2.2.1 x3.2.2.2.2.1 x3.2.2.2.2.2) (0,s15.2.2.2.1,[],s15.2.2.2.2.1,s15.2.2.2.2.2.1,s15.2.2.2.2.2.2)).bind fun s18=>
 bif decide ((s18.2.1.length:Int)=0) then(
 some (.inr (s15.1,s15.2.1,s15.2.2.1,s18.1,s18.2.2.1,s18.2.2.2.1,s18.2.2.2.2)))
 else(
 (qab (s18.2.1.length:Int) s15.2.1 s15.2.2.1).bind fun r10=>
 gd (inB r10.1 s18.2.1.length)<|
 gd (fits (s18.1.length+1) 8)<|
 gd (inB (s18.2.1.getD r10.1.toNat 0) n.2.1.length)<|
 gd (inB (s18.2.1.getD r10.1.toNat 0) n.2.1.length)<|
 some (.inl (wi64 ((wi64 ((((n.2.1.getD (s18.2.1.getD r10.1.toNat 0).toNat ([],(0,(0,(0,(0,(0,[]))))))).2).1)+((((n.2.1.getD (s18.2.1.getD r10.1.toNat 0).toNat ([],(0,(0,(0,(0,(0,[]))))))).2).2).1)))-vat),s15.1,r10.2.1,r10.2.2,s18.1++[s18.2.1.getD r10.1.toNat 0],s18.2.2.1,s18.2.2.2.1,s18.2.2.2.2)))))
 else(
 some (.inr (vend,s9,s10,way,p7,p8,p9)))
def qeG(n:yB0)(r6:Int×List Int×Int)(s19:Int×List Int×Int×List Int×List Int×List Int×List Bool)(v3:Int)(v4:List Int)(p16:List Int)(p17:List Int)(p18:List Bool):Option ((Int×List Int×List Int×List Int×List Bool)⊕yB7):=
 bif decide (v3<(s19.2.2.2.1.length:Int)) then(
 gd (inB v3 v4.length)<|
 gd (inB (v4.getD v3.toNat 0) n.2.1.length)<|
 gd (inB (v4.getD v3.toNat 0) n.2.1.length)<|
 Option.bind (α:=List Int×List Int×List Int×List Bool) (
 bif decide (((n.2.1.getD (v4.getD v3.toNat 0).toNat ([],(0,(0,(0,(0,(0,[]))))))).2).1<(((n.2.1.getD (v4.getD v3.toNat 0).toNat ([],(0,(0,(0,(0,(0,[]))))))).2).2).1) then(
 gd (inB (v4.getD v3.toNat 0) p16.length)<|
 gd (inB (v4.getD v3.toNat 0) p16.length)<|
 some (v4,p16.set ((v4.getD v3.toNat 0).toNat) (wi64 ((p16.getD ((v4.getD v3.toNat 0).toNat) 0)+r6.1)),p17,p18))
 else(
 gd (inB (v4.getD v3.toNat 0) p16.length)<|
 gd (inB (v4.getD v3.toNat 0) p16.length)<|
 some (v4,p16.set ((v4.getD v3.toNat 0).toNat) (wi64 ((p16.getD ((v4.getD v3.toNat 0).toNat) 0)-r6.1)),p17,p18))) fun s20=>
 some (.inl (wi64 (v3+1),s20.1,s20.2.1,s20.2.2.1,s20.2.2.2)))
 else(
 some (.inr (p16,p17,p18)))
def qgC(n:yB0)(streams:Int)(s6:List Int)(s7:Int)(p4:List Int)(p5:List Int)(p6:List Bool):Option ((Int×List Int×Int×List Int×List Int×List Bool)⊕(List Int×Int×List Int×List Int×List Bool)):=
 bif decide (0<streams) then(
 Option.bind (α:=List Int×Int×List Int×List Int×List Bool) (
 (qab (n.2.2.1.length:Int) s6 s7).bind fun r4=>
 gd (inB r4.1 n.2.2.1.length)<|
 (qac ([1,5,30,300]:List Int) r4.2.1 r4.2.2).bind fun r5=>
 (qa8 1 r5.1 r5.2.1 r5.2.2).bind fun r6=>
 Option.bind (α:=Bool×List Int×List Int×List Bool) (
 gd (inB r4.1 p5.length)<|
 bif decide (p5.getD r4.1.toNat 0<0) then(
 some (true,p4,p5,p6))
 else(
 gd (inB r4.1 p5.length)<|
 some (decide (1000<wi64 ((p5.getD r4.1.toNat 0)+r6.1)),p4,p5,p6))) fun s8=>
 bif s8.1 then(
 some (r6.2.1,r6.2.2,s8.2.1,s8.2.2.1,s8.2.2.2))
 else(
 (iter (fun x4=>qeF n r4 r6 x4.1 x4.2.1 x4.2.2.1 x4.2.2.2.1 x4.2.2.2.2.1 x4.2.2.2.2.2.1 x4.2.2.2.2.2.2.1 x4.2.2.2.2.2.2.2) (((n.2.2.1.getD r4.1.toNat ([],(0,0))).2).1,(-1),r6.2.1,r6.2.2,[],s8.2.1,s8.2.2.1,s8.2.2.2)).bind fun s19=>
 bif decide (s19.1<0) then(
 some (s19.2.1,s19.2.2.1,s19.2.2.2.2.1,s19.2.2.2.2.2.1,s19.2.2.2.2.2.2))
 else(
 gd (inB r4.1 s19.2.2.2.2.2.1.length)<|
 gd (inB s19.1 s19.2.2.2.2.2.1.length)<|
 gd (inB r4.1 s19.2.2.2.2.2.1.length)<|
 gd (inB s19.1 (s19.2.2.2.2.2.1.set r4.1.toNat (wi64 ((s19.2.2.2.2.2.1.getD r4.1.toNat 0)+r6.1))).length)<|
 (iter (fun x5=>qeG n r6 s19 x5.1 x5.2.1 x5.2.2.1 x5.2.2.2.1 x5.2.2.2.2) (0,s19.2.2.2.1,s19.2.2.2.2.1,(s19.2.2.2.2.2.1.set r4.1.toNat (wi64 ((s19.2.2.2.2.2.1.getD r4.1.toNat 0)+r6.1))).set s19.1.toNat (wi64 ((s19.2.2.2.2.2.1.getD s19.1.toNat 0)-r6.1)),s19.2.2.2.2.2.2)).bind fun s21=>
 some (s19.2.1,s19.2.2.1,s21.1,s21.2.1,s21.2.2)))) fun s22=>
 some (.inl (wi64 (streams-1),s22.1,s22.2.1,s22.2.2.1,s22.2.2.2.1,s22.2.2.2.2)))
 else(
 some (.inr (s6,s7,p4,p5,p6)))
def qg1(n:yB0)(s:List Int)(s2:Int):Option (yB7×List Int×Int):=
 gd (makeG 8 (n.2.1.length:Int))<|
 gd (makeG 8 (n.2.2.1.length:Int))<|
 (iter (fun x=>qkK n x.1 x.2.1 x.2.2.1 x.2.2.2.1 x.2.2.2.2.1 x.2.2.2.2.2) (0,s,s2,List.replicate (n.2.1.length:Int).toNat (0:Int),List.replicate (n.2.2.1.length:Int).toNat (0:Int),[])).bind fun s5=>
 (qab 3 s5.1 s5.2.1).bind fun r2=>
 (qab 5 r2.2.1 r2.2.2).bind fun r3=>
 (iter (fun x6=>qgC n x6.1 x6.2.1 x6.2.2.1 x6.2.2.2.1 x6.2.2.2.2.1 x6.2.2.2.2.2) (r3.1,r3.2.1,r3.2.2,s5.2.2.1,s5.2.2.2.1,s5.2.2.2.2)).bind fun s23=>
 bif decide (r2.1=0) then(
 (qiu (s23.2.2.1,(s23.2.2.2.1,s23.2.2.2.2))).bind fun r11=>
 some ((r11.1,(r11.2.1,r11.2.2)),s23.1,s23.2.1))
 else(
 some ((s23.2.2.1,(s23.2.2.2.1,s23.2.2.2.2)),s23.1,s23.2.1))
def qkL:Fun:=
 ⟨63,2,1,
 ⟨[(0,pt 0 0),(1,dd tT0)],v3_,[]⟩,
 ⟨[(0,dd tT6)],v3_,[]⟩,
 fun x=>qg1 x.1 x.2.1 x.2.2⟩
theorem qp3:FO qkL:=fi [] [qa4,qbv,qdP,qrm,qly] 279 [] ((nn (nn (mm (nn (mm (.mk [] (some (⟨[(0,pt 0 0),(3,pt 64 0),(4,pt 80 0),(5,pt 96 0),(6,ii)],v2_,a17_⟩,[⟨.x 0,⟨[(0,pt 0 0),(3,pt 64 0),(4,pt 80 0),(5,pt 96 0)],v2_,a17_⟩⟩])) .nil .nil) .nil)) (nn (mm (nn (mm (.mk [] (some (⟨[(0,pt 0 0),(3,pt 64 0),(4,pt 80 0),(5,pt 96 0),(7,kk),(8,ii)],v2_,a17_⟩,[⟨.x 2,⟨[(4,pt 80 0),(5,pt 96 0),(7,kk)],[(80,38,[.keep,.keep,.keep]),(96,38,[.own 416,.own 480,.own 1593]),(0,88,[.data (.sl I6),.data I6])],a17_⟩⟩])) (nn (mm (.mk [.join [⟨.n,⟨r107_,v2_,a17_⟩⟩]] none (nn (nn (mm (mm (.mk [.join [⟨.n,⟨[(0,pt 0 0),(3,pt 64 0),(4,pt 80 0),(5,pt 96 0),(7,kk),(8,kk),(9,kk),(10,kk),(11,kk),(86,bb)],v4_,a17_⟩⟩]] none .nil .nil) .nil) (nn (nn (mm (mm (.mk [] (some (⟨[(0,pt 0 0),(3,pt 64 0),(4,pt 80 0),(5,pt 96 0),(7,kk),(8,kk),(9,kk),(10,ii),(11,kk),(12,ow 219),(13,ii)],v2_,a10_⟩,[⟨.x 4,⟨[(0,pt 0 0),(3,pt 64 0),(4,pt 80 0),(5,pt 96 0),(7,kk),(8,kk),(9,kk),(11,kk),(12,ow 219),(13,ii)],v2_,a10_⟩⟩])) (nn (mm (mm (nn (mm (.mk [] (some (⟨[(0,pt 0 0),(3,pt 64 0),(4,pt 80 0),(5,pt 96 0),(7,kk),(8,kk),(9,kk),(10,kk),(11,kk),(12,ow 219),(13,ii),(90,kk),(91,kk),(92,ii)],v2_,a10_⟩,[⟨.x 6,⟨[(0,pt 0 0),(3,pt 64 0),(4,pt 80 0),(5,pt 96 0),(7,kk),(8,kk),(9,kk),(10,kk),(11,kk),(12,ow 219),(13,ii)],v2_,a10_⟩⟩])) (nn (nn (mm (mm (nn (mm (.mk [.join [⟨.n,⟨[(0,pt 0 0),(3,pt 64 0),(4,pt 80 0),(5,pt 96 0),(7,kk),(8,kk),(9,kk),(10,kk),(11,kk),(12,ow 219),(13,kk),(14,kk),(90,kk),(91,kk),(92,kk),(133,bb)],v2_,a10_⟩⟩]] none .nil .nil) (.mk [.join [⟨.n,⟨[(0,pt 0 0),(3,pt 64 0),(4,pt 80 0),(5,pt 96 0),(7,kk),(8,kk),(9,kk),(10,kk),(11,kk),(12,ow 219),(13,ii),(90,kk),(91,kk),(92,kk)],v4_,a10_⟩⟩]] none .nil .nil))) .nil) .nil))) .nil) .nil)) (nn (nn (mm (nn (mm (.mk [] (some (⟨[(0,pt 0 0),(3,pt 64 0),(4,pt 80 0),(5,pt 96 0),(7,kk),(8,kk),(9,kk),(10,kk),(11,kk),(12,ow 219),(13,kk),(16,ow 283),(139,kk),(140,kk),(141,ii)],v4_,a23_⟩,[⟨.x 8,⟨[(0,pt 0 0),(3,pt 64 0),(4,pt 80 0),(5,pt 96 0),(7,kk),(8,kk),(9,kk),(10,kk),(11,kk),(12,ow 219),(13,kk),(16,ow 283)],v4_,a23_⟩⟩])) (nn (nn (mm (mm (nn (mm (.mk [.join [⟨.n,⟨[(0,pt 0 0),(3,pt 64 0),(4,pt 80 0),(5,pt 96 0),(7,kk),(8,kk),(9,kk),(10,kk),(11,kk),(12,ow 219),(13,kk),(16,ow 283),(17,kk),(139,kk),(140,kk),(141,kk),(180,bb)],v4_,a23_⟩⟩]] none .nil .nil) (.mk [.join [⟨.n,⟨[(0,pt 0 0),(3,pt 64 0),(4,pt 80 0),(5,pt 96 0),(7,kk),(8,kk),(9,kk),(10,kk),(11,kk),(12,ow 219),(13,kk),(16,ow 283),(139,kk),(140,kk),(141,kk)],v4_,a23_⟩⟩]] none .nil .nil))) .nil) .nil))) .nil) .nil)) .nil)))) .nil)) .nil) .nil) (nn (nn (nn (mm (.mk [] (some (⟨[(0,pt 0 0),(3,pt 64 0),(4,pt 80 0),(5,pt 96 0),(7,kk),(8,kk),(11,kk),(239,ow 219),(240,kk),(241,ii)],v4_,a10_⟩,[⟨.x 10,⟨r107_,v4_,a17_⟩⟩])) (nn (nn (mm (mm (nn (nn (.mk [.join [⟨.n,⟨[(0,pt 0 0),(3,pt 64 0),(4,pt 80 0),(5,pt 96 0),(7,kk),(8,kk),(11,kk),(239,ow 219),(240,kk),(241,kk)],v4_,a10_⟩⟩]] none .nil .nil))) .nil) .nil))) .nil) .nil)))))))))) .nil) .nil)) .nil) .nil)) (mm (nn (mm (mm (.mk [.fz [5]] none .nil .nil) .nil) .nil)) .nil))))))) func63 ⟨⟨qbc,qbW,qfD,qvP,qrn,trivial⟩,trivial⟩
def qmp(s:yB12)(rate:Int):Option (Int×Int):=
 bif decide (rate<0) then(
 some (s.2.2.1,s.2.1))
 else(
 some (s.2.1,s.2.2.1))
def qj2:Fun:=
 ⟨194,2,2,
 ⟨[(0,dd (.pair (.str) tT5)),(1,ii)],[],[]⟩,
 ⟨r63_,[],[]⟩,
 fun x=>qmp x.1 x.2⟩
theorem qoA:FO qj2:=fi [] [] 16 [] .nil func194 ⟨trivial,trivial⟩
def qlz(n:Int):Option (Int):=
 some (max n (wi64 (0-n)))
def qpG:Fun:=
 ⟨195,1,1,
 ⟨[(0,ii)],[],[]⟩,
 ⟨[(0,ii)],[],[]⟩,
 fun x=>qlz x⟩
theorem quE:FO qpG:=fi [] [] 7 [] .nil func195 ⟨trivial,trivial⟩
def qc2(n:yB0)(p:yB7)(node:Int)(vin:Int)(out:Int)(v:Int):Option ((Int×Int×Int)⊕(Int×Int)):=
 bif decide (v<(n.2.1.length:Int)) then(
 Option.bind (α:=Int×Int) (
 gd (inB v n.2.1.length)<|
 gd (inB v p.1.length)<|
 bif decide (p.1.getD v.toNat 0=0) then(
 some (vin,out))
 else(
 gd (inB v p.1.length)<|
 (qmp ((n.2.1.getD v.toNat ([],(0,(0,(0,(0,(0,[]))))))).1,(((n.2.1.getD v.toNat ([],(0,(0,(0,(0,(0,[]))))))).2).1,((((n.2.1.getD v.toNat ([],(0,(0,(0,(0,(0,[]))))))).2).2).1,(((((n.2.1.getD v.toNat ([],(0,(0,(0,(0,(0,[]))))))).2).2).2).1,((((((n.2.1.getD v.toNat ([],(0,(0,(0,(0,(0,[]))))))).2).2).2).2).1,(((((((n.2.1.getD v.toNat ([],(0,(0,(0,(0,(0,[]))))))).2).2).2).2).2).1,((((((n.2.1.getD v.toNat ([],(0,(0,(0,(0,(0,[]))))))).2).2).2).2).2).2)))))) (p.1.getD v.toNat 0)).bind fun r=>
 Option.bind (α:=Int) (
 bif decide (r.1=node) then(
 gd (inB v p.1.length)<|
 (qlz (p.1.getD v.toNat 0)).bind fun r2=>
 some (wi64 (out+r2)))
 else(
 some out)) fun s=>
 Option.bind (α:=Int) (
 bif decide (r.2=node) then(
 gd (inB v p.1.length)<|
 (qlz (p.1.getD v.toNat 0)).bind fun r3=>
 some (wi64 (vin+r3)))
 else(
 some vin)) fun s2=>
 some (s2,s))) fun s3=>
 some (.inl (s3.1,s3.2,wi64 (v+1))))
 else(
 some (.inr (vin,out)))
def qc3(n:yB0)(p:yB7)(node:Int)(vin2:Int)(out2:Int)(v2:Int):Option ((Int×Int×Int)⊕(Int×Int)):=
 bif decide (v2<(n.2.2.1.length:Int)) then(
 gd (inB v2 n.2.2.1.length)<|
 Option.bind (α:=Int×Int) (
 bif decide (((n.2.2.1.getD v2.toNat ([],(0,0))).2).1=node) then(
 gd (inB v2 p.2.1.length)<|
 gd (inB v2 p.2.1.length)<|
 some (wi64 (vin2+(max 0 (p.2.1.getD v2.toNat 0))),wi64 (out2+(max 0 (wi64 (0-(p.2.1.getD v2.toNat 0)))))))
 else(
 some (vin2,out2))) fun s5=>
 some (.inl (s5.1,s5.2,wi64 (v2+1))))
 else(
 some (.inr (vin2,out2)))
def qjk(n:yB0)(p:yB7)(node:Int):Option (Int×Int):=
 (iter (fun x=>qc2 n p node x.1 x.2.1 x.2.2) (0,0,0)).bind fun s4=>
 (iter (fun x2=>qc3 n p node x2.1 x2.2.1 x2.2.2) (s4.1,s4.2,0)).bind fun s6=>
 some (s6.1,s6.2)
def qj3:Fun:=
 ⟨155,3,2,
 ⟨r113_,[],[]⟩,
 ⟨r63_,[],[]⟩,
 fun x=>qjk x.1 x.2.1 x.2.2⟩
theorem qoB:FO qj3:=fi [] [qj2,qpG] 95 [] ((nn (nn (mm (nn (mm (.mk [] (some (⟨[(2,kk),(3,pt 64 0),(4,pt 80 0),(8,ii),(9,ii),(17,kk),(18,kk),(19,ii)],v36_,[]⟩,[⟨.x 0,⟨[(2,kk),(3,pt 64 0),(4,pt 80 0),(8,ii),(9,ii)],v36_,[]⟩⟩])) (nn (nn (mm (.mk [.join [⟨.n,⟨[(2,kk),(3,pt 64 0),(4,pt 80 0),(8,ii),(9,ii),(17,kk),(18,kk),(19,kk)],v36_,[]⟩⟩]] none (nn (nn (nn (mm (nn (.mk [.join [⟨.n,⟨[(2,kk),(3,pt 64 0),(4,pt 80 0),(8,kk),(9,ii),(10,kk),(13,kk),(17,kk),(18,kk),(19,kk)],v36_,[]⟩⟩]] none .nil .nil)) (nn (.mk [.join [⟨.n,⟨[(2,kk),(3,pt 64 0),(4,pt 80 0),(8,ii),(9,kk),(17,kk),(18,kk),(19,kk)],v36_,[]⟩⟩]] none .nil .nil)))))) .nil) .nil))) .nil) .nil)) (mm (nn (mm (.mk [] (some (⟨[(2,kk),(4,pt 80 0),(8,ii),(9,ii),(64,kk),(65,kk),(66,ii)],[(80,38,[.keep,.keep,.keep])],[]⟩,[⟨.x 2,⟨[(8,ii),(9,ii)],[],[]⟩⟩])) (nn (nn (mm (mm (nn (nn (.mk [.join [⟨.n,⟨[(2,kk),(4,pt 80 0),(8,ii),(9,ii),(64,kk),(65,kk),(66,kk)],[(80,38,[.keep,.keep,.keep])],[]⟩⟩]] none .nil .nil))) .nil) .nil))) .nil) .nil)) .nil))))) func155 ⟨⟨qoA,quE,trivial⟩,trivial⟩
def qcD(n:yB0)(p:yB7)(v:Int)(free:Bool)(v2:Int)(out3:List Int)(there3:List Bool):Option ((Bool×Int×List Int×List Bool)⊕(Bool×List Int×List Bool)):=
 bif decide (v2<(n.2.1.length:Int)) then(
 gd (inB v2 n.2.1.length)<|
 gd (inB v2 p.1.length)<|
 Option.bind (α:=Bool×List Int×List Bool) (
 bif !decide (p.1.getD v2.toNat 0=0) then(
 gd (inB v2 p.1.length)<|
 (qmp ((n.2.1.getD v2.toNat ([],(0,(0,(0,(0,(0,[]))))))).1,(((n.2.1.getD v2.toNat ([],(0,(0,(0,(0,(0,[]))))))).2).1,((((n.2.1.getD v2.toNat ([],(0,(0,(0,(0,(0,[]))))))).2).2).1,(((((n.2.1.getD v2.toNat ([],(0,(0,(0,(0,(0,[]))))))).2).2).2).1,((((((n.2.1.getD v2.toNat ([],(0,(0,(0,(0,(0,[]))))))).2).2).2).2).1,(((((((n.2.1.getD v2.toNat ([],(0,(0,(0,(0,(0,[]))))))).2).2).2).2).2).1,((((((n.2.1.getD v2.toNat ([],(0,(0,(0,(0,(0,[]))))))).2).2).2).2).2).2)))))) (p.1.getD v2.toNat 0)).bind fun r=>
 Option.bind (α:=Bool×List Int×List Bool) (
 bif free then(
 bif !decide (r.2=v) then(
 some (true,out3,there3))
 else(
 gd (inB r.1 there3.length)<|
 some (there3.getD r.1.toNat false,out3,there3)))
 else(
 some (false,out3,there3))) fun s=>
 some (s.1,s.2.1,s.2.2))
 else(
 some (free,out3,there3))) fun s2=>
 some (.inl (s2.1,wi64 (v2+1),s2.2.1,s2.2.2)))
 else(
 some (.inr (free,out3,there3)))
def qcE(n:yB0)(p:yB7)(next:Int)(v:Int)(out2:List Int)(there2:List Bool):Option ((Int×Int×List Int×List Bool)⊕(Int×List Int×List Bool)):=
 bif decide (v<(n.1.length:Int)) then(
 gd (inB v there2.length)<|
 (iter (fun x=>qcD n p v x.1 x.2.1 x.2.2.1 x.2.2.2) ((!(there2.getD v.toNat false)),0,out2,there2)).bind fun s3=>
 Option.bind (α:=Bool×List Int×List Bool) (
 bif s3.1 then(
 some (decide (next<0),s3.2.1,s3.2.2))
 else(
 some (false,s3.2.1,s3.2.2))) fun s4=>
 Option.bind (α:=Int×List Int×List Bool) (
 bif s4.1 then(
 some (v,s4.2.1,s4.2.2))
 else(
 some (next,s4.2.1,s4.2.2))) fun s5=>
 some (.inl (s5.1,wi64 (v+1),s5.2.1,s5.2.2)))
 else(
 some (.inr (next,out2,there2)))
def qcb(n:yB0)(p:yB7)(out:List Int)(there:List Bool):Option ((List Int×List Bool)⊕(List Int)):=
 (iter (fun x2=>qcE n p x2.1 x2.2.1 x2.2.2.1 x2.2.2.2) ((-1),0,out,there)).bind fun s6=>
 bif decide (s6.1<0) then(
 some (.inr s6.2.1))
 else(
 gd (fits (s6.2.1.length+1) 8)<|
 gd (inB s6.1 s6.2.2.length)<|
 some (.inl (s6.2.1++[s6.1],s6.2.2.set s6.1.toNat true)))
def qj4(n:yB0)(p:yB7):Option (List Int):=
 gd (makeG 1 (n.1.length:Int))<|
 (iter (fun x3=>qcb n p x3.1 x3.2) ([],List.replicate (n.1.length:Int).toNat (false:Bool))).bind fun s7=>
 some s7
def qmX:Fun:=
 ⟨156,2,1,
 ⟨r64_,[],[]⟩,
 ⟨[(0,ow 0)],[],[(0,.arr 3 I6)]⟩,
 fun x=>qj4 x.1 x.2⟩
theorem qr6:FO qmX:=fi [] [qj2] 83 [] ((nn (nn (nn (mm (.mk [] (some (⟨[(2,pt 48 0),(3,pt 64 0),(5,ow 107),(6,ow 288)],v0_,a27_⟩,[⟨.r,⟨[(4,ow 91)],[],[(91,.arr 3 I6)]⟩⟩])) (mm (nn (mm (nn (mm (.mk [] (some (⟨[(2,pt 48 0),(3,pt 64 0),(5,ow 107),(6,ow 288),(7,ii),(20,kk),(21,ii)],v0_,a27_⟩,[⟨.x 2,⟨[(2,pt 48 0),(3,pt 64 0),(5,ow 107),(6,ow 288),(7,ii)],v0_,a27_⟩⟩])) (nn (nn (mm (mm (nn (nn (mm (nn (mm (.mk [] (some (⟨[(2,pt 48 0),(3,pt 64 0),(5,ow 107),(6,ow 288),(7,kk),(8,kk),(9,bb),(20,kk),(21,kk),(30,kk),(31,kk),(32,ii)],v0_,a27_⟩,[⟨.x 4,⟨[(2,pt 48 0),(3,pt 64 0),(5,ow 107),(6,ow 288),(7,kk),(8,kk),(9,bb),(20,kk),(21,kk)],v0_,a27_⟩⟩])) (nn (nn (mm (mm (nn (nn (.mk [.join [⟨.n,⟨r48_,v0_,a27_⟩⟩]] none (nn (.mk [.join [⟨.n,⟨r48_,v0_,a27_⟩⟩]] none .nil .nil)) .nil))) .nil) .nil))) .nil) .nil)) (mm (.mk [.join [⟨.n,⟨[(2,pt 48 0),(3,pt 64 0),(5,ow 107),(6,ow 288),(7,kk),(8,kk),(20,kk),(21,kk),(70,bb)],v0_,a27_⟩⟩]] none .nil .nil) (.mk [.join [⟨.n,⟨[(2,pt 48 0),(3,pt 64 0),(5,ow 107),(6,ow 288),(7,ii),(20,kk),(21,kk)],v0_,a27_⟩⟩]] none .nil .nil))))) .nil) .nil))) .nil) .nil)) .nil)) .nil) .nil) .nil))))) func156 ⟨⟨qoA,trivial⟩,trivial⟩
def qfZ(n:yB0)(p:yB7)(v:Int):Option (Int⊕(Unit⊕Int)):=
 bif decide (v<(p.1.length:Int)) then(
 gd (inB v p.1.length)<|
 gd (inB v n.2.1.length)<|
 Option.bind (α:=Bool) (
 bif decide (p.1.getD v.toNat 0<wi64 (0-(min 1000 (((((n.2.1.getD v.toNat ([],(0,(0,(0,(0,(0,[]))))))).2).2).2).1)))) then(
 some true)
 else(
 some (decide (min 1000 (((((n.2.1.getD v.toNat ([],(0,(0,(0,(0,(0,[]))))))).2).2).2).1)<p.1.getD v.toNat 0)))) fun s2=>
 bif s2 then(
 some (.inr (.inr 1)))
 else(
 some (.inl (wi64 (v+1)))))
 else(
 some (.inr (.inl ())))
def qf0(p:yB7)(v2:Int):Option (Int⊕(Unit⊕Int)):=
 bif decide (v2<(p.2.1.length:Int)) then(
 gd (inB v2 p.2.1.length)<|
 Option.bind (α:=Bool) (
 bif decide (p.2.1.getD v2.toNat 0<(-1000)) then(
 some true)
 else(
 some (decide (1000<p.2.1.getD v2.toNat 0)))) fun s6=>
 bif s6 then(
 some (.inr (.inr 1)))
 else(
 some (.inl (wi64 (v2+1)))))
 else(
 some (.inr (.inl ())))
def qf1(n:yB0)(p:yB7)(v3:Int):Option (Int⊕(Unit⊕Int)):=
 bif decide (v3<(n.1.length:Int)) then(
 (qjk (n.1,(n.2.1,(n.2.2.1,(n.2.2.2.1,(n.2.2.2.2.1,n.2.2.2.2.2))))) (p.1,(p.2.1,p.2.2)) v3).bind fun r2=>
 bif !decide (r2.1=r2.2) then(
 some (.inr (.inr 12)))
 else(
 some (.inl (wi64 (v3+1)))))
 else(
 some (.inr (.inl ())))
def qeM(n:yB0)(p:yB7):Option (Int):=
 (qeL (n.1,(n.2.1,(n.2.2.1,(n.2.2.2.1,(n.2.2.2.2.1,n.2.2.2.2.2)))))).bind fun r=>
 bif !decide (r=0) then(
 some r)
 else(
 Option.bind (α:=Bool) (
 bif !decide ((p.1.length:Int)=(n.2.1.length:Int)) then(
 some true)
 else(
 bif !decide ((p.2.1.length:Int)=(n.2.2.1.length:Int)) then(
 some true)
 else(
 some (!decide ((p.2.2.length:Int)=(n.2.2.2.1.length:Int)))))) fun s=>
 bif s then(
 some 9)
 else(
 (iter (fun x=>qfZ n p x) 0).bind fun s3=>
 s3.elim (fun s4=>
 (iter (fun x2=>qf0 p x2) 0).bind fun s7=>
 s7.elim (fun s8=>
 (iter (fun x3=>qf1 n p x3) 0).bind fun s10=>
 s10.elim (fun s11=>
 (qj4 (n.1,(n.2.1,(n.2.2.1,(n.2.2.2.1,(n.2.2.2.2.1,n.2.2.2.2.2))))) (p.1,(p.2.1,p.2.2))).bind fun r3=>
 bif !decide ((r3.length:Int)=(n.1.length:Int)) then(
 some 13)
 else(
 some 0))
 (fun s12=>
 some s12))
 (fun s9=>
 some s9))
 (fun s5=>
 some s5)))
def qeg:Fun:=
 ⟨113,2,1,
 ⟨r64_,[],[]⟩,
 ⟨[(0,ii)],[],[]⟩,
 fun x=>qeM x.1 x.2⟩
theorem qf2:FO qeg:=fi [] [qef,qj3,qmX] 108 [] ((nn (nn (mm (mm (.mk [.join [⟨.n,⟨[(2,pt 48 0),(3,pt 64 0),(43,bb)],v0_,[]⟩⟩]] none .nil .nil) .nil) (mm (nn (mm (.mk [] (some (⟨[(2,pt 48 0),(3,pt 64 0),(45,kk),(46,kk),(47,ii)],v0_,[]⟩,[⟨.x 0,⟨r39_,v0_,[]⟩⟩,⟨.r,⟨[(4,ii)],[],[]⟩⟩])) (nn (nn (mm (mm (nn (nn (mm (.mk [.join [⟨.n,⟨[(2,pt 48 0),(3,pt 64 0),(45,kk),(46,kk),(47,kk),(67,bb)],v0_,[]⟩⟩]] none .nil .nil) .nil))) .nil) .nil))) .nil) .nil)) (mm (nn (mm (.mk [] (some (⟨[(2,pt 48 0),(3,pt 64 0),(70,kk),(71,kk),(72,ii)],v0_,[]⟩,[⟨.x 2,⟨r39_,v0_,[]⟩⟩,⟨.r,⟨[(4,ii)],[],[]⟩⟩])) (nn (nn (mm (mm (nn (mm (.mk [.join [⟨.n,⟨[(2,pt 48 0),(3,pt 64 0),(70,kk),(71,kk),(72,kk),(81,bb)],v0_,[]⟩⟩]] none .nil .nil) .nil)) .nil) .nil))) .nil) .nil)) (mm (nn (mm (.mk [] (some (⟨[(2,pt 48 0),(3,pt 64 0),(85,kk),(86,ii)],v0_,[]⟩,[⟨.x 4,⟨r39_,v0_,[]⟩⟩,⟨.r,⟨[(4,ii)],[],[]⟩⟩])) .nil .nil) .nil)) .nil))))))) func113 ⟨⟨qfX,qoB,qr6,trivial⟩,trivial⟩
def qhJ(n:yB0)(rates:List Int)(vat:Int)(i:Int)(v:Int)(v2:Bool):Option ((Int×Int×Bool)⊕((Int×Bool)⊕(Bool×Int×Bool))):=
 bif decide (i<(rates.length:Int)) then(
 Option.bind (α:=Bool) (
 gd (inB i rates.length)<|
 bif decide (0<rates.getD i.toNat 0) then(
 gd (inB i n.2.1.length)<|
 bif decide (((n.2.1.getD i.toNat ([],(0,(0,(0,(0,(0,[]))))))).2).1=vat) then(
 some true)
 else(
 gd (inB i rates.length)<|
 bif decide (rates.getD i.toNat 0<0) then(
 gd (inB i n.2.1.length)<|
 some (decide ((((n.2.1.getD i.toNat ([],(0,(0,(0,(0,(0,[]))))))).2).2).1=vat)))
 else(
 some false)))
 else(
 gd (inB i rates.length)<|
 bif decide (rates.getD i.toNat 0<0) then(
 gd (inB i n.2.1.length)<|
 some (decide ((((n.2.1.getD i.toNat ([],(0,(0,(0,(0,(0,[]))))))).2).2).1=vat)))
 else(
 some false))) fun s=>
 bif s then(
 gd (inB i rates.length)<|
 some (.inr (.inr (true,i,decide (rates.getD i.toNat 0<0)))))
 else(
 some (.inl (wi64 (i+1),v,v2))))
 else(
 some (.inr (.inl (v,v2))))
def qiv(n:yB0)(rates:List Int)(vat:Int):Option ((Int×Bool)×Bool):=
 (iter (fun x=>qhJ n rates vat x.1 x.2.1 x.2.2) (0,0,false)).bind fun s2=>
 s2.elim (fun s3=>
 some ((0,false),false))
 (fun s4=>
 some ((s4.2.1,s4.2.2),s4.1))
def qlA:Fun:=
 ⟨157,3,2,
 ⟨[(0,dd tT0),(1,dd (.sl I6)),(2,ii)],[],[]⟩,
 ⟨[(0,dd (.pair I6 (.bool))),(1,bb)],[],[]⟩,
 fun x=>qiv x.1 x.2.1 x.2.2⟩
theorem qro:FO qlA:=fi [] [] 55 [] ((nn (mm (nn (mm (.mk [] (some (⟨[(1,kk),(2,kk),(3,pt 64 0),(6,pt 112 0),(8,ii)],[(64,32,(kp 6)),(112,97,[.data I6,.data (.bool)])],[]⟩,[⟨.x 0,⟨[(6,pt 112 0)],[(112,97,[.data I6,.data (.bool)])],[]⟩⟩,⟨.r,⟨[(6,pt 112 0),(7,bb)],[(112,97,[.data I6,.data (.bool)])],[]⟩⟩])) (nn (mm (mm (mm (.mk [.join [⟨.n,⟨[(1,kk),(2,kk),(3,pt 64 0),(6,pt 112 0),(8,kk),(46,bb)],[(64,32,(kp 6)),(112,97,[.keep,.keep])],[]⟩⟩]] none .nil .nil) .nil) .nil) .nil)) .nil) .nil)) .nil))) func157 ⟨trivial,trivial⟩
def qpH(n:Int):Option (Int):=
 some (max n (wi64 (0-n)))
def qlB:Fun:=
 ⟨158,1,1,
 ⟨[(0,ii)],[],[]⟩,
 ⟨[(0,ii)],[],[]⟩,
 fun x=>qpH x⟩
theorem qrp:FO qlB:=fi [] [] 7 [] .nil func158 ⟨trivial,trivial⟩
def qmq(n:yB0)(h:Int×Bool):Option (Int×Int):=
 gd (inB h.1 n.2.1.length)<|
 bif h.2 then(
 some ((((n.2.1.getD h.1.toNat ([],(0,(0,(0,(0,(0,[]))))))).2).2).1,((n.2.1.getD h.1.toNat ([],(0,(0,(0,(0,(0,[]))))))).2).1))
 else(
 some (((n.2.1.getD h.1.toNat ([],(0,(0,(0,(0,(0,[]))))))).2).1,(((n.2.1.getD h.1.toNat ([],(0,(0,(0,(0,(0,[]))))))).2).2).1))
def qj5:Fun:=
 ⟨159,2,2,
 ⟨[(0,dd tT0),(1,dd (.pair I6 (.bool)))],[],[]⟩,
 ⟨r63_,[],[]⟩,
 fun x=>qmq x.1 x.2⟩
theorem qoC:FO qj5:=fi [] [] 23 [] .nil func159 ⟨trivial,trivial⟩
def qhK(n:yB0)(ports:List Int)(vin:Int)(vat:Int)(i:Int)(v5:Int)(v6:Int)(v7:List (Int×Bool))(v8:Int)(x4:Int)(x5:Int)(x6:List (Int×Bool)):Option ((Int×Int×Int×(List (Int×Bool))×Int×Int×Int×List (Int×Bool))⊕((Int×Int×(List (Int×Bool))×Int×Int×Int×List (Int×Bool))⊕(Bool×Int×Int×Int×List (Int×Bool)))):=
 bif decide (i<(ports.length:Int)) then(
 Option.bind (α:=Bool×List (Int×Bool)) (
 gd (inB i n.2.2.1.length)<|
 bif decide (((n.2.2.1.getD i.toNat ([],(0,0))).2).1=vat) then(
 gd (inB i ports.length)<|
 some (decide (ports.getD i.toNat 0<0),x6))
 else(
 some (false,x6))) fun s=>
 bif s.1 then(
 gd (inB i ports.length)<|
 some (.inr (.inr (true,vin,i,min x5 (wi64 (0-(ports.getD i.toNat 0))),s.2))))
 else(
 some (.inl (wi64 (i+1),v5,v6,v7,v8,x4,x5,s.2))))
 else(
 some (.inr (.inl (v5,v6,v7,v8,x4,x5,x6))))
def qhL(n:yB0)(rates:List Int)(ports:List Int)(vin:Int)(vat:Int)(k:Int)(v:Int)(v2:Int)(v3:List (Int×Bool))(v4:Int)(x:Int)(x2:Int)(x3:List (Int×Bool)):Option ((Int×Int×Int×Int×(List (Int×Bool))×Int×Int×Int×List (Int×Bool))⊕((Int×Int×(List (Int×Bool))×Int×Int×Int×List (Int×Bool))⊕(Bool×Int×Int×Int×List (Int×Bool)))):=
 bif decide (k<=(n.1.length:Int)) then(
 (iter (fun x7=>qhK n ports vin vat x7.1 x7.2.1 x7.2.2.1 x7.2.2.2.1 x7.2.2.2.2.1 x7.2.2.2.2.2.1 x7.2.2.2.2.2.2.1 x7.2.2.2.2.2.2.2) (0,v,v2,v3,v4,x,x2,x3)).bind fun s2=>
 s2.elim (fun s3=>
 (qiv (n.1,(n.2.1,(n.2.2.1,(n.2.2.2.1,(n.2.2.2.2.1,n.2.2.2.2.2))))) rates vat).bind fun r=>
 bif !r.2 then(
 some (.inr (.inr (false,vin,s3.2.2.2.2.1,s3.2.2.2.2.2.1,s3.2.2.2.2.2.2))))
 else(
 gd (fits (s3.2.2.2.2.2.2.length+1) 16)<|
 gd (inB r.1.1 rates.length)<|
 (qpH (rates.getD r.1.1.toNat 0)).bind fun r2=>
 (qmq (n.1,(n.2.1,(n.2.2.1,(n.2.2.2.1,(n.2.2.2.2.1,n.2.2.2.2.2))))) (r.1.1,r.1.2)).bind fun r3=>
 some (.inl (r3.2,wi64 (k+1),s3.1,s3.2.1,s3.2.2.1,s3.2.2.2.1,s3.2.2.2.2.1,min s3.2.2.2.2.2.1 r2,s3.2.2.2.2.2.2++[(r.1.1,r.1.2)]))))
 (fun s4=>
 some (.inr (.inr (s4.1,s4.2.1,s4.2.2.1,s4.2.2.2.1,s4.2.2.2.2)))))
 else(
 some (.inr (.inl (v,v2,v3,v4,x,x2,x3))))
def qiw(n:yB0)(rates:List Int)(ports:List Int)(vin:Int):Option (Int×Int×Int×Bool×List (Int×Bool)):=
 gd (inB vin ports.length)<|
 gd (inB vin n.2.2.1.length)<|
 (iter (fun x8=>qhL n rates ports vin x8.1 x8.2.1 x8.2.2.1 x8.2.2.2.1 x8.2.2.2.2.1 x8.2.2.2.2.2.1 x8.2.2.2.2.2.2.1 x8.2.2.2.2.2.2.2.1 x8.2.2.2.2.2.2.2.2) (((n.2.2.1.getD vin.toNat ([],(0,0))).2).1,0,0,0,[],0,0,ports.getD vin.toNat 0,[])).bind fun s5=>
 s5.elim (fun s6=>
 some (vin,s6.2.2.2.2.1,s6.2.2.2.2.2.1,false,s6.2.2.2.2.2.2))
 (fun s7=>
 some (s7.2.1,s7.2.2.1,s7.2.2.2.1,s7.1,s7.2.2.2.2))
def qlC:Fun:=
 ⟨114,4,2,
 ⟨[(0,dd tT0),(1,dd (.sl I6)),(2,dd (.sl I6)),(3,ii)],[],[]⟩,
 ⟨[(0,.agg [.data I6,.data I6,.own 0,.data I6]),(1,bb)],[],[(0,.arr 97 (.pair I6 (.bool)))]⟩,
 fun x=>qiw x.1 x.2.1 x.2.2.1 x.2.2.2⟩
theorem qrq:FO qlC:=fi [] [qlA,qlB,qj5] 101 [] ((nn (nn (nn (mm (nn (mm (.mk [] (some (⟨[(1,kk),(2,kk),(4,pt 80 0),(8,pt 144 0),(10,pt 176 0),(11,ii),(12,ii)],v16_,a72_⟩,[⟨.x 0,⟨[(8,pt 144 0),(10,pt 176 0)],[(144,56,[.data I6,.data I6,.data (.sl (.pair I6 (.bool))),.data I6]),(176,56,[.keep,.data I6,.own 2873,.data I6])],a72_⟩⟩,⟨.r,⟨[(8,pt 144 0),(9,bb)],[(144,56,[.data I6,.data I6,.own 2361,.data I6])],[(2361,.arr 97 (.pair I6 (.bool)))]⟩⟩])) (nn (mm (mm (mm (nn (mm (.mk [] (some (⟨[(1,kk),(2,kk),(4,pt 80 0),(8,pt 144 0),(10,pt 176 0),(11,kk),(12,kk),(13,ii)],v16_,a72_⟩,[⟨.x 2,⟨[(1,kk),(2,kk),(4,pt 80 0),(8,pt 144 0),(10,pt 176 0),(11,kk),(12,kk)],v16_,a72_⟩⟩,⟨.r,⟨[(8,pt 144 0),(9,bb)],[(144,56,[.data I6,.data I6,.own 2873,.data I6])],a72_⟩⟩])) (nn (mm (mm (mm (.mk [.join [⟨.n,⟨[(1,kk),(2,kk),(4,pt 80 0),(8,pt 144 0),(10,pt 176 0),(11,kk),(12,kk),(13,kk),(55,bb)],[(80,32,(kp 6)),(144,56,(kp 4)),(176,56,[.keep,.keep,.own 2873,.keep])],a72_⟩⟩]] none .nil .nil) .nil) .nil) .nil)) .nil) .nil)) .nil) .nil) .nil)) .nil) .nil)) .nil))))) func114 ⟨⟨qro,qrp,qoC,trivial⟩,trivial⟩
end
end Go.Proofs.YtgmjmgihjjddmaaGreat
