/- Functions, evaluated. No condition. -/
import Derived.Test.YtfdgemafaphpaaaGreatProg
import Derived.Test.YtfdgemafaphpaaaGreatSqLI
import Derived.Test.YtfdgemafaphpaaaGreatIn4
namespace Go.Proofs.YtfdgemafaphpaaaGreat
open Go Go.Sq
open Go.Proofs.Tryz
noncomputable section
abbrev I6:Ty:=.int .i64
abbrev dd(τ:Ty):Sh:=.one (.data τ)
abbrev pt(b o:Nat):Sh:=.one (.ptr b o)
abbrev ow(b:Nat):Sh:=.one (.own b)
abbrev FO(e:Fun):Prop:=FunOk Tryz.prog e
abbrev yT0:Type:=List UInt8×Int×Int×Int×Int×Int×List (Int×Int×Int)
abbrev tT0:Ty:=.pair (.sl (.str)) (.pair (.sl (.pair (.str) (.pair I6 (.pair I6 (.pair I6 (.pair I6 (.pair I6 (.sl (.pair I6 (.pair I6 I6)))))))))) (.pair (.sl (.pair (.str) (.pair I6 I6))) (.pair (.sl (.pair (.str) (.pair I6 (.pair I6 (.pair I6 I6))))) (.pair I6 I6))))
abbrev tT1:Ty:=.pair I6 (.pair I6 (.pair (.bool) (.bool)))
abbrev tT2:Ty:=.pair (.str) (.pair I6 (.pair I6 (.pair I6 I6)))
abbrev tT3:Ty:=.pair I6 (.pair I6 (.pair I6 (.pair I6 (.pair I6 (.sl I6)))))
abbrev tT4:Ty:=.pair I6 (.pair I6 (.pair (.sl (.pair I6 (.bool))) I6))
abbrev tT5:Ty:=.pair I6 (.pair I6 (.pair I6 (.pair I6 (.pair I6 (.sl (.pair I6 (.pair I6 I6)))))))
abbrev tT6:Ty:=.pair (.sl I6) (.pair (.sl I6) (.sl (.bool)))
abbrev tT7:Ty:=.pair I6 I6
abbrev yB0:Type:=List (List UInt8)×List yT0×List (List UInt8×Int×Int)×List (List UInt8×Int×Int×Int×Int)×Int×Int
abbrev yB1:Type:=List UInt8×Int×Int×Int×Int
abbrev yB2:Type:=Int×Int×Int×Int×Int×List Int
abbrev yB3:Type:=List (Int×Int×Bool×Bool)×List Int×List Int×List Bool
abbrev yB4:Type:=List (Int×Int×Bool×Bool)
abbrev yB5:Type:=Int×Int×Int×Int×Int×List (Int×Bool)×Int
abbrev yB6:Type:=List Int×List Int×List Bool
abbrev yB7:Type:=Int×Int×List (Int×Bool)×Int
abbrev yB8:Type:=Int×yB4×List Int×List Int×List Bool
abbrev yB9:Type:=yB3×List yB2×List yB1×Int
abbrev yB10:Type:=List UInt8×Int×Int×Int×Int×Int×List (Int×Int×Int)
abbrev yB11:Type:=Int×List Int×yB5×List UInt8×Int×Int
abbrev yB12:Type:=List (List UInt8)×List (List UInt8)×List (List UInt8)×List (List UInt8)
abbrev yB13:Type:=List (List UInt8×Int×Int)
abbrev yB14:Type:=Bool×yB4×List Int×List Int×List Bool×(List yB2)×List yB1
abbrev fd(n:String)(t o:Nat)(p:String)(b:Nat):Field:={ name:=n,type:=t,offset:=o,embedded:=false,tag := "",pkgPath:=p,byteOffset:=b }
def ti3:TI:=⟨3,.int .i64,1,8,.int .i64 0,.int .i64,false⟩
theorem tk3:ti3.ok prog:=⟨underlying3,by kernel_rfl,fun h=>by cases h⟩
def ti4:TI:=⟨4,.bool,1,1,.bool false,.bool,false⟩
theorem tk4:ti4.ok prog:=⟨underlying4,by kernel_rfl,fun h=>by cases h⟩
def ti5:TI:=⟨5,.int .u8,1,1,.int .u8 0,.int .u8,false⟩
theorem tk5:ti5.ok prog:=⟨underlying5,by kernel_rfl,fun h=>by cases h⟩
def ti9:TI:=⟨9,.string,1,16,.string ⟨#[]⟩,.str,false⟩
theorem tk9:ti9.ok prog:=⟨underlying9,by kernel_rfl,fun h=>by cases h⟩
def ti22:TI:=⟨22,.slice 3,1,24,.slice none 0 0,.sl I6,false⟩
theorem tk22:ti22.ok prog:=⟨underlying22,by kernel_rfl,fun h=>by cases h⟩
def ti23:TI:=⟨23,.int .u16,1,2,.int .u16 0,.int .u16,false⟩
theorem tk23:ti23.ok prog:=⟨underlying23,by kernel_rfl,fun h=>by cases h⟩
def ti28:TI:=⟨28,.slice 9,1,24,.slice none 0 0,.sl (.str),false⟩
theorem tk28:ti28.ok prog:=⟨underlying28,by kernel_rfl,fun h=>by cases h⟩
def ti29:TI:=⟨29,.slice 84,1,24,.slice none 0 0,.sl (.pair (.str) tT5),false⟩
theorem tk29:ti29.ok prog:=⟨underlying29,by kernel_rfl,fun h=>by cases h⟩
def ti30:TI:=⟨30,.slice 88,1,24,.slice none 0 0,.sl (.pair (.str) tT7),false⟩
theorem tk30:ti30.ok prog:=⟨underlying30,by kernel_rfl,fun h=>by cases h⟩
def ti31:TI:=⟨31,.slice 90,1,24,.slice none 0 0,.sl tT2,false⟩
theorem tk31:ti31.ok prog:=⟨underlying31,by kernel_rfl,fun h=>by cases h⟩
def ti33:TI:=⟨33,.struct #[fd "Nodes" 28 0 "" 0,fd "Segments" 29 1 "" 24,fd "Ports" 30 2 "" 48,fd "Stations" 31 3 "" 72,fd "Vapour" 3 4 "" 96,fd "Settle" 3 5 "" 104],6,112,.agg #[.slice none 0 0,.slice none 0 0,.slice none 0 0,.slice none 0 0,.int .i64 0,.int .i64 0],.pair (.sl (.str)) (.pair (.sl (.pair (.str) tT5)) (.pair (.sl (.pair (.str) tT7)) (.pair (.sl tT2) tT7))),true⟩
theorem tk33:ti33.ok prog:=⟨underlying33,by kernel_rfl,fun _=>⟨eqGuardType33,stoodInHeld33⟩⟩
def ti35:TI:=⟨35,.slice 133,1,24,.slice none 0 0,.sl tT1,false⟩
theorem tk35:ti35.ok prog:=⟨underlying35,by kernel_rfl,fun h=>by cases h⟩
def ti36:TI:=⟨36,.slice 4,1,24,.slice none 0 0,.sl (.bool),false⟩
theorem tk36:ti36.ok prog:=⟨underlying36,by kernel_rfl,fun h=>by cases h⟩
def ti38:TI:=⟨38,.struct #[fd "Rates" 22 0 "" 0,fd "Ports" 22 1 "" 24,fd "Pumps" 36 2 "" 48],3,72,.agg #[.slice none 0 0,.slice none 0 0,.slice none 0 0],.pair (.sl I6) (.pair (.sl I6) (.sl (.bool))),true⟩
theorem tk38:ti38.ok prog:=⟨underlying38,by kernel_rfl,fun _=>⟨eqGuardType38,stoodInHeld38⟩⟩
def ti40:TI:=⟨40,.struct #[fd "Valves" 35 0 "" 0,fd "Plan" 38 1 "" 24],4,96,.agg #[.slice none 0 0,.slice none 0 0,.slice none 0 0,.slice none 0 0],.pair (.sl tT1) tT6,true⟩
theorem tk40:ti40.ok prog:=⟨underlying40,by kernel_rfl,fun _=>⟨eqGuardType40,stoodInHeld40⟩⟩
def ti41:TI:=⟨41,.slice 100,1,24,.slice none 0 0,.sl tT3,false⟩
theorem tk41:ti41.ok prog:=⟨underlying41,by kernel_rfl,fun h=>by cases h⟩
def ti42:TI:=⟨42,.slice 110,1,24,.slice none 0 0,.sl tT2,false⟩
theorem tk42:ti42.ok prog:=⟨underlying42,by kernel_rfl,fun h=>by cases h⟩
def ti44:TI:=⟨44,.struct #[fd "Desk" 40 0 "" 0,fd "Stations" 41 4 "" 96,fd "Accounts" 42 5 "" 120,fd "Count" 3 6 "" 144],7,152,.agg #[.slice none 0 0,.slice none 0 0,.slice none 0 0,.slice none 0 0,.slice none 0 0,.slice none 0 0,.int .i64 0],.pair (.pair (.sl tT1) tT6) (.pair (.sl tT3) (.pair (.sl tT2) I6)),true⟩
theorem tk44:ti44.ok prog:=⟨underlying44,by kernel_rfl,fun _=>⟨eqGuardType44,stoodInHeld44⟩⟩
def ti48:TI:=⟨48,.slice 5,1,24,.slice none 0 0,.sl (.int .u8),false⟩
theorem tk48:ti48.ok prog:=⟨underlying48,by kernel_rfl,fun h=>by cases h⟩
def ti50:TI:=⟨50,.struct #[fd "Bytes" 48 0 "" 0,fd "Pending" 48 1 "" 24],2,48,.agg #[.slice none 0 0,.slice none 0 0],.pair (.sl (.int .u8)) (.sl (.int .u8)),true⟩
theorem tk50:ti50.ok prog:=⟨underlying50,by kernel_rfl,fun _=>⟨eqGuardType50,stoodInHeld50⟩⟩
def ti53:TI:=⟨53,.slice 140,1,24,.slice none 0 0,.sl (.pair I6 (.bool)),false⟩
theorem tk53:ti53.ok prog:=⟨underlying53,by kernel_rfl,fun h=>by cases h⟩
def ti55:TI:=⟨55,.struct #[fd "In" 3 0 "" 0,fd "Out" 3 1 "" 8,fd "Hops" 53 2 "" 16,fd "Rate" 3 3 "" 40],4,48,.agg #[.int .i64 0,.int .i64 0,.slice none 0 0,.int .i64 0],.pair I6 (.pair I6 (.pair (.sl (.pair I6 (.bool))) I6)),true⟩
theorem tk55:ti55.ok prog:=⟨underlying55,by kernel_rfl,fun _=>⟨eqGuardType55,stoodInHeld55⟩⟩
def ti57:TI:=⟨57,.struct #[fd "Kind" 3 0 "" 0,fd "Index" 3 1 "" 8,fd "Value" 3 2 "" 16,fd "Path" 55 3 "" 24],7,72,.agg #[.int .i64 0,.int .i64 0,.int .i64 0,.int .i64 0,.int .i64 0,.slice none 0 0,.int .i64 0],.pair I6 (.pair I6 (.pair I6 tT4)),true⟩
theorem tk57:ti57.ok prog:=⟨underlying57,by kernel_rfl,fun _=>⟨eqGuardType57,stoodInHeld57⟩⟩
def ti59:TI:=⟨59,.struct #[fd "Shipper" 9 0 "" 0,fd "Kind" 3 1 "" 16,fd "Volume" 3 2 "" 24],3,32,.agg #[.string ⟨#[]⟩,.int .i64 0,.int .i64 0],.pair (.str) tT7,true⟩
theorem tk59:ti59.ok prog:=⟨underlying59,by kernel_rfl,fun _=>⟨eqGuardType59,stoodInHeld59⟩⟩
def ti61:TI:=⟨61,.struct #[fd "Kind" 3 0 "" 0,fd "Values" 22 1 "" 8,fd "Step" 57 2 "" 32,fd "Entry" 59 9 "" 104],12,136,.agg #[.int .i64 0,.slice none 0 0,.int .i64 0,.int .i64 0,.int .i64 0,.int .i64 0,.int .i64 0,.slice none 0 0,.int .i64 0,.string ⟨#[]⟩,.int .i64 0,.int .i64 0],.pair I6 (.pair (.sl I6) (.pair (.pair I6 (.pair I6 (.pair I6 tT4))) (.pair (.str) tT7))),true⟩
theorem tk61:ti61.ok prog:=⟨underlying61,by kernel_rfl,fun _=>⟨eqGuardType61,stoodInHeld61⟩⟩
def ti66:TI:=⟨66,.slice 59,1,24,.slice none 0 0,.sl (.pair (.str) tT7),false⟩
theorem tk66:ti66.ok prog:=⟨underlying66,by kernel_rfl,fun h=>by cases h⟩
def ti72:TI:=⟨72,.struct #[fd "Batch" 3 0 "" 0,fd "Volume" 3 1 "" 8],2,16,.agg #[.int .i64 0,.int .i64 0],.pair I6 I6,true⟩
theorem tk72:ti72.ok prog:=⟨underlying72,by kernel_rfl,fun _=>⟨eqGuardType72,stoodInHeld72⟩⟩
def ti73:TI:=⟨73,.slice 72,1,24,.slice none 0 0,.sl tT7,false⟩
theorem tk73:ti73.ok prog:=⟨underlying73,by kernel_rfl,fun h=>by cases h⟩
def ti75:TI:=⟨75,.slice 73,1,24,.slice none 0 0,.sl (.sl tT7),false⟩
theorem tk75:ti75.ok prog:=⟨underlying75,by kernel_rfl,fun h=>by cases h⟩
def ti78:TI:=⟨78,.struct #[fd "L" 22 0 "" 0,fd "At" 3 1 "" 24],2,32,.agg #[.slice none 0 0,.int .i64 0],.pair (.sl I6) I6,true⟩
theorem tk78:ti78.ok prog:=⟨underlying78,by kernel_rfl,fun _=>⟨eqGuardType78,stoodInHeld78⟩⟩
def ti82:TI:=⟨82,.slice 128,1,24,.slice none 0 0,.sl (.pair I6 tT7),false⟩
theorem tk82:ti82.ok prog:=⟨underlying82,by kernel_rfl,fun h=>by cases h⟩
def ti84:TI:=⟨84,.struct #[fd "Name" 9 0 "" 0,fd "From" 3 1 "" 16,fd "To" 3 2 "" 24,fd "Capacity" 3 3 "" 32,fd "Resist" 3 4 "" 40,fd "Wave" 3 5 "" 48,fd "Points" 82 6 "" 56],7,80,.agg #[.string ⟨#[]⟩,.int .i64 0,.int .i64 0,.int .i64 0,.int .i64 0,.int .i64 0,.slice none 0 0],.pair (.str) tT5,true⟩
theorem tk84:ti84.ok prog:=⟨underlying84,by kernel_rfl,fun _=>⟨eqGuardType84,stoodInHeld84⟩⟩
def ti88:TI:=⟨88,.struct #[fd "Name" 9 0 "" 0,fd "Node" 3 1 "" 16,fd "Pressure" 3 2 "" 24],3,32,.agg #[.string ⟨#[]⟩,.int .i64 0,.int .i64 0],.pair (.str) tT7,true⟩
theorem tk88:ti88.ok prog:=⟨underlying88,by kernel_rfl,fun _=>⟨eqGuardType88,stoodInHeld88⟩⟩
def ti90:TI:=⟨90,.struct #[fd "Name" 9 0 "" 0,fd "Node" 3 1 "" 16,fd "Head" 3 2 "" 24,fd "Fall" 3 3 "" 32,fd "Suction" 3 4 "" 40],5,48,.agg #[.string ⟨#[]⟩,.int .i64 0,.int .i64 0,.int .i64 0,.int .i64 0],.pair (.str) (.pair I6 (.pair I6 tT7)),true⟩
theorem tk90:ti90.ok prog:=⟨underlying90,by kernel_rfl,fun _=>⟨eqGuardType90,stoodInHeld90⟩⟩
def ti100:TI:=⟨100,.struct #[fd "Station" 3 0 "" 0,fd "Epoch" 3 1 "" 8,fd "Seq" 3 2 "" 16,fd "Time" 3 3 "" 24,fd "Kind" 3 4 "" 32,fd "Values" 22 5 "" 40],6,64,.agg #[.int .i64 0,.int .i64 0,.int .i64 0,.int .i64 0,.int .i64 0,.slice none 0 0],.pair I6 (.pair I6 (.pair I6 (.pair I6 (.pair I6 (.sl I6))))),true⟩
theorem tk100:ti100.ok prog:=⟨underlying100,by kernel_rfl,fun _=>⟨eqGuardType100,stoodInHeld100⟩⟩
def ti110:TI:=⟨110,.struct #[fd "Shipper" 9 0 "" 0,fd "Received" 3 1 "" 16,fd "Delivered" 3 2 "" 24,fd "Slop" 3 3 "" 32,fd "Shared" 3 4 "" 40],5,48,.agg #[.string ⟨#[]⟩,.int .i64 0,.int .i64 0,.int .i64 0,.int .i64 0],.pair (.str) (.pair I6 (.pair I6 tT7)),true⟩
theorem tk110:ti110.ok prog:=⟨underlying110,by kernel_rfl,fun _=>⟨eqGuardType110,stoodInHeld110⟩⟩
def ti118:TI:=⟨118,.map 3 3,1,8,.map none,.map I6 I6,false⟩
theorem tk118:ti118.ok prog:=⟨underlying118,by kernel_rfl,fun h=>by cases h⟩
def ti119:TI:=⟨119,.struct #[fd "fills" 75 0 "batchline/audit" 0,fd "sign" 3 1 "batchline/audit" 24],2,32,.agg #[.slice none 0 0,.int .i64 0],.pair (.sl (.sl tT7)) I6,true⟩
theorem tk119:ti119.ok prog:=⟨underlying119,by kernel_rfl,fun _=>⟨eqGuardType119,stoodInHeld119⟩⟩
def ti120:TI:=⟨120,.slice 119,1,24,.slice none 0 0,.sl (.pair (.sl (.sl tT7)) I6),false⟩
theorem tk120:ti120.ok prog:=⟨underlying120,by kernel_rfl,fun h=>by cases h⟩
def ti128:TI:=⟨128,.struct #[fd "At" 3 0 "" 0,fd "Height" 3 1 "" 8,fd "Limit" 3 2 "" 16],3,24,.agg #[.int .i64 0,.int .i64 0,.int .i64 0],.pair I6 tT7,true⟩
theorem tk128:ti128.ok prog:=⟨underlying128,by kernel_rfl,fun _=>⟨eqGuardType128,stoodInHeld128⟩⟩
def ti133:TI:=⟨133,.struct #[fd "Travel" 3 0 "" 0,fd "Open" 3 1 "" 8,fd "Want" 4 2 "" 16,fd "Stuck" 4 3 "" 17],4,24,.agg #[.int .i64 0,.int .i64 0,.bool false,.bool false],.pair I6 (.pair I6 (.pair (.bool) (.bool))),true⟩
theorem tk133:ti133.ok prog:=⟨underlying133,by kernel_rfl,fun _=>⟨eqGuardType133,stoodInHeld133⟩⟩
def ti140:TI:=⟨140,.struct #[fd "Segment" 3 0 "" 0,fd "Back" 4 1 "" 8],2,16,.agg #[.int .i64 0,.bool false],.pair I6 (.bool),true⟩
theorem tk140:ti140.ok prog:=⟨underlying140,by kernel_rfl,fun _=>⟨eqGuardType140,stoodInHeld140⟩⟩
def ti143:TI:=⟨143,.slice 48,1,24,.slice none 0 0,.sl (.sl (.int .u8)),false⟩
theorem tk143:ti143.ok prog:=⟨underlying143,by kernel_rfl,fun h=>by cases h⟩
def ti149:TI:=⟨149,.slice 55,1,24,.slice none 0 0,.sl tT4,false⟩
theorem tk149:ti149.ok prog:=⟨underlying149,by kernel_rfl,fun h=>by cases h⟩
def ti168:TI:=⟨168,.struct #[fd "Segments" 36 0 "" 0,fd "Ports" 36 1 "" 24],2,48,.agg #[.slice none 0 0,.slice none 0 0],.pair (.sl (.bool)) (.sl (.bool)),true⟩
theorem tk168:ti168.ok prog:=⟨underlying168,by kernel_rfl,fun _=>⟨eqGuardType168,stoodInHeld168⟩⟩
def ti177:TI:=⟨177,.func #[3] #[4] false,1,8,.nilFunc,.clo 233 (.pair (.sl tT1) tT6),false⟩
theorem tk177:ti177.ok prog:=⟨underlying177,by kernel_rfl,fun h=>by cases h⟩
def ti187:TI:=⟨187,.array 4 28,4,96,.agg #[.slice none 0 0,.slice none 0 0,.slice none 0 0,.slice none 0 0],.pair (.sl (.str)) (.pair (.sl (.str)) (.pair (.sl (.str)) (.sl (.str)))),false⟩
theorem tk187:ti187.ok prog:=⟨underlying187,by kernel_rfl,fun h=>by cases h⟩
def ti206:TI:=⟨206,.struct #[fd "b" 48 0 "batchline/centre" 0,fd "at" 3 1 "batchline/centre" 24,fd "failed" 4 2 "batchline/centre" 32],3,40,.agg #[.slice none 0 0,.int .i64 0,.bool false],.pair (.sl (.int .u8)) (.pair I6 (.bool)),true⟩
theorem tk206:ti206.ok prog:=⟨underlying206,by kernel_rfl,fun _=>⟨eqGuardType206,stoodInHeld206⟩⟩
def ti208:TI:=⟨208,.func #[33,211,61] #[45] false,1,8,.nilFunc,.fnl [123,124,125],false⟩
theorem tk208:ti208.ok prog:=⟨underlying208,by kernel_rfl,fun h=>by cases h⟩
def ti209:TI:=⟨209,.map 3 208,1,8,.map none,.unit,false⟩
theorem tk209:ti209.ok prog:=⟨underlying209,by kernel_rfl,fun h=>by cases h⟩
def ti216:TI:=⟨216,.array 24 3,24,192,.agg #[.int .i64 0,.int .i64 0,.int .i64 0,.int .i64 0,.int .i64 0,.int .i64 0,.int .i64 0,.int .i64 0,.int .i64 0,.int .i64 0,.int .i64 0,.int .i64 0,.int .i64 0,.int .i64 0,.int .i64 0,.int .i64 0,.int .i64 0,.int .i64 0,.int .i64 0,.int .i64 0,.int .i64 0,.int .i64 0,.int .i64 0,.int .i64 0],.arr 24 I6,true⟩
theorem tk216:ti216.ok prog:=⟨underlying216,by kernel_rfl,fun _=>⟨by kernel_rfl,by kernel_rfl⟩⟩
def ti218:TI:=⟨218,.struct #[fd "come" 216 0 "batchline/flow" 0,fd "leave" 216 24 "batchline/flow" 192],48,384,.agg #[.int .i64 0,.int .i64 0,.int .i64 0,.int .i64 0,.int .i64 0,.int .i64 0,.int .i64 0,.int .i64 0,.int .i64 0,.int .i64 0,.int .i64 0,.int .i64 0,.int .i64 0,.int .i64 0,.int .i64 0,.int .i64 0,.int .i64 0,.int .i64 0,.int .i64 0,.int .i64 0,.int .i64 0,.int .i64 0,.int .i64 0,.int .i64 0,.int .i64 0,.int .i64 0,.int .i64 0,.int .i64 0,.int .i64 0,.int .i64 0,.int .i64 0,.int .i64 0,.int .i64 0,.int .i64 0,.int .i64 0,.int .i64 0,.int .i64 0,.int .i64 0,.int .i64 0,.int .i64 0,.int .i64 0,.int .i64 0,.int .i64 0,.int .i64 0,.int .i64 0,.int .i64 0,.int .i64 0,.int .i64 0],.pair (.arr 24 I6) (.arr 24 I6),true⟩
theorem tk218:ti218.ok prog:=⟨underlying218,by kernel_rfl,fun _=>⟨eqGuardType218,stoodInHeld218⟩⟩
def ti225:TI:=⟨225,.int .u64,1,8,.int .u64 0,.int .u64,false⟩
theorem tk225:ti225.ok prog:=⟨underlying225,by kernel_rfl,fun h=>by cases h⟩
def ti234:TI:=⟨234,.int .u64,1,8,.int .u64 0,.int .u64,false⟩
theorem tk234:ti234.ok prog:=⟨underlying234,by kernel_rfl,fun h=>by cases h⟩
def ti269:TI:=⟨269,.func #[33,270,57] #[45] false,1,8,.nilFunc,.unit,false⟩
theorem tk269:ti269.ok prog:=⟨underlying269,by kernel_rfl,fun h=>by cases h⟩
def ti276:TI:=⟨276,.int .u32,1,4,.int .u32 0,.int .u32,false⟩
theorem tk276:ti276.ok prog:=⟨underlying276,by kernel_rfl,fun h=>by cases h⟩
def ti281:TI:=⟨281,.array 7 269,7,56,.agg #[.nilFunc,.nilFunc,.nilFunc,.nilFunc,.nilFunc,.nilFunc,.nilFunc],.unit,false⟩
theorem tk281:ti281.ok prog:=⟨underlying281,by kernel_rfl,fun h=>by cases h⟩
def types:List TI:=[ti3,ti4,ti5,ti9,ti22,ti23,ti28,ti29,ti30,ti31,ti33,ti35,ti36,ti38,ti40,ti41,ti42,ti44,ti48,ti50,ti53,ti55,ti57,ti59,ti61,ti66,ti72,ti73,ti75,ti78,ti82,ti84,ti88,ti90,ti100,ti110,ti118,ti119,ti120,ti128,ti133,ti140,ti143,ti149,ti168,ti177,ti187,ti206,ti208,ti209,ti216,ti218,ti225,ti234,ti269,ti276,ti281]
theorem qBi:Tys prog types:=⟨tk3,tk4,tk5,tk9,tk22,tk23,tk28,tk29,tk30,tk31,tk33,tk35,tk36,tk38,tk40,tk41,tk42,tk44,tk48,tk50,tk53,tk55,tk57,tk59,tk61,tk66,tk72,tk73,tk75,tk78,tk82,tk84,tk88,tk90,tk100,tk110,tk118,tk119,tk120,tk128,tk133,tk140,tk143,tk149,tk168,tk177,tk187,tk206,tk208,tk209,tk216,tk218,tk225,tk234,tk269,tk276,tk281,trivial⟩
def xt239:Ext:=qCs 239
theorem xk239:ExtOk prog xt239:=qzF func239 (by kernel_rfl) (by kernel_rfl) (by kernel_rfl) (by kernel_rfl)
theorem mx:prog.follows .mixedOrders=true:=by kernel_rfl
abbrev kk:Sh:=.one .keep
abbrev ii:Sh:=.one (.data (.int .i64))
abbrev bb:Sh:=.one (.data .bool)
abbrev ss:Sh:=.one (.data .str)
abbrev nn(r:Plan):Plan:=.mk [] none .nil r
abbrev mm(l r:Plan):Plan:=.mk [] none l r
abbrev kp(n:Nat):List Sh1:=List.replicate n .keep
theorem fi{e:Fun}{fn:Func}{c:Code}(ow:List Nat)(fs:List Fun)(N:Nat)(xs:List Ext)(p:Plan)(hf:Tryz.prog.funcs[e.f]? = some fn)(hfs:CxOk Tryz.prog ⟨types,ow,fs,N,xs⟩)(hb:fn.body=some c:=by exact rfl)(hname:(fn.name == "runtime.NumGoroutine")=false:=by kernel_rfl)(hN:fn.ntmps=N:=by exact rfl)(hnp:Nat.ble e.np N=true:=by exact rfl)(hnr:fn.results.toList.length=e.nr:=by exact rfl)(hregs:e.ji.regs.all (fun q=>Nat.blt q.1 e.np)=true:=by exact rfl)(h:∀x,e.tw x=evFun ⟨types,ow,fs,N,xs⟩ e.ji e.jo fn.results.toList c p x:=by intro x; kernel_rfl):FunOk Tryz.prog e:=
 FunOk.intro (C:=⟨types,ow,fs,N,xs⟩) hf hb hname hN hnp hnr hregs qBi hfs mx h
abbrev v0_:List (Nat×TypeId×List Sh1):=[(48,33,kp 6),(64,38,[.keep,.keep,.keep])]
abbrev a1_:List (Nat×ObSh):=[(1,.arr 133 tT1),(2,.arr 3 I6),(3,.arr 3 I6),(4,.arr 4 (.bool))]
abbrev v2_:List (Nat×TypeId×List Sh1):=[(0,78,[.data (.sl I6),.data I6]),(64,33,kp 6),(80,38,[.keep,.keep,.keep]),(96,38,[.own 416,.own 480,.own 1593])]
abbrev v3_:List (Nat×TypeId×List Sh1):=[(0,78,[.keep,.keep]),(64,33,kp 6),(80,38,[.keep,.keep,.keep]),(96,38,[.own 416,.own 480,.own 1593])]
abbrev v4_:List (Nat×TypeId×List Sh1):=[(0,78,[.data (.sl I6),.data I6])]
abbrev v5_:List (Nat×TypeId×List Sh1):=[(0,40,[.own 1,.own 2,.own 3,.own 4])]
abbrev a6_:List (Nat×ObSh):=[(1049,.arr 9 (.str)),(1065,.arr 84 (.pair (.str) tT5)),(1081,.arr 88 (.pair (.str) tT7)),(1097,.arr 90 tT2)]
abbrev v7_:List (Nat×TypeId×List Sh1):=[(32,33,kp 6)]
abbrev a8_:List (Nat×ObSh):=[(1,.arr 133 tT1),(2,.arr 3 I6),(3,.arr 3 I6),(4,.arr 4 (.bool)),(5,.arr 100 tT3),(6,.arr 110 tT2)]
abbrev v9_:List (Nat×TypeId×List Sh1):=[(0,78,[.data (.sl I6),.data I6]),(48,33,kp 6),(64,33,[.own 1049,.own 1065,.own 1081,.own 1097,.keep,.keep])]
abbrev a10_:List (Nat×ObSh):=[(219,.arr 3 I6),(416,.arr 3 I6),(480,.arr 3 I6),(1593,.arr 4 (.bool))]
abbrev v11_:List (Nat×TypeId×List Sh1):=[(0,78,[.data (.sl I6),.data I6]),(48,33,kp 6),(64,33,[.own 1049,.own 1065,.keep,.keep,.keep,.keep])]
abbrev a12_:List (Nat×ObSh):=[(432,.arr 140 (.pair I6 (.bool))),(656,.arr 133 tT1),(657,.arr 3 I6),(658,.arr 3 I6),(659,.arr 4 (.bool))]
abbrev v13_:List (Nat×TypeId×List Sh1):=[(80,33,kp 6),(144,55,[.data I6,.data I6,.data (.sl (.pair I6 (.bool))),.data I6]),(176,55,[.keep,.data I6,.own 2873,.data I6])]
abbrev a14_:List (Nat×ObSh):=[(416,.arr 3 I6),(480,.arr 3 I6),(1593,.arr 4 (.bool))]
abbrev a15_:List (Nat×ObSh):=[(80,.one 218 (.pair (.arr 24 I6) (.arr 24 I6))),(96,.one 218 (.pair (.arr 24 I6) (.arr 24 I6)))]
abbrev v16_:List (Nat×TypeId×List Sh1):=[(64,33,kp 6),(80,40,kp 4),(96,57,kp 7),(112,40,kp 4),(144,55,[.keep,.keep,.own 432,.keep]),(160,40,[.own 656,.own 657,.own 658,.own 659]),(192,140,[.keep,.keep])]
abbrev a17_:List (Nat×ObSh):=[(219,.arr 3 I6),(283,.arr 3 I6),(416,.arr 3 I6),(480,.arr 3 I6),(1593,.arr 4 (.bool))]
abbrev r18_:List (Nat×Sh):=[(0,dd tT0),(1,dd (.pair (.pair (.sl tT1) tT6) (.pair (.sl tT3) (.pair (.sl tT2) I6)))),(2,dd (.pair I6 (.pair (.sl I6) (.pair (.pair I6 (.pair I6 (.pair I6 tT4))) (.pair (.str) tT7)))))]
abbrev r19_:List (Nat×Sh):=[(0,dd tT0),(1,pt 0 0),(2,dd (.pair I6 (.pair (.sl I6) (.pair (.pair I6 (.pair I6 (.pair I6 tT4))) (.pair (.str) tT7)))))]
abbrev v20_:List (Nat×TypeId×List Sh1):=[(48,61,kp 12),(192,206,[.data (.sl (.int .u8)),.data I6,.data (.bool)]),(96,61,[.keep,.own 1577,.keep,.keep,.keep,.keep,.keep,.own 1673,.keep,.keep,.keep,.keep])]
abbrev a21_:List (Nat×ObSh):=[(107,.arr 3 I6),(288,.arr 4 (.bool))]
abbrev a22_:List (Nat×ObSh):=[(400,.arr 3 I6),(464,.arr 3 I6),(171,.arr 55 tT4),(736,.arr 140 (.pair I6 (.bool)))]
abbrev v23_:List (Nat×TypeId×List Sh1):=[(0,78,[.data (.sl I6),.data I6]),(144,84,kp 7),(160,84,[.keep,.keep,.keep,.keep,.keep,.keep,.own 2681])]
abbrev a24_:List (Nat×ObSh):=[(368,.arr 133 tT1),(369,.arr 3 I6),(370,.arr 3 I6),(371,.arr 4 (.bool)),(372,.arr 100 tT3),(373,.arr 110 tT2)]
abbrev v25_:List (Nat×TypeId×List Sh1):=[(48,61,kp 12),(192,206,[.data (.sl (.int .u8)),.data I6,.data (.bool)]),(96,61,[.keep,.own 1577,.keep,.keep,.keep,.keep,.keep,.keep,.keep,.keep,.keep,.keep])]
abbrev r26_:List (Nat×Sh):=[(0,dd tT0),(1,dd (.pair (.sl tT1) tT6)),(2,dd (.pair I6 (.pair I6 (.pair I6 tT4))))]
abbrev r27_:List (Nat×Sh):=[(0,dd tT0),(1,pt 0 0),(2,dd (.pair I6 (.pair I6 (.pair I6 tT4))))]
abbrev v28_:List (Nat×TypeId×List Sh1):=[(64,33,kp 6),(80,38,[.keep,.keep,.keep])]
abbrev r29_:List (Nat×Sh):=[(0,dd (.pair (.pair (.sl tT1) tT6) (.pair (.sl tT3) (.pair (.sl tT2) I6)))),(1,ii)]
abbrev v30_:List (Nat×TypeId×List Sh1):=[(32,33,kp 6),(48,187,kp 4),(64,187,[.keep,.own 1065,.own 1081,.keep])]
abbrev a31_:List (Nat×ObSh):=[(7,.arr 133 tT1),(8,.arr 3 I6),(9,.arr 3 I6),(10,.arr 4 (.bool)),(11,.arr 100 tT3),(12,.arr 110 tT2)]
abbrev r32_:List (Nat×Sh):=[(2,pt 48 0),(3,pt 64 0)]
abbrev v33_:List (Nat×TypeId×List Sh1):=[(32,33,kp 6),(48,187,kp 4),(64,187,[.keep,.own 1065,.keep,.keep])]
abbrev r34_:List (Nat×Sh):=[(0,kk),(1,kk),(7,kk),(8,ii)]
abbrev v35_:List (Nat×TypeId×List Sh1):=[(64,33,kp 6),(80,40,kp 4),(96,57,kp 7),(112,40,kp 4)]
abbrev v36_:List (Nat×TypeId×List Sh1):=[(48,187,kp 4),(64,187,[.keep,.own 1065,.own 1081,.own 1097])]
abbrev a37_:List (Nat×ObSh):=[(1065,.arr 9 (.str)),(1081,.arr 9 (.str)),(1097,.arr 9 (.str))]
abbrev r38_:List (Nat×Sh):=[(0,dd (.pair (.sl (.int .u8)) (.sl (.int .u8)))),(1,dd (.pair (.pair (.sl tT1) tT6) (.pair (.sl tT3) (.pair (.sl tT2) I6)))),(2,ii)]
abbrev v39_:List (Nat×TypeId×List Sh1):=[(80,44,kp 7),(96,61,kp 12),(112,44,kp 7),(144,44,[.own 368,.own 369,.own 370,.own 371,.own 372,.own 373,.keep])]
abbrev r40_:List (Nat×Sh):=[(2,pt 48 0),(3,pt 64 0),(5,ow 107),(6,ow 288),(7,kk),(8,kk),(9,bb),(20,kk),(21,kk),(30,kk),(31,kk),(32,kk)]
abbrev r41_:List (Nat×Sh):=[(1,pt 32 0),(2,pt 48 0),(3,pt 64 0)]
abbrev v42_:List (Nat×TypeId×List Sh1):=[(48,33,kp 6),(64,40,kp 4)]
abbrev v43_:List (Nat×TypeId×List Sh1):=[(48,33,kp 6),(192,55,[.keep,.keep,.own 736,.keep])]
abbrev a44_:List (Nat×ObSh):=[(128,.arr 133 tT1),(129,.arr 3 I6),(130,.arr 3 I6),(131,.arr 4 (.bool)),(1113,.arr 100 tT3),(192,.arr 110 tT2)]
abbrev a45_:List (Nat×ObSh):=[(107,.arr 3 I6),(256,.arr 4 (.bool))]
abbrev v46_:List (Nat×TypeId×List Sh1):=[(0,206,[.data (.sl (.int .u8)),.data I6,.data (.bool)])]
abbrev v47_:List (Nat×TypeId×List Sh1):=[(0,40,[.own 1,.own 2,.own 3,.own 4]),(96,57,kp 7)]
abbrev r48_:List (Nat×Sh):=[(0,dd (.pair (.sl tT1) tT6)),(1,ii)]
abbrev a49_:List (Nat×ObSh):=[(1049,.arr 9 (.str)),(1065,.arr 84 (.pair (.str) tT5))]
abbrev r50_:List (Nat×Sh):=[(0,ii),(1,ii)]
abbrev r51_:List (Nat×Sh):=[(0,dd tT0),(1,dd tT6)]
abbrev v52_:List (Nat×TypeId×List Sh1):=[(64,59,[.keep,.keep,.keep])]
abbrev r53_:List (Nat×Sh):=[(0,dd (.pair I6 (.pair I6 (.pair I6 tT4))))]
abbrev a54_:List (Nat×ObSh):=[(2873,.arr 140 (.pair I6 (.bool)))]
abbrev a55_:List (Nat×ObSh):=[(0,.arr 133 tT1),(1,.arr 3 I6),(2,.arr 3 I6),(3,.arr 4 (.bool)),(4,.arr 100 tT3),(5,.arr 110 tT2)]
abbrev a56_:List (Nat×ObSh):=[(0,.arr 133 tT1),(1,.arr 3 I6),(2,.arr 3 I6),(3,.arr 4 (.bool))]
abbrev v57_:List (Nat×TypeId×List Sh1):=[(48,33,kp 6),(64,55,kp 4)]
abbrev v58_:List (Nat×TypeId×List Sh1):=[(0,44,[.own 7,.own 8,.own 9,.own 10,.own 11,.own 12,.data I6])]
abbrev a59_:List (Nat×ObSh):=[(928,.arr 3 I6),(976,.arr 3 I6)]
abbrev v60_:List (Nat×TypeId×List Sh1):=[(32,38,[.keep,.keep,.keep]),(48,38,[.keep,.keep,.keep]),(64,38,[.own 1049,.keep,.own 160])]
abbrev v61_:List (Nat×TypeId×List Sh1):=[(0,44,[.own 1,.own 2,.own 3,.own 4,.own 5,.own 6,.data I6])]
abbrev r62_:List (Nat×Sh):=[(0,dd (.pair (.sl (.int .u8)) (.sl (.int .u8))))]
abbrev v63_:List (Nat×TypeId×List Sh1):=[(0,78,[.keep,.keep]),(48,33,kp 6),(64,33,[.own 1049,.keep,.keep,.keep,.keep,.keep])]
abbrev r64_:List (Nat×Sh):=[(0,dd (.pair I6 (.pair (.sl I6) (.pair (.pair I6 (.pair I6 (.pair I6 tT4))) (.pair (.str) tT7)))))]
abbrev a65_:List (Nat×ObSh):=[(0,.one 218 (.pair (.arr 24 I6) (.arr 24 I6)))]
abbrev v66_:List (Nat×TypeId×List Sh1):=[(32,44,[.own 128,.own 129,.own 130,.own 131,.own 176,.own 224,.keep]),(48,44,kp 7)]
abbrev a67_:List (Nat×ObSh):=[(91,.arr 48 (.sl (.int .u8)))]
abbrev r68_:List (Nat×Sh):=[(0,kk),(1,kk),(12,kk),(13,ii)]
abbrev a69_:List (Nat×ObSh):=[(1065,.arr 9 (.str)),(1081,.arr 9 (.str))]
abbrev v70_:List (Nat×TypeId×List Sh1):=[(32,38,[.keep,.keep,.keep]),(48,168,[.keep,.keep]),(64,168,[.own 1049,.keep])]
abbrev r71_:List (Nat×Sh):=[(0,dd (.sl tT1)),(1,.one (.fn [.pair I6 (.pair I6 (.pair (.bool) (.bool)))] (.bool)))]
abbrev r72_:List (Nat×Sh):=[(0,dd tT1),(1,ii)]
abbrev r73_:List (Nat×Sh):=[(1,pt 32 0),(3,pt 64 0),(4,kk),(27,kk),(28,bb)]
abbrev r74_:List (Nat×Sh):=[(0,dd (.pair (.sl (.str)) (.pair (.sl (.str)) (.pair (.sl (.str)) (.sl (.str))))))]
abbrev r75_:List (Nat×Sh):=[(0,dd (.sl tT2)),(1,.one (.fn [.pair (.str) (.pair I6 (.pair I6 tT7))] (.bool)))]
abbrev v76_:List (Nat×TypeId×List Sh1):=[(0,44,[.own 1,.own 2,.own 3,.own 4,.own 5,.own 6,.keep]),(96,61,kp 12)]
abbrev a77_:List (Nat×ObSh):=[(400,.arr 3 I6),(464,.arr 3 I6),(171,.arr 55 tT4)]
abbrev r78_:List (Nat×Sh):=[(2,pt 48 0),(4,pt 80 0)]
abbrev r79_:List (Nat×Sh):=[(0,dd (.int .u64)),(1,dd (.int .u64))]
abbrev a80_:List (Nat×ObSh):=[(1577,.arr 3 I6),(1673,.arr 140 (.pair I6 (.bool)))]
abbrev v81_:List (Nat×TypeId×List Sh1):=[(48,133,[.data I6,.data I6,.data (.bool),.data (.bool)]),(80,133,kp 4)]
abbrev v82_:List (Nat×TypeId×List Sh1):=[(48,133,[.keep,.data I6,.keep,.keep]),(80,133,kp 4),(96,133,kp 4)]
abbrev a83_:List (Nat×ObSh):=[(2073,.arr 133 tT1),(416,.arr 3 I6),(480,.arr 3 I6),(544,.arr 4 (.bool))]
abbrev r84_:List (Nat×Sh):=[(1,pt 32 0),(4,kk),(5,bb)]
abbrev a85_:List (Nat×ObSh):=[(960,.arr 133 tT1),(961,.arr 3 I6),(962,.arr 3 I6),(963,.arr 4 (.bool))]
abbrev v86_:List (Nat×TypeId×List Sh1):=[(0,40,[.own 1,.own 2,.own 3,.own 4]),(64,33,kp 6),(96,57,kp 7)]
abbrev v87_:List (Nat×TypeId×List Sh1):=[(48,110,kp 5),(80,110,[.keep,.data I6,.data I6,.data I6,.data I6])]
abbrev r88_:List (Nat×Sh):=[(0,dd (.pair (.pair (.sl tT1) tT6) (.pair (.sl tT3) (.pair (.sl tT2) I6))))]
abbrev r89_:List (Nat×Sh):=[(0,dd (.sl (.int .u8)))]
abbrev r90_:List (Nat×Sh):=[(0,dd (.sl (.pair (.str) tT5))),(1,.one (.fn [.pair (.str) tT5] (.bool)))]
abbrev r91_:List (Nat×Sh):=[(0,dd (.sl (.pair (.str) tT7))),(1,.one (.fn [.pair (.str) tT7] (.bool)))]
abbrev r92_:List (Nat×Sh):=[(0,dd (.sl (.pair I6 (.bool)))),(1,.one (.fn [.pair I6 (.bool)] (.bool)))]
abbrev v93_:List (Nat×TypeId×List Sh1):=[(32,33,kp 6),(96,187,kp 4)]
abbrev r94_:List (Nat×Sh):=[(0,pt 0 0),(3,pt 64 0),(4,pt 80 0),(5,pt 96 0),(7,kk),(8,kk)]
abbrev r95_:List (Nat×Sh):=[(1,pt 32 0),(2,pt 48 0),(3,pt 64 0),(14,kk),(15,kk),(16,ii)]
abbrev r96_:List (Nat×Sh):=[(1,pt 32 0),(2,pt 48 0),(3,pt 64 0),(29,kk),(30,kk),(31,ii)]
abbrev v97_:List (Nat×TypeId×List Sh1):=[(32,57,kp 7),(64,55,kp 4)]
abbrev r98_:List (Nat×Sh):=[(0,dd (.pair (.str) tT5))]
abbrev a99_:List (Nat×ObSh):=[(107,.arr 59 (.pair (.str) tT7))]
abbrev r100_:List (Nat×Sh):=[(0,dd tT0),(1,dd tT6),(2,ii)]
abbrev r101_:List (Nat×Sh):=[(0,.agg [.own 0,.own 1,.own 2,.own 3,.own 4,.own 5,.data I6])]
abbrev r102_:List (Nat×Sh):=[(0,ii),(1,ii),(2,ii)]
abbrev v103_:List (Nat×TypeId×List Sh1):=[(32,59,[.keep,.keep,.keep])]
abbrev v104_:List (Nat×TypeId×List Sh1):=[(32,84,kp 7)]
abbrev r105_:List (Nat×Sh):=[(2,pt 48 0),(7,ow 400),(8,ow 464),(9,ow 171),(10,kk)]
abbrev a106_:List (Nat×ObSh):=[(139,.arr 3 I6)]
abbrev v107_:List (Nat×TypeId×List Sh1):=[(32,133,[.keep,.data I6,.keep,.keep]),(48,133,kp 4)]
abbrev r108_:List (Nat×Sh):=[(2,pt 48 0),(3,pt 64 0),(5,ow 107),(6,ow 256),(7,ii)]
abbrev r109_:List (Nat×Sh):=[(2,pt 48 0),(3,pt 64 0),(5,ow 107),(6,ow 256),(7,kk)]
abbrev r110_:List (Nat×Sh):=[(4,dd (.sl tT2)),(5,dd (.sl (.pair (.str) tT7))),(6,ii)]
abbrev a111_:List (Nat×ObSh):=[(1049,.arr 3 I6),(1065,.arr 3 I6),(160,.arr 4 (.bool))]
abbrev a112_:List (Nat×ObSh):=[(0,.arr 5 (.int .u8))]
abbrev r113_:List (Nat×Sh):=[(0,dd (.pair (.sl (.int .u8)) (.sl (.int .u8)))),(1,ii)]
abbrev r114_:List (Nat×Sh):=[(0,pt 0 0),(2,pt 48 0),(3,pt 64 0),(5,kk),(9,kk)]
abbrev r115_:List (Nat×Sh):=[(2,pt 48 0),(3,pt 64 0),(44,kk),(45,kk),(46,ii)]
abbrev r116_:List (Nat×Sh):=[(0,kk),(4,ow 91),(5,kk),(6,kk),(7,kk),(37,bb)]
abbrev a117_:List (Nat×ObSh):=[(0,.arr 100 tT3)]
abbrev a118_:List (Nat×ObSh):=[(208,.map true 118 I6 I6)]
abbrev r119_:List (Nat×Sh):=[(2,pt 48 0),(3,pt 64 0),(5,ii)]
abbrev v120_:List (Nat×TypeId×List Sh1):=[(32,61,kp 12),(96,57,kp 7)]
abbrev r121_:List (Nat×Sh):=[(0,dd (.sl I6)),(1,.one (.fn [.int .i64] (.bool)))]
abbrev r122_:List (Nat×Sh):=[(0,kk),(1,kk),(2,kk),(8,kk),(9,ii),(10,ii)]
abbrev r123_:List (Nat×Sh):=[(0,dd (.sl I6))]
abbrev v124_:List (Nat×TypeId×List Sh1):=[(48,40,kp 4),(64,57,kp 7),(80,40,kp 4)]
abbrev r125_:List (Nat×Sh):=[(0,dd (.sl (.str))),(1,.one (.fn [.str] (.bool)))]
abbrev a126_:List (Nat×ObSh):=[(139,.arr 110 tT2)]
abbrev r127_:List (Nat×Sh):=[(0,dd (.sl (.int .u8))),(1,ii)]
abbrev a128_:List (Nat×ObSh):=[(251,.arr 59 (.pair (.str) tT7))]
abbrev r129_:List (Nat×Sh):=[(0,dd tT0),(1,dd tT4)]
abbrev a130_:List (Nat×ObSh):=[(75,.arr 3 I6)]
abbrev r131_:List (Nat×Sh):=[(0,ow 0),(1,ii)]
abbrev a132_:List (Nat×ObSh):=[(2681,.arr 128 (.pair I6 tT7))]
abbrev a133_:List (Nat×ObSh):=[(75,.arr 72 tT7)]
abbrev r134_:List (Nat×Sh):=[(0,kk),(6,kk),(7,ow 139)]
abbrev a135_:List (Nat×ObSh):=[(0,.arr 48 (.sl (.int .u8)))]
abbrev a136_:List (Nat×ObSh):=[(1065,.arr 9 (.str))]
abbrev r137_:List (Nat×Sh):=[(0,pt 0 0),(1,ii)]
abbrev r138_:List (Nat×Sh):=[(0,dd tT0),(1,ii)]
abbrev a139_:List (Nat×ObSh):=[(0,.arr 4 (.bool))]
def qoV(l:List Int):Option (Bool):=
 some (decide ((l.length:Int)<=400))
def qnM:Fun:=
 ⟨4,1,1,
 ⟨r123_,[],[]⟩,
 ⟨[(0,bb)],[],[]⟩,
 fun x=>qoV x⟩
theorem qto:FO qnM:=fi [] [] 6 [] .nil func4 ⟨trivial,trivial⟩
def qq1(p:Int×Int):Option (Bool):=
 bif decide (0<=p.1) then(
 bif decide (p.1<1000) then(
 bif decide (0<=p.2) then(
 some (decide (p.2<=1000000)))
 else(
 some false))
 else(
 some false))
 else(
 some false)
def qmq:Fun:=
 ⟨92,1,1,
 ⟨[(0,dd tT7)],[],[]⟩,
 ⟨[(0,bb)],[],[]⟩,
 fun x=>qq1 x⟩
theorem qrS:FO qmq:=fi [] [] 21 [] .nil func92 ⟨trivial,trivial⟩
def qrT(f:List (Int×Int))(sum:Int)(v:Int):Option ((Int×Int)⊕Int):=
 bif decide (v<(f.length:Int)) then(
 gd (inB v f.length)<|
 some (.inl (wi64 (sum+((f.getD v.toNat (0,0)).2)),wi64 (v+1))))
 else(
 some (.inr sum))
def qjw(f:List (Int×Int)):Option (Int):=
 (iter (fun x=>qrT f x.1 x.2) (0,0)).bind fun s=>
 some s
def qix:Fun:=
 ⟨93,1,1,
 ⟨[(0,dd (.sl tT7))],[],[]⟩,
 ⟨[(0,ii)],[],[]⟩,
 fun x=>qjw x⟩
theorem qmr:FO qix:=fi [] [] 18 [] ((nn (nn (mm (nn (mm (.mk [] (some (⟨[(3,ii),(6,kk),(7,kk),(8,ii)],[],[]⟩,[⟨.x 0,⟨[(3,ii)],[],[]⟩⟩])) .nil .nil) .nil)) .nil)))) func93 ⟨trivial,trivial⟩
def qrU(f:List (Int×Int))(v:Int):Option (Int⊕(Unit⊕Bool)):=
 bif decide (v<(f.length:Int)) then(
 gd (inB v f.length)<|
 Option.bind (α:=Bool) (
 (qq1 ((f.getD v.toNat (0,0)).1,(f.getD v.toNat (0,0)).2)).bind fun r=>
 bif !r then(
 some true)
 else(
 bif decide ((f.getD v.toNat (0,0)).2=0) then(
 some true)
 else(
 bif decide (0<v) then(
 gd (inB (wi64 (v-1)) f.length)<|
 some (decide ((f.getD (wi64 (v-1)).toNat (0,0)).1=(f.getD v.toNat (0,0)).1)))
 else(
 some false)))) fun s=>
 bif s then(
 some (.inr (.inr false)))
 else(
 some (.inl (wi64 (v+1)))))
 else(
 some (.inr (.inl ())))
def qhh(f:List (Int×Int)):Option (Bool):=
 bif decide (200<(f.length:Int)) then(
 some false)
 else(
 (iter (fun x=>qrU f x) 0).bind fun s2=>
 s2.elim (fun s3=>
 (qjw f).bind fun r2=>
 some (decide (r2<=1000000)))
 (fun s4=>
 some s4))
def qf0:Fun:=
 ⟨42,1,1,
 ⟨[(0,dd (.sl tT7))],[],[]⟩,
 ⟨[(0,bb)],[],[]⟩,
 fun x=>qhh x⟩
theorem qiy:FO qf0:=fi [] [qmq,qix] 42 [] ((nn (nn (mm (nn (mm (.mk [] (some (⟨[(0,kk),(8,kk),(9,kk),(10,ii)],[],[]⟩,[⟨.x 0,⟨[(0,kk)],[],[]⟩⟩,⟨.r,⟨[(2,bb)],[],[]⟩⟩])) (nn (nn (mm (mm (nn (mm (.mk [.join [⟨.n,⟨[(0,kk),(8,kk),(9,kk),(10,kk),(37,bb)],[],[]⟩⟩]] none .nil .nil) .nil)) .nil) .nil))) .nil) .nil)) .nil)))) func42 ⟨⟨qrS,qmr,trivial⟩,trivial⟩
def qpL(fills:List (List (Int×Int)))(v:Int)(v2:Int)(out2:List (Int×Int)):Option ((Int×List (Int×Int))⊕(List (Int×Int))):=
 bif decide (v2<((fills.getD v.toNat []).length:Int)) then(
 gd (inB v2 (fills.getD v.toNat []).length)<|
 some (.inl (wi64 (v2+1),mput keyI out2 (((fills.getD v.toNat []).getD v2.toNat (0,0)).1) (wi64 (((mget keyI out2 (((fills.getD v.toNat []).getD v2.toNat (0,0)).1)).getD 0)+(((fills.getD v.toNat []).getD v2.toNat (0,0)).2))))))
 else(
 some (.inr out2))
def qpM(fills:List (List (Int×Int)))(v:Int)(out:List (Int×Int)):Option ((Int×List (Int×Int))⊕((List (Int×Int))⊕((List (Int×Int))×Int))):=
 bif decide (v<(fills.length:Int)) then(
 gd (inB v fills.length)<|
 (qhh (fills.getD v.toNat [])).bind fun r=>
 bif !r then(
 some (.inr (.inr ([],14))))
 else(
 (iter (fun x=>qpL fills v x.1 x.2) (0,out)).bind fun s=>
 some (.inl (wi64 (v+1),s))))
 else(
 some (.inr (.inl out)))
def qnN(fills:List (List (Int×Int))):Option ((List (Int×Int))×Int):=
 bif decide (32<(fills.length:Int)) then(
 some ([],4))
 else(
 (iter (fun x2=>qpM fills x2.1 x2.2) (0,[])).bind fun s2=>
 s2.elim (fun s3=>
 some (s3,0))
 (fun s4=>
 some (s4.1,s4.2)))
def qkd:Fun:=
 ⟨41,1,2,
 ⟨[(0,dd (.sl (.sl tT7)))],[],[]⟩,
 ⟨[(0,dd (.map I6 I6)),(1,ii)],[],[]⟩,
 fun x=>qnN x⟩
theorem qpN:FO qkd:=fi [] [qf0] 38 [] ((nn (nn (nn (mm (nn (mm (.mk [] (some (⟨[(4,ow 208),(13,kk),(14,kk),(15,ii)],[],a118_⟩,[⟨.x 0,⟨[(4,ow 208)],[],a118_⟩⟩,⟨.r,⟨[(2,dd (.map I6 I6)),(3,ii)],[],[]⟩⟩])) (nn (nn (mm (mm (nn (nn (nn (mm (.mk [] (some (⟨[(4,ow 208),(13,kk),(14,kk),(15,kk),(22,kk),(23,kk),(24,ii)],[],a118_⟩,[⟨.x 2,⟨[(4,ow 208),(13,kk),(14,kk),(15,kk)],[],a118_⟩⟩])) .nil .nil) .nil)))) .nil) .nil))) .nil) .nil)) .nil))))) func41 ⟨⟨qiy,trivial⟩,trivial⟩
def qfg(before:List (List (Int×Int)))(after:List (List (Int×Int)))(vin:List (Int×Int))(out:List (Int×Int))(v:Int)(sums2:List (Int×Int))(v2:List (Int×Int)):List (Option (((List (Int×Int))×List (Int×Int))⊕(List (Int×Int)))):=
 bif qw1 v2.tail then [
 some (.inr sums2)]
 else((List.range v2.tail.length).map fun i=>
 bif decide ((mget keyI (mput keyI sums2 (((qfG (0,0) v2.tail i).headD (0,0)).1) (wi64 (((mget keyI sums2 (((qfG (0,0) v2.tail i).headD (0,0)).1)).getD 0)+(wi64 ((([(before,1),(after,-1),([vin],1),([out],-1)].getD v.toNat ([],0)).2)*(((qfG (0,0) v2.tail i).headD (0,0)).2)))))) (((qfG (0,0) v2.tail i).headD (0,0)).1)).getD 0=0) then(
 some (.inl (mdel keyI (mput keyI sums2 (((qfG (0,0) v2.tail i).headD (0,0)).1) (wi64 (((mget keyI sums2 (((qfG (0,0) v2.tail i).headD (0,0)).1)).getD 0)+(wi64 ((([(before,1),(after,(-1)),([vin],1),([out],(-1))].getD v.toNat ([],0)).2)*(((qfG (0,0) v2.tail i).headD (0,0)).2)))))) (((qfG (0,0) v2.tail i).headD (0,0)).1),qfG (0,0) v2.tail i)))
 else(
 some (.inl (mput keyI sums2 (((qfG (0,0) v2.tail i).headD (0,0)).1) (wi64 (((mget keyI sums2 (((qfG (0,0) v2.tail i).headD (0,0)).1)).getD 0)+(wi64 ((([(before,1),(after,(-1)),([vin],1),([out],(-1))].getD v.toNat ([],0)).2)*(((qfG (0,0) v2.tail i).headD (0,0)).2))))),qfG (0,0) v2.tail i))))
def qbq(before:List (List (Int×Int)))(after:List (List (Int×Int)))(vin:List (Int×Int))(out:List (Int×Int))(v:Int)(sums:List (Int×Int)):Option ((Int×List (Int×Int))⊕((List (Int×Int))⊕(Bool×Int))):=
 bif decide (v<([(before,1),(after,-1),([vin],1),([out],-1)].length:Int)) then(
 gd (inB v [(before,1),(after,-1),([vin],1),([out],-1)].length)<|
 (qnN (([(before,1),(after,-1),([vin],1),([out],-1)].getD v.toNat ([],0)).1)).bind fun r=>
 bif !decide (r.2=0) then(
 some (.inr (.inr (false,r.2))))
 else(
 iterK (fun x=>qfg before after vin out v x.1 x.2) (sums,(0,0)::r.1) fun s=>
 some (.inl (wi64 (v+1),s))))
 else(
 some (.inr (.inl sums)))
def qlR(before:List (List (Int×Int)))(after:List (List (Int×Int)))(vin:List (Int×Int))(out:List (Int×Int)):Option (Bool×Int):=
 (iter (fun x2=>qbq before after vin out x2.1 x2.2) (0,[])).bind fun s2=>
 s2.elim (fun s3=>
 some (decide ((s3.length:Int)=0),0))
 (fun s4=>
 some (s4.1,s4.2))
def qnO:Fun:=
 ⟨15,4,2,
 ⟨[(0,dd (.sl (.sl tT7))),(1,dd (.sl (.sl tT7))),(2,dd (.sl tT7)),(3,dd (.sl tT7))],[],[]⟩,
 ⟨[(0,bb),(1,ii)],[],[]⟩,
 fun x=>qlR x.1 x.2.1 x.2.2.1 x.2.2.2⟩
theorem qtp:FO qnO:=fi [] [qkd] 68 [] ((nn (nn (mm (nn (mm (.mk [] (some (⟨[(10,ow 288),(28,kk),(29,kk),(30,ii)],[],[(288,.map true 118 I6 I6)]⟩,[⟨.x 0,⟨[(10,ow 288)],[],[(288,.map true 118 I6 I6)]⟩⟩,⟨.r,⟨[(8,bb),(9,ii)],[],[]⟩⟩])) (nn (nn (mm (mm (nn (nn (nn (nn (mm (.mk [] (some (⟨[(10,ow 288),(12,pt 208 0),(28,kk),(29,kk),(30,kk),(44,ow 720)],[(208,119,[.keep,.keep])],[(288,.map true 118 I6 I6),(720,.iter false I6 I6)]⟩,[⟨.x 2,⟨[(10,ow 288),(28,kk),(29,kk),(30,kk)],[],[(288,.map true 118 I6 I6)]⟩⟩])) .nil .nil) .nil))))) .nil) .nil))) .nil) .nil)) .nil)))) func15 ⟨⟨qpN,trivial⟩,trivial⟩
def qfa(s:List (Int×Int)):Option (List (Int×Int)):=
 bif Nat.beq s.length 0 then(bothO (
 some []) (
 gd (fits (0+s.length) 16)<|
 some ([]++s)))
 else(
 gd (fits (0+s.length) 16)<|
 some ([]++s))
def qaq:Fun:=
 ⟨95,1,1,
 ⟨[(0,dd (.sl tT7))],[],[]⟩,
 ⟨[(0,ow 0)],[],[(0,.arr 72 tT7)]⟩,
 fun x=>qfa x⟩
theorem qd1:FO qaq:=fi [5] [] 8 [] .nil func95 ⟨trivial,trivial⟩
def qaL(s:List (Int×Int)):Option (List (Int×Int)):=gd (fits (0+s.length) 16) (some ([]++s))
def qbl:Fun:={ f:=qaq.f,np:=qaq.np,nr:=qaq.nr,ji:=qaq.ji,jo:=qaq.jo,tw:=fun x=>qaL x }
theorem qch:FO qbl:=qd1.le fun x=>qh1 x _
def qq2(f:List (Int×Int))(v:Int)(out:List (Int×Int)):Option ((Int×List (Int×Int))⊕(List (Int×Int))):=
 bif decide (v<(f.length:Int)) then(
 gd (inB v f.length)<|
 Option.bind (α:=List (Int×Int)) (
 bif decide ((f.getD v.toNat (0,0)).1=(f.getD v.toNat (0,0)).1)&&decide ((f.getD v.toNat (0,0)).2=0) then(
 some out)
 else(
 Option.bind (α:=Bool×List (Int×Int)) (
 bif decide (0<(out.length:Int)) then(
 gd (inB (wi64 ((out.length:Int)-1)) out.length)<|
 some (decide ((out.getD ((wi64 ((out.length:Int)-1)).toNat) (0,0)).1=(f.getD v.toNat (0,0)).1),out))
 else(
 some (false,out))) fun s=>
 Option.bind (α:=List (Int×Int)) (
 bif s.1 then(
 gd (inB (wi64 ((out.length:Int)-1)) s.2.length)<|
 gd (inB (wi64 ((out.length:Int)-1)) s.2.length)<|
 some (s.2.set ((wi64 ((out.length:Int)-1)).toNat) ((s.2.getD ((wi64 ((out.length:Int)-1)).toNat) (0,0)).1,wi64 (((s.2.getD ((wi64 ((out.length:Int)-1)).toNat) (0,0)).2)+((f.getD v.toNat (0,0)).2)))))
 else(
 gd (fits (s.2.length+1) 16)<|
 some (s.2++[((f.getD v.toNat (0,0)).1,(f.getD v.toNat (0,0)).2)]))) fun s2=>
 some s2)) fun s3=>
 some (.inl (wi64 (v+1),s3)))
 else(
 some (.inr out))
def qkS(f:List (Int×Int)):Option (List (Int×Int)):=
 (iter (fun x=>qq2 f x.1 x.2) (0,[])).bind fun s4=>
 some s4
def qkT:Fun:=
 ⟨145,1,1,
 ⟨[(0,dd (.sl tT7))],[],[]⟩,
 ⟨[(0,ow 0)],[],[(0,.arr 72 tT7)]⟩,
 fun x=>qkS x⟩
theorem qq3:FO qkT:=fi [] [] 52 [] ((nn (nn (mm (nn (mm (.mk [] (some (⟨[(3,ow 75),(7,kk),(8,kk),(9,ii)],[],a133_⟩,[⟨.x 0,⟨[(3,ow 75)],[],a133_⟩⟩])) (nn (nn (mm (mm (nn (nn (mm (nn (.mk [.join [⟨.n,⟨[(3,ow 75),(7,kk),(8,kk),(9,kk)],[],a133_⟩⟩]] none .nil (mm (.mk [.join [⟨.n,⟨[(3,ow 75),(5,pt 96 0),(6,kk),(7,kk),(8,kk),(9,kk),(25,bb)],[(96,72,[.keep,.keep])],a133_⟩⟩]] none .nil .nil) (.mk [.join [⟨.n,⟨[(3,ow 75),(7,kk),(8,kk),(9,kk)],[],a133_⟩⟩]] none .nil .nil)))) .nil))) .nil) .nil))) .nil) .nil)) .nil)))) func145 ⟨trivial,trivial⟩
def quO(f:List (Int×Int))(litres2:Int)(v:Int)(head:List (Int×Int))(tail:List (Int×Int)):Option ((Int×Int×(List (Int×Int))×List (Int×Int))⊕((List (Int×Int))×List (Int×Int))):=
 bif decide (v<(f.length:Int)) then(
 gd (inB v f.length)<|
 gd (inB v head.length)<|
 gd (inB v (head.set v.toNat ((head.getD v.toNat (0,0)).1,min ((f.getD v.toNat (0,0)).2) litres2)).length)<|
 gd (inB v (head.set v.toNat ((head.getD v.toNat (0,0)).1,min ((f.getD v.toNat (0,0)).2) litres2)).length)<|
 gd (inB v tail.length)<|
 some (.inl (wi64 (litres2-(((head.set v.toNat ((head.getD v.toNat (0,0)).1,min ((f.getD v.toNat (0,0)).2) litres2)).getD v.toNat (0,0)).2)),wi64 (v+1),head.set v.toNat ((head.getD v.toNat (0,0)).1,min ((f.getD v.toNat (0,0)).2) litres2),tail.set v.toNat ((tail.getD v.toNat (0,0)).1,wi64 (((f.getD v.toNat (0,0)).2)-(((head.set v.toNat ((head.getD v.toNat (0,0)).1,min ((f.getD v.toNat (0,0)).2) litres2)).getD v.toNat (0,0)).2))))))
 else(
 some (.inr (head,tail)))
def qq4(f:List (Int×Int))(litres:Int):Option ((List (Int×Int))×List (Int×Int)):=
 (qaL f).bind fun r=>
 (qaL f).bind fun r2=>
 (iter (fun x=>quO f x.1 x.2.1 x.2.2.1 x.2.2.2) (litres,0,r,r2)).bind fun s=>
 (qkS s.1).bind fun r3=>
 (qkS s.2).bind fun r4=>
 some (r3,r4)
def qps:Fun:=
 ⟨94,2,2,
 ⟨[(0,dd (.sl tT7)),(1,ii)],[],[]⟩,
 ⟨[(0,ow 0),(1,ow 1)],[],[(0,.arr 72 tT7),(1,.arr 72 tT7)]⟩,
 fun x=>qq4 x.1 x.2⟩
theorem quP:FO qps:=fi [] [qbl,qkT] 53 [] ((nn (nn (mm (nn (mm (.mk [] (some (⟨[(1,ii),(6,ow 192),(7,ow 224),(14,kk),(15,kk),(16,ii)],[],[(192,.arr 72 tT7),(224,.arr 72 tT7)]⟩,[⟨.x 0,⟨[(6,ow 192),(7,ow 224)],[],[(192,.arr 72 tT7),(224,.arr 72 tT7)]⟩⟩])) .nil .nil) .nil)) .nil)))) func94 ⟨⟨qch,qq3,trivial⟩,trivial⟩
def qsF(f:List (Int×Int))(vin:List (Int×Int))(back:Bool):Option (Int×(List (Int×Int))×List (Int×Int)):=
 Option.bind (α:=Bool) (
 (qhh f).bind fun r=>
 bif !r then(
 some true)
 else(
 (qhh vin).bind fun r2=>
 some (!r2))) fun s=>
 bif s then(
 some (9,[],[]))
 else(
 Option.bind (α:=(List (Int×Int))×List (Int×Int)) (
 bif back then(
 (qaL f).bind fun r3=>
 gd (fits (r3.length+vin.length) 16)<|
 (qjw vin).bind fun r4=>
 (qq4 (r3++vin) r4).bind fun r5=>
 some (r5.2,r5.1))
 else(
 (qaL vin).bind fun r6=>
 gd (fits (r6.length+f.length) 16)<|
 (qjw f).bind fun r7=>
 (qq4 (r6++f) r7).bind fun r8=>
 some (r8.1,r8.2))) fun s2=>
 Option.bind (α:=Bool×(List (Int×Int))×List (Int×Int)) (
 bif decide (200<(s2.1.length:Int)) then(
 some (true,s2.1,s2.2))
 else(
 some (decide (200<(s2.2.length:Int)),s2.1,s2.2))) fun s3=>
 bif s3.1 then(
 some (4,[],[]))
 else(
 some (0,s3.2.1,s3.2.2)))
def qnP:Fun:=
 ⟨43,3,3,
 ⟨[(0,dd (.sl tT7)),(1,dd (.sl tT7)),(2,bb)],[],[]⟩,
 ⟨[(0,ow 0),(1,ow 1),(2,ii)],[],[(0,.arr 72 tT7),(1,.arr 72 tT7)]⟩,
 fun x=>qsF x.1 x.2.1 x.2.2⟩
theorem qtq:FO qnP:=fi [] [qf0,qbl,qix,qps] 50 [] ((nn (mm (mm (.mk [.join [⟨.n,⟨[(0,kk),(1,kk),(2,kk),(18,bb)],[],[]⟩⟩]] none .nil .nil) .nil) (nn (mm (nn (.mk [.join [⟨.n,⟨[(9,ow 171),(10,ow 187)],[],[(171,.arr 72 tT7),(187,.arr 72 tT7)]⟩⟩]] none .nil .nil)) (mm (mm (.mk [.join [⟨.n,⟨[(9,ow 171),(10,ow 187),(47,bb)],[],[(171,.arr 72 tT7),(187,.arr 72 tT7)]⟩⟩]] none .nil .nil) .nil) .nil)))))) func43 ⟨⟨qiy,qch,qmr,quP,trivial⟩,trivial⟩
def qeS(s1:List (Int×Int))(s2:List (Int×Int))(v:Int):Option (Int⊕(Unit⊕Bool)):=
 bif decide (v<(s1.length:Int)) then(
 gd (inB v s1.length)<|
 gd (inB v s2.length)<|
 bif !(decide ((s1.getD v.toNat (0,0)).1=(s2.getD v.toNat (0,0)).1)&&decide ((s1.getD v.toNat (0,0)).2=(s2.getD v.toNat (0,0)).2)) then(
 some (.inr (.inr false)))
 else(
 some (.inl (wi64 (v+1)))))
 else(
 some (.inr (.inl ())))
def qbC(s1:List (Int×Int))(s2:List (Int×Int)):Option (Bool):=
 bif !decide ((s1.length:Int)=(s2.length:Int)) then(
 some false)
 else(
 (iter (fun x=>qeS s1 s2 x) 0).bind fun s=>
 s.elim (fun s3=>
 some true)
 (fun s4=>
 some s4))
def qci:Fun:=
 ⟨44,2,1,
 ⟨[(0,dd (.sl tT7)),(1,dd (.sl tT7))],[],[]⟩,
 ⟨[(0,bb)],[],[]⟩,
 fun x=>qbC x.1 x.2⟩
theorem qeT:FO qci:=fi [] [] 26 [] ((nn (nn (mm (nn (mm (.mk [] (some (⟨r68_,[],[]⟩,[⟨.x 0,⟨[],[],[]⟩⟩,⟨.r,⟨[(4,bb)],[],[]⟩⟩])) .nil .nil) .nil)) .nil)))) func44 ⟨trivial,trivial⟩
def qrV(before:List (Int×Int))(after:List (Int×Int))(vin:List (Int×Int))(out:List (Int×Int))(v:Int):Option (Int⊕(Unit⊕(Bool×Int))):=
 bif decide (v<([before,after,vin,out].length:Int)) then(
 gd (inB v [before,after,vin,out].length)<|
 (qhh ([before,after,vin,out].getD v.toNat [])).bind fun r=>
 bif !r then(
 some (.inr (.inr (false,14))))
 else(
 some (.inl (wi64 (v+1)))))
 else(
 some (.inr (.inl ())))
def qm6(before:List (Int×Int))(after:List (Int×Int))(vin:List (Int×Int))(out:List (Int×Int))(back:Bool):Option (Bool×Int):=
 (iter (fun x=>qrV before after vin out x) 0).bind fun s=>
 s.elim (fun s2=>
 (qsF before vin back).bind fun r2=>
 bif decide (r2.1=0) then(
 (qbC r2.2.1 after).bind fun r3=>
 bif r3 then(
 (qbC r2.2.2 out).bind fun r4=>
 some (r4,0))
 else(
 some (false,0)))
 else(
 some (false,0)))
 (fun s3=>
 some (s3.1,s3.2))
def qms:Fun:=
 ⟨16,5,2,
 ⟨[(0,dd (.sl tT7)),(1,dd (.sl tT7)),(2,dd (.sl tT7)),(3,dd (.sl tT7)),(4,bb)],[],[]⟩,
 ⟨[(0,bb),(1,ii)],[],[]⟩,
 fun x=>qm6 x.1 x.2.1 x.2.2.1 x.2.2.2.1 x.2.2.2.2⟩
theorem qrW:FO qms:=fi [] [qf0,qnP,qci] 51 [] ((nn (mm (nn (mm (.mk [] (some (⟨[(0,kk),(1,kk),(2,kk),(3,kk),(4,kk),(21,kk),(22,kk),(23,ii)],[],[]⟩,[⟨.x 0,⟨[(0,kk),(1,kk),(2,kk),(3,kk),(4,kk)],[],[]⟩⟩,⟨.r,⟨[(10,bb),(11,ii)],[],[]⟩⟩])) .nil .nil) .nil)) .nil))) func16 ⟨⟨qiy,qtq,qeT,trivial⟩,trivial⟩
def qeU:Option (Bool):=
 (qlR [[(1,100)]] [[(2,30),(1,70)]] [(2,30)] [(1,30)]).bind fun r=>
 (qm6 [(1,100)] [(2,30),(1,70)] [(2,30)] [(1,30)] false).bind fun r2=>
 (qm6 [(1,100)] [(2,30),(1,70)] [(2,30)] [(1,30)] true).bind fun r3=>
 bif decide (r.2=0) then(
 bif decide (r2.2=0) then(
 bif decide (r3.2=0) then(
 bif r.1 then(
 bif r2.1 then(
 some (!r3.1))
 else(
 some false))
 else(
 some false))
 else(
 some false))
 else(
 some false))
 else(
 some false)
def qmt:Fun:=
 ⟨5,0,1,
 ⟨[],[],[]⟩,
 ⟨[(0,bb)],[],[]⟩,
 fun x=>qeU⟩
theorem qrX:FO qmt:=fi [] [qnO,qms] 66 [] .nil func5 ⟨⟨qtp,qrW,trivial⟩,trivial⟩
def qqc(l:List Int):Option (List Int×Int):=
 gd (cutG none (some (.i64,min (l.length:Int) 2000)) l.length)<|
 some (l.take (min (l.length:Int) 2000).toNat,0)
def qq5:Fun:=
 ⟨6,1,1,
 ⟨r123_,[],[]⟩,
 ⟨[(0,pt 0 0)],v4_,[]⟩,
 fun x=>qqc x⟩
theorem qwh:FO qq5:=fi [] [] 10 [] .nil func6 ⟨trivial,trivial⟩
def qh2(s:List Int)(s2:Int):Option (Int×List Int×Int):=
 bif decide ((s.length:Int)<=s2) then(
 some (0,s,s2))
 else(
 gd (inB (wi64 ((wi64 (s2+1))-1)) s.length)<|
 some (s.getD (wi64 ((wi64 (s2+1))-1)).toNat 0,s,wi64 (s2+1)))
def qkU:Fun:=
 ⟨46,1,1,
 ⟨[(0,pt 0 0)],v4_,[]⟩,
 ⟨[(0,ii)],v4_,[]⟩,
 fun x=>qh2 x.1 x.2⟩
theorem qq6:FO qkU:=fi [] [] 31 [] .nil func46 ⟨trivial,trivial⟩
def qqd(x:Int)(n:Int):Option (Int):=
 bif decide (n<1) then(
 some 0)
 else(
 gd (!decide (n=0))<|
 bif decide (Int.tmod x n<0) then(
 some (wi64 ((Int.tmod x n)+n)))
 else(
 some (Int.tmod x n)))
def qq7:Fun:=
 ⟨45,2,1,
 ⟨r50_,[],[]⟩,
 ⟨[(0,ii)],[],[]⟩,
 fun x=>qqd x.1 x.2⟩
theorem qwi:FO qq7:=fi [] [] 16 [] .nil func45 ⟨trivial,trivial⟩
def qad(n:Int)(s:List Int)(s2:Int):Option (Int×List Int×Int):=
 (qh2 s s2).bind fun r=>
 (qqd r.1 n).bind fun r2=>
 some (r2,r.2.1,r.2.2)
def qbr:Fun:=
 ⟨21,2,1,
 ⟨r137_,v4_,[]⟩,
 ⟨[(0,ii)],v4_,[]⟩,
 fun x=>qad x.1 x.2.1 x.2.2⟩
theorem qbG:FO qbr:=fi [] [qkU,qq7] 9 [] .nil func21 ⟨⟨qq6,qwi,trivial⟩,trivial⟩
def qat(l:List Int)(s:List Int)(s2:Int):Option (Int×List Int×Int):=
 (qad (l.length:Int) s s2).bind fun r=>
 gd (inB r.1 l.length)<|
 some (l.getD r.1.toNat 0,r.2.1,r.2.2)
def qbV:Fun:=
 ⟨17,2,1,
 ⟨[(0,pt 0 0),(1,dd (.sl I6))],v4_,[]⟩,
 ⟨[(0,ii)],v4_,[]⟩,
 fun x=>qat x.1 x.2.1 x.2.2⟩
theorem qcs:FO qbV:=fi [] [qbr] 12 [] .nil func17 ⟨⟨qbG,trivial⟩,trivial⟩
def qbb(lo:Int)(hi:Int)(s:List Int)(s2:Int):Option (Int×List Int×Int):=
 (qad (wi64 ((wi64 (hi-lo))+1)) s s2).bind fun r=>
 some (wi64 (lo+r.1),r.2.1,r.2.2)
def qdM:Fun:=
 ⟨18,3,1,
 ⟨[(0,pt 0 0),(1,ii),(2,ii)],v4_,[]⟩,
 ⟨[(0,ii)],v4_,[]⟩,
 fun x=>qbb x.1 x.2.1 x.2.2.1 x.2.2.2⟩
theorem qfM:FO qdM:=fi [] [qbr] 15 [] .nil func18 ⟨⟨qbG,trivial⟩,trivial⟩
def qhi(first:List UInt8)(n:Int):Option (List UInt8):=
 gd (Nat.ble (first.length+(qfc [wu8 (wi64 (97+(Int.tmod n 26)))]).length) 9223372036854775807)<|
 some (first++(qfc [wu8 (wi64 (97+(Int.tmod n 26)))]))
def qkV:Fun:=
 ⟨19,2,1,
 ⟨[(0,ss),(1,ii)],[],[]⟩,
 ⟨[(0,ss)],[],[]⟩,
 fun x=>qhi x.1 x.2⟩
theorem qpt:FO qkV:=fi [] [] 13 [] .nil func19 ⟨trivial,trivial⟩
def qhj(r3:Int×List Int×Int)(r6:Int×List Int×Int)(vat:Int)(s4:List Int)(s5:Int)(x:List (Int×Int×Int)):Option ((Int×List Int×Int×List (Int×Int×Int))⊕(List Int×Int×List (Int×Int×Int))):=
 Option.bind (α:=Bool×List Int×Int×List (Int×Int×Int)) (
 bif decide ((x.length:Int)<7) then(
 (qad 3 s4 s5).bind fun r8=>
 some (decide (0<r8.1),r8.2.1,r8.2.2,x))
 else(
 some (false,s4,s5,x))) fun s6=>
 bif s6.1 then(
 (qbb 1 40 s6.2.1 s6.2.2.1).bind fun r9=>
 bif decide (r3.1<=wi64 (vat+r9.1)) then(
 some (.inr (r9.2.1,r9.2.2,s6.2.2.2)))
 else(
 (qbb (-5) 60 r9.2.1 r9.2.2).bind fun r10=>
 (qat ([1,1,10]:List Int) r10.2.1 r10.2.2).bind fun r11=>
 (qad 3 r11.2.1 r11.2.2).bind fun r12=>
 gd (fits (s6.2.2.2.length+1) 24)<|
 some (.inl (wi64 (vat+r9.1),r12.2.1,r12.2.2,s6.2.2.2++[(wi64 (vat+r9.1),(wi64 (r10.1*r11.1),wi64 (r6.1-(wi64 (r12.1*1000)))))]))))
 else(
 some (.inr (s6.2.1,s6.2.2.1,s6.2.2.2)))
def qda(k:Int)(vfrom:Int)(to:Int)(s:List Int)(s2:Int):Option (yT0×List Int×Int):=
 (qad 4 s s2).bind fun r=>
 Option.bind (α:=Int×Int) (
 bif decide (r.1=0) then(
 some (to,vfrom))
 else(
 some (vfrom,to))) fun s3=>
 (qhi [103] k).bind fun r2=>
 (qat ([1,2,7,20,60,200,1000]:List Int) r.2.1 r.2.2).bind fun r3=>
 (qat ([0,1,5,1000]:List Int) r3.2.1 r3.2.2).bind fun r4=>
 (qat ([0,50,1000,100000]:List Int) r4.2.1 r4.2.2).bind fun r5=>
 (qat ([1000000,6000000,100000000]:List Int) r5.2.1 r5.2.2).bind fun r6=>
 (qbb (-5) 30 r6.2.1 r6.2.2).bind fun r7=>
 (iter (fun x2=>qhj r3 r6 x2.1 x2.2.1 x2.2.2.1 x2.2.2.2) (0,r7.2.1,r7.2.2,[(0,r7.1,r6.1)])).bind fun s7=>
 (qbb (-5) 30 s7.1 s7.2.1).bind fun r13=>
 gd (fits (s7.2.2.length+1) 24)<|
 some ((r2,s3.1,s3.2,r3.1,r4.1,r5.1,s7.2.2++[(r3.1,r13.1,r6.1)]),r13.2.1,r13.2.2)
def qhk:Fun:=
 ⟨20,4,1,
 ⟨[(0,pt 0 0),(1,ii),(2,ii),(3,ii)],v4_,[]⟩,
 ⟨r98_,v4_,[]⟩,
 fun x=>qda x.1 x.2.1 x.2.2.1 x.2.2.2.1 x.2.2.2.2⟩
theorem qm7:FO qhk:=fi [] [qbr,qkV,qbV,qdM] 90 [] ((nn (mm (nn (.mk [.join [⟨.n,⟨[(0,pt 0 0),(1,kk),(2,ii),(3,ii),(8,pt 144 0)],[(0,78,[.keep,.keep]),(144,84,kp 7)],[]⟩⟩]] none .nil .nil)) (nn (nn (nn (mm (nn (mm (.mk [] (some (⟨[(0,pt 0 0),(8,pt 144 0),(9,pt 160 0),(10,kk),(11,ii)],v23_,a132_⟩,[⟨.x 0,⟨[(0,pt 0 0),(8,pt 144 0),(9,pt 160 0),(10,kk)],v23_,a132_⟩⟩])) (mm (mm (.mk [.join [⟨.n,⟨[(0,pt 0 0),(8,pt 144 0),(9,pt 160 0),(10,kk),(11,kk),(51,bb)],v23_,a132_⟩⟩]] none .nil .nil) .nil) .nil) .nil) .nil)) .nil))))))) func20 ⟨⟨qbG,qpt,qcs,qfM,trivial⟩,trivial⟩
def qhl(i:Int)(n:List (List UInt8)):Option ((Int×List (List UInt8))⊕(List (List UInt8))):=
 bif decide (0<i) then(
 (qhi [110] (n.length:Int)).bind fun r4=>
 gd (fits (n.length+1) 16)<|
 some (.inl (wi64 (i-1),n++[r4])))
 else(
 some (.inr n))
def qhm(s3:List (List UInt8))(i2:Int)(s4:List Int)(s5:Int)(n2:List (List UInt8))(n3:List yT0):Option ((Int×List Int×Int×List (List UInt8)×List yT0)⊕(List Int×Int×List (List UInt8)×List yT0)):=
 bif decide (i2<wi64 ((s3.length:Int)-1)) then(
 (qda (n3.length:Int) i2 (wi64 (i2+1)) s4 s5).bind fun r5=>
 gd (fits (n3.length+1) 80)<|
 some (.inl (wi64 (i2+1),r5.2.1,r5.2.2,n2,n3++[(r5.1.1,(r5.1.2.1,(r5.1.2.2.1,(r5.1.2.2.2.1,(r5.1.2.2.2.2.1,(r5.1.2.2.2.2.2.1,r5.1.2.2.2.2.2.2))))))])))
 else(
 some (.inr (s4,s5,n2,n3)))
def qhn(s3:List (List UInt8))(i3:Int)(s7:List Int)(s8:Int)(n4:List (List UInt8))(n5:List yT0):Option ((Int×List Int×Int×List (List UInt8)×List yT0)⊕(List Int×Int×List (List UInt8)×List yT0)):=
 bif decide (0<i3) then(
 (qad (wi64 ((s3.length:Int)-1)) s7 s8).bind fun r7=>
 (qbb (wi64 (r7.1+1)) (wi64 ((s3.length:Int)-1)) r7.2.1 r7.2.2).bind fun r8=>
 (qda (n5.length:Int) r7.1 r8.1 r8.2.1 r8.2.2).bind fun r9=>
 gd (fits (n5.length+1) 80)<|
 some (.inl (wi64 (i3-1),r9.2.1,r9.2.2,n4,n5++[(r9.1.1,(r9.1.2.1,(r9.1.2.2.1,(r9.1.2.2.2.1,(r9.1.2.2.2.2.1,(r9.1.2.2.2.2.2.1,r9.1.2.2.2.2.2.2))))))])))
 else(
 some (.inr (s7,s8,n4,n5)))
def qho(s3:List (List UInt8))(i4:Int)(s10:List Int)(s11:Int)(n6:List (List UInt8))(n7:List yT0)(n8:yB13)(n9:List yB1):Option ((Int×List Int×Int×List (List UInt8)×(List yT0)×yB13×List yB1)⊕(List Int×Int×List (List UInt8)×(List yT0)×yB13×List yB1)):=
 bif decide (i4<=wi64 ((s3.length:Int)-1)) then(
 Option.bind (α:=Bool×List Int×Int×List (List UInt8)×(List yT0)×yB13×List yB1) (
 bif decide (i4=0) then(
 some (true,s10,s11,n6,n7,n8,n9))
 else(
 bif decide (i4=wi64 ((s3.length:Int)-1)) then(
 some (true,s10,s11,n6,n7,n8,n9))
 else(
 (qad 2 s10 s11).bind fun r10=>
 some (decide (r10.1=0),r10.2.1,r10.2.2,n6,n7,n8,n9)))) fun s12=>
 Option.bind (α:=List Int×Int×List (List UInt8)×(List yT0)×yB13×List yB1) (
 bif s12.1 then(
 (qhi [113] (s12.2.2.2.2.2.1.length:Int)).bind fun r11=>
 (qat ([300000,1000000,0,5000000]:List Int) s12.2.1 s12.2.2.1).bind fun r12=>
 gd (fits (s12.2.2.2.2.2.1.length+1) 32)<|
 some (r12.2.1,r12.2.2,s12.2.2.2.1,s12.2.2.2.2.1,s12.2.2.2.2.2.1++[(r11,(i4,r12.1))],s12.2.2.2.2.2.2))
 else(
 some (s12.2.1,s12.2.2.1,s12.2.2.2.1,s12.2.2.2.2.1,s12.2.2.2.2.2.1,s12.2.2.2.2.2.2))) fun s13=>
 Option.bind (α:=Bool×List Int×Int×List (List UInt8)×(List yT0)×yB13×List yB1) (
 bif decide (i4<wi64 ((s3.length:Int)-1)) then(
 (qad 3 s13.1 s13.2.1).bind fun r13=>
 some (decide (r13.1=0),r13.2.1,r13.2.2,s13.2.2.1,s13.2.2.2.1,s13.2.2.2.2.1,s13.2.2.2.2.2))
 else(
 some (false,s13.1,s13.2.1,s13.2.2.1,s13.2.2.2.1,s13.2.2.2.2.1,s13.2.2.2.2.2))) fun s14=>
 Option.bind (α:=List Int×Int×List (List UInt8)×(List yT0)×yB13×List yB1) (
 bif s14.1 then(
 (qhi [115] (s14.2.2.2.2.2.2.length:Int)).bind fun r14=>
 (qat ([500000,2000000,0]:List Int) s14.2.1 s14.2.2.1).bind fun r15=>
 (qat ([0,200,100000]:List Int) r15.2.1 r15.2.2).bind fun r16=>
 (qat ([0,100000,400000]:List Int) r16.2.1 r16.2.2).bind fun r17=>
 gd (fits (s14.2.2.2.2.2.2.length+1) 48)<|
 some (r17.2.1,r17.2.2,s14.2.2.2.1,s14.2.2.2.2.1,s14.2.2.2.2.2.1,s14.2.2.2.2.2.2++[(r14,(i4,(r15.1,(r16.1,r17.1))))]))
 else(
 some (s14.2.1,s14.2.2.1,s14.2.2.2.1,s14.2.2.2.2.1,s14.2.2.2.2.2.1,s14.2.2.2.2.2.2))) fun s15=>
 some (.inl (wi64 (i4+1),s15.1,s15.2.1,s15.2.2.1,s15.2.2.2.1,s15.2.2.2.2.1,s15.2.2.2.2.2)))
 else(
 some (.inr (s10,s11,n6,n7,n8,n9)))
def qex(s:List Int)(s2:Int):Option (yB0×List Int×Int):=
 (qat ([(-100000),0,50000]:List Int) s s2).bind fun r=>
 (qat ([0,1,5,100]:List Int) r.2.1 r.2.2).bind fun r2=>
 (qbb 2 6 r2.2.1 r2.2.2).bind fun r3=>
 (iter (fun x=>qhl x.1 x.2) (r3.1,[])).bind fun s3=>
 (iter (fun x2=>qhm s3 x2.1 x2.2.1 x2.2.2.1 x2.2.2.2.1 x2.2.2.2.2) (0,r3.2.1,r3.2.2,s3,[])).bind fun s6=>
 (qad 4 s6.1 s6.2.1).bind fun r6=>
 (iter (fun x3=>qhn s3 x3.1 x3.2.1 x3.2.2.1 x3.2.2.2.1 x3.2.2.2.2) (r6.1,r6.2.1,r6.2.2,s6.2.2.1,s6.2.2.2)).bind fun s9=>
 (iter (fun x4=>qho s3 x4.1 x4.2.1 x4.2.2.1 x4.2.2.2.1 x4.2.2.2.2.1 x4.2.2.2.2.2.1 x4.2.2.2.2.2.2) (0,s9.1,s9.2.1,s9.2.2.1,s9.2.2.2,[],[])).bind fun s16=>
 some ((s16.2.2.1,s16.2.2.2.1,s16.2.2.2.2.1,s16.2.2.2.2.2,r.1,r2.1),s16.1,s16.2.1)
def qhp:Fun:=
 ⟨7,1,1,
 ⟨[(0,pt 0 0)],v4_,[]⟩,
 ⟨[(0,dd tT0)],v4_,[]⟩,
 fun x=>qex x.1 x.2⟩
theorem qm8:FO qhp:=fi [] [qbV,qdM,qkV,qhk,qbr] 139 [] ((nn (nn (mm (nn (mm (.mk [] (some (⟨[(0,pt 0 0),(2,pt 48 0),(3,pt 64 0),(4,ii)],v63_,[(1049,.arr 9 (.str))]⟩,[⟨.x 0,⟨[(0,pt 0 0),(2,pt 48 0),(3,pt 64 0)],v63_,[(1049,.arr 9 (.str))]⟩⟩])) .nil .nil) .nil)) (nn (mm (nn (mm (.mk [] (some (⟨[(0,pt 0 0),(2,pt 48 0),(3,pt 64 0),(5,kk),(6,ii)],v11_,a49_⟩,[⟨.x 2,⟨[(0,pt 0 0),(2,pt 48 0),(3,pt 64 0),(5,kk)],v11_,a49_⟩⟩])) .nil .nil) .nil)) (mm (nn (mm (.mk [] (some (⟨[(0,pt 0 0),(2,pt 48 0),(3,pt 64 0),(5,kk),(7,ii)],v11_,a49_⟩,[⟨.x 4,⟨[(0,pt 0 0),(2,pt 48 0),(3,pt 64 0),(5,kk)],v11_,a49_⟩⟩])) .nil .nil) .nil)) (mm (nn (mm (.mk [] (some (⟨[(0,pt 0 0),(2,pt 48 0),(3,pt 64 0),(5,kk),(9,ii)],v9_,a6_⟩,[⟨.x 6,⟨r32_,[(48,33,kp 6),(64,33,[.own 1049,.own 1065,.own 1081,.own 1097,.keep,.keep]),(0,78,[.data (.sl I6),.data I6])],a6_⟩⟩])) (nn (mm (mm (mm (mm (.mk [.join [⟨.n,⟨[(0,pt 0 0),(2,pt 48 0),(3,pt 64 0),(5,kk),(9,kk),(95,bb)],v9_,a6_⟩⟩]] none .nil .nil) (.mk [.join [⟨.n,⟨r114_,v9_,a6_⟩⟩]] none .nil .nil)) (mm (.mk [.join [⟨.n,⟨[(0,pt 0 0),(2,pt 48 0),(3,pt 64 0),(5,kk),(9,kk),(117,bb)],v9_,a6_⟩⟩]] none .nil .nil) (.mk [.join [⟨.n,⟨r114_,v9_,a6_⟩⟩]] none .nil .nil))) .nil) .nil)) .nil) .nil)) .nil)))))))) func7 ⟨⟨qcs,qfM,qpt,qm7,qbG,trivial⟩,trivial⟩
def qbD(n:Int)(low:Int)(high:Int):Option (Bool):=
 bif decide (low<=n) then(
 some (decide (n<=high)))
 else(
 some false)
def qm9:Fun:=
 ⟨96,3,1,
 ⟨r102_,[],[]⟩,
 ⟨[(0,bb)],[],[]⟩,
 fun x=>qbD x.1 x.2.1 x.2.2⟩
theorem qq8:FO qm9:=fi [] [] 15 [] .nil func96 ⟨trivial,trivial⟩
def qrY(n:yB0)(v:Int)(out:List (List UInt8)):Option ((Int×List (List UInt8))⊕(List (List UInt8))):=
 bif decide (v<(n.2.1.length:Int)) then(
 gd (inB v n.2.1.length)<|
 gd (fits (out.length+1) 16)<|
 some (.inl (wi64 (v+1),out++[(n.2.1.getD v.toNat ([],(0,(0,(0,(0,(0,[]))))))).1])))
 else(
 some (.inr out))
def qrZ(n:yB0)(v2:Int)(out2:List (List UInt8))(out3:List (List UInt8)):Option ((Int×List (List UInt8)×List (List UInt8))⊕(List (List UInt8)×List (List UInt8))):=
 bif decide (v2<(n.2.2.1.length:Int)) then(
 gd (inB v2 n.2.2.1.length)<|
 gd (fits (out3.length+1) 16)<|
 some (.inl (wi64 (v2+1),out2,out3++[(n.2.2.1.getD v2.toNat ([],(0,0))).1])))
 else(
 some (.inr (out2,out3)))
def qr0(n:yB0)(v3:Int)(out4:List (List UInt8))(out5:List (List UInt8))(out6:List (List UInt8)):Option ((Int×List (List UInt8)×List (List UInt8)×List (List UInt8))⊕(List (List UInt8)×List (List UInt8)×List (List UInt8))):=
 bif decide (v3<(n.2.2.2.1.length:Int)) then(
 gd (inB v3 n.2.2.2.1.length)<|
 gd (fits (out6.length+1) 16)<|
 some (.inl (wi64 (v3+1),out4,out5,out6++[(n.2.2.2.1.getD v3.toNat ([],(0,(0,(0,0))))).1])))
 else(
 some (.inr (out4,out5,out6)))
def qna(n:yB0):Option yB12:=
 (iter (fun x=>qrY n x.1 x.2) (0,[])).bind fun s=>
 (iter (fun x2=>qrZ n x2.1 x2.2.1 x2.2.2) (0,s,[])).bind fun s2=>
 (iter (fun x3=>qr0 n x3.1 x3.2.1 x3.2.2.1 x3.2.2.2) (0,s2.1,s2.2,[])).bind fun s3=>
 some (n.1,s3.1,s3.2.1,s3.2.2)
def qmu:Fun:=
 ⟨97,1,1,
 ⟨[(0,dd tT0)],[],[]⟩,
 ⟨r74_,[],[]⟩,
 fun x=>qna x⟩
theorem qr1:FO qmu:=fi [] [] 59 [] ((nn (nn (nn (mm (nn (mm (.mk [] (some (⟨r95_,v33_,a136_⟩,[⟨.x 0,⟨r41_,v33_,a136_⟩⟩])) .nil .nil) .nil)) (mm (nn (mm (.mk [] (some (⟨r96_,v30_,a69_⟩,[⟨.x 2,⟨r41_,v30_,a69_⟩⟩])) .nil .nil) .nil)) (mm (nn (mm (.mk [] (some (⟨r115_,v36_,a37_⟩,[⟨.x 4,⟨r32_,v36_,a37_⟩⟩])) .nil .nil) .nil)) .nil))))))) func97 ⟨trivial,trivial⟩
def qb1(s:List UInt8)(i:Int):Option (Int⊕(Unit⊕Bool)):=
 bif decide (i<(s.length:Int)) then(
 Option.bind (α:=Bool) (
 gd (inB i s.length)<|
 bif decide ((Int.ofNat (s.getD i.toNat 0).toNat)<97) then(
 gd (inB i s.length)<|
 bif decide ((Int.ofNat (s.getD i.toNat 0).toNat)<48) then(
 gd (inB i s.length)<|
 some (!decide ((Int.ofNat (s.getD i.toNat 0).toNat)=45)))
 else(
 gd (inB i s.length)<|
 bif decide (57<(Int.ofNat (s.getD i.toNat 0).toNat)) then(
 gd (inB i s.length)<|
 some (!decide ((Int.ofNat (s.getD i.toNat 0).toNat)=45)))
 else(
 some false)))
 else(
 gd (inB i s.length)<|
 bif decide (122<(Int.ofNat (s.getD i.toNat 0).toNat)) then(
 gd (inB i s.length)<|
 bif decide ((Int.ofNat (s.getD i.toNat 0).toNat)<48) then(
 gd (inB i s.length)<|
 some (!decide ((Int.ofNat (s.getD i.toNat 0).toNat)=45)))
 else(
 gd (inB i s.length)<|
 bif decide (57<(Int.ofNat (s.getD i.toNat 0).toNat)) then(
 gd (inB i s.length)<|
 some (!decide ((Int.ofNat (s.getD i.toNat 0).toNat)=45)))
 else(
 some false)))
 else(
 some false))) fun s3=>
 bif s3 then(
 some (.inr (.inr false)))
 else(
 some (.inl (wi64 (i+1)))))
 else(
 some (.inr (.inl ())))
def qct(s:List UInt8):Option (Bool):=
 Option.bind (α:=Bool) (
 bif decide ((s.length:Int)<1) then(
 some true)
 else(
 bif decide (12<(s.length:Int)) then(
 some true)
 else(
 gd (inB 0 s.length)<|
 bif decide ((Int.ofNat (s.getD 0 0).toNat)<97) then(
 some true)
 else(
 gd (inB 0 s.length)<|
 some (decide (122<(Int.ofNat (s.getD 0 0).toNat))))))) fun s2=>
 bif s2 then(
 some false)
 else(
 (iter (fun x=>qb1 s x) 0).bind fun s4=>
 s4.elim (fun s5=>
 some true)
 (fun s6=>
 some s6))
def qgX:Fun:=
 ⟨88,1,1,
 ⟨[(0,ss)],[],[]⟩,
 ⟨[(0,bb)],[],[]⟩,
 fun x=>qct x⟩
theorem qjx:FO qgX:=fi [] [] 56 [] ((nn (mm (mm (.mk [.join [⟨.n,⟨[(0,kk),(21,bb)],[],[]⟩⟩]] none .nil .nil) .nil) (mm (nn (mm (.mk [] (some (⟨[(0,kk),(3,ii)],[],[]⟩,[⟨.x 0,⟨[],[],[]⟩⟩,⟨.r,⟨[(2,bb)],[],[]⟩⟩])) (nn (mm (mm (mm (.mk [.join [⟨.n,⟨[(0,kk),(3,kk),(55,bb)],[],[]⟩⟩]] none .nil .nil) .nil) .nil) .nil)) .nil) .nil)) .nil)))) func88 ⟨trivial,trivial⟩
def qf1(l:List (List UInt8))(v:Int)(k:Int):Option (Int⊕(Unit⊕Bool)):=
 bif decide (k<v) then(
 gd (inB v l.length)<|
 gd (inB k l.length)<|
 bif decide (l.getD v.toNat []=l.getD k.toNat []) then(
 some (.inr (.inr true)))
 else(
 some (.inl (wi64 (k+1)))))
 else(
 some (.inr (.inl ())))
def qiz(l:List (List UInt8))(v:Int):Option (Int⊕(Unit⊕Bool)):=
 bif decide (v<(l.length:Int)) then(
 (iter (fun x=>qf1 l v x) 0).bind fun s=>
 s.elim (fun s2=>
 some (.inl (wi64 (v+1))))
 (fun s3=>
 some (.inr (.inr s3))))
 else(
 some (.inr (.inl ())))
def qjy(l:List (List UInt8)):Option (Bool):=
 (iter (fun x2=>qiz l x2) 0).bind fun s4=>
 s4.elim (fun s5=>
 some false)
 (fun s6=>
 some s6)
def qmv:Fun:=
 ⟨98,1,1,
 ⟨[(0,dd (.sl (.str)))],[],[]⟩,
 ⟨[(0,bb)],[],[]⟩,
 fun x=>qjy x⟩
theorem qr2:FO qmv:=fi [] [] 25 [] ((nn (mm (nn (mm (.mk [] (some (⟨[(0,kk),(6,kk),(7,ii)],[],[]⟩,[⟨.x 0,⟨[],[],[]⟩⟩,⟨.r,⟨[(2,bb)],[],[]⟩⟩])) (nn (nn (mm (mm (nn (nn (mm (.mk [] (some (⟨[(0,kk),(3,kk),(4,ii),(6,kk),(7,kk)],[],[]⟩,[⟨.x 2,⟨[(0,kk),(6,kk),(7,kk)],[],[]⟩⟩,⟨.r,⟨[(2,bb)],[],[]⟩⟩])) .nil .nil) .nil))) .nil) .nil))) .nil) .nil)) .nil))) func98 ⟨trivial,trivial⟩
def qfh(s:yB10)(v:Int):Option (Int⊕(Unit⊕Bool)):=
 bif decide (v<(s.2.2.2.2.2.2.length:Int)) then(
 gd (inB v s.2.2.2.2.2.2.length)<|
 Option.bind (α:=Bool) (
 bif decide (0<v) then(
 gd (inB (wi64 (v-1)) s.2.2.2.2.2.2.length)<|
 bif decide ((s.2.2.2.2.2.2.getD v.toNat (0,0,0)).1<=(s.2.2.2.2.2.2.getD (wi64 (v-1)).toNat (0,0,0)).1) then(
 some true)
 else(
 (qbD (((s.2.2.2.2.2.2.getD v.toNat (0,0,0)).2).1) (-500) 5000).bind fun r4=>
 bif !r4 then(
 some true)
 else(
 (qbD (((s.2.2.2.2.2.2.getD v.toNat (0,0,0)).2).2) 0 100000000).bind fun r5=>
 some (!r5))))
 else(
 (qbD (((s.2.2.2.2.2.2.getD v.toNat (0,0,0)).2).1) (-500) 5000).bind fun r6=>
 bif !r6 then(
 some true)
 else(
 (qbD (((s.2.2.2.2.2.2.getD v.toNat (0,0,0)).2).2) 0 100000000).bind fun r7=>
 some (!r7)))) fun s3=>
 bif s3 then(
 some (.inr (.inr false)))
 else(
 some (.inl (wi64 (v+1)))))
 else(
 some (.inr (.inl ())))
def qe3(s:yB10):Option (Bool):=
 Option.bind (α:=Bool) (
 bif decide (s.2.1=s.2.2.1) then(
 some true)
 else(
 (qbD s.2.2.2.1 1 1000000).bind fun r=>
 bif !r then(
 some true)
 else(
 (qbD s.2.2.2.2.1 0 1000).bind fun r2=>
 bif !r2 then(
 some true)
 else(
 (qbD s.2.2.2.2.2.1 0 100000).bind fun r3=>
 bif !r3 then(
 some true)
 else(
 gd (inB 0 s.2.2.2.2.2.2.length)<|
 bif !decide ((s.2.2.2.2.2.2.getD 0 (0,0,0)).1=0) then(
 some true)
 else(
 gd (inB (wi64 ((s.2.2.2.2.2.2.length:Int)-1)) s.2.2.2.2.2.2.length)<|
 some (!decide ((s.2.2.2.2.2.2.getD (wi64 ((s.2.2.2.2.2.2.length:Int)-1)).toNat (0,(0,0))).1=s.2.2.2.1)))))))) fun s2=>
 bif s2 then(
 some false)
 else(
 (iter (fun x=>qfh s x) 0).bind fun s4=>
 s4.elim (fun s5=>
 some true)
 (fun s6=>
 some s6))
def qkW:Fun:=
 ⟨99,1,1,
 ⟨r98_,[],[]⟩,
 ⟨[(0,bb)],[],[]⟩,
 fun x=>qe3 x⟩
theorem qq9:FO qkW:=fi [] [qm9] 85 [] ((nn (mm (mm (.mk [.join [⟨.n,⟨[(1,pt 32 0),(49,bb)],v104_,[]⟩⟩]] none .nil .nil) .nil) (mm (nn (mm (.mk [] (some (⟨[(1,pt 32 0),(51,kk),(52,kk),(53,ii)],v104_,[]⟩,[⟨.x 0,⟨[],[],[]⟩⟩,⟨.r,⟨[(2,bb)],[],[]⟩⟩])) (nn (nn (mm (mm (nn (mm (.mk [.join [⟨.n,⟨[(1,pt 32 0),(51,kk),(52,kk),(53,kk),(83,bb)],v104_,[]⟩⟩]] none .nil .nil) .nil)) .nil) .nil))) .nil) .nil)) .nil)))) func99 ⟨⟨qq8,trivial⟩,trivial⟩
def qd7(n:yB0)(v:Int):Option (Int⊕(Unit⊕Int)):=
 bif decide (v<(n.2.1.length:Int)) then(
 gd (inB v n.2.1.length)<|
 (qbD ((((((((n.2.1.getD v.toNat ([],0,0,0,0,0,[])).2).2).2).2).2).2).length:Int) 2 8).bind fun r2=>
 bif !r2 then(
 some (.inr (.inr 4)))
 else(
 some (.inl (wi64 (v+1)))))
 else(
 some (.inr (.inl ())))
def qdh(v2:List (List UInt8))(v3:List (List UInt8))(v4:List (List UInt8))(v5:List (List UInt8))(v6:Int)(v7:List (List UInt8))(v8:List (List UInt8))(v9:List (List UInt8))(v10:List (List UInt8))(v11:Int):Option ((List (List UInt8)×List (List UInt8)×List (List UInt8)×List (List UInt8)×Int)⊕(yB12⊕Int)):=
 bif decide (v11<(([v2,v3,v4,v5].getD v6.toNat []).length:Int)) then(
 gd (inB v11 ([v2,v3,v4,v5].getD v6.toNat []).length)<|
 (qct (([v2,v3,v4,v5].getD v6.toNat []).getD v11.toNat [])).bind fun r4=>
 bif !r4 then(
 some (.inr (.inr 3)))
 else(
 some (.inl (v7,v8,v9,v10,wi64 (v11+1)))))
 else(
 some (.inr (.inl (v7,v8,v9,v10))))
def qf2(v2:List (List UInt8))(v3:List (List UInt8))(v4:List (List UInt8))(v5:List (List UInt8))(v6:Int):Option ((List (List UInt8)×List (List UInt8)×List (List UInt8)×List (List UInt8)×Int)⊕(Unit⊕Int)):=
 bif decide (v6<4) then(
 gd (inB v6 4)<|
 (iter (fun x2=>qdh v2 v3 v4 v5 v6 x2.1 x2.2.1 x2.2.2.1 x2.2.2.2.1 x2.2.2.2.2) (v2,v3,v4,v5,0)).bind fun s5=>
 s5.elim (fun s6=>
 some (.inl (s6.1,s6.2.1,s6.2.2.1,s6.2.2.2,wi64 (v6+1))))
 (fun s7=>
 some (.inr (.inr s7))))
 else(
 some (.inr (.inl ())))
def qf3(v12:List (List UInt8))(v13:List (List UInt8))(v14:List (List UInt8))(v15:List (List UInt8))(v16:Int):Option ((List (List UInt8)×List (List UInt8)×List (List UInt8)×List (List UInt8)×Int)⊕(Unit⊕Int)):=
 bif decide (v16<4) then(
 gd (inB v16 4)<|
 (qjy ([v12,v13,v14,v15].getD v16.toNat [])).bind fun r5=>
 bif r5 then(
 some (.inr (.inr 7)))
 else(
 some (.inl (v12,v13,v14,v15,wi64 (v16+1)))))
 else(
 some (.inr (.inl ())))
def qf4(n:yB0)(v17:Int)(k:Int):Option (Int⊕(Unit⊕Int)):=
 bif decide (k<v17) then(
 gd (inB v17 n.2.2.2.1.length)<|
 gd (inB k n.2.2.2.1.length)<|
 bif decide (((n.2.2.2.1.getD v17.toNat ([],0,0,0,0)).2).1=((n.2.2.2.1.getD k.toNat ([],0,0,0,0)).2).1) then(
 some (.inr (.inr 7)))
 else(
 some (.inl (wi64 (k+1)))))
 else(
 some (.inr (.inl ())))
def qf5(n:yB0)(v17:Int):Option (Int⊕(Unit⊕Int)):=
 bif decide (v17<(n.2.2.2.1.length:Int)) then(
 (iter (fun x5=>qf4 n v17 x5) 0).bind fun s14=>
 s14.elim (fun s15=>
 some (.inl (wi64 (v17+1))))
 (fun s16=>
 some (.inr (.inr s16))))
 else(
 some (.inr (.inl ())))
def qd8(n:yB0)(v18:Int):Option (Int⊕(Unit⊕Int)):=
 bif decide (v18<(n.2.1.length:Int)) then(
 gd (inB v18 n.2.1.length)<|
 Option.bind (α:=Bool) (
 (qbD (((n.2.1.getD v18.toNat ([],0,0,0,0,0,[])).2).1) 0 (wi64 ((n.1.length:Int)-1))).bind fun r6=>
 bif !r6 then(
 some true)
 else(
 (qbD ((((n.2.1.getD v18.toNat ([],0,0,0,0,0,[])).2).2).1) 0 (wi64 ((n.1.length:Int)-1))).bind fun r7=>
 some (!r7))) fun s20=>
 bif s20 then(
 some (.inr (.inr 8)))
 else(
 some (.inl (wi64 (v18+1)))))
 else(
 some (.inr (.inl ())))
def qd9(n:yB0)(v19:Int):Option (Int⊕(Unit⊕Int)):=
 bif decide (v19<(n.2.2.1.length:Int)) then(
 gd (inB v19 n.2.2.1.length)<|
 (qbD (((n.2.2.1.getD v19.toNat ([],0,0)).2).1) 0 (wi64 ((n.1.length:Int)-1))).bind fun r8=>
 bif !r8 then(
 some (.inr (.inr 8)))
 else(
 some (.inl (wi64 (v19+1)))))
 else(
 some (.inr (.inl ())))
def qea(n:yB0)(v20:Int):Option (Int⊕(Unit⊕Int)):=
 bif decide (v20<(n.2.2.2.1.length:Int)) then(
 gd (inB v20 n.2.2.2.1.length)<|
 (qbD (((n.2.2.2.1.getD v20.toNat ([],0,0,0,0)).2).1) 0 (wi64 ((n.1.length:Int)-1))).bind fun r9=>
 bif !r9 then(
 some (.inr (.inr 8)))
 else(
 some (.inl (wi64 (v20+1)))))
 else(
 some (.inr (.inl ())))
def qeb(n:yB0)(v21:Int):Option (Int⊕(Unit⊕Int)):=
 bif decide (v21<(n.2.1.length:Int)) then(
 gd (inB v21 n.2.1.length)<|
 (qe3 ((n.2.1.getD v21.toNat ([],0,0,0,0,0,[])).1,((n.2.1.getD v21.toNat ([],0,0,0,0,0,[])).2).1,(((n.2.1.getD v21.toNat ([],0,0,0,0,0,[])).2).2).1,((((n.2.1.getD v21.toNat ([],0,0,0,0,0,[])).2).2).2).1,(((((n.2.1.getD v21.toNat ([],0,0,0,0,0,[])).2).2).2).2).1,((((((n.2.1.getD v21.toNat ([],0,0,0,0,0,[])).2).2).2).2).2).1,((((((n.2.1.getD v21.toNat ([],0,0,0,0,0,[])).2).2).2).2).2).2)).bind fun r10=>
 bif !r10 then(
 some (.inr (.inr 9)))
 else(
 some (.inl (wi64 (v21+1)))))
 else(
 some (.inr (.inl ())))
def qdv(n:yB0)(v22:Int):Option (Int⊕(Unit⊕Int)):=
 bif decide (v22<(n.2.2.1.length:Int)) then(
 gd (inB v22 n.2.2.1.length)<|
 (qbD (((n.2.2.1.getD v22.toNat ([],0,0)).2).2) 0 100000000).bind fun r11=>
 bif !r11 then(
 some (.inr (.inr 9)))
 else(
 some (.inl (wi64 (v22+1)))))
 else(
 some (.inr (.inl ())))
def qdw(n:yB0)(v23:Int):Option (Int⊕(Unit⊕Int)):=
 bif decide (v23<(n.2.2.2.1.length:Int)) then(
 gd (inB v23 n.2.2.2.1.length)<|
 Option.bind (α:=Bool) (
 (qbD ((((n.2.2.2.1.getD v23.toNat ([],0,0,0,0)).2).2).1) 0 100000000).bind fun r12=>
 bif !r12 then(
 some true)
 else(
 (qbD (((((n.2.2.2.1.getD v23.toNat ([],0,0,0,0)).2).2).2).1) 0 100000).bind fun r13=>
 bif !r13 then(
 some true)
 else(
 (qbD (((((n.2.2.2.1.getD v23.toNat ([],0,0,0,0)).2).2).2).2) 0 100000000).bind fun r14=>
 some (!r14)))) fun s36=>
 bif s36 then(
 some (.inr (.inr 9)))
 else(
 some (.inl (wi64 (v23+1)))))
 else(
 some (.inr (.inl ())))
def qeV(n:yB0):Option (Int):=
 Option.bind (α:=Bool) (
 (qbD (n.1.length:Int) 1 24).bind fun r=>
 bif !r then(
 some true)
 else(
 bif decide (32<(n.2.1.length:Int)) then(
 some true)
 else(
 bif decide (24<(n.2.2.1.length:Int)) then(
 some true)
 else(
 some (decide (12<(n.2.2.2.1.length:Int))))))) fun s=>
 bif s then(
 some 4)
 else(
 (iter (fun x=>qd7 n x) 0).bind fun s2=>
 s2.elim (fun s3=>
 (qna (n.1,n.2.1,n.2.2.1,n.2.2.2.1,n.2.2.2.2.1,n.2.2.2.2.2)).bind fun r3=>
 (iter (fun x3=>qf2 x3.1 x3.2.1 x3.2.2.1 x3.2.2.2.1 x3.2.2.2.2) (r3.1,r3.2.1,r3.2.2.1,r3.2.2.2,0)).bind fun s8=>
 s8.elim (fun s9=>
 (iter (fun x4=>qf3 x4.1 x4.2.1 x4.2.2.1 x4.2.2.2.1 x4.2.2.2.2) (r3.1,r3.2.1,r3.2.2.1,r3.2.2.2,0)).bind fun s11=>
 s11.elim (fun s12=>
 (iter (fun x6=>qf5 n x6) 0).bind fun s17=>
 s17.elim (fun s18=>
 (iter (fun x7=>qd8 n x7) 0).bind fun s21=>
 s21.elim (fun s22=>
 (iter (fun x8=>qd9 n x8) 0).bind fun s24=>
 s24.elim (fun s25=>
 (iter (fun x9=>qea n x9) 0).bind fun s27=>
 s27.elim (fun s28=>
 (iter (fun x10=>qeb n x10) 0).bind fun s30=>
 s30.elim (fun s31=>
 (iter (fun x11=>qdv n x11) 0).bind fun s33=>
 s33.elim (fun s34=>
 (iter (fun x12=>qdw n x12) 0).bind fun s37=>
 s37.elim (fun s38=>
 Option.bind (α:=Bool) (
 (qbD n.2.2.2.2.1 (-100000) 100000000).bind fun r15=>
 bif !r15 then(
 some true)
 else(
 (qbD n.2.2.2.2.2 0 100).bind fun r16=>
 some (!r16))) fun s40=>
 bif s40 then(
 some 9)
 else(
 some 0))
 (fun s39=>
 some s39))
 (fun s35=>
 some s35))
 (fun s32=>
 some s32))
 (fun s29=>
 some s29))
 (fun s26=>
 some s26))
 (fun s23=>
 some s23))
 (fun s19=>
 some s19))
 (fun s13=>
 some s13))
 (fun s10=>
 some s10))
 (fun s4=>
 some s4))
def qec:Fun:=
 ⟨47,1,1,
 ⟨[(0,dd tT0)],[],[]⟩,
 ⟨[(0,ii)],[],[]⟩,
 fun x=>qeV x⟩
theorem qf6:FO qec:=fi [] [qm9,qmu,qgX,qmv,qkW] 219 [] ((nn (mm (mm (.mk [.join [⟨.n,⟨[(1,pt 32 0),(49,bb)],v7_,[]⟩⟩]] none .nil .nil) .nil) (mm (nn (mm (.mk [] (some (⟨[(1,pt 32 0),(51,kk),(52,kk),(53,ii)],v7_,[]⟩,[⟨.x 0,⟨[(1,pt 32 0)],v7_,[]⟩⟩,⟨.r,⟨[(2,ii)],[],[]⟩⟩])) .nil .nil) .nil)) (nn (mm (nn (mm (.mk [] (some (⟨[(1,pt 32 0),(5,pt 96 0),(65,.agg [.data (.sl (.str)),.data (.sl (.str)),.data (.sl (.str)),.data (.sl (.str))]),(66,ii)],v93_,[]⟩,[⟨.x 2,⟨[(1,pt 32 0),(5,pt 96 0)],v93_,[]⟩⟩,⟨.r,⟨[(2,ii)],[],[]⟩⟩])) (nn (nn (mm (mm (nn (nn (mm (.mk [] (some (⟨[(1,pt 32 0),(5,pt 96 0),(65,.agg [.data (.sl (.str)),.data (.sl (.str)),.data (.sl (.str)),.data (.sl (.str))]),(66,kk),(69,kk),(70,kk),(71,ii)],v93_,[]⟩,[⟨.x 4,⟨[(1,pt 32 0),(5,pt 96 0),(65,.agg [.data (.sl (.str)),.data (.sl (.str)),.data (.sl (.str)),.data (.sl (.str))]),(66,kk)],v93_,[]⟩⟩,⟨.r,⟨[(2,ii)],[],[]⟩⟩])) .nil .nil) .nil))) .nil) .nil))) .nil) .nil)) (mm (nn (mm (.mk [] (some (⟨[(1,pt 32 0),(80,.agg [.data (.sl (.str)),.data (.sl (.str)),.data (.sl (.str)),.data (.sl (.str))]),(81,ii)],v7_,[]⟩,[⟨.x 6,⟨[(1,pt 32 0)],v7_,[]⟩⟩,⟨.r,⟨[(2,ii)],[],[]⟩⟩])) .nil .nil) .nil)) (mm (nn (mm (.mk [] (some (⟨[(1,pt 32 0),(89,kk),(90,ii)],v7_,[]⟩,[⟨.x 8,⟨[(1,pt 32 0)],v7_,[]⟩⟩,⟨.r,⟨[(2,ii)],[],[]⟩⟩])) (nn (nn (mm (mm (nn (nn (mm (.mk [] (some (⟨[(1,pt 32 0),(12,kk),(13,ii),(89,kk),(90,kk)],v7_,[]⟩,[⟨.x 10,⟨[(1,pt 32 0),(89,kk),(90,kk)],v7_,[]⟩⟩,⟨.r,⟨[(2,ii)],[],[]⟩⟩])) .nil .nil) .nil))) .nil) .nil))) .nil) .nil)) (nn (mm (nn (mm (.mk [] (some (⟨[(1,pt 32 0),(14,kk),(117,kk),(118,kk),(119,ii)],v7_,[]⟩,[⟨.x 12,⟨[(1,pt 32 0),(14,kk)],v7_,[]⟩⟩,⟨.r,⟨[(2,ii)],[],[]⟩⟩])) (nn (nn (mm (mm (nn (mm (.mk [.join [⟨.n,⟨[(1,pt 32 0),(14,kk),(117,kk),(118,kk),(119,kk),(134,bb)],v7_,[]⟩⟩]] none .nil .nil) .nil)) .nil) .nil))) .nil) .nil)) (mm (nn (mm (.mk [] (some (⟨[(1,pt 32 0),(14,kk),(137,kk),(138,kk),(139,ii)],v7_,[]⟩,[⟨.x 14,⟨[(1,pt 32 0),(14,kk)],v7_,[]⟩⟩,⟨.r,⟨[(2,ii)],[],[]⟩⟩])) .nil .nil) .nil)) (mm (nn (mm (.mk [] (some (⟨[(1,pt 32 0),(14,kk),(150,kk),(151,kk),(152,ii)],v7_,[]⟩,[⟨.x 16,⟨[(1,pt 32 0)],v7_,[]⟩⟩,⟨.r,⟨[(2,ii)],[],[]⟩⟩])) .nil .nil) .nil)) (mm (nn (mm (.mk [] (some (⟨[(1,pt 32 0),(163,kk),(164,kk),(165,ii)],v7_,[]⟩,[⟨.x 18,⟨[(1,pt 32 0)],v7_,[]⟩⟩,⟨.r,⟨[(2,ii)],[],[]⟩⟩])) .nil .nil) .nil)) (mm (nn (mm (.mk [] (some (⟨[(1,pt 32 0),(174,kk),(175,kk),(176,ii)],v7_,[]⟩,[⟨.x 20,⟨[(1,pt 32 0)],v7_,[]⟩⟩,⟨.r,⟨[(2,ii)],[],[]⟩⟩])) .nil .nil) .nil)) (mm (nn (mm (.mk [] (some (⟨[(1,pt 32 0),(186,kk),(187,kk),(188,ii)],v7_,[]⟩,[⟨.x 22,⟨[(1,pt 32 0)],v7_,[]⟩⟩,⟨.r,⟨[(2,ii)],[],[]⟩⟩])) (nn (nn (mm (mm (nn (mm (.mk [.join [⟨.n,⟨[(1,pt 32 0),(186,kk),(187,kk),(188,kk),(207,bb)],v7_,[]⟩⟩]] none .nil .nil) .nil)) .nil) .nil))) .nil) .nil)) (mm (mm (.mk [.join [⟨.n,⟨[(218,bb)],[],[]⟩⟩]] none .nil .nil) .nil) .nil)))))))))))))))) func47 ⟨⟨qq8,qr1,qjx,qr2,qq9,trivial⟩,trivial⟩
def qdN(n:yB0):Option (Int):=
 some (wi64 ((n.2.1.length:Int)+(n.2.2.1.length:Int)))
def qgI:Fun:=
 ⟨48,1,1,
 ⟨[(0,dd tT0)],[],[]⟩,
 ⟨[(0,ii)],[],[]⟩,
 fun x=>qdN x⟩
theorem qke:FO qgI:=fi [] [] 10 [] .nil func48 ⟨trivial,trivial⟩
def qgY(n:yB0)(travel:Int)(i:Int)(d:yB4)(d2:List Int)(d3:List Int)(d4:List Bool):Option (yB8⊕(yB4×List Int×List Int×List Bool)):=
 (qdN (n.1,n.2.1,n.2.2.1,n.2.2.2.1,n.2.2.2.2.1,n.2.2.2.2.2)).bind fun r2=>
 bif decide (i<r2) then(
 gd (fits (d.length+1) 24)<|
 some (.inl (wi64 (i+1),d++[(travel,(0,(false,false)))],d2,d3,d4)))
 else(
 some (.inr (d,d2,d3,d4)))
def qlS(n:yB0)(travel:Int):Option (yB3×Int):=
 (qeV (n.1,n.2.1,n.2.2.1,n.2.2.2.1,n.2.2.2.2.1,n.2.2.2.2.2)).bind fun r=>
 bif !decide (r=0) then(
 some (([],([],([],[]))),r))
 else(
 Option.bind (α:=Bool) (
 bif decide (travel<1) then(
 some true)
 else(
 some (decide (60<travel)))) fun s=>
 bif s then(
 some (([],([],([],[]))),20))
 else(
 gd (makeG 8 (n.2.1.length:Int))<|
 gd (makeG 8 (n.2.2.1.length:Int))<|
 gd (makeG 1 (n.2.2.2.1.length:Int))<|
 (iter (fun x=>qgY n travel x.1 x.2.1 x.2.2.1 x.2.2.2.1 x.2.2.2.2) (0,[],List.replicate (n.2.1.length:Int).toNat (0:Int),List.replicate (n.2.2.1.length:Int).toNat (0:Int),List.replicate (n.2.2.2.1.length:Int).toNat (false:Bool))).bind fun s2=>
 some ((s2.1,(s2.2.1,(s2.2.2.1,s2.2.2.2))),0)))
def qnQ:Fun:=
 ⟨22,2,2,
 ⟨r138_,[],[]⟩,
 ⟨r48_,[],[]⟩,
 fun x=>qlS x.1 x.2⟩
theorem qtr:FO qnQ:=fi [] [qec,qgI] 50 [] ((nn (nn (mm (mm (.mk [.join [⟨.n,⟨[(1,kk),(2,pt 48 0),(4,pt 80 0),(20,bb)],[(48,33,kp 6),(80,40,kp 4)],[]⟩⟩]] none .nil .nil) .nil) (nn (mm (nn (mm (.mk [] (some (⟨[(1,kk),(2,pt 48 0),(4,pt 80 0),(7,pt 128 0),(8,ii)],[(48,33,kp 6),(80,40,kp 4),(128,40,[.own 2073,.own 416,.own 480,.own 544])],a83_⟩,[⟨.x 0,⟨[(4,pt 80 0),(7,pt 128 0)],[(80,40,kp 4),(128,40,[.own 2073,.own 416,.own 480,.own 544])],a83_⟩⟩])) .nil .nil) .nil)) .nil)))))) func22 ⟨⟨qf6,qke,trivial⟩,trivial⟩
def qnR(n:yB0)(travel:Int):Option (yB9×Int):=
 (qlS (n.1,n.2.1,n.2.2.1,n.2.2.2.1,n.2.2.2.2.1,n.2.2.2.2.2) travel).bind fun r=>
 bif !decide (r.2=0) then(
 some ((([],([],([],[]))),([],([],0))),r.2))
 else(
 some (((r.1.1,(r.1.2.1,(r.1.2.2.1,r.1.2.2.2))),([],([],0))),0))
def qpu:Fun:=
 ⟨8,2,2,
 ⟨r138_,[],[]⟩,
 ⟨r29_,[],[]⟩,
 fun x=>qnR x.1 x.2⟩
theorem quQ:FO qpu:=fi [] [qnQ] 20 [] .nil func8 ⟨⟨qtr,trivial⟩,trivial⟩
def qd2(i:Int)(s3:List Int)(s4:Int)(t:List Int):Option ((Int×List Int×Int×List Int)⊕(List Int×Int×List Int)):=
 bif decide (0<i) then(
 (qat ([0,(-1),62,63,(-63),(-62),9007199254740992,(-9007199254740992),126,1000]:List Int) s3 s4).bind fun r6=>
 gd (fits (t.length+1) 8)<|
 some (.inl (wi64 (i-1),r6.2.1,r6.2.2,t++[r6.1])))
 else(
 some (.inr (s3,s4,t)))
def qdO(station:Int)(s:List Int)(s2:Int):Option (yB2×List Int×Int):=
 (qad 3 s s2).bind fun r=>
 (qad 6 r.2.1 r.2.2).bind fun r2=>
 (qat ([0,125,63,62,1099511627776]:List Int) r2.2.1 r2.2.2).bind fun r3=>
 (qad 64 r3.2.1 r3.2.2).bind fun r4=>
 (qad 4 r4.2.1 r4.2.2).bind fun r5=>
 (iter (fun x=>qd2 x.1 x.2.1 x.2.2.1 x.2.2.2) (r5.1,r5.2.1,r5.2.2,[])).bind fun s5=>
 some ((station,r.1,r2.1,r3.1,r4.1,s5.2.2),s5.1,s5.2.1)
def qgS:Fun:=
 ⟨27,2,1,
 ⟨r137_,v4_,[]⟩,
 ⟨[(0,dd tT3)],v4_,[]⟩,
 fun x=>qdO x.1 x.2.1 x.2.2⟩
theorem qmj:FO qgS:=fi [] [qbr,qbV] 33 [] ((nn (nn (mm (nn (mm (.mk [] (some (⟨[(0,pt 0 0),(4,pt 80 0),(5,pt 96 0),(6,ii)],[(0,78,[.data (.sl I6),.data I6]),(80,100,kp 6),(96,100,[.keep,.keep,.keep,.keep,.keep,.own 1641])],[(1641,.arr 3 I6)]⟩,[⟨.x 0,⟨[(4,pt 80 0),(5,pt 96 0)],[(80,100,kp 6),(96,100,[.keep,.keep,.keep,.keep,.keep,.own 1641]),(0,78,[.data (.sl I6),.data I6])],[(1641,.arr 3 I6)]⟩⟩])) .nil .nil) .nil)) .nil)))) func27 ⟨⟨qbG,qcs,trivial⟩,trivial⟩
def qgZ(l:List (List UInt8))(s:List Int)(s2:Int):Option (List UInt8×List Int×Int):=
 (qad (l.length:Int) s s2).bind fun r=>
 gd (inB r.1 l.length)<|
 some (l.getD r.1.toNat [],r.2.1,r.2.2)
def qkf:Fun:=
 ⟨58,2,1,
 ⟨[(0,pt 0 0),(1,dd (.sl (.str)))],v4_,[]⟩,
 ⟨[(0,ss)],v4_,[]⟩,
 fun x=>qgZ x.1 x.2.1 x.2.2⟩
theorem qpO:FO qkf:=fi [] [qbr] 12 [] .nil func58 ⟨⟨qbG,trivial⟩,trivial⟩
def qfN(i:Int)(s3:List Int)(s4:Int)(l:yB13):Option ((Int×List Int×Int×List (List UInt8×Int×Int))⊕(List Int×Int×List (List UInt8×Int×Int))):=
 bif decide (0<i) then(
 (qgZ ([[97],[98,111],[99,51],[100,101,108,116,97],[101]]:List (List UInt8)) s3 s4).bind fun r2=>
 (qad 4 r2.2.1 r2.2.2).bind fun r3=>
 (qad 1000 r3.2.1 r3.2.2).bind fun r4=>
 (qat [0,1,50,r4.1,1073741824] r4.2.1 r4.2.2).bind fun r5=>
 Option.bind (α:=Bool×List Int×Int×List (List UInt8×Int×Int)) (
 bif decide (wi64 (1+r3.1)=4) then(
 (qad 2 r5.2.1 r5.2.2).bind fun r6=>
 some (decide (r6.1=0),r6.2.1,r6.2.2,l))
 else(
 some (false,r5.2.1,r5.2.2,l))) fun s5=>
 Option.bind (α:=Int×List (List UInt8×Int×Int)) (
 bif s5.1 then(
 some (wi64 (0-r5.1),s5.2.2.2))
 else(
 some (r5.1,s5.2.2.2))) fun s6=>
 gd (fits (s6.2.length+1) 32)<|
 some (.inl (wi64 (i-1),s5.2.1,s5.2.2.1,s6.2++[(r2.1,(wi64 (1+r3.1),s6.1))])))
 else(
 some (.inr (s3,s4,l)))
def qf7(most:Int)(s:List Int)(s2:Int):Option (List Int×Int×List (List UInt8×Int×Int)):=
 (qad (wi64 (most+1)) s s2).bind fun r=>
 (iter (fun x=>qfN x.1 x.2.1 x.2.2.1 x.2.2.2) (r.1,r.2.1,r.2.2,[])).bind fun s7=>
 some (s7.1,s7.2.1,s7.2.2)
def qiS:Fun:=
 ⟨28,2,1,
 ⟨r137_,v4_,[]⟩,
 ⟨[(0,ow 1)],v4_,[(1,.arr 59 (.pair (.str) tT7))]⟩,
 fun x=>qf7 x.1 x.2.1 x.2.2⟩
theorem qoW:FO qiS:=fi [] [qbr,qkf,qbV] 45 [] ((nn (nn (mm (nn (mm (.mk [] (some (⟨[(0,pt 0 0),(5,ow 107),(6,ii)],v4_,a99_⟩,[⟨.x 0,⟨[(5,ow 107)],v4_,a99_⟩⟩])) (nn (mm (mm (nn (mm (mm (.mk [.join [⟨.n,⟨[(0,pt 0 0),(5,ow 107),(6,kk),(7,pt 128 0),(35,bb)],[(0,78,[.data (.sl I6),.data I6]),(128,59,[.keep,.keep,.keep])],a99_⟩⟩]] none .nil .nil) (.mk [.join [⟨.n,⟨[(0,pt 0 0),(5,ow 107),(6,kk),(7,pt 128 0)],[(0,78,[.keep,.keep]),(128,59,[.keep,.keep,.data I6])],a99_⟩⟩]] none .nil .nil)) .nil)) .nil) .nil)) .nil) .nil)) .nil)))) func28 ⟨⟨qbG,qpO,qcs,trivial⟩,trivial⟩
def qts(n:Int):Option (Int):=
 some (max n (wi64 (0-n)))
def qra:Fun:=
 ⟨113,1,1,
 ⟨[(0,ii)],[],[]⟩,
 ⟨[(0,ii)],[],[]⟩,
 fun x=>qts x⟩
theorem qwj:FO qra:=fi [] [] 7 [] .nil func113 ⟨trivial,trivial⟩
def qkX(p:yB6)(v:Int)(out:List Int)(out2:List Bool):Option ((Int×List Int×List Bool)⊕(List Int×List Bool)):=
 bif decide (v<(p.1.length:Int)) then(
 gd (inB v p.1.length)<|
 gd (fits (out.length+1) 8)<|
 some (.inl (wi64 (v+1),out++[wi64 (0-(p.1.getD v.toNat 0))],out2)))
 else(
 some (.inr (out,out2)))
def qkY(p:yB6)(v2:Int)(out3:List Int)(out4:List Int)(out5:List Bool):Option ((Int×List Int×List Int×List Bool)⊕yB6):=
 bif decide (v2<(p.2.1.length:Int)) then(
 gd (inB v2 p.2.1.length)<|
 gd (fits (out4.length+1) 8)<|
 some (.inl (wi64 (v2+1),out3,out4++[wi64 (0-(p.2.1.getD v2.toNat 0))],out5)))
 else(
 some (.inr (out3,out4,out5)))
def qh3(p:yB6):Option yB6:=
 gd (fits (0+p.2.2.length) 1)<|
 (iter (fun x=>qkX p x.1 x.2.1 x.2.2) (0,[],[]++p.2.2)).bind fun s=>
 (iter (fun x2=>qkY p x2.1 x2.2.1 x2.2.2.1 x2.2.2.2) (0,s.1,[],s.2)).bind fun s2=>
 some (s2.1,s2.2.1,s2.2.2)
def qkZ:Fun:=
 ⟨114,1,1,
 ⟨[(0,dd tT6)],[],[]⟩,
 ⟨[(0,dd tT6)],[],[]⟩,
 fun x=>qh3 x⟩
theorem qrb:FO qkZ:=fi [6] [] 48 [] ((nn (nn (mm (nn (mm (.mk [] (some (⟨[(1,pt 32 0),(2,pt 48 0),(3,pt 64 0),(13,kk),(14,ii)],v60_,[(1049,.arr 3 I6),(160,.arr 4 (.bool))]⟩,[⟨.x 0,⟨r41_,v60_,[(1049,.arr 3 I6),(160,.arr 4 (.bool))]⟩⟩])) .nil .nil) .nil)) (mm (nn (mm (.mk [] (some (⟨[(1,pt 32 0),(2,pt 48 0),(3,pt 64 0),(31,kk),(32,ii)],[(32,38,[.keep,.keep,.keep]),(48,38,[.keep,.keep,.keep]),(64,38,[.own 1049,.own 1065,.own 160])],a111_⟩,[⟨.x 2,⟨r32_,[(48,38,[.keep,.keep,.keep]),(64,38,[.own 1049,.own 1065,.own 160])],a111_⟩⟩])) .nil .nil) .nil)) .nil))))) func114 ⟨trivial,trivial⟩
def qkg(n:yB0)(i:Int)(s3:List Int)(s4:Int)(p:List Int)(p2:List Int)(p3:List Bool):Option ((Int×List Int×Int×List Int×List Int×List Bool)⊕(List Int×Int×List Int×List Int×List Bool)):=
 bif decide (i<(n.2.2.2.1.length:Int)) then(
 (qad 2 s3 s4).bind fun r=>
 gd (fits (p3.length+1) 1)<|
 some (.inl (wi64 (i+1),r.2.1,r.2.2,p,p2,p3++[decide (r.1=0)])))
 else(
 some (.inr (s3,s4,p,p2,p3)))
def qey(n:yB0)(r4:Int×List Int×Int)(r6:Int×List Int×Int)(vat:Int)(vend2:Int)(v:Int)(s11:List Int)(s12:Int)(way2:List Int)(p10:List Int)(p11:List Int)(p12:List Bool):Option ((Int×Int×List Int×Int×List Int×List Int×List Int×List Bool)⊕(Int×List Int×Int×List Int×List Int×List Int×List Bool)):=
 bif decide (v<(n.2.2.1.length:Int)) then(
 gd (inB v n.2.2.1.length)<|
 Option.bind (α:=Bool×List Int×Int×List Int×List Int×List Int×List Bool) (
 bif decide (((n.2.2.1.getD v.toNat ([],0,0)).2).1=vat) then(
 bif !decide (v=r4.1) then(
 gd (inB v p11.length)<|
 bif decide (p11.getD v.toNat 0<=0) then(
 gd (inB v p11.length)<|
 bif decide ((-1000)<=wi64 ((p11.getD v.toNat 0)-r6.1)) then(
 bif decide (0<(way2.length:Int)) then(
 (qad 2 s11 s12).bind fun r7=>
 some (decide (r7.1=0),r7.2.1,r7.2.2,way2,p10,p11,p12))
 else(
 some (false,s11,s12,way2,p10,p11,p12)))
 else(
 some (false,s11,s12,way2,p10,p11,p12)))
 else(
 some (false,s11,s12,way2,p10,p11,p12)))
 else(
 some (false,s11,s12,way2,p10,p11,p12)))
 else(
 some (false,s11,s12,way2,p10,p11,p12))) fun s13=>
 Option.bind (α:=Int×List Int×List Int×List Int×List Bool) (
 bif s13.1 then(
 some (v,s13.2.2.2.1,s13.2.2.2.2.1,s13.2.2.2.2.2.1,s13.2.2.2.2.2.2))
 else(
 some (vend2,s13.2.2.2.1,s13.2.2.2.2.1,s13.2.2.2.2.2.1,s13.2.2.2.2.2.2))) fun s14=>
 some (.inl (s14.1,wi64 (v+1),s13.2.1,s13.2.2.1,s14.2.1,s14.2.2.1,s14.2.2.2.1,s14.2.2.2.2)))
 else(
 some (.inr (vend2,s11,s12,way2,p10,p11,p12)))
def qez(n:yB0)(r6:Int×List Int×Int)(vat:Int)(v2:Int)(way3:List Int)(out:List Int)(p13:List Int)(p14:List Int)(p15:List Bool):Option ((Int×List Int×List Int×List Int×List Int×List Bool)⊕(List Int×List Int×List Int×List Int×List Bool)):=
 bif decide (v2<(n.2.1.length:Int)) then(
 gd (inB v2 n.2.1.length)<|
 Option.bind (α:=Bool×List Int×List Int×List Int×List Int×List Bool) (
 bif decide (((n.2.1.getD v2.toNat ([],0,0,0,0,0,[])).2).1=vat) then(
 bif decide (vat<wi64 ((wi64 ((((n.2.1.getD v2.toNat ([],0,0,0,0,0,[])).2).1)+((((n.2.1.getD v2.toNat ([],0,0,0,0,0,[])).2).2).1)))-vat)) then(
 gd (inB v2 p13.length)<|
 (qts (p13.getD v2.toNat 0)).bind fun r8=>
 some (decide (wi64 (r8+r6.1)<=min 1000 (((((n.2.1.getD v2.toNat ([],(0,(0,(0,(0,(0,[]))))))).2).2).2).1)),way3,out,p13,p14,p15))
 else(
 some (false,way3,out,p13,p14,p15)))
 else(
 bif decide ((((n.2.1.getD v2.toNat ([],0,0,0,0,0,[])).2).2).1=vat) then(
 bif decide (vat<wi64 ((wi64 ((((n.2.1.getD v2.toNat ([],0,0,0,0,0,[])).2).1)+((((n.2.1.getD v2.toNat ([],0,0,0,0,0,[])).2).2).1)))-vat)) then(
 gd (inB v2 p13.length)<|
 (qts (p13.getD v2.toNat 0)).bind fun r9=>
 some (decide (wi64 (r9+r6.1)<=min 1000 (((((n.2.1.getD v2.toNat ([],(0,(0,(0,(0,(0,[]))))))).2).2).2).1)),way3,out,p13,p14,p15))
 else(
 some (false,way3,out,p13,p14,p15)))
 else(
 some (false,way3,out,p13,p14,p15)))) fun s16=>
 Option.bind (α:=List Int×List Int×List Int×List Int×List Bool) (
 bif s16.1 then(
 gd (fits (s16.2.2.1.length+1) 8)<|
 some (s16.2.1,s16.2.2.1++[v2],s16.2.2.2.1,s16.2.2.2.2.1,s16.2.2.2.2.2))
 else(
 some (s16.2.1,s16.2.2.1,s16.2.2.2.1,s16.2.2.2.2.1,s16.2.2.2.2.2))) fun s17=>
 some (.inl (wi64 (v2+1),s17.1,s17.2.1,s17.2.2.1,s17.2.2.2.1,s17.2.2.2.2)))
 else(
 some (.inr (way3,out,p13,p14,p15)))
def qeA(n:yB0)(r4:Int×List Int×Int)(r6:Int×List Int×Int)(vat:Int)(vend:Int)(s9:List Int)(s10:Int)(way:List Int)(p7:List Int)(p8:List Int)(p9:List Bool):Option ((Int×Int×List Int×Int×List Int×List Int×List Int×List Bool)⊕(Int×List Int×Int×List Int×List Int×List Int×List Bool)):=
 bif decide (vend<0) then(
 (iter (fun x2=>qey n r4 r6 vat x2.1 x2.2.1 x2.2.2.1 x2.2.2.2.1 x2.2.2.2.2.1 x2.2.2.2.2.2.1 x2.2.2.2.2.2.2.1 x2.2.2.2.2.2.2.2) (vend,0,s9,s10,way,p7,p8,p9)).bind fun s15=>
 bif decide (0<=s15.1) then(
 some (.inr (s15.1,s15.2.1,s15.2.2.1,s15.2.2.2.1,s15.2.2.2.2.1,s15.2.2.2.2.2.1,s15.2.2.2.2.2.2)))
 else(
 (iter (fun x3=>qez n r6 vat x3.1 x3.2.1 x3.2.2.1 x3.2.2.2.1 x3.2.2.2.2.1 x3.2.2.2.2.2) (0,s15.2.2.2.1,[],s15.2.2.2.2.1,s15.2.2.2.2.2.1,s15.2.2.2.2.2.2)).bind fun s18=>
 bif decide ((s18.2.1.length:Int)=0) then(
 some (.inr (s15.1,s15.2.1,s15.2.2.1,s18.1,s18.2.2.1,s18.2.2.2.1,s18.2.2.2.2)))
 else(
 (qad (s18.2.1.length:Int) s15.2.1 s15.2.2.1).bind fun r10=>
 gd (inB r10.1 s18.2.1.length)<|
 gd (fits (s18.1.length+1) 8)<|
 gd (inB (s18.2.1.getD r10.1.toNat 0) n.2.1.length)<|
 gd (inB (s18.2.1.getD r10.1.toNat 0) n.2.1.length)<|
 some (.inl (wi64 ((wi64 ((((n.2.1.getD (s18.2.1.getD r10.1.toNat 0).toNat ([],(0,(0,(0,(0,(0,[]))))))).2).1)+((((n.2.1.getD (s18.2.1.getD r10.1.toNat 0).toNat ([],(0,(0,(0,(0,(0,[]))))))).2).2).1)))-vat),s15.1,r10.2.1,r10.2.2,s18.1++[s18.2.1.getD r10.1.toNat 0],s18.2.2.1,s18.2.2.2.1,s18.2.2.2.2)))))
 else(
 some (.inr (vend,s9,s10,way,p7,p8,p9)))
def qeB(n:yB0)(r6:Int×List Int×Int)(s19:Int×List Int×Int×List Int×List Int×List Int×List Bool)(v3:Int)(v4:List Int)(p16:List Int)(p17:List Int)(p18:List Bool):Option ((Int×List Int×List Int×List Int×List Bool)⊕yB6):=
 bif decide (v3<(s19.2.2.2.1.length:Int)) then(
 gd (inB v3 v4.length)<|
 gd (inB (v4.getD v3.toNat 0) n.2.1.length)<|
 gd (inB (v4.getD v3.toNat 0) n.2.1.length)<|
 Option.bind (α:=List Int×List Int×List Int×List Bool) (
 bif decide (((n.2.1.getD (v4.getD v3.toNat 0).toNat ([],0,0,0,0,0,[])).2).1<(((n.2.1.getD (v4.getD v3.toNat 0).toNat ([],0,0,0,0,0,[])).2).2).1) then(
 gd (inB (v4.getD v3.toNat 0) p16.length)<|
 gd (inB (v4.getD v3.toNat 0) p16.length)<|
 some (v4,p16.set ((v4.getD v3.toNat 0).toNat) (wi64 ((p16.getD ((v4.getD v3.toNat 0).toNat) 0)+r6.1)),p17,p18))
 else(
 gd (inB (v4.getD v3.toNat 0) p16.length)<|
 gd (inB (v4.getD v3.toNat 0) p16.length)<|
 some (v4,p16.set ((v4.getD v3.toNat 0).toNat) (wi64 ((p16.getD ((v4.getD v3.toNat 0).toNat) 0)-r6.1)),p17,p18))) fun s20=>
 some (.inl (wi64 (v3+1),s20.1,s20.2.1,s20.2.2.1,s20.2.2.2)))
 else(
 some (.inr (p16,p17,p18)))
def qgJ(n:yB0)(streams:Int)(s6:List Int)(s7:Int)(p4:List Int)(p5:List Int)(p6:List Bool):Option ((Int×List Int×Int×List Int×List Int×List Bool)⊕(List Int×Int×List Int×List Int×List Bool)):=
 bif decide (0<streams) then(
 Option.bind (α:=List Int×Int×List Int×List Int×List Bool) (
 (qad (n.2.2.1.length:Int) s6 s7).bind fun r4=>
 gd (inB r4.1 n.2.2.1.length)<|
 (qat ([1,5,30,300]:List Int) r4.2.1 r4.2.2).bind fun r5=>
 (qbb 1 r5.1 r5.2.1 r5.2.2).bind fun r6=>
 Option.bind (α:=Bool×List Int×List Int×List Bool) (
 gd (inB r4.1 p5.length)<|
 bif decide (p5.getD r4.1.toNat 0<0) then(
 some (true,p4,p5,p6))
 else(
 gd (inB r4.1 p5.length)<|
 some (decide (1000<wi64 ((p5.getD r4.1.toNat 0)+r6.1)),p4,p5,p6))) fun s8=>
 bif s8.1 then(
 some (r6.2.1,r6.2.2,s8.2.1,s8.2.2.1,s8.2.2.2))
 else(
 (iter (fun x4=>qeA n r4 r6 x4.1 x4.2.1 x4.2.2.1 x4.2.2.2.1 x4.2.2.2.2.1 x4.2.2.2.2.2.1 x4.2.2.2.2.2.2.1 x4.2.2.2.2.2.2.2) (((n.2.2.1.getD r4.1.toNat ([],0,0)).2).1,(-1),r6.2.1,r6.2.2,[],s8.2.1,s8.2.2.1,s8.2.2.2)).bind fun s19=>
 bif decide (s19.1<0) then(
 some (s19.2.1,s19.2.2.1,s19.2.2.2.2.1,s19.2.2.2.2.2.1,s19.2.2.2.2.2.2))
 else(
 gd (inB r4.1 s19.2.2.2.2.2.1.length)<|
 gd (inB s19.1 s19.2.2.2.2.2.1.length)<|
 gd (inB r4.1 s19.2.2.2.2.2.1.length)<|
 gd (inB s19.1 (s19.2.2.2.2.2.1.set r4.1.toNat (wi64 ((s19.2.2.2.2.2.1.getD r4.1.toNat 0)+r6.1))).length)<|
 (iter (fun x5=>qeB n r6 s19 x5.1 x5.2.1 x5.2.2.1 x5.2.2.2.1 x5.2.2.2.2) (0,s19.2.2.2.1,s19.2.2.2.2.1,(s19.2.2.2.2.2.1.set r4.1.toNat (wi64 ((s19.2.2.2.2.2.1.getD r4.1.toNat 0)+r6.1))).set s19.1.toNat (wi64 ((s19.2.2.2.2.2.1.getD s19.1.toNat 0)-r6.1)),s19.2.2.2.2.2.2)).bind fun s21=>
 some (s19.2.1,s19.2.2.1,s21.1,s21.2.1,s21.2.2)))) fun s22=>
 some (.inl (wi64 (streams-1),s22.1,s22.2.1,s22.2.2.1,s22.2.2.2.1,s22.2.2.2.2)))
 else(
 some (.inr (s6,s7,p4,p5,p6)))
def qg0(n:yB0)(s:List Int)(s2:Int):Option (yB6×List Int×Int):=
 gd (makeG 8 (n.2.1.length:Int))<|
 gd (makeG 8 (n.2.2.1.length:Int))<|
 (iter (fun x=>qkg n x.1 x.2.1 x.2.2.1 x.2.2.2.1 x.2.2.2.2.1 x.2.2.2.2.2) (0,s,s2,List.replicate (n.2.1.length:Int).toNat (0:Int),List.replicate (n.2.2.1.length:Int).toNat (0:Int),[])).bind fun s5=>
 (qad 3 s5.1 s5.2.1).bind fun r2=>
 (qad 5 r2.2.1 r2.2.2).bind fun r3=>
 (iter (fun x6=>qgJ n x6.1 x6.2.1 x6.2.2.1 x6.2.2.2.1 x6.2.2.2.2.1 x6.2.2.2.2.2) (r3.1,r3.2.1,r3.2.2,s5.2.2.1,s5.2.2.2.1,s5.2.2.2.2)).bind fun s23=>
 bif decide (r2.1=0) then(
 (qh3 (s23.2.2.1,s23.2.2.2.1,s23.2.2.2.2)).bind fun r11=>
 some ((r11.1,(r11.2.1,r11.2.2)),s23.1,s23.2.1))
 else(
 some ((s23.2.2.1,(s23.2.2.2.1,s23.2.2.2.2)),s23.1,s23.2.1))
def qkh:Fun:=
 ⟨59,2,1,
 ⟨[(0,pt 0 0),(1,dd tT0)],v4_,[]⟩,
 ⟨[(0,dd tT6)],v4_,[]⟩,
 fun x=>qg0 x.1 x.2.1 x.2.2⟩
theorem qpP:FO qkh:=fi [] [qbr,qbV,qdM,qra,qkZ] 279 [] ((nn (nn (mm (nn (mm (.mk [] (some (⟨[(0,pt 0 0),(3,pt 64 0),(4,pt 80 0),(5,pt 96 0),(6,ii)],v2_,a14_⟩,[⟨.x 0,⟨[(0,pt 0 0),(3,pt 64 0),(4,pt 80 0),(5,pt 96 0)],v2_,a14_⟩⟩])) .nil .nil) .nil)) (nn (mm (nn (mm (.mk [] (some (⟨[(0,pt 0 0),(3,pt 64 0),(4,pt 80 0),(5,pt 96 0),(7,kk),(8,ii)],v2_,a14_⟩,[⟨.x 2,⟨[(4,pt 80 0),(5,pt 96 0),(7,kk)],[(80,38,[.keep,.keep,.keep]),(96,38,[.own 416,.own 480,.own 1593]),(0,78,[.data (.sl I6),.data I6])],a14_⟩⟩])) (nn (mm (.mk [.join [⟨.n,⟨r94_,v2_,a14_⟩⟩]] none (nn (nn (mm (mm (.mk [.join [⟨.n,⟨[(0,pt 0 0),(3,pt 64 0),(4,pt 80 0),(5,pt 96 0),(7,kk),(8,kk),(9,kk),(10,kk),(11,kk),(86,bb)],v3_,a14_⟩⟩]] none .nil .nil) .nil) (nn (nn (mm (mm (.mk [] (some (⟨[(0,pt 0 0),(3,pt 64 0),(4,pt 80 0),(5,pt 96 0),(7,kk),(8,kk),(9,kk),(10,ii),(11,kk),(12,ow 219),(13,ii)],v2_,a10_⟩,[⟨.x 4,⟨[(0,pt 0 0),(3,pt 64 0),(4,pt 80 0),(5,pt 96 0),(7,kk),(8,kk),(9,kk),(11,kk),(12,ow 219),(13,ii)],v2_,a10_⟩⟩])) (nn (mm (mm (nn (mm (.mk [] (some (⟨[(0,pt 0 0),(3,pt 64 0),(4,pt 80 0),(5,pt 96 0),(7,kk),(8,kk),(9,kk),(10,kk),(11,kk),(12,ow 219),(13,ii),(90,kk),(91,kk),(92,ii)],v2_,a10_⟩,[⟨.x 6,⟨[(0,pt 0 0),(3,pt 64 0),(4,pt 80 0),(5,pt 96 0),(7,kk),(8,kk),(9,kk),(10,kk),(11,kk),(12,ow 219),(13,ii)],v2_,a10_⟩⟩])) (nn (nn (mm (mm (nn (mm (.mk [.join [⟨.n,⟨[(0,pt 0 0),(3,pt 64 0),(4,pt 80 0),(5,pt 96 0),(7,kk),(8,kk),(9,kk),(10,kk),(11,kk),(12,ow 219),(13,kk),(14,kk),(90,kk),(91,kk),(92,kk),(133,bb)],v2_,a10_⟩⟩]] none .nil .nil) (.mk [.join [⟨.n,⟨[(0,pt 0 0),(3,pt 64 0),(4,pt 80 0),(5,pt 96 0),(7,kk),(8,kk),(9,kk),(10,kk),(11,kk),(12,ow 219),(13,ii),(90,kk),(91,kk),(92,kk)],v3_,a10_⟩⟩]] none .nil .nil))) .nil) .nil))) .nil) .nil)) (nn (nn (mm (nn (mm (.mk [] (some (⟨[(0,pt 0 0),(3,pt 64 0),(4,pt 80 0),(5,pt 96 0),(7,kk),(8,kk),(9,kk),(10,kk),(11,kk),(12,ow 219),(13,kk),(16,ow 283),(139,kk),(140,kk),(141,ii)],v3_,a17_⟩,[⟨.x 8,⟨[(0,pt 0 0),(3,pt 64 0),(4,pt 80 0),(5,pt 96 0),(7,kk),(8,kk),(9,kk),(10,kk),(11,kk),(12,ow 219),(13,kk),(16,ow 283)],v3_,a17_⟩⟩])) (nn (nn (mm (mm (nn (mm (.mk [.join [⟨.n,⟨[(0,pt 0 0),(3,pt 64 0),(4,pt 80 0),(5,pt 96 0),(7,kk),(8,kk),(9,kk),(10,kk),(11,kk),(12,ow 219),(13,kk),(16,ow 283),(17,kk),(139,kk),(140,kk),(141,kk),(180,bb)],v3_,a17_⟩⟩]] none .nil .nil) (.mk [.join [⟨.n,⟨[(0,pt 0 0),(3,pt 64 0),(4,pt 80 0),(5,pt 96 0),(7,kk),(8,kk),(9,kk),(10,kk),(11,kk),(12,ow 219),(13,kk),(16,ow 283),(139,kk),(140,kk),(141,kk)],v3_,a17_⟩⟩]] none .nil .nil))) .nil) .nil))) .nil) .nil)) .nil)))) .nil)) .nil) .nil) (nn (nn (nn (mm (.mk [] (some (⟨[(0,pt 0 0),(3,pt 64 0),(4,pt 80 0),(5,pt 96 0),(7,kk),(8,kk),(11,kk),(239,ow 219),(240,kk),(241,ii)],v3_,a10_⟩,[⟨.x 10,⟨r94_,v3_,a14_⟩⟩])) (nn (nn (mm (mm (nn (nn (.mk [.join [⟨.n,⟨[(0,pt 0 0),(3,pt 64 0),(4,pt 80 0),(5,pt 96 0),(7,kk),(8,kk),(11,kk),(239,ow 219),(240,kk),(241,kk)],v3_,a10_⟩⟩]] none .nil .nil))) .nil) .nil))) .nil) .nil)))))))))) .nil) .nil)) .nil) .nil)) (mm (nn (mm (mm (.mk [.fz [5]] none .nil .nil) .nil) .nil)) .nil))))))) func59 ⟨⟨qbG,qcs,qfM,qwj,qrb,trivial⟩,trivial⟩
def qlT(s:yB10)(rate:Int):Option (Int×Int):=
 bif decide (rate<0) then(
 some (s.2.2.1,s.2.1))
 else(
 some (s.2.1,s.2.2.1))
def qjz:Fun:=
 ⟨197,2,2,
 ⟨[(0,dd (.pair (.str) tT5)),(1,ii)],[],[]⟩,
 ⟨r50_,[],[]⟩,
 fun x=>qlT x.1 x.2⟩
theorem qnS:FO qjz:=fi [] [] 16 [] .nil func197 ⟨trivial,trivial⟩
def qk0(n:Int):Option (Int):=
 some (max n (wi64 (0-n)))
def qpv:Fun:=
 ⟨198,1,1,
 ⟨[(0,ii)],[],[]⟩,
 ⟨[(0,ii)],[],[]⟩,
 fun x=>qk0 x⟩
theorem quR:FO qpv:=fi [] [] 7 [] .nil func198 ⟨trivial,trivial⟩
def qcW(n:yB0)(p:yB6)(node:Int)(vin:Int)(out:Int)(v:Int):Option ((Int×Int×Int)⊕(Int×Int)):=
 bif decide (v<(n.2.1.length:Int)) then(
 Option.bind (α:=Int×Int) (
 gd (inB v n.2.1.length)<|
 gd (inB v p.1.length)<|
 bif decide (p.1.getD v.toNat 0=0) then(
 some (vin,out))
 else(
 gd (inB v p.1.length)<|
 (qlT ((n.2.1.getD v.toNat ([],0,0,0,0,0,[])).1,((n.2.1.getD v.toNat ([],0,0,0,0,0,[])).2).1,(((n.2.1.getD v.toNat ([],0,0,0,0,0,[])).2).2).1,((((n.2.1.getD v.toNat ([],0,0,0,0,0,[])).2).2).2).1,(((((n.2.1.getD v.toNat ([],0,0,0,0,0,[])).2).2).2).2).1,((((((n.2.1.getD v.toNat ([],0,0,0,0,0,[])).2).2).2).2).2).1,((((((n.2.1.getD v.toNat ([],0,0,0,0,0,[])).2).2).2).2).2).2) (p.1.getD v.toNat 0)).bind fun r=>
 Option.bind (α:=Int) (
 bif decide (r.1=node) then(
 gd (inB v p.1.length)<|
 (qk0 (p.1.getD v.toNat 0)).bind fun r2=>
 some (wi64 (out+r2)))
 else(
 some out)) fun s=>
 Option.bind (α:=Int) (
 bif decide (r.2=node) then(
 gd (inB v p.1.length)<|
 (qk0 (p.1.getD v.toNat 0)).bind fun r3=>
 some (wi64 (vin+r3)))
 else(
 some vin)) fun s2=>
 some (s2,s))) fun s3=>
 some (.inl (s3.1,s3.2,wi64 (v+1))))
 else(
 some (.inr (vin,out)))
def qcX(n:yB0)(p:yB6)(node:Int)(vin2:Int)(out2:Int)(v2:Int):Option ((Int×Int×Int)⊕(Int×Int)):=
 bif decide (v2<(n.2.2.1.length:Int)) then(
 gd (inB v2 n.2.2.1.length)<|
 Option.bind (α:=Int×Int) (
 bif decide (((n.2.2.1.getD v2.toNat ([],0,0)).2).1=node) then(
 gd (inB v2 p.2.1.length)<|
 gd (inB v2 p.2.1.length)<|
 some (wi64 (vin2+(max 0 (p.2.1.getD v2.toNat 0))),wi64 (out2+(max 0 (wi64 (0-(p.2.1.getD v2.toNat 0)))))))
 else(
 some (vin2,out2))) fun s5=>
 some (.inl (s5.1,s5.2,wi64 (v2+1))))
 else(
 some (.inr (vin2,out2)))
def qiT(n:yB0)(p:yB6)(node:Int):Option (Int×Int):=
 (iter (fun x=>qcW n p node x.1 x.2.1 x.2.2) (0,0,0)).bind fun s4=>
 (iter (fun x2=>qcX n p node x2.1 x2.2.1 x2.2.2) (s4.1,s4.2,0)).bind fun s6=>
 some (s6.1,s6.2)
def qjA:Fun:=
 ⟨161,3,2,
 ⟨r100_,[],[]⟩,
 ⟨r50_,[],[]⟩,
 fun x=>qiT x.1 x.2.1 x.2.2⟩
theorem qnT:FO qjA:=fi [] [qjz,qpv] 95 [] ((nn (nn (mm (nn (mm (.mk [] (some (⟨[(2,kk),(3,pt 64 0),(4,pt 80 0),(8,ii),(9,ii),(17,kk),(18,kk),(19,ii)],v28_,[]⟩,[⟨.x 0,⟨[(2,kk),(3,pt 64 0),(4,pt 80 0),(8,ii),(9,ii)],v28_,[]⟩⟩])) (nn (nn (mm (.mk [.join [⟨.n,⟨[(2,kk),(3,pt 64 0),(4,pt 80 0),(8,ii),(9,ii),(17,kk),(18,kk),(19,kk)],v28_,[]⟩⟩]] none (nn (nn (nn (mm (nn (.mk [.join [⟨.n,⟨[(2,kk),(3,pt 64 0),(4,pt 80 0),(8,kk),(9,ii),(10,kk),(13,kk),(17,kk),(18,kk),(19,kk)],v28_,[]⟩⟩]] none .nil .nil)) (nn (.mk [.join [⟨.n,⟨[(2,kk),(3,pt 64 0),(4,pt 80 0),(8,ii),(9,kk),(17,kk),(18,kk),(19,kk)],v28_,[]⟩⟩]] none .nil .nil)))))) .nil) .nil))) .nil) .nil)) (mm (nn (mm (.mk [] (some (⟨[(2,kk),(4,pt 80 0),(8,ii),(9,ii),(64,kk),(65,kk),(66,ii)],[(80,38,[.keep,.keep,.keep])],[]⟩,[⟨.x 2,⟨[(8,ii),(9,ii)],[],[]⟩⟩])) (nn (nn (mm (mm (nn (nn (.mk [.join [⟨.n,⟨[(2,kk),(4,pt 80 0),(8,ii),(9,ii),(64,kk),(65,kk),(66,kk)],[(80,38,[.keep,.keep,.keep])],[]⟩⟩]] none .nil .nil))) .nil) .nil))) .nil) .nil)) .nil))))) func161 ⟨⟨qnS,quR,trivial⟩,trivial⟩
def qcE(n:yB0)(p:yB6)(v:Int)(free:Bool)(v2:Int)(out3:List Int)(there3:List Bool):Option ((Bool×Int×List Int×List Bool)⊕(Bool×List Int×List Bool)):=
 bif decide (v2<(n.2.1.length:Int)) then(
 gd (inB v2 n.2.1.length)<|
 gd (inB v2 p.1.length)<|
 Option.bind (α:=Bool×List Int×List Bool) (
 bif !decide (p.1.getD v2.toNat 0=0) then(
 gd (inB v2 p.1.length)<|
 (qlT ((n.2.1.getD v2.toNat ([],0,0,0,0,0,[])).1,((n.2.1.getD v2.toNat ([],0,0,0,0,0,[])).2).1,(((n.2.1.getD v2.toNat ([],0,0,0,0,0,[])).2).2).1,((((n.2.1.getD v2.toNat ([],0,0,0,0,0,[])).2).2).2).1,(((((n.2.1.getD v2.toNat ([],0,0,0,0,0,[])).2).2).2).2).1,((((((n.2.1.getD v2.toNat ([],0,0,0,0,0,[])).2).2).2).2).2).1,((((((n.2.1.getD v2.toNat ([],0,0,0,0,0,[])).2).2).2).2).2).2) (p.1.getD v2.toNat 0)).bind fun r=>
 Option.bind (α:=Bool×List Int×List Bool) (
 bif free then(
 bif !decide (r.2=v) then(
 some (true,out3,there3))
 else(
 gd (inB r.1 there3.length)<|
 some (there3.getD r.1.toNat false,out3,there3)))
 else(
 some (false,out3,there3))) fun s=>
 some (s.1,s.2.1,s.2.2))
 else(
 some (free,out3,there3))) fun s2=>
 some (.inl (s2.1,wi64 (v2+1),s2.2.1,s2.2.2)))
 else(
 some (.inr (free,out3,there3)))
def qcF(n:yB0)(p:yB6)(next:Int)(v:Int)(out2:List Int)(there2:List Bool):Option ((Int×Int×List Int×List Bool)⊕(Int×List Int×List Bool)):=
 bif decide (v<(n.1.length:Int)) then(
 gd (inB v there2.length)<|
 (iter (fun x=>qcE n p v x.1 x.2.1 x.2.2.1 x.2.2.2) ((!(there2.getD v.toNat false)),0,out2,there2)).bind fun s3=>
 Option.bind (α:=Bool×List Int×List Bool) (
 bif s3.1 then(
 some (decide (next<0),s3.2.1,s3.2.2))
 else(
 some (false,s3.2.1,s3.2.2))) fun s4=>
 Option.bind (α:=Int×List Int×List Bool) (
 bif s4.1 then(
 some (v,s4.2.1,s4.2.2))
 else(
 some (next,s4.2.1,s4.2.2))) fun s5=>
 some (.inl (s5.1,wi64 (v+1),s5.2.1,s5.2.2)))
 else(
 some (.inr (next,out2,there2)))
def qb8(n:yB0)(p:yB6)(out:List Int)(there:List Bool):Option ((List Int×List Bool)⊕(List Int)):=
 (iter (fun x2=>qcF n p x2.1 x2.2.1 x2.2.2.1 x2.2.2.2) ((-1),0,out,there)).bind fun s6=>
 bif decide (s6.1<0) then(
 some (.inr s6.2.1))
 else(
 gd (fits (s6.2.1.length+1) 8)<|
 gd (inB s6.1 s6.2.2.length)<|
 some (.inl (s6.2.1++[s6.1],s6.2.2.set s6.1.toNat true)))
def qjB(n:yB0)(p:yB6):Option (List Int):=
 gd (makeG 1 (n.1.length:Int))<|
 (iter (fun x3=>qb8 n p x3.1 x3.2) ([],List.replicate (n.1.length:Int).toNat (false:Bool))).bind fun s7=>
 some s7
def qmw:Fun:=
 ⟨162,2,1,
 ⟨r51_,[],[]⟩,
 ⟨[(0,ow 0)],[],[(0,.arr 3 I6)]⟩,
 fun x=>qjB x.1 x.2⟩
theorem qr3:FO qmw:=fi [] [qjz] 83 [] ((nn (nn (nn (mm (.mk [] (some (⟨[(2,pt 48 0),(3,pt 64 0),(5,ow 107),(6,ow 288)],v0_,a21_⟩,[⟨.r,⟨[(4,ow 91)],[],[(91,.arr 3 I6)]⟩⟩])) (mm (nn (mm (nn (mm (.mk [] (some (⟨[(2,pt 48 0),(3,pt 64 0),(5,ow 107),(6,ow 288),(7,ii),(20,kk),(21,ii)],v0_,a21_⟩,[⟨.x 2,⟨[(2,pt 48 0),(3,pt 64 0),(5,ow 107),(6,ow 288),(7,ii)],v0_,a21_⟩⟩])) (nn (nn (mm (mm (nn (nn (mm (nn (mm (.mk [] (some (⟨[(2,pt 48 0),(3,pt 64 0),(5,ow 107),(6,ow 288),(7,kk),(8,kk),(9,bb),(20,kk),(21,kk),(30,kk),(31,kk),(32,ii)],v0_,a21_⟩,[⟨.x 4,⟨[(2,pt 48 0),(3,pt 64 0),(5,ow 107),(6,ow 288),(7,kk),(8,kk),(9,bb),(20,kk),(21,kk)],v0_,a21_⟩⟩])) (nn (nn (mm (mm (nn (nn (.mk [.join [⟨.n,⟨r40_,v0_,a21_⟩⟩]] none (nn (.mk [.join [⟨.n,⟨r40_,v0_,a21_⟩⟩]] none .nil .nil)) .nil))) .nil) .nil))) .nil) .nil)) (mm (.mk [.join [⟨.n,⟨[(2,pt 48 0),(3,pt 64 0),(5,ow 107),(6,ow 288),(7,kk),(8,kk),(20,kk),(21,kk),(70,bb)],v0_,a21_⟩⟩]] none .nil .nil) (.mk [.join [⟨.n,⟨[(2,pt 48 0),(3,pt 64 0),(5,ow 107),(6,ow 288),(7,ii),(20,kk),(21,kk)],v0_,a21_⟩⟩]] none .nil .nil))))) .nil) .nil))) .nil) .nil)) .nil)) .nil) .nil) .nil))))) func162 ⟨⟨qnS,trivial⟩,trivial⟩
def qf8(n:yB0)(p:yB6)(v:Int):Option (Int⊕(Unit⊕Int)):=
 bif decide (v<(p.1.length:Int)) then(
 gd (inB v p.1.length)<|
 gd (inB v n.2.1.length)<|
 Option.bind (α:=Bool) (
 bif decide (p.1.getD v.toNat 0<wi64 (0-(min 1000 (((((n.2.1.getD v.toNat ([],0,0,0,0,0,[])).2).2).2).1)))) then(
 some true)
 else(
 some (decide (min 1000 (((((n.2.1.getD v.toNat ([],(0,(0,(0,(0,(0,[]))))))).2).2).2).1)<p.1.getD v.toNat 0)))) fun s2=>
 bif s2 then(
 some (.inr (.inr 1)))
 else(
 some (.inl (wi64 (v+1)))))
 else(
 some (.inr (.inl ())))
def qf9(p:yB6)(v2:Int):Option (Int⊕(Unit⊕Int)):=
 bif decide (v2<(p.2.1.length:Int)) then(
 gd (inB v2 p.2.1.length)<|
 Option.bind (α:=Bool) (
 bif decide (p.2.1.getD v2.toNat 0<(-1000)) then(
 some true)
 else(
 some (decide (1000<p.2.1.getD v2.toNat 0)))) fun s6=>
 bif s6 then(
 some (.inr (.inr 1)))
 else(
 some (.inl (wi64 (v2+1)))))
 else(
 some (.inr (.inl ())))
def qga(n:yB0)(p:yB6)(v3:Int):Option (Int⊕(Unit⊕Int)):=
 bif decide (v3<(n.1.length:Int)) then(
 (qiT (n.1,n.2.1,n.2.2.1,n.2.2.2.1,n.2.2.2.2.1,n.2.2.2.2.2) (p.1,p.2.1,p.2.2) v3).bind fun r2=>
 bif !decide (r2.1=r2.2) then(
 some (.inr (.inr 12)))
 else(
 some (.inl (wi64 (v3+1)))))
 else(
 some (.inr (.inl ())))
def qeW(n:yB0)(p:yB6):Option (Int):=
 (qeV (n.1,n.2.1,n.2.2.1,n.2.2.2.1,n.2.2.2.2.1,n.2.2.2.2.2)).bind fun r=>
 bif !decide (r=0) then(
 some r)
 else(
 Option.bind (α:=Bool) (
 bif !decide ((p.1.length:Int)=(n.2.1.length:Int)) then(
 some true)
 else(
 bif !decide ((p.2.1.length:Int)=(n.2.2.1.length:Int)) then(
 some true)
 else(
 some (!decide ((p.2.2.length:Int)=(n.2.2.2.1.length:Int)))))) fun s=>
 bif s then(
 some 9)
 else(
 (iter (fun x=>qf8 n p x) 0).bind fun s3=>
 s3.elim (fun s4=>
 (iter (fun x2=>qf9 p x2) 0).bind fun s7=>
 s7.elim (fun s8=>
 (iter (fun x3=>qga n p x3) 0).bind fun s10=>
 s10.elim (fun s11=>
 (qjB (n.1,n.2.1,n.2.2.1,n.2.2.2.1,n.2.2.2.2.1,n.2.2.2.2.2) (p.1,p.2.1,p.2.2)).bind fun r3=>
 bif !decide ((r3.length:Int)=(n.1.length:Int)) then(
 some 13)
 else(
 some 0))
 (fun s12=>
 some s12))
 (fun s9=>
 some s9))
 (fun s5=>
 some s5)))
def qed:Fun:=
 ⟨115,2,1,
 ⟨r51_,[],[]⟩,
 ⟨[(0,ii)],[],[]⟩,
 fun x=>qeW x.1 x.2⟩
theorem qgb:FO qed:=fi [] [qec,qjA,qmw] 108 [] ((nn (nn (mm (mm (.mk [.join [⟨.n,⟨[(2,pt 48 0),(3,pt 64 0),(43,bb)],v0_,[]⟩⟩]] none .nil .nil) .nil) (mm (nn (mm (.mk [] (some (⟨[(2,pt 48 0),(3,pt 64 0),(45,kk),(46,kk),(47,ii)],v0_,[]⟩,[⟨.x 0,⟨r32_,v0_,[]⟩⟩,⟨.r,⟨[(4,ii)],[],[]⟩⟩])) (nn (nn (mm (mm (nn (nn (mm (.mk [.join [⟨.n,⟨[(2,pt 48 0),(3,pt 64 0),(45,kk),(46,kk),(47,kk),(67,bb)],v0_,[]⟩⟩]] none .nil .nil) .nil))) .nil) .nil))) .nil) .nil)) (mm (nn (mm (.mk [] (some (⟨[(2,pt 48 0),(3,pt 64 0),(70,kk),(71,kk),(72,ii)],v0_,[]⟩,[⟨.x 2,⟨r32_,v0_,[]⟩⟩,⟨.r,⟨[(4,ii)],[],[]⟩⟩])) (nn (nn (mm (mm (nn (mm (.mk [.join [⟨.n,⟨[(2,pt 48 0),(3,pt 64 0),(70,kk),(71,kk),(72,kk),(81,bb)],v0_,[]⟩⟩]] none .nil .nil) .nil)) .nil) .nil))) .nil) .nil)) (mm (nn (mm (.mk [] (some (⟨[(2,pt 48 0),(3,pt 64 0),(85,kk),(86,ii)],v0_,[]⟩,[⟨.x 4,⟨r32_,v0_,[]⟩⟩,⟨.r,⟨[(4,ii)],[],[]⟩⟩])) .nil .nil) .nil)) .nil))))))) func115 ⟨⟨qf6,qnT,qr3,trivial⟩,trivial⟩
def qhq(n:yB0)(rates:List Int)(vat:Int)(i:Int)(v:Int)(v2:Bool):Option ((Int×Int×Bool)⊕((Int×Bool)⊕(Bool×Int×Bool))):=
 bif decide (i<(rates.length:Int)) then(
 Option.bind (α:=Bool) (
 gd (inB i rates.length)<|
 bif decide (0<rates.getD i.toNat 0) then(
 gd (inB i n.2.1.length)<|
 bif decide (((n.2.1.getD i.toNat ([],0,0,0,0,0,[])).2).1=vat) then(
 some true)
 else(
 gd (inB i rates.length)<|
 bif decide (rates.getD i.toNat 0<0) then(
 gd (inB i n.2.1.length)<|
 some (decide ((((n.2.1.getD i.toNat ([],(0,(0,(0,(0,(0,[]))))))).2).2).1=vat)))
 else(
 some false)))
 else(
 gd (inB i rates.length)<|
 bif decide (rates.getD i.toNat 0<0) then(
 gd (inB i n.2.1.length)<|
 some (decide ((((n.2.1.getD i.toNat ([],(0,(0,(0,(0,(0,[]))))))).2).2).1=vat)))
 else(
 some false))) fun s=>
 bif s then(
 gd (inB i rates.length)<|
 some (.inr (.inr (true,i,decide (rates.getD i.toNat 0<0)))))
 else(
 some (.inl (wi64 (i+1),v,v2))))
 else(
 some (.inr (.inl (v,v2))))
def qh4(n:yB0)(rates:List Int)(vat:Int):Option ((Int×Bool)×Bool):=
 (iter (fun x=>qhq n rates vat x.1 x.2.1 x.2.2) (0,0,false)).bind fun s2=>
 s2.elim (fun s3=>
 some ((0,false),false))
 (fun s4=>
 some ((s4.2.1,s4.2.2),s4.1))
def qk1:Fun:=
 ⟨163,3,2,
 ⟨[(0,dd tT0),(1,dd (.sl I6)),(2,ii)],[],[]⟩,
 ⟨[(0,dd (.pair I6 (.bool))),(1,bb)],[],[]⟩,
 fun x=>qh4 x.1 x.2.1 x.2.2⟩
theorem qrc:FO qk1:=fi [] [] 55 [] ((nn (mm (nn (mm (.mk [] (some (⟨[(1,kk),(2,kk),(3,pt 64 0),(6,pt 112 0),(8,ii)],[(64,33,kp 6),(112,140,[.data I6,.data (.bool)])],[]⟩,[⟨.x 0,⟨[(6,pt 112 0)],[(112,140,[.data I6,.data (.bool)])],[]⟩⟩,⟨.r,⟨[(6,pt 112 0),(7,bb)],[(112,140,[.data I6,.data (.bool)])],[]⟩⟩])) (nn (mm (mm (mm (.mk [.join [⟨.n,⟨[(1,kk),(2,kk),(3,pt 64 0),(6,pt 112 0),(8,kk),(46,bb)],[(64,33,kp 6),(112,140,[.keep,.keep])],[]⟩⟩]] none .nil .nil) .nil) .nil) .nil)) .nil) .nil)) .nil))) func163 ⟨trivial,trivial⟩
def qpw(n:Int):Option (Int):=
 some (max n (wi64 (0-n)))
def qk2:Fun:=
 ⟨164,1,1,
 ⟨[(0,ii)],[],[]⟩,
 ⟨[(0,ii)],[],[]⟩,
 fun x=>qpw x⟩
theorem qrd:FO qk2:=fi [] [] 7 [] .nil func164 ⟨trivial,trivial⟩
def qlU(n:yB0)(h:Int×Bool):Option (Int×Int):=
 gd (inB h.1 n.2.1.length)<|
 bif h.2 then(
 some ((((n.2.1.getD h.1.toNat ([],(0,(0,(0,(0,(0,[]))))))).2).2).1,((n.2.1.getD h.1.toNat ([],(0,(0,(0,(0,(0,[]))))))).2).1))
 else(
 some (((n.2.1.getD h.1.toNat ([],(0,(0,(0,(0,(0,[]))))))).2).1,(((n.2.1.getD h.1.toNat ([],(0,(0,(0,(0,(0,[]))))))).2).2).1))
def qjC:Fun:=
 ⟨165,2,2,
 ⟨[(0,dd tT0),(1,dd (.pair I6 (.bool)))],[],[]⟩,
 ⟨r50_,[],[]⟩,
 fun x=>qlU x.1 x.2⟩
theorem qnU:FO qjC:=fi [] [] 23 [] .nil func165 ⟨trivial,trivial⟩
def qhr(n:yB0)(ports:List Int)(vin:Int)(vat:Int)(i:Int)(v5:Int)(v6:Int)(v7:List (Int×Bool))(v8:Int)(x4:Int)(x5:Int)(x6:List (Int×Bool)):Option ((Int×Int×Int×(List (Int×Bool))×Int×Int×Int×List (Int×Bool))⊕((Int×Int×(List (Int×Bool))×Int×Int×Int×List (Int×Bool))⊕(Bool×Int×Int×Int×List (Int×Bool)))):=
 bif decide (i<(ports.length:Int)) then(
 Option.bind (α:=Bool×List (Int×Bool)) (
 gd (inB i n.2.2.1.length)<|
 bif decide (((n.2.2.1.getD i.toNat ([],0,0)).2).1=vat) then(
 gd (inB i ports.length)<|
 some (decide (ports.getD i.toNat 0<0),x6))
 else(
 some (false,x6))) fun s=>
 bif s.1 then(
 gd (inB i ports.length)<|
 some (.inr (.inr (true,vin,i,min x5 (wi64 (0-(ports.getD i.toNat 0))),s.2))))
 else(
 some (.inl (wi64 (i+1),v5,v6,v7,v8,x4,x5,s.2))))
 else(
 some (.inr (.inl (v5,v6,v7,v8,x4,x5,x6))))
def qhs(n:yB0)(rates:List Int)(ports:List Int)(vin:Int)(vat:Int)(k:Int)(v:Int)(v2:Int)(v3:List (Int×Bool))(v4:Int)(x:Int)(x2:Int)(x3:List (Int×Bool)):Option ((Int×Int×Int×Int×(List (Int×Bool))×Int×Int×Int×List (Int×Bool))⊕((Int×Int×(List (Int×Bool))×Int×Int×Int×List (Int×Bool))⊕(Bool×Int×Int×Int×List (Int×Bool)))):=
 bif decide (k<=(n.1.length:Int)) then(
 (iter (fun x7=>qhr n ports vin vat x7.1 x7.2.1 x7.2.2.1 x7.2.2.2.1 x7.2.2.2.2.1 x7.2.2.2.2.2.1 x7.2.2.2.2.2.2.1 x7.2.2.2.2.2.2.2) (0,v,v2,v3,v4,x,x2,x3)).bind fun s2=>
 s2.elim (fun s3=>
 (qh4 (n.1,n.2.1,n.2.2.1,n.2.2.2.1,n.2.2.2.2.1,n.2.2.2.2.2) rates vat).bind fun r=>
 bif !r.2 then(
 some (.inr (.inr (false,vin,s3.2.2.2.2.1,s3.2.2.2.2.2.1,s3.2.2.2.2.2.2))))
 else(
 gd (fits (s3.2.2.2.2.2.2.length+1) 16)<|
 gd (inB r.1.1 rates.length)<|
 (qpw (rates.getD r.1.1.toNat 0)).bind fun r2=>
 (qlU (n.1,n.2.1,n.2.2.1,n.2.2.2.1,n.2.2.2.2.1,n.2.2.2.2.2) (r.1.1,r.1.2)).bind fun r3=>
 some (.inl (r3.2,wi64 (k+1),s3.1,s3.2.1,s3.2.2.1,s3.2.2.2.1,s3.2.2.2.2.1,min s3.2.2.2.2.2.1 r2,s3.2.2.2.2.2.2++[(r.1.1,r.1.2)]))))
 (fun s4=>
 some (.inr (.inr (s4.1,s4.2.1,s4.2.2.1,s4.2.2.2.1,s4.2.2.2.2)))))
 else(
 some (.inr (.inl (v,v2,v3,v4,x,x2,x3))))
def qh5(n:yB0)(rates:List Int)(ports:List Int)(vin:Int):Option (Int×Int×Int×Bool×List (Int×Bool)):=
 gd (inB vin ports.length)<|
 gd (inB vin n.2.2.1.length)<|
 (iter (fun x8=>qhs n rates ports vin x8.1 x8.2.1 x8.2.2.1 x8.2.2.2.1 x8.2.2.2.2.1 x8.2.2.2.2.2.1 x8.2.2.2.2.2.2.1 x8.2.2.2.2.2.2.2.1 x8.2.2.2.2.2.2.2.2) (((n.2.2.1.getD vin.toNat ([],0,0)).2).1,0,0,0,[],0,0,ports.getD vin.toNat 0,[])).bind fun s5=>
 s5.elim (fun s6=>
 some (vin,s6.2.2.2.2.1,s6.2.2.2.2.2.1,false,s6.2.2.2.2.2.2))
 (fun s7=>
 some (s7.2.1,s7.2.2.1,s7.2.2.2.1,s7.1,s7.2.2.2.2))
def qk3:Fun:=
 ⟨116,4,2,
 ⟨[(0,dd tT0),(1,dd (.sl I6)),(2,dd (.sl I6)),(3,ii)],[],[]⟩,
 ⟨[(0,.agg [.data I6,.data I6,.own 0,.data I6]),(1,bb)],[],[(0,.arr 140 (.pair I6 (.bool)))]⟩,
 fun x=>qh5 x.1 x.2.1 x.2.2.1 x.2.2.2⟩
theorem qre:FO qk3:=fi [] [qk1,qk2,qjC] 101 [] ((nn (nn (nn (mm (nn (mm (.mk [] (some (⟨[(1,kk),(2,kk),(4,pt 80 0),(8,pt 144 0),(10,pt 176 0),(11,ii),(12,ii)],v13_,a54_⟩,[⟨.x 0,⟨[(8,pt 144 0),(10,pt 176 0)],[(144,55,[.data I6,.data I6,.data (.sl (.pair I6 (.bool))),.data I6]),(176,55,[.keep,.data I6,.own 2873,.data I6])],a54_⟩⟩,⟨.r,⟨[(8,pt 144 0),(9,bb)],[(144,55,[.data I6,.data I6,.own 2361,.data I6])],[(2361,.arr 140 (.pair I6 (.bool)))]⟩⟩])) (nn (mm (mm (mm (nn (mm (.mk [] (some (⟨[(1,kk),(2,kk),(4,pt 80 0),(8,pt 144 0),(10,pt 176 0),(11,kk),(12,kk),(13,ii)],v13_,a54_⟩,[⟨.x 2,⟨[(1,kk),(2,kk),(4,pt 80 0),(8,pt 144 0),(10,pt 176 0),(11,kk),(12,kk)],v13_,a54_⟩⟩,⟨.r,⟨[(8,pt 144 0),(9,bb)],[(144,55,[.data I6,.data I6,.own 2873,.data I6])],a54_⟩⟩])) (nn (mm (mm (mm (.mk [.join [⟨.n,⟨[(1,kk),(2,kk),(4,pt 80 0),(8,pt 144 0),(10,pt 176 0),(11,kk),(12,kk),(13,kk),(55,bb)],[(80,33,kp 6),(144,55,kp 4),(176,55,[.keep,.keep,.own 2873,.keep])],a54_⟩⟩]] none .nil .nil) .nil) .nil) .nil)) .nil) .nil)) .nil) .nil) .nil)) .nil) .nil)) .nil))))) func116 ⟨⟨qrc,qrd,qnU,trivial⟩,trivial⟩
def qk4(r2:Int×Int×Int×Bool×List (Int×Bool))(k:Int)(rates3:List Int)(ports3:List Int)(out3:List yB7)(x:List (Int×Bool)):Option ((Int×List Int×List Int×(List yB7)×List (Int×Bool))⊕(List Int×List Int×(List yB7)×List (Int×Bool))):=
 bif decide (k<(x.length:Int)) then(
 gd (inB k x.length)<|
 Option.bind (α:=List Int×List Int×(List yB7)×List (Int×Bool)) (
 bif (x.getD k.toNat (0,false)).2 then(
 gd (inB ((x.getD k.toNat (0,false)).1) rates3.length)<|
 gd (inB ((x.getD k.toNat (0,false)).1) rates3.length)<|
 some (rates3.set (((x.getD k.toNat (0,false)).1).toNat) (wi64 ((rates3.getD (((x.getD k.toNat (0,false)).1).toNat) 0)+r2.2.2.1)),ports3,out3,x))
 else(
 gd (inB ((x.getD k.toNat (0,false)).1) rates3.length)<|
 gd (inB ((x.getD k.toNat (0,false)).1) rates3.length)<|
 some (rates3.set (((x.getD k.toNat (0,false)).1).toNat) (wi64 ((rates3.getD (((x.getD k.toNat (0,false)).1).toNat) 0)-r2.2.2.1)),ports3,out3,x))) fun s2=>
 some (.inl (wi64 (k+1),s2.1,s2.2.1,s2.2.2.1,s2.2.2.2)))
 else(
 some (.inr (rates3,ports3,out3,x)))
def qht(n:yB0)(i:Int)(rates2:List Int)(ports2:List Int)(out2:List yB7):Option ((List Int×List Int×List yB7)⊕((List Int×List Int×List yB7)⊕((List yB7)×Int))):=
 gd (inB i ports2.length)<|
 bif decide (0<ports2.getD i.toNat 0) then(
 (qh5 (n.1,n.2.1,n.2.2.1,n.2.2.2.1,n.2.2.2.2.1,n.2.2.2.2.2) rates2 ports2 i).bind fun r2=>
 Option.bind (α:=Bool×List Int×List Int×(List yB7)×List (Int×Bool)) (
 bif !r2.2.2.2.1 then(
 some (true,rates2,ports2,out2,r2.2.2.2.2))
 else(
 bif decide ((out2.length:Int)=64) then(
 some (true,rates2,ports2,out2,r2.2.2.2.2))
 else(
 some (decide (32<(r2.2.2.2.2.length:Int)),rates2,ports2,out2,r2.2.2.2.2)))) fun s=>
 bif s.1 then(
 some (.inr (.inr ([],23))))
 else(
 gd (inB r2.1 s.2.2.1.length)<|
 gd (inB r2.1 s.2.2.1.length)<|
 gd (inB r2.2.1 (s.2.2.1.set r2.1.toNat (wi64 ((s.2.2.1.getD r2.1.toNat 0)-r2.2.2.1))).length)<|
 gd (inB r2.2.1 (s.2.2.1.set r2.1.toNat (wi64 ((s.2.2.1.getD r2.1.toNat 0)-r2.2.2.1))).length)<|
 (iter (fun x2=>qk4 r2 x2.1 x2.2.1 x2.2.2.1 x2.2.2.2.1 x2.2.2.2.2) (0,s.2.1,(s.2.2.1.set r2.1.toNat (wi64 ((s.2.2.1.getD r2.1.toNat 0)-r2.2.2.1))).set r2.2.1.toNat (wi64 (((s.2.2.1.set r2.1.toNat (wi64 ((s.2.2.1.getD r2.1.toNat 0)-r2.2.2.1))).getD r2.2.1.toNat 0)+r2.2.2.1)),s.2.2.2.1,s.2.2.2.2)).bind fun s3=>
 gd (fits (s3.2.2.1.length+1) 48)<|
 some (.inl (s3.1,s3.2.1,s3.2.2.1++[(r2.1,(r2.2.1,(s3.2.2.2,r2.2.2.1)))]))))
 else(
 some (.inr (.inl (rates2,ports2,out2))))
def qhu(n:yB0)(i:Int)(rates:List Int)(ports:List Int)(out:List yB7):Option ((Int×List Int×List Int×List yB7)⊕((List yB7)⊕((List yB7)×Int))):=
 bif decide (i<(ports.length:Int)) then(
 (iter (fun x3=>qht n i x3.1 x3.2.1 x3.2.2) (rates,ports,out)).bind fun s4=>
 s4.elim (fun s5=>
 some (.inl (wi64 (i+1),s5.1,s5.2.1,s5.2.2)))
 (fun s6=>
 some (.inr (.inr (s6.1,s6.2)))))
 else(
 some (.inr (.inl out)))
def qh6(n:yB0)(p:yB6):Option ((List yB7)×Int):=
 (qeW (n.1,n.2.1,n.2.2.1,n.2.2.2.1,n.2.2.2.2.1,n.2.2.2.2.2) (p.1,p.2.1,p.2.2)).bind fun r=>
 bif !decide (r=0) then(
 some ([],r))
 else(
 gd (fits (0+p.1.length) 8)<|
 gd (fits (0+p.2.1.length) 8)<|
 (iter (fun x4=>qhu n x4.1 x4.2.1 x4.2.2.1 x4.2.2.2) (0,([]++p.1),([]++p.2.1),[])).bind fun s7=>
 s7.elim (fun s8=>
 some (s8,0))
 (fun s9=>
 some (s9.1,s9.2)))
def qk5:Fun:=
 ⟨60,2,2,
 ⟨r51_,[],[]⟩,
 ⟨[(0,dd (.sl tT4)),(1,ii)],[],[]⟩,
 fun x=>qh6 x.1 x.2⟩
theorem qrf:FO qk5:=fi [21,25] [qed,qk3] 128 [] ((nn (nn (nn (nn (nn (mm (nn (mm (.mk [] (some (⟨[(2,pt 48 0),(7,ow 400),(8,ow 464),(9,ow 171),(10,ii)],[(48,33,kp 6)],a77_⟩,[⟨.x 0,⟨[(9,ow 171)],[],[(171,.arr 55 tT4)]⟩⟩,⟨.r,⟨[(4,dd (.sl tT4)),(5,ii)],[],[]⟩⟩])) (nn (mm (mm (mm (.mk [] (some (⟨r105_,[(48,33,kp 6)],a77_⟩,[⟨.x 2,⟨r105_,[(48,33,kp 6)],a77_⟩⟩,⟨.r,⟨[(4,dd (.sl tT4)),(5,ii)],[],[]⟩⟩])) (nn (mm (nn (mm (mm (.mk [.join [⟨.n,⟨[(2,pt 48 0),(7,ow 400),(8,ow 464),(9,ow 171),(10,kk),(11,pt 192 0),(60,bb)],v43_,a22_⟩⟩]] none .nil .nil) .nil) (nn (nn (mm (nn (mm (.mk [] (some (⟨[(2,pt 48 0),(7,ow 400),(8,ow 464),(9,ow 171),(10,kk),(11,pt 192 0),(13,ii)],v43_,a22_⟩,[⟨.x 4,⟨[(2,pt 48 0),(7,ow 400),(8,ow 464),(9,ow 171),(10,kk),(11,pt 192 0)],v43_,a22_⟩⟩])) (nn (mm (mm (nn (nn (.mk [.join [⟨.n,⟨[(2,pt 48 0),(7,ow 400),(8,ow 464),(9,ow 171),(10,kk),(11,pt 192 0),(13,kk)],v43_,a22_⟩⟩]] none .nil .nil))) .nil) .nil)) .nil) .nil)) (.mk [.fz [11]] none .nil .nil)))))) .nil)) .nil) .nil) .nil) .nil)) .nil) .nil)) .nil))))))) func60 ⟨⟨qgb,qre,trivial⟩,trivial⟩
def qiU(p:yB7):Option (Int×Int×Int×List (Int×Bool)):=
 gd (fits (0+p.2.2.1.length) 16)<|
 some (p.1,p.2.1,p.2.2.2,[]++p.2.2.1)
def qjD:Fun:=
 ⟨61,1,1,
 ⟨[(0,dd tT4)],[],[]⟩,
 ⟨[(0,.agg [.data I6,.data I6,.own 0,.data I6])],[],[(0,.arr 140 (.pair I6 (.bool)))]⟩,
 fun x=>qiU x⟩
theorem qnV:FO qjD:=fi [3] [] 9 [] .nil func61 ⟨trivial,trivial⟩
def qjE(n:yB0)(d:yB3)(s:List Int)(s2:Int):Option (yB5×List Int×Int):=
 (qad 9 s s2).bind fun r=>
 bif decide (r.1=0) then(
 (qad (wi64 ((d.1.length:Int)+1)) r.2.1 r.2.2).bind fun r2=>
 some ((1,(r2.1,(0,(0,(0,([],0)))))),r2.2.1,r2.2.2))
 else(
 bif decide (r.1=1) then(
 (qad (wi64 ((d.1.length:Int)+2)) r.2.1 r.2.2).bind fun r3=>
 some ((2,(wi64 (r3.1-1),(0,(0,(0,([],0)))))),r3.2.1,r3.2.2))
 else(
 bif decide (r.1=2) then(
 (qad (wi64 ((n.2.2.2.1.length:Int)+1)) r.2.1 r.2.2).bind fun r4=>
 some ((3,(r4.1,(0,(0,(0,([],0)))))),r4.2.1,r4.2.2))
 else(
 bif decide (r.1=3) then(
 (qad (wi64 ((n.2.2.2.1.length:Int)+1)) r.2.1 r.2.2).bind fun r5=>
 some ((4,(r5.1,(0,(0,(0,([],0)))))),r5.2.1,r5.2.2))
 else(
 Option.bind (α:=Bool) (
 bif decide (r.1=4) then(
 some (decide (r.1=4)))
 else(
 some (decide (r.1=5)))) fun s3=>
 bif s3 then(
 (qat ([1,2,7,60,100,0,101]:List Int) r.2.1 r.2.2).bind fun r6=>
 some ((6,(0,(r6.1,(0,(0,([],0)))))),r6.2.1,r6.2.2))
 else(
 bif decide (r.1=6) then(
 (qad 9 r.2.1 r.2.2).bind fun r7=>
 (qad 4 r7.2.1 r7.2.2).bind fun r8=>
 (qad 5 r8.2.1 r8.2.2).bind fun r9=>
 (qad 2 r9.2.1 r9.2.2).bind fun r10=>
 (qad 2 r10.2.1 r10.2.2).bind fun r11=>
 some ((r7.1,(r8.1,(r9.1,(r10.1,(0,([],r11.1)))))),r11.2.1,r11.2.2))
 else(
 (qad 2 r.2.1 r.2.2).bind fun r12=>
 Option.bind (α:=List Int×Int×List Int×List Int×List Bool) (
 bif decide (r12.1=0) then(
 (qg0 (n.1,n.2.1,n.2.2.1,n.2.2.2.1,n.2.2.2.2.1,n.2.2.2.2.2) r12.2.1 r12.2.2).bind fun r13=>
 some (r13.2.1,r13.2.2,r13.1.1,r13.1.2.1,r13.1.2.2))
 else(
 some (r12.2.1,r12.2.2,d.2.1,d.2.2.1,d.2.2.2))) fun s4=>
 (qh6 (n.1,n.2.1,n.2.2.1,n.2.2.2.1,n.2.2.2.2.1,n.2.2.2.2.2) (s4.2.2.1,s4.2.2.2.1,s4.2.2.2.2)).bind fun r14=>
 bif decide ((r14.1.length:Int)=0) then(
 some ((5,(0,(1,(0,(1,([],0)))))),s4.1,s4.2.1))
 else(
 (qad (r14.1.length:Int) s4.1 s4.2.1).bind fun r15=>
 gd (inB r15.1 r14.1.length)<|
 (qiU (r14.1.getD r15.1.toNat (0,0,[],0))).bind fun r16=>
 (qat [r16.2.2.1,wi64 (0-r16.2.2.1),1,(-1),wi64 (r16.2.2.1+1),wi64 ((wi64 (0-r16.2.2.1))-1),0] r15.2.1 r15.2.2).bind fun r17=>
 some ((5,(0,(r17.1,(r16.1,(r16.2.1,(r16.2.2.2,0)))))),r17.2.1,r17.2.2))))))))
def qmx:Fun:=
 ⟨29,3,1,
 ⟨[(0,pt 0 0),(1,dd tT0),(2,dd (.pair (.sl tT1) tT6))],v4_,[]⟩,
 ⟨r53_,v4_,[]⟩,
 fun x=>qjE x.1 x.2.1 x.2.2.1 x.2.2.2⟩
theorem qr4:FO qmx:=fi [] [qbr,qbV,qkh,qk5,qjD] 118 [] ((nn (mm (nn (mm (nn (nn (nn (nn (nn (nn (nn (nn (mm (nn (.mk [.join [⟨.n,⟨[(0,pt 0 0),(4,pt 80 0),(5,pt 96 0),(6,pt 112 0),(13,kk),(51,bb)],[(0,78,[.keep,.keep]),(80,33,kp 6),(96,40,kp 4),(112,57,kp 7)],[]⟩⟩]] none .nil .nil)) .nil))))))))) .nil)) (nn (mm (nn (.mk [.join [⟨.n,⟨[(0,pt 0 0),(4,pt 80 0),(6,pt 112 0),(7,pt 128 0)],[(0,78,[.data (.sl I6),.data I6]),(80,33,kp 6),(112,57,kp 7),(128,38,[.data (.sl I6),.data (.sl I6),.data (.sl (.bool))])],[]⟩⟩]] none .nil .nil)) .nil))))) func29 ⟨⟨qbG,qcs,qpP,qrf,qnV,trivial⟩,trivial⟩
def qg1(n:yB0)(c:yB9)(s:List Int)(s2:Int):Option (yB11×List Int×Int):=
 (qad 4 s s2).bind fun r=>
 bif decide (r.1=0) then(
 (qad 4 r.2.1 r.2.2).bind fun r2=>
 (qdO r2.1 r2.2.1 r2.2.2).bind fun r3=>
 gd (fits (5+r3.1.2.2.2.2.2.length) 8)<|
 some ((1,([r3.1.1,r3.1.2.1,r3.1.2.2.1,r3.1.2.2.2.1,r3.1.2.2.2.2.1]++r3.1.2.2.2.2.2,((0,(0,(0,(0,(0,([],0)))))),([],(0,0))))),r3.2.1,r3.2.2))
 else(
 bif decide (r.1=1) then(
 (qf7 2 r.2.1 r.2.2).bind fun r4=>
 bif decide ((r4.2.2.length:Int)=0) then(
 (qad 5 r4.1 r4.2.1).bind fun r5=>
 some ((r5.1,([],((0,(0,(0,(0,(0,([],0)))))),([],(0,0))))),r5.2.1,r5.2.2))
 else(
 gd (inB 0 r4.2.2.length)<|
 some ((3,([],((0,(0,(0,(0,(0,([],0)))))),((r4.2.2.getD 0 ([],(0,0))).1,(((r4.2.2.getD 0 ([],(0,0))).2).1,((r4.2.2.getD 0 ([],(0,0))).2).2))))),r4.1,r4.2.1)))
 else(
 (qjE (n.1,n.2.1,n.2.2.1,n.2.2.2.1,n.2.2.2.2.1,n.2.2.2.2.2) (c.1.1,c.1.2.1,c.1.2.2.1,c.1.2.2.2) r.2.1 r.2.2).bind fun r6=>
 some ((2,([],((r6.1.1,(r6.1.2.1,(r6.1.2.2.1,(r6.1.2.2.2.1,(r6.1.2.2.2.2.1,(r6.1.2.2.2.2.2.1,r6.1.2.2.2.2.2.2)))))),([],(0,0))))),r6.2.1,r6.2.2)))
def qki:Fun:=
 ⟨10,3,1,
 ⟨[(0,pt 0 0),(1,dd tT0),(2,dd (.pair (.pair (.sl tT1) tT6) (.pair (.sl tT3) (.pair (.sl tT2) I6))))],v4_,[]⟩,
 ⟨r64_,v4_,[]⟩,
 fun x=>qg1 x.1 x.2.1 x.2.2.1 x.2.2.2⟩
theorem qpQ:FO qki:=fi [27] [qbr,qgS,qiS,qmx] 52 [] .nil func10 ⟨⟨qbG,qmj,qoW,qr4,trivial⟩,trivial⟩
def qgc(p:yB6):Option yB6:=
 gd (fits (0+p.1.length) 8)<|
 gd (fits (0+p.2.1.length) 8)<|
 gd (fits (0+p.2.2.length) 1)<|
 some (([]++p.1),([]++p.2.1),[]++p.2.2)
def qiV:Fun:=
 ⟨146,1,1,
 ⟨[(0,dd tT6)],[],[]⟩,
 ⟨[(0,.agg [.own 0,.own 1,.own 2])],[],[(0,.arr 3 I6),(1,.arr 3 I6),(2,.arr 4 (.bool))]⟩,
 fun x=>qgc x⟩
theorem qoX:FO qiV:=fi [3,7,11] [] 16 [] .nil func146 ⟨trivial,trivial⟩
def qdP(d:yB3):Option (yB4×List Int×List Int×List Bool):=
 gd (fits (0+d.1.length) 24)<|
 (qgc (d.2.1,d.2.2.1,d.2.2.2)).bind fun r=>
 some (([]++d.1),r.1,r.2.1,r.2.2)
def qdQ:Fun:=
 ⟨100,1,1,
 ⟨[(0,dd (.pair (.sl tT1) tT6))],[],[]⟩,
 ⟨[(0,.agg [.own 0,.own 1,.own 2,.own 3])],[],a56_⟩,
 fun x=>qdP x⟩
theorem qfi:FO qdQ:=fi [3] [qiV] 11 [] .nil func100 ⟨⟨qoX,trivial⟩,trivial⟩
def qdp(t:yB2):Option yB2:=
 gd (fits (0+t.2.2.2.2.2.length) 8)<|
 some (t.1,t.2.1,t.2.2.1,t.2.2.2.1,t.2.2.2.2.1,[]++t.2.2.2.2.2)
def qgt:Fun:=
 ⟨101,1,1,
 ⟨[(0,dd tT3)],[],[]⟩,
 ⟨[(0,dd tT3)],[],[]⟩,
 fun x=>qdp x⟩
theorem qk6:FO qgt:=fi [3] [] 9 [] .nil func101 ⟨trivial,trivial⟩
def qg2(c:yB9)(i:Int)(x:yB4)(x2:List Int)(x3:List Int)(x4:List Bool)(x5:List yB2)(x6:List yB1):Option ((Int×yB4×List Int×List Int×List Bool×(List yB2)×List yB1)⊕(yB4×List Int×List Int×List Bool×(List yB2)×List yB1)):=
 bif decide (i<(c.2.1.length:Int)) then(
 gd (inB i c.2.1.length)<|
 (qdp (c.2.1.getD i.toNat (0,0,0,0,0,[]))).bind fun r2=>
 gd (fits (x5.length+1) 64)<|
 some (.inl (wi64 (i+1),x,x2,x3,x4,x5++[(r2.1,(r2.2.1,(r2.2.2.1,(r2.2.2.2.1,(r2.2.2.2.2.1,r2.2.2.2.2.2)))))],x6)))
 else(
 some (.inr (x,x2,x3,x4,x5,x6)))
def qlV(c:yB9):Option (Int×yB4×List Int×List Int×List Bool×(List yB2)×List yB1):=
 (qdP (c.1.1,c.1.2.1,c.1.2.2.1,c.1.2.2.2)).bind fun r=>
 gd (fits (0+c.2.2.1.length) 48)<|
 (iter (fun x7=>qg2 c x7.1 x7.2.1 x7.2.2.1 x7.2.2.2.1 x7.2.2.2.2.1 x7.2.2.2.2.2.1 x7.2.2.2.2.2.2) (0,r.1,r.2.1,r.2.2.1,r.2.2.2,[],[]++c.2.2.1)).bind fun s=>
 some (c.2.2.2,s.1,s.2.1,s.2.2.1,s.2.2.2.1,s.2.2.2.2.1,s.2.2.2.2.2)
def qnW:Fun:=
 ⟨49,1,1,
 ⟨r88_,[],[]⟩,
 ⟨r101_,[],a55_⟩,
 fun x=>qlV x⟩
theorem qtt:FO qnW:=fi [8] [qdQ,qgt] 34 [] ((nn (nn (mm (nn (mm (.mk [] (some (⟨[(1,pt 32 0),(2,pt 48 0),(3,pt 64 0),(4,ii)],[(32,44,kp 7),(48,44,kp 7),(64,44,[.own 128,.own 129,.own 130,.own 131,.own 1113,.own 192,.keep])],a44_⟩,[⟨.x 0,⟨r32_,[(48,44,kp 7),(64,44,[.own 128,.own 129,.own 130,.own 131,.own 1113,.own 192,.keep])],a44_⟩⟩])) .nil .nil) .nil)) .nil)))) func49 ⟨⟨qfi,qk6,trivial⟩,trivial⟩
def qiA(a:yB7)(b:yB7)(i:Int):Option (Int⊕(Unit⊕Bool)):=
 bif decide (i<(a.2.2.1.length:Int)) then(
 gd (inB i a.2.2.1.length)<|
 gd (inB i b.2.2.1.length)<|
 bif !(decide ((a.2.2.1.getD i.toNat (0,false)).1=(b.2.2.1.getD i.toNat (0,false)).1)&&((a.2.2.1.getD i.toNat (0,false)).2==(b.2.2.1.getD i.toNat (0,false)).2)) then(
 some (.inr (.inr false)))
 else(
 some (.inl (wi64 (i+1)))))
 else(
 some (.inr (.inl ())))
def qhv(a:yB7)(b:yB7):Option (Bool):=
 Option.bind (α:=Bool) (
 bif !decide (a.1=b.1) then(
 some true)
 else(
 bif !decide (a.2.1=b.2.1) then(
 some true)
 else(
 some (!decide ((a.2.2.1.length:Int)=(b.2.2.1.length:Int)))))) fun s=>
 bif s then(
 some false)
 else(
 (iter (fun x=>qiA a b x) 0).bind fun s2=>
 s2.elim (fun s3=>
 some true)
 (fun s4=>
 some s4))
def qmy:Fun:=
 ⟨147,2,1,
 ⟨[(0,dd tT4),(1,dd tT4)],[],[]⟩,
 ⟨[(0,bb)],[],[]⟩,
 fun x=>qhv x.1 x.2⟩
theorem qr5:FO qmy:=fi [] [] 45 [] ((nn (mm (mm (.mk [.join [⟨.n,⟨[(2,pt 48 0),(3,pt 64 0),(26,bb)],[(48,55,kp 4),(64,55,kp 4)],[]⟩⟩]] none .nil .nil) .nil) (mm (nn (mm (.mk [] (some (⟨r119_,[(48,55,kp 4),(64,55,kp 4)],[]⟩,[⟨.x 0,⟨[],[],[]⟩⟩,⟨.r,⟨[(4,bb)],[],[]⟩⟩])) .nil .nil) .nil)) .nil)))) func147 ⟨trivial,trivial⟩
def qiB(a:yB5)(b:yB5):Option (Bool):=
 bif decide (a.1=b.1) then(
 bif decide (a.2.1=b.2.1) then(
 bif decide (a.2.2.1=b.2.2.1) then(
 bif decide (a.2.2.2.2.2.2=b.2.2.2.2.2.2) then(
 (qhv (a.2.2.2.1,a.2.2.2.2.1,a.2.2.2.2.2.1,a.2.2.2.2.2.2) (b.2.2.2.1,b.2.2.2.2.1,b.2.2.2.2.2.1,b.2.2.2.2.2.2)).bind fun r=>
 some r)
 else(
 some false))
 else(
 some false))
 else(
 some false))
 else(
 some false)
def qiW:Fun:=
 ⟨102,2,1,
 ⟨[(0,dd (.pair I6 (.pair I6 (.pair I6 tT4)))),(1,dd (.pair I6 (.pair I6 (.pair I6 tT4))))],[],[]⟩,
 ⟨[(0,bb)],[],[]⟩,
 fun x=>qiB x.1 x.2⟩
theorem qoY:FO qiW:=fi [] [qmy] 40 [] .nil func102 ⟨⟨qr5,trivial⟩,trivial⟩
def qgu(s:yB5):Option (Bool):=
 (qiB (s.1,s.2.1,s.2.2.1,s.2.2.2.1,s.2.2.2.2.1,s.2.2.2.2.2.1,s.2.2.2.2.2.2) (0,0,0,0,0,[],0)).bind fun r=>
 some r
def qk7:Fun:=
 ⟨50,1,1,
 ⟨r53_,[],[]⟩,
 ⟨[(0,bb)],[],[]⟩,
 fun x=>qgu x⟩
theorem qrg:FO qk7:=fi [] [qiW] 6 [] .nil func50 ⟨⟨qoY,trivial⟩,trivial⟩
def qjF(n:Int)(most:Int):Option (Bool):=
 bif decide (0<=n) then(
 some (decide (n<=most)))
 else(
 some false)
def qrh:Fun:=
 ⟨103,2,1,
 ⟨r50_,[],[]⟩,
 ⟨[(0,bb)],[],[]⟩,
 fun x=>qjF x.1 x.2⟩
theorem qwk:FO qrh:=fi [] [] 12 [] .nil func103 ⟨trivial,trivial⟩
def qee(t:yB2)(v:Int):Option (Int⊕(Unit⊕Bool)):=
 bif decide (v<(t.2.2.2.2.2.length:Int)) then(
 Option.bind (α:=Bool) (
 gd (inB v t.2.2.2.2.2.length)<|
 bif decide (t.2.2.2.2.2.getD v.toNat 0<(-9007199254740992)) then(
 some true)
 else(
 gd (inB v t.2.2.2.2.2.length)<|
 some (decide (9007199254740992<t.2.2.2.2.2.getD v.toNat 0)))) fun s=>
 bif s then(
 some (.inr (.inr false)))
 else(
 some (.inl (wi64 (v+1)))))
 else(
 some (.inr (.inl ())))
def qhw(t:yB2):Option (Bool):=
 (iter (fun x=>qee t x) 0).bind fun s2=>
 s2.elim (fun s3=>
 (qjF t.1 255).bind fun r=>
 bif r then(
 (qjF t.2.1 255).bind fun r2=>
 bif r2 then(
 (qjF t.2.2.1 2147483648).bind fun r3=>
 bif r3 then(
 (qjF t.2.2.2.1 1099511627776).bind fun r4=>
 bif r4 then(
 (qjF t.2.2.2.2.1 63).bind fun r5=>
 bif r5 then(
 some (decide ((t.2.2.2.2.2.length:Int)<=16)))
 else(
 some false))
 else(
 some false))
 else(
 some false))
 else(
 some false))
 else(
 some false))
 (fun s4=>
 some s4)
def qmz:Fun:=
 ⟨51,1,1,
 ⟨[(0,dd tT3)],[],[]⟩,
 ⟨[(0,bb)],[],[]⟩,
 fun x=>qhw x⟩
theorem qr6:FO qmz:=fi [] [qrh] 54 [] ((nn (mm (nn (mm (.mk [] (some (⟨[(1,pt 32 0),(6,kk),(7,ii)],[(32,100,kp 6)],[]⟩,[⟨.x 0,⟨[(1,pt 32 0)],[(32,100,kp 6)],[]⟩⟩,⟨.r,⟨[(2,bb)],[],[]⟩⟩])) (nn (nn (mm (mm (nn (mm (.mk [.join [⟨.n,⟨[(1,pt 32 0),(6,kk),(7,kk),(23,bb)],[(32,100,kp 6)],[]⟩⟩]] none .nil .nil) .nil)) .nil) .nil))) .nil) .nil)) .nil))) func51 ⟨⟨qwk,trivial⟩,trivial⟩
def qh7(a:yB2)(b:yB2):Option (Bool):=
 bif decide (a.1=b.1) then(
 bif decide (a.2.1<b.2.1) then(
 some true)
 else(
 bif decide (a.2.1=b.2.1) then(
 some (decide (a.2.2.1<b.2.2.1)))
 else(
 some false)))
 else(
 some false)
def qk8:Fun:=
 ⟨104,2,1,
 ⟨[(0,dd tT3),(1,dd tT3)],[],[]⟩,
 ⟨[(0,bb)],[],[]⟩,
 fun x=>qh7 x.1 x.2⟩
theorem qri:FO qk8:=fi [] [] 31 [] .nil func104 ⟨trivial,trivial⟩
def qhx(t:yB2)(k:Int)(l2:List yB2):Option ((Int×List yB2)⊕(Int×List yB2)):=
 Option.bind (α:=Bool×List yB2) (
 bif decide (k<(l2.length:Int)) then(
 gd (inB k l2.length)<|
 some (decide ((l2.getD k.toNat (0,(0,(0,(0,(0,[])))))).1<t.1),l2))
 else(
 some (false,l2))) fun s=>
 bif s.1 then(
 some (.inl (wi64 (k+1),s.2)))
 else(
 some (.inr (k,s.2)))
def qgv(t:yB2)(l:List yB2):Option (Bool×List yB2):=
 (iter (fun x=>qhx t x.1 x.2) (0,l)).bind fun s2=>
 Option.bind (α:=Bool×List yB2) (
 bif decide (s2.1<(s2.2.length:Int)) then(
 gd (inB s2.1 s2.2.length)<|
 some (decide ((s2.2.getD s2.1.toNat (0,(0,(0,(0,(0,[])))))).1=t.1),s2.2))
 else(
 some (false,s2.2))) fun s3=>
 bif s3.1 then(
 gd (inB s2.1 s3.2.length)<|
 (qh7 (s3.2.getD s2.1.toNat (0,0,0,0,0,[])) (t.1,t.2.1,t.2.2.1,t.2.2.2.1,t.2.2.2.2.1,t.2.2.2.2.2)).bind fun r=>
 bif !r then(
 some (false,[]))
 else(
 gd (inB s2.1 s3.2.length)<|
 some (true,s3.2.set s2.1.toNat (t.1,(t.2.1,(t.2.2.1,(t.2.2.2.1,(t.2.2.2.2.1,t.2.2.2.2.2))))))))
 else(
 gd (cutG none (some (.i64,s2.1)) s3.2.length)<|
 gd (fits (0+(s3.2.take s2.1.toNat).length) 64)<|
 gd (fits (([]++(s3.2.take s2.1.toNat)).length+1) 64)<|
 gd (cutG (some (.i64,s2.1)) none s3.2.length)<|
 gd (fits ((([]++(s3.2.take s2.1.toNat))++[(t.1,t.2.1,t.2.2.1,t.2.2.2.1,t.2.2.2.2.1,t.2.2.2.2.2)]).length+(s3.2.drop s2.1.toNat).length) 64)<|
 some (true,(([]++(s3.2.take s2.1.toNat))++[(t.1,(t.2.1,(t.2.2.1,(t.2.2.2.1,(t.2.2.2.2.1,t.2.2.2.2.2)))))])++(s3.2.drop s2.1.toNat)))
def qk9:Fun:=
 ⟨52,2,2,
 ⟨[(0,ow 0),(1,dd tT3)],[],a117_⟩,
 ⟨[(0,ow 1),(1,bb)],[],[(1,.arr 100 tT3)]⟩,
 fun x=>qgv x.1 x.2⟩
theorem qrj:FO qk9:=fi [50] [qk8] 63 [] ((nn (nn (mm (mm (.mk [] (some (⟨[(0,ow 0),(3,pt 64 0),(6,ii)],[(64,100,kp 6)],a117_⟩,[⟨.x 0,⟨[(0,ow 0),(3,pt 64 0),(6,ii)],[(64,100,kp 6)],a117_⟩⟩])) (mm (mm (.mk [.join [⟨.n,⟨[(0,ow 0),(3,pt 64 0),(6,kk),(21,bb)],[(64,100,kp 6)],a117_⟩⟩]] none .nil .nil) .nil) .nil) .nil) .nil) (mm (mm (.mk [.join [⟨.n,⟨[(0,ow 0),(3,pt 64 0),(6,kk),(37,bb)],[(64,100,kp 6)],a117_⟩⟩]] none .nil .nil) .nil) (mm (.mk [.fz [0]] none .nil .nil) .nil)))))) func52 ⟨⟨qri,trivial⟩,trivial⟩
def qeX(v:Int×Int×Bool×Bool):Option (Bool):=
 bif decide (1<=v.1) then(
 bif decide (v.1<=60) then(
 bif decide (0<=v.2.1) then(
 some (decide (v.2.1<=v.1)))
 else(
 some false))
 else(
 some false))
 else(
 some false)
def qdi:Fun:=
 ⟨157,1,1,
 ⟨[(0,dd tT1)],[],[]⟩,
 ⟨[(0,bb)],[],[]⟩,
 fun x=>qeX x⟩
theorem qef:FO qdi:=fi [] [] 23 [] .nil func157 ⟨trivial,trivial⟩
def qhy(l:yB4)(i:Int):Option (Int⊕(Unit⊕Int)):=
 bif decide (i<(l.length:Int)) then(
 gd (inB i l.length)<|
 (qeX (l.getD i.toNat (0,0,false,false))).bind fun r2=>
 bif !r2 then(
 some (.inr (.inr 20)))
 else(
 some (.inl (wi64 (i+1)))))
 else(
 some (.inr (.inl ())))
def qh8(n:yB0)(l:yB4):Option (Int):=
 (qdN (n.1,n.2.1,n.2.2.1,n.2.2.2.1,n.2.2.2.2.1,n.2.2.2.2.2)).bind fun r=>
 bif !decide ((l.length:Int)=r) then(
 some 20)
 else(
 (iter (fun x=>qhy l x) 0).bind fun s=>
 s.elim (fun s2=>
 some 0)
 (fun s3=>
 some s3))
def qla:Fun:=
 ⟨148,2,1,
 ⟨[(0,dd tT0),(1,dd (.sl tT1))],[],[]⟩,
 ⟨[(0,ii)],[],[]⟩,
 fun x=>qh8 x.1 x.2⟩
theorem qrk:FO qla:=fi [] [qgI,qdi] 23 [] ((nn (nn (mm (nn (mm (.mk [] (some (⟨[(1,kk),(5,ii)],[],[]⟩,[⟨.x 0,⟨[],[],[]⟩⟩,⟨.r,⟨[(4,ii)],[],[]⟩⟩])) .nil .nil) .nil)) .nil)))) func148 ⟨⟨qke,qef,trivial⟩,trivial⟩
def qcG(p:yB6)(i:Int)(l:List Bool):Option ((Int×List Bool)⊕(List Bool)):=
 bif decide (i<(p.1.length:Int)) then(
 gd (inB i p.1.length)<|
 gd (fits (l.length+1) 1)<|
 some (.inl (wi64 (i+1),l++[(!decide (p.1.getD i.toNat 0=0))])))
 else(
 some (.inr l))
def qcH(p:yB6)(i2:Int)(l2:List Bool)(l3:List Bool):Option ((Int×List Bool×List Bool)⊕(List Bool×List Bool)):=
 bif decide (i2<(p.2.1.length:Int)) then(
 gd (inB i2 p.2.1.length)<|
 gd (fits (l3.length+1) 1)<|
 some (.inl (wi64 (i2+1),l2,l3++[(!decide (p.2.1.getD i2.toNat 0=0))])))
 else(
 some (.inr (l2,l3)))
def qfO(p:yB6):Option (List Bool×List Bool):=
 (iter (fun x=>qcG p x.1 x.2) (0,[])).bind fun s=>
 (iter (fun x2=>qcH p x2.1 x2.2.1 x2.2.2) (0,s,[])).bind fun s2=>
 some (s2.1,s2.2)
def qiC:Fun:=
 ⟨150,1,1,
 ⟨[(0,dd tT6)],[],[]⟩,
 ⟨[(0,.agg [.own 0,.own 1])],[],[(0,.arr 4 (.bool)),(1,.arr 4 (.bool))]⟩,
 fun x=>qfO x⟩
theorem qmA:FO qiC:=fi [] [] 43 [] ((nn (nn (mm (nn (mm (.mk [] (some (⟨[(1,pt 32 0),(2,pt 48 0),(3,pt 64 0),(4,ii)],v70_,[(1049,.arr 4 (.bool))]⟩,[⟨.x 0,⟨r41_,v70_,[(1049,.arr 4 (.bool))]⟩⟩])) .nil .nil) .nil)) (mm (nn (mm (.mk [] (some (⟨[(1,pt 32 0),(2,pt 48 0),(3,pt 64 0),(5,ii)],[(32,38,[.keep,.keep,.keep]),(48,168,[.keep,.keep]),(64,168,[.own 1049,.own 1065])],[(1049,.arr 4 (.bool)),(1065,.arr 4 (.bool))]⟩,[⟨.x 2,⟨r32_,[(48,168,[.keep,.keep]),(64,168,[.own 1049,.own 1065])],[(1049,.arr 4 (.bool)),(1065,.arr 4 (.bool))]⟩⟩])) .nil .nil) .nil)) .nil))))) func150 ⟨trivial,trivial⟩
def qiX(l:List Bool×List Bool):Option (List Bool):=
 gd (fits (0+l.1.length) 1)<|
 gd (fits (([]++l.1).length+l.2.length) 1)<|
 some (([]++l.1)++l.2)
def qlb:Fun:=
 ⟨149,1,1,
 ⟨[(0,dd (.pair (.sl (.bool)) (.sl (.bool))))],[],[]⟩,
 ⟨[(0,ow 0)],[],a139_⟩,
 fun x=>qiX x⟩
theorem qpx:FO qlb:=fi [3] [] 10 [] .nil func149 ⟨trivial,trivial⟩
def qiY(v:Int×Int×Bool×Bool):Option (Bool):=
 (qeX (v.1,v.2.1,v.2.2.1,v.2.2.2)).bind fun r=>
 bif r then(
 some (decide (v.2.1=v.1)))
 else(
 some false)
def qjG:Fun:=
 ⟨151,1,1,
 ⟨[(0,dd tT1)],[],[]⟩,
 ⟨[(0,bb)],[],[]⟩,
 fun x=>qiY x⟩
theorem qnX:FO qjG:=fi [] [qdi] 12 [] .nil func151 ⟨⟨qef,trivial⟩,trivial⟩
def qg3(n:yB0)(p:yB6)(node:Int):Option (Int×Int):=
 (qeW (n.1,n.2.1,n.2.2.1,n.2.2.2.1,n.2.2.2.2.1,n.2.2.2.2.2) (p.1,p.2.1,p.2.2)).bind fun r=>
 bif !decide (r=0) then(
 some (0,r))
 else(
 Option.bind (α:=Bool) (
 bif decide (node<0) then(
 some true)
 else(
 some (decide ((n.1.length:Int)<=node)))) fun s=>
 bif s then(
 some (0,8))
 else(
 (qiT (n.1,n.2.1,n.2.2.1,n.2.2.2.1,n.2.2.2.2.1,n.2.2.2.2.2) (p.1,p.2.1,p.2.2) node).bind fun r2=>
 some (r2.1,0)))
def qkj:Fun:=
 ⟨195,3,2,
 ⟨r100_,[],[]⟩,
 ⟨r50_,[],[]⟩,
 fun x=>qg3 x.1 x.2.1 x.2.2⟩
theorem qpR:FO qkj:=fi [] [qed,qjA] 34 [] ((nn (nn (mm (mm (.mk [.join [⟨.n,⟨[(2,kk),(3,pt 64 0),(4,pt 80 0),(25,bb)],v28_,[]⟩⟩]] none .nil .nil) .nil) .nil)))) func195 ⟨⟨qgb,qnT,trivial⟩,trivial⟩
def qlc(n:yB0)(p:yB6)(i:Int):Option (Int⊕(Unit⊕Bool)):=
 bif decide (i<(n.2.2.2.1.length:Int)) then(
 gd (inB i p.2.2.length)<|
 Option.bind (α:=Unit⊕Bool) (
 bif p.2.2.getD i.toNat false then(
 gd (inB i n.2.2.2.1.length)<|
 (qg3 (n.1,n.2.1,n.2.2.1,n.2.2.2.1,n.2.2.2.2.1,n.2.2.2.2.2) (p.1,p.2.1,p.2.2) (((n.2.2.2.1.getD i.toNat ([],0,0,0,0)).2).1)).bind fun r=>
 Option.bind (α:=Bool) (
 bif !decide (r.2=0) then(
 some true)
 else(
 some (decide (r.1=0)))) fun s=>
 bif s then(
 some (.inr false))
 else(
 some (.inl ())))
 else(
 some (.inl ()))) fun s2=>
 s2.elim (fun s3=>
 some (.inl (wi64 (i+1))))
 (fun s4=>
 some (.inr (.inr s4))))
 else(
 some (.inr (.inl ())))
def qiZ(n:yB0)(p:yB6):Option (Bool):=
 (iter (fun x=>qlc n p x) 0).bind fun s5=>
 s5.elim (fun s6=>
 some true)
 (fun s7=>
 some s7)
def qh9:Fun:=
 ⟨152,2,1,
 ⟨r51_,[],[]⟩,
 ⟨[(0,bb)],[],[]⟩,
 fun x=>qiZ x.1 x.2⟩
theorem qld:FO qh9:=fi [] [qkj] 38 [] ((nn (mm (nn (mm (.mk [] (some (⟨r119_,v0_,[]⟩,[⟨.x 0,⟨[],[],[]⟩⟩,⟨.r,⟨[(4,bb)],[],[]⟩⟩])) (nn (mm (mm (nn (.mk [.join [⟨.n,⟨[(2,pt 48 0),(3,pt 64 0),(5,kk)],v0_,[]⟩⟩,⟨.r,⟨[(4,bb)],[],[]⟩⟩]] none (nn (mm (.mk [.join [⟨.n,⟨[(2,pt 48 0),(3,pt 64 0),(5,kk),(37,bb)],v0_,[]⟩⟩]] none .nil .nil) .nil)) .nil)) .nil) .nil)) .nil) .nil)) .nil))) func152 ⟨⟨qpR,trivial⟩,trivial⟩
def qbH(d:yB3)(i:Int)(need:List Bool):Option ((Int×List Bool)⊕(Unit⊕Int)):=
 bif decide (i<(need.length:Int)) then(
 Option.bind (α:=Bool×List Bool) (
 gd (inB i need.length)<|
 bif need.getD i.toNat false then(
 gd (inB i d.1.length)<|
 (qiY (d.1.getD i.toNat (0,0,false,false))).bind fun r6=>
 bif !r6 then(
 some (true,need))
 else(
 gd (inB i d.1.length)<|
 some ((!((((d.1.getD i.toNat (0,(0,(false,false)))).2).2).1)),need)))
 else(
 some (false,need))) fun s=>
 bif s.1 then(
 some (.inr (.inr 21)))
 else(
 some (.inl (wi64 (i+1),s.2))))
 else(
 some (.inr (.inl ())))
def qjH(n:yB0)(d:yB3):Option (Int):=
 (qeV (n.1,n.2.1,n.2.2.1,n.2.2.2.1,n.2.2.2.2.1,n.2.2.2.2.2)).bind fun r=>
 bif !decide (r=0) then(
 some r)
 else(
 (qh8 (n.1,n.2.1,n.2.2.1,n.2.2.2.1,n.2.2.2.2.1,n.2.2.2.2.2) d.1).bind fun r2=>
 bif !decide (r2=0) then(
 some r2)
 else(
 (qeW (n.1,n.2.1,n.2.2.1,n.2.2.2.1,n.2.2.2.2.1,n.2.2.2.2.2) (d.2.1,d.2.2.1,d.2.2.2)).bind fun r3=>
 bif !decide (r3=0) then(
 some r3)
 else(
 (qfO (d.2.1,d.2.2.1,d.2.2.2)).bind fun r4=>
 (qiX (r4.1,r4.2)).bind fun r5=>
 (iter (fun x=>qbH d x.1 x.2) (0,r5)).bind fun s2=>
 s2.elim (fun s3=>
 (qiZ (n.1,n.2.1,n.2.2.1,n.2.2.2.1,n.2.2.2.2.1,n.2.2.2.2.2) (d.2.1,d.2.2.1,d.2.2.2)).bind fun r7=>
 bif !r7 then(
 some 21)
 else(
 some 0))
 (fun s4=>
 some s4))))
def qmB:Fun:=
 ⟨105,2,1,
 ⟨[(0,dd tT0),(1,dd (.pair (.sl tT1) tT6))],[],[]⟩,
 ⟨[(0,ii)],[],[]⟩,
 fun x=>qjH x.1 x.2⟩
theorem qr7:FO qmB:=fi [] [qec,qla,qed,qiC,qlb,qjG,qh9] 66 [] ((nn (nn (nn (nn (nn (mm (nn (mm (.mk [] (some (⟨[(2,pt 48 0),(3,pt 64 0),(8,ow 528),(9,ii)],v42_,[(528,.arr 4 (.bool))]⟩,[⟨.x 0,⟨r32_,v42_,[]⟩⟩,⟨.r,⟨[(4,ii)],[],[]⟩⟩])) (nn (mm (mm (mm (.mk [.join [⟨.n,⟨[(2,pt 48 0),(3,pt 64 0),(8,ow 528),(9,kk),(60,bb)],v42_,[(528,.arr 4 (.bool))]⟩⟩]] none .nil .nil) .nil) .nil) .nil)) .nil) .nil)) .nil))))))) func105 ⟨⟨qf6,qrk,qgb,qmA,qpx,qnX,qld,trivial⟩,trivial⟩
def qlW(p:yB7):Option (Bool):=
 bif decide (p.1=0) then(
 bif decide (p.2.1=0) then(
 bif decide ((p.2.2.1.length:Int)=0) then(
 some (decide (p.2.2.2=0)))
 else(
 some false))
 else(
 some false))
 else(
 some false)
def qnY:Fun:=
 ⟨153,1,1,
 ⟨[(0,dd tT4)],[],[]⟩,
 ⟨[(0,bb)],[],[]⟩,
 fun x=>qlW x⟩
theorem qtu:FO qnY:=fi [] [] 22 [] .nil func153 ⟨trivial,trivial⟩
def qia(s:yB5):Option (Bool):=
 Option.bind (α:=Bool) (
 bif decide (s.1=1) then(
 some (decide (s.1=1)))
 else(
 Option.bind (α:=Bool) (
 bif decide (s.1=2) then(
 some (decide (s.1=2)))
 else(
 Option.bind (α:=Bool) (
 bif decide (s.1=3) then(
 some (decide (s.1=3)))
 else(
 some (decide (s.1=4)))) fun s2=>
 some s2)) fun s3=>
 some s3)) fun s4=>
 bif s4 then(
 bif decide (s.2.2.1=0) then(
 (qlW (s.2.2.2.1,s.2.2.2.2.1,s.2.2.2.2.2.1,s.2.2.2.2.2.2)).bind fun r=>
 some r)
 else(
 some false))
 else(
 bif decide (s.1=5) then(
 bif decide (s.2.1=0) then(
 some (decide (s.2.2.2.2.2.2=0)))
 else(
 some false))
 else(
 bif decide (s.1=6) then(
 bif decide (s.2.1=0) then(
 (qlW (s.2.2.2.1,s.2.2.2.2.1,s.2.2.2.2.2.1,s.2.2.2.2.2.2)).bind fun r2=>
 some r2)
 else(
 some false))
 else(
 some false)))
def qle:Fun:=
 ⟨106,1,1,
 ⟨r53_,[],[]⟩,
 ⟨[(0,bb)],[],[]⟩,
 fun x=>qia x⟩
theorem qrl:FO qle:=fi [] [qnY] 39 [] ((nn (mm (nn (mm (mm (nn (.mk [.join [⟨.n,⟨r84_,[(32,57,kp 7)],[]⟩⟩]] none .nil (nn (.mk [.join [⟨.n,⟨r84_,[(32,57,kp 7)],[]⟩⟩]] none .nil (nn (.mk [.join [⟨.n,⟨r84_,[(32,57,kp 7)],[]⟩⟩]] none .nil .nil)))))) .nil) .nil)) .nil))) func106 ⟨⟨qtu,trivial⟩,trivial⟩
def qjI(v:Int×Int×Bool×Bool)(vopen:Bool):Option ((Int×Int×Bool×Bool)×Int):=
 (qeX (v.1,v.2.1,v.2.2.1,v.2.2.2)).bind fun r=>
 bif !r then(
 some ((v.1,(v.2.1,(v.2.2.1,v.2.2.2))),20))
 else(
 some ((v.1,(v.2.1,(vopen,v.2.2.2))),0))
def qkk:Fun:=
 ⟨154,2,2,
 ⟨[(0,dd tT1),(1,bb)],[],[]⟩,
 ⟨r72_,[],[]⟩,
 fun x=>qjI x.1 x.2⟩
theorem qpS:FO qkk:=fi [] [qdi] 13 [] .nil func154 ⟨⟨qef,trivial⟩,trivial⟩
def qlX(d:yB3)(s:yB5):Option (yB3×Int):=
 Option.bind (α:=Bool) (
 bif decide (s.2.1<0) then(
 some true)
 else(
 some (decide ((d.1.length:Int)<=s.2.1)))) fun s2=>
 bif s2 then(
 some ((d.1,(d.2.1,(d.2.2.1,d.2.2.2))),8))
 else(
 Option.bind (α:=Bool) (
 bif decide (s.1=2) then(
 (qfO (d.2.1,d.2.2.1,d.2.2.2)).bind fun r=>
 (qiX (r.1,r.2)).bind fun r2=>
 gd (inB s.2.1 r2.length)<|
 some (r2.getD s.2.1.toNat false))
 else(
 some false)) fun s3=>
 bif s3 then(
 some ((d.1,(d.2.1,(d.2.2.1,d.2.2.2))),22))
 else(
 (qdP (d.1,d.2.1,d.2.2.1,d.2.2.2)).bind fun r3=>
 gd (inB s.2.1 r3.1.length)<|
 (qjI (r3.1.getD s.2.1.toNat (0,0,false,false)) (decide (s.1=1))).bind fun r4=>
 gd (inB s.2.1 r3.1.length)<|
 some ((r3.1.set s.2.1.toNat r4.1,(r3.2.1,(r3.2.2.1,r3.2.2.2))),0)))
def qnZ:Fun:=
 ⟨107,2,2,
 ⟨[(0,dd (.pair (.sl tT1) tT6)),(1,dd (.pair I6 (.pair I6 (.pair I6 tT4))))],[],[]⟩,
 ⟨r48_,[],[]⟩,
 fun x=>qlX x.1 x.2⟩
theorem qtv:FO qnZ:=fi [] [qiC,qlb,qdQ,qkk] 54 [] ((nn (mm (mm (.mk [.join [⟨.n,⟨[(2,pt 48 0),(3,pt 64 0),(4,pt 80 0),(17,bb)],v124_,[]⟩⟩]] none .nil .nil) .nil) (mm (mm (.mk [.join [⟨.n,⟨[(2,pt 48 0),(3,pt 64 0),(4,pt 80 0),(31,bb)],v124_,[]⟩⟩]] none .nil .nil) .nil) .nil)))) func107 ⟨⟨qmA,qpx,qfi,qpS,trivial⟩,trivial⟩
def qlY(n:yB0)(d:yB3)(s:yB5):Option (yB3×Int):=
 Option.bind (α:=Bool) (
 bif decide (s.2.1<0) then(
 some true)
 else(
 some (decide ((n.2.2.2.1.length:Int)<=s.2.1)))) fun s2=>
 bif s2 then(
 some ((d.1,(d.2.1,(d.2.2.1,d.2.2.2))),8))
 else(
 (qdP (d.1,d.2.1,d.2.2.1,d.2.2.2)).bind fun r=>
 gd (inB s.2.1 r.2.2.2.length)<|
 (qiZ (n.1,n.2.1,n.2.2.1,n.2.2.2.1,n.2.2.2.2.1,n.2.2.2.2.2) (r.2.1,r.2.2.1,r.2.2.2.set s.2.1.toNat (decide (s.1=3)))).bind fun r2=>
 bif !r2 then(
 some ((d.1,(d.2.1,(d.2.2.1,d.2.2.2))),22))
 else(
 some ((r.1,(r.2.1,(r.2.2.1,r.2.2.2.set s.2.1.toNat (decide (s.1=3))))),0)))
def qn0:Fun:=
 ⟨108,3,2,
 ⟨r26_,[],[]⟩,
 ⟨r48_,[],[]⟩,
 fun x=>qlY x.1 x.2.1 x.2.2⟩
theorem qtw:FO qn0:=fi [] [qdQ,qh9] 39 [] ((nn (mm (mm (.mk [.join [⟨.n,⟨[(3,pt 64 0),(4,pt 80 0),(5,pt 96 0),(6,pt 112 0),(19,bb)],v35_,[]⟩⟩]] none .nil .nil) .nil) .nil))) func108 ⟨⟨qfi,qld,trivial⟩,trivial⟩
def qbI(r:Int×Int)(k:Int)(seen2:List Int):Option ((Int×List Int)⊕((List Int)⊕Bool)):=
 bif decide (k<(seen2.length:Int)) then(
 gd (inB k seen2.length)<|
 bif decide (seen2.getD k.toNat 0=r.2) then(
 some (.inr (.inr false)))
 else(
 some (.inl (wi64 (k+1),seen2))))
 else(
 some (.inr (.inl seen2)))
def qcI(n:yB0)(p:yB7)(vat:Int)(i:Int)(seen:List Int):Option ((Int×Int×List Int)⊕(Int⊕Bool)):=
 bif decide (i<(p.2.2.1.length:Int)) then(
 Option.bind (α:=Bool×List Int) (
 gd (inB i p.2.2.1.length)<|
 bif decide ((p.2.2.1.getD i.toNat (0,false)).1<0) then(
 some (true,seen))
 else(
 gd (inB i p.2.2.1.length)<|
 some (decide ((n.2.1.length:Int)<=(p.2.2.1.getD i.toNat (0,false)).1),seen))) fun s2=>
 bif s2.1 then(
 some (.inr (.inr false)))
 else(
 gd (inB i p.2.2.1.length)<|
 (qlU (n.1,n.2.1,n.2.2.1,n.2.2.2.1,n.2.2.2.2.1,n.2.2.2.2.2) (p.2.2.1.getD i.toNat (0,false))).bind fun r=>
 bif !decide (r.1=vat) then(
 some (.inr (.inr false)))
 else(
 (iter (fun x=>qbI r x.1 x.2) (0,s2.2)).bind fun s3=>
 s3.elim (fun s4=>
 gd (fits (s4.length+1) 8)<|
 some (.inl (r.2,wi64 (i+1),s4++[r.2])))
 (fun s5=>
 some (.inr (.inr s5))))))
 else(
 some (.inr (.inl vat)))
def qjJ(n:yB0)(p:yB7):Option (Bool):=
 Option.bind (α:=Bool) (
 bif decide (p.1<0) then(
 some true)
 else(
 bif decide ((n.2.2.1.length:Int)<=p.1) then(
 some true)
 else(
 bif decide (p.2.1<0) then(
 some true)
 else(
 bif decide ((n.2.2.1.length:Int)<=p.2.1) then(
 some true)
 else(
 bif decide (p.1=p.2.1) then(
 some true)
 else(
 bif decide (p.2.2.2<1) then(
 some true)
 else(
 bif decide (1000<p.2.2.2) then(
 some true)
 else(
 some (decide (32<(p.2.2.1.length:Int))))))))))) fun s=>
 bif s then(
 some false)
 else(
 gd (inB p.1 n.2.2.1.length)<|
 (iter (fun x2=>qcI n p x2.1 x2.2.1 x2.2.2) (((n.2.2.1.getD p.1.toNat ([],0,0)).2).1,0,[((n.2.2.1.getD p.1.toNat ([],0,0)).2).1])).bind fun s6=>
 s6.elim (fun s7=>
 gd (inB p.2.1 n.2.2.1.length)<|
 some (decide (s7=((n.2.2.1.getD p.2.1.toNat ([],(0,0))).2).1)))
 (fun s8=>
 some s8))
def qmC:Fun:=
 ⟨196,2,1,
 ⟨r129_,[],[]⟩,
 ⟨[(0,bb)],[],[]⟩,
 fun x=>qjJ x.1 x.2⟩
theorem qr8:FO qmC:=fi [66] [qjC] 132 [] ((nn (mm (mm (.mk [.join [⟨.n,⟨[(2,pt 48 0),(3,pt 64 0),(57,bb)],v57_,[]⟩⟩]] none .nil .nil) .nil) (nn (nn (mm (nn (mm (.mk [] (some (⟨[(2,pt 48 0),(3,pt 64 0),(5,ii),(6,ow 123),(7,ii)],v57_,[(123,.arr 3 I6)]⟩,[⟨.x 0,⟨r119_,v57_,[]⟩⟩,⟨.r,⟨[(4,bb)],[],[]⟩⟩])) (nn (mm (mm (mm (mm (.mk [.join [⟨.n,⟨[(2,pt 48 0),(3,pt 64 0),(5,kk),(6,ow 123),(7,kk),(92,bb)],v57_,[(123,.arr 3 I6)]⟩⟩]] none .nil .nil) .nil) (nn (nn (mm (nn (mm (.mk [] (some (⟨[(2,pt 48 0),(3,pt 64 0),(6,ow 123),(7,kk),(9,kk),(10,ii)],v57_,[(123,.arr 3 I6)]⟩,[⟨.x 2,⟨[(2,pt 48 0),(3,pt 64 0),(6,ow 123),(7,kk),(9,kk)],v57_,[(123,.arr 3 I6)]⟩⟩,⟨.r,⟨[(4,bb)],[],[]⟩⟩])) .nil .nil) .nil)) .nil)))) .nil) .nil)) .nil) .nil)) .nil)))))) func196 ⟨⟨qnU,trivial⟩,trivial⟩
def qjK(n:yB0)(p:yB7):Option (Bool):=
 (qeV (n.1,n.2.1,n.2.2.1,n.2.2.2.1,n.2.2.2.2.1,n.2.2.2.2.2)).bind fun r=>
 bif decide (r=0) then(
 (qjJ (n.1,n.2.1,n.2.2.1,n.2.2.2.1,n.2.2.2.2.1,n.2.2.2.2.2) (p.1,p.2.1,p.2.2.1,p.2.2.2)).bind fun r2=>
 some r2)
 else(
 some false)
def qmD:Fun:=
 ⟨155,2,1,
 ⟨r129_,[],[]⟩,
 ⟨[(0,bb)],[],[]⟩,
 fun x=>qjK x.1 x.2⟩
theorem qr9:FO qmD:=fi [] [qec,qmC] 13 [] .nil func155 ⟨⟨qf6,qr8,trivial⟩,trivial⟩
def qcJ(p:yB7)(i:Int)(l:List Int):Option ((Int×List Int)⊕(List Int)):=
 bif decide (i<(p.2.2.1.length:Int)) then(
 gd (inB i p.2.2.1.length)<|
 gd (fits (l.length+1) 8)<|
 some (.inl (wi64 (i+1),l++[(p.2.2.1.getD i.toNat (0,false)).1])))
 else(
 some (.inr l))
def qbJ(d:yB3)(i2:Int)(l2:List Int):Option ((Int×List Int)⊕(Unit⊕Bool)):=
 bif decide (i2<(l2.length:Int)) then(
 Option.bind (α:=Bool×List Int) (
 gd (inB i2 l2.length)<|
 gd (inB (l2.getD i2.toNat 0) d.1.length)<|
 (qiY (d.1.getD (l2.getD i2.toNat 0).toNat (0,0,false,false))).bind fun r=>
 bif !r then(
 some (true,l2))
 else(
 gd (inB i2 l2.length)<|
 gd (inB (l2.getD i2.toNat 0) d.1.length)<|
 some ((!((((d.1.getD (l2.getD i2.toNat 0).toNat (0,(0,(false,false)))).2).2).1)),l2))) fun s2=>
 bif s2.1 then(
 some (.inr (.inr false)))
 else(
 some (.inl (wi64 (i2+1),s2.2))))
 else(
 some (.inr (.inl ())))
def qjL(n:yB0)(d:yB3)(p:yB7):Option (Bool):=
 (iter (fun x=>qcJ p x.1 x.2) (0,[wi64 ((n.2.1.length:Int)+p.1),wi64 ((n.2.1.length:Int)+p.2.1)])).bind fun s=>
 (iter (fun x2=>qbJ d x2.1 x2.2) (0,s)).bind fun s3=>
 s3.elim (fun s4=>
 some true)
 (fun s5=>
 some s5)
def qmE:Fun:=
 ⟨156,3,1,
 ⟨[(0,dd tT0),(1,dd (.pair (.sl tT1) tT6)),(2,dd tT4)],[],[]⟩,
 ⟨[(0,bb)],[],[]⟩,
 fun x=>qjL x.1 x.2.1 x.2.2⟩
theorem qsa:FO qmE:=fi [22] [qjG] 67 [] ((nn (nn (mm (nn (mm (.mk [] (some (⟨[(4,pt 80 0),(5,pt 96 0),(7,ow 139),(8,ii)],[(80,40,kp 4),(96,55,kp 4)],a106_⟩,[⟨.x 0,⟨[(4,pt 80 0),(7,ow 139)],[(80,40,kp 4)],a106_⟩⟩])) .nil .nil) .nil)) (mm (nn (mm (.mk [] (some (⟨[(4,pt 80 0),(7,ow 139),(9,ii)],[(80,40,kp 4)],a106_⟩,[⟨.x 2,⟨[],[],[]⟩⟩,⟨.r,⟨[(6,bb)],[],[]⟩⟩])) (nn (mm (mm (mm (.mk [.join [⟨.n,⟨[(4,pt 80 0),(7,ow 139),(9,kk),(66,bb)],[(80,40,kp 4)],a106_⟩⟩]] none .nil .nil) .nil) .nil) .nil)) .nil) .nil)) .nil))))) func156 ⟨⟨qnX,trivial⟩,trivial⟩
def qb2(d:yB3)(s:yB5)(i:Int)(v:yB4)(v2:List Int)(v3:List Int)(v4:List Bool)(p:List (Int×Bool))(x:yB4)(x2:List Int)(x3:List Int)(x4:List Bool):Option ((Int×yB4×List Int×List Int×List Bool×(List (Int×Bool))×yB4×List Int×List Int×List Bool)⊕((yB4×List Int×List Int×List Bool×yB4×List Int×List Int×List Bool)⊕yB8)):=
 bif decide (i<(p.length:Int)) then(
 gd (inB i p.length)<|
 Option.bind (α:=Int×(List (Int×Bool))×yB4×List Int×List Int×List Bool) (
 bif (p.getD i.toNat (0,false)).2 then(
 some ((-1),p,x,x2,x3,x4))
 else(
 some (1,p,x,x2,x3,x4))) fun s4=>
 gd (inB ((p.getD i.toNat (0,false)).1) d.2.1.length)<|
 Option.bind (α:=Bool×(List (Int×Bool))×yB4×List Int×List Int×List Bool) (
 bif decide (wi64 (s4.1*(d.2.1.getD ((p.getD i.toNat (0,false)).1).toNat 0))<0) then(
 some (true,s4.2.1,s4.2.2.1,s4.2.2.2.1,s4.2.2.2.2.1,s4.2.2.2.2.2))
 else(
 some (decide (wi64 ((wi64 (s4.1*(d.2.1.getD ((p.getD i.toNat (0,false)).1).toNat 0)))+s.2.2.1)<0),s4.2.1,s4.2.2.1,s4.2.2.2.1,s4.2.2.2.2.1,s4.2.2.2.2.2))) fun s5=>
 bif s5.1 then(
 some (.inr (.inr (22,d.1,d.2.1,d.2.2.1,d.2.2.2))))
 else(
 gd (inB ((p.getD i.toNat (0,false)).1) s5.2.2.2.1.length)<|
 some (.inl (wi64 (i+1),v,v2,v3,v4,s5.2.1,s5.2.2.1,s5.2.2.2.1.set (((p.getD i.toNat (0,false)).1).toNat) (wi64 (s4.1*(wi64 ((wi64 (s4.1*(d.2.1.getD ((p.getD i.toNat (0,false)).1).toNat 0)))+s.2.2.1)))),s5.2.2.2.2.1,s5.2.2.2.2.2))))
 else(
 some (.inr (.inl (v,v2,v3,v4,x,x2,x3,x4))))
def qlZ(n:yB0)(d:yB3)(s:yB5):Option (yB3×Int):=
 Option.bind (α:=Bool) (
 bif decide (s.2.2.1<(-1000)) then(
 some true)
 else(
 some (decide (1000<s.2.2.1)))) fun s2=>
 bif s2 then(
 some ((d.1,(d.2.1,(d.2.2.1,d.2.2.2))),23))
 else(
 (qiU (s.2.2.2.1,s.2.2.2.2.1,s.2.2.2.2.2.1,s.2.2.2.2.2.2)).bind fun r=>
 (qjK (n.1,n.2.1,n.2.2.1,n.2.2.2.1,n.2.2.2.2.1,n.2.2.2.2.2) (r.1,r.2.1,r.2.2.2,max s.2.2.1 (wi64 (0-s.2.2.1)))).bind fun r2=>
 bif !r2 then(
 some ((d.1,(d.2.1,(d.2.2.1,d.2.2.2))),23))
 else(
 (qdP (d.1,d.2.1,d.2.2.1,d.2.2.2)).bind fun r3=>
 (qjL (n.1,n.2.1,n.2.2.1,n.2.2.2.1,n.2.2.2.2.1,n.2.2.2.2.2) (r3.1,r3.2.1,r3.2.2.1,r3.2.2.2) (r.1,r.2.1,r.2.2.2,max s.2.2.1 (wi64 (0-s.2.2.1)))).bind fun r4=>
 bif !r4 then(
 some ((d.1,(d.2.1,(d.2.2.1,d.2.2.2))),22))
 else(
 gd (inB r.1 r3.2.2.1.length)<|
 gd (inB r.1 r3.2.2.1.length)<|
 gd (inB r.2.1 (r3.2.2.1.set r.1.toNat (wi64 ((r3.2.2.1.getD r.1.toNat 0)+s.2.2.1))).length)<|
 gd (inB r.2.1 (r3.2.2.1.set r.1.toNat (wi64 ((r3.2.2.1.getD r.1.toNat 0)+s.2.2.1))).length)<|
 Option.bind (α:=Bool×(List (Int×Bool))×yB4×List Int×List Int×List Bool) (
 gd (inB r.1 ((r3.2.2.1.set r.1.toNat (wi64 ((r3.2.2.1.getD r.1.toNat 0)+s.2.2.1))).set r.2.1.toNat (wi64 (((r3.2.2.1.set r.1.toNat (wi64 ((r3.2.2.1.getD r.1.toNat 0)+s.2.2.1))).getD r.2.1.toNat 0)-s.2.2.1))).length)<|
 bif decide (((r3.2.2.1.set r.1.toNat (wi64 ((r3.2.2.1.getD r.1.toNat 0)+s.2.2.1))).set r.2.1.toNat (wi64 (((r3.2.2.1.set r.1.toNat (wi64 ((r3.2.2.1.getD r.1.toNat 0)+s.2.2.1))).getD r.2.1.toNat 0)-s.2.2.1))).getD r.1.toNat 0<0) then(
 some (true,r.2.2.2,r3.1,r3.2.1,(r3.2.2.1.set r.1.toNat (wi64 ((r3.2.2.1.getD r.1.toNat 0)+s.2.2.1))).set r.2.1.toNat (wi64 (((r3.2.2.1.set r.1.toNat (wi64 ((r3.2.2.1.getD r.1.toNat 0)+s.2.2.1))).getD r.2.1.toNat 0)-s.2.2.1)),r3.2.2.2))
 else(
 gd (inB r.2.1 ((r3.2.2.1.set r.1.toNat (wi64 ((r3.2.2.1.getD r.1.toNat 0)+s.2.2.1))).set r.2.1.toNat (wi64 (((r3.2.2.1.set r.1.toNat (wi64 ((r3.2.2.1.getD r.1.toNat 0)+s.2.2.1))).getD r.2.1.toNat 0)-s.2.2.1))).length)<|
 bif decide (0<((r3.2.2.1.set r.1.toNat (wi64 ((r3.2.2.1.getD r.1.toNat 0)+s.2.2.1))).set r.2.1.toNat (wi64 (((r3.2.2.1.set r.1.toNat (wi64 ((r3.2.2.1.getD r.1.toNat 0)+s.2.2.1))).getD r.2.1.toNat 0)-s.2.2.1))).getD r.2.1.toNat 0) then(
 some (true,r.2.2.2,r3.1,r3.2.1,(r3.2.2.1.set r.1.toNat (wi64 ((r3.2.2.1.getD r.1.toNat 0)+s.2.2.1))).set r.2.1.toNat (wi64 (((r3.2.2.1.set r.1.toNat (wi64 ((r3.2.2.1.getD r.1.toNat 0)+s.2.2.1))).getD r.2.1.toNat 0)-s.2.2.1)),r3.2.2.2))
 else(
 gd (inB r.1 d.2.2.1.length)<|
 bif decide (d.2.2.1.getD r.1.toNat 0<0) then(
 some (true,r.2.2.2,r3.1,r3.2.1,(r3.2.2.1.set r.1.toNat (wi64 ((r3.2.2.1.getD r.1.toNat 0)+s.2.2.1))).set r.2.1.toNat (wi64 (((r3.2.2.1.set r.1.toNat (wi64 ((r3.2.2.1.getD r.1.toNat 0)+s.2.2.1))).getD r.2.1.toNat 0)-s.2.2.1)),r3.2.2.2))
 else(
 gd (inB r.2.1 d.2.2.1.length)<|
 some (decide (0<d.2.2.1.getD r.2.1.toNat 0),r.2.2.2,r3.1,r3.2.1,(r3.2.2.1.set r.1.toNat (wi64 ((r3.2.2.1.getD r.1.toNat 0)+s.2.2.1))).set r.2.1.toNat (wi64 (((r3.2.2.1.set r.1.toNat (wi64 ((r3.2.2.1.getD r.1.toNat 0)+s.2.2.1))).getD r.2.1.toNat 0)-s.2.2.1)),r3.2.2.2))))) fun s3=>
 bif s3.1 then(
 some ((d.1,(d.2.1,(d.2.2.1,d.2.2.2))),22))
 else(
 (iter (fun x5=>qb2 d s x5.1 x5.2.1 x5.2.2.1 x5.2.2.2.1 x5.2.2.2.2.1 x5.2.2.2.2.2.1 x5.2.2.2.2.2.2.1 x5.2.2.2.2.2.2.2.1 x5.2.2.2.2.2.2.2.2.1 x5.2.2.2.2.2.2.2.2.2) (0,[],[],[],[],s3.2.1,s3.2.2.1,s3.2.2.2.1,s3.2.2.2.2.1,s3.2.2.2.2.2)).bind fun s6=>
 s6.elim (fun s7=>
 (qeW (n.1,n.2.1,n.2.2.1,n.2.2.2.1,n.2.2.2.2.1,n.2.2.2.2.2) (s7.2.2.2.2.2.1,s7.2.2.2.2.2.2.1,s7.2.2.2.2.2.2.2)).bind fun r5=>
 bif !decide (r5=0) then(
 some ((d.1,(d.2.1,(d.2.2.1,d.2.2.2))),r5))
 else(
 (qiZ (n.1,n.2.1,n.2.2.1,n.2.2.2.1,n.2.2.2.2.1,n.2.2.2.2.2) (s7.2.2.2.2.2.1,s7.2.2.2.2.2.2.1,s7.2.2.2.2.2.2.2)).bind fun r6=>
 bif !r6 then(
 some ((d.1,(d.2.1,(d.2.2.1,d.2.2.2))),22))
 else(
 some ((s7.2.2.2.2.1,(s7.2.2.2.2.2.1,(s7.2.2.2.2.2.2.1,s7.2.2.2.2.2.2.2))),0))))
 (fun s8=>
 some ((s8.2.1,(s8.2.2.1,(s8.2.2.2.1,s8.2.2.2.2))),s8.1))))))
def qn1:Fun:=
 ⟨109,3,2,
 ⟨r26_,[],[]⟩,
 ⟨r48_,[],[]⟩,
 fun x=>qlZ x.1 x.2.1 x.2.2⟩
theorem qtx:FO qn1:=fi [] [qjD,qmD,qdQ,qmE,qed,qh9] 178 [] ((nn (mm (mm (.mk [.join [⟨.n,⟨[(3,pt 64 0),(4,pt 80 0),(5,pt 96 0),(6,pt 112 0),(22,bb)],v35_,[]⟩⟩]] none .nil .nil) .nil) (nn (nn (nn (nn (nn (nn (nn (mm (mm (.mk [.join [⟨.n,⟨[(3,pt 64 0),(4,pt 80 0),(5,pt 96 0),(6,pt 112 0),(8,pt 144 0),(9,pt 160 0),(116,bb)],[(64,33,kp 6),(80,40,kp 4),(96,57,kp 7),(112,40,kp 4),(144,55,[.keep,.keep,.own 432,.keep]),(160,40,[.own 656,.own 657,.own 658,.own 659])],a12_⟩⟩]] none .nil .nil) .nil) (mm (nn (mm (.mk [] (some (⟨[(3,pt 64 0),(4,pt 80 0),(5,pt 96 0),(6,pt 112 0),(8,pt 144 0),(9,pt 160 0),(10,ii)],[(64,33,kp 6),(80,40,kp 4),(96,57,kp 7),(112,40,[.data (.sl tT1),.data (.sl I6),.data (.sl I6),.data (.sl (.bool))]),(144,55,[.keep,.keep,.own 432,.keep]),(160,40,[.own 656,.own 657,.own 658,.own 659])],a12_⟩,[⟨.x 0,⟨[(3,pt 64 0),(4,pt 80 0),(6,pt 112 0),(9,pt 160 0)],[(64,33,kp 6),(80,40,kp 4),(112,40,[.data (.sl tT1),.data (.sl I6),.data (.sl I6),.data (.sl (.bool))]),(160,40,[.own 656,.own 657,.own 658,.own 659])],[(656,.arr 133 tT1),(657,.arr 3 I6),(658,.arr 3 I6),(659,.arr 4 (.bool))]⟩⟩,⟨.r,⟨[(6,pt 112 0),(7,ii)],[(112,40,[.data (.sl tT1),.data (.sl I6),.data (.sl I6),.data (.sl (.bool))])],[]⟩⟩])) (nn (mm (mm (nn (nn (mm (nn (.mk [.join [⟨.n,⟨[(3,pt 64 0),(4,pt 80 0),(5,pt 96 0),(6,pt 112 0),(8,pt 144 0),(9,pt 160 0),(10,kk),(11,pt 192 0),(12,ii)],v16_,a12_⟩⟩]] none .nil .nil)) (nn (mm (mm (.mk [.join [⟨.n,⟨[(3,pt 64 0),(4,pt 80 0),(5,pt 96 0),(6,pt 112 0),(8,pt 144 0),(9,pt 160 0),(10,kk),(11,pt 192 0),(12,kk),(13,kk),(149,bb)],v16_,a12_⟩⟩]] none .nil .nil) .nil) .nil))))) .nil) .nil)) .nil) .nil)) .nil)))))))))))) func109 ⟨⟨qnV,qr9,qfi,qsa,qgb,qld,trivial⟩,trivial⟩
def ql0(v:Int×Int×Bool×Bool):Option ((Int×Int×Bool×Bool)×Int):=
 (qeX (v.1,v.2.1,v.2.2.1,v.2.2.2)).bind fun r=>
 bif !r then(
 some ((v.1,(v.2.1,(v.2.2.1,v.2.2.2))),20))
 else(
 bif v.2.2.2 then(
 some ((v.1,(v.2.1,(v.2.2.1,v.2.2.2))),0))
 else(
 Option.bind (α:=Bool) (
 bif v.2.2.1 then(
 some (decide (v.2.1<v.1)))
 else(
 some false)) fun s=>
 Option.bind (α:=Int) (
 bif s then(
 some (wi64 (v.2.1+1)))
 else(
 Option.bind (α:=Bool) (
 bif !v.2.2.1 then(
 some (decide (0<v.2.1)))
 else(
 some false)) fun s2=>
 Option.bind (α:=Int) (
 bif s2 then(
 some (wi64 (v.2.1-1)))
 else(
 some v.2.1)) fun s3=>
 some s3)) fun s4=>
 some ((v.1,(s4,(v.2.2.1,v.2.2.2))),0)))
def qn2:Fun:=
 ⟨158,1,2,
 ⟨[(0,dd tT1)],[],[]⟩,
 ⟨r72_,[],[]⟩,
 fun x=>ql0 x⟩
theorem qty:FO qn2:=fi [] [qdi] 37 [] ((nn (nn (nn (mm (mm (.mk [.join [⟨.n,⟨[(1,pt 32 0),(2,pt 48 0),(19,bb)],[(32,133,kp 4),(48,133,kp 4)],[]⟩⟩]] none .nil .nil) (.mk [.join [⟨.n,⟨[(1,pt 32 0),(2,pt 48 0)],v107_,[]⟩⟩]] none .nil (mm (.mk [.join [⟨.n,⟨[(1,pt 32 0),(2,pt 48 0),(31,bb)],[(32,133,kp 4),(48,133,kp 4)],[]⟩⟩]] none .nil .nil) (.mk [.join [⟨.n,⟨[(1,pt 32 0),(2,pt 48 0)],v107_,[]⟩⟩]] none .nil .nil)))) .nil))))) func158 ⟨⟨qef,trivial⟩,trivial⟩
def qcY(ticks:Int)(i:Int)(v2:Int)(v3:Int)(v4:Bool)(v5:Bool):Option ((Int×Int×Int×Bool×Bool)⊕(Int×Int×Bool×Bool)):=
 bif decide (i<ticks) then(
 (ql0 (v2,v3,v4,v5)).bind fun r2=>
 some (.inl (wi64 (i+1),r2.1.1,r2.1.2.1,r2.1.2.2.1,r2.1.2.2.2)))
 else(
 some (.inr (v2,v3,v4,v5)))
def ql1(v:Int×Int×Bool×Bool)(ticks:Int):Option ((Int×Int×Bool×Bool)×Int):=
 (qeX (v.1,v.2.1,v.2.2.1,v.2.2.2)).bind fun r=>
 bif !r then(
 some ((v.1,(v.2.1,(v.2.2.1,v.2.2.2))),20))
 else(
 Option.bind (α:=Bool) (
 bif decide (ticks<0) then(
 some true)
 else(
 some (decide (400<ticks)))) fun s=>
 bif s then(
 some ((v.1,(v.2.1,(v.2.2.1,v.2.2.2))),1))
 else(
 (iter (fun x=>qcY ticks x.1 x.2.1 x.2.2.1 x.2.2.2.1 x.2.2.2.2) (0,v.1,v.2.1,v.2.2.1,v.2.2.2)).bind fun s2=>
 some ((s2.1,(s2.2.1,(s2.2.2.1,s2.2.2.2))),0)))
def qn3:Fun:=
 ⟨110,2,2,
 ⟨r72_,[],[]⟩,
 ⟨r72_,[],[]⟩,
 fun x=>ql1 x.1 x.2⟩
theorem qtz:FO qn3:=fi [] [qdi,qn2] 29 [] ((nn (nn (mm (mm (.mk [.join [⟨.n,⟨[(1,kk),(2,pt 48 0),(4,pt 80 0),(16,bb)],[(48,133,kp 4),(80,133,kp 4)],[]⟩⟩]] none .nil .nil) .nil) (mm (nn (mm (.mk [] (some (⟨[(1,kk),(2,pt 48 0),(4,pt 80 0),(6,ii)],v81_,[]⟩,[⟨.x 0,⟨r78_,v81_,[]⟩⟩])) .nil .nil) .nil)) .nil))))) func110 ⟨⟨qef,qty,trivial⟩,trivial⟩
def qb9(s:yB5)(i:Int)(x:yB4)(x2:List Int)(x3:List Int)(x4:List Bool):Option (yB8⊕(yB4×List Int×List Int×List Bool)):=
 bif decide (i<(x.length:Int)) then(
 gd (inB i x.length)<|
 (ql1 (x.getD i.toNat (0,0,false,false)) s.2.2.1).bind fun r7=>
 gd (inB i x.length)<|
 some (.inl (wi64 (i+1),x.set i.toNat r7.1,x2,x3,x4)))
 else(
 some (.inr (x,x2,x3,x4)))
def qhz(n:yB0)(d:yB3)(s:yB5):Option (yB3×Int):=
 (qjH (n.1,n.2.1,n.2.2.1,n.2.2.2.1,n.2.2.2.2.1,n.2.2.2.2.2) (d.1,d.2.1,d.2.2.1,d.2.2.2)).bind fun r=>
 bif !decide (r=0) then(
 some ((d.1,(d.2.1,(d.2.2.1,d.2.2.2))),r))
 else(
 (qia (s.1,s.2.1,s.2.2.1,s.2.2.2.1,s.2.2.2.2.1,s.2.2.2.2.2.1,s.2.2.2.2.2.2)).bind fun r2=>
 bif !r2 then(
 some ((d.1,(d.2.1,(d.2.2.1,d.2.2.2))),22))
 else(
 Option.bind (α:=Bool) (
 bif decide (s.1=1) then(
 some (decide (s.1=1)))
 else(
 some (decide (s.1=2)))) fun s2=>
 bif s2 then(
 (qlX (d.1,d.2.1,d.2.2.1,d.2.2.2) (s.1,s.2.1,s.2.2.1,s.2.2.2.1,s.2.2.2.2.1,s.2.2.2.2.2.1,s.2.2.2.2.2.2)).bind fun r3=>
 some ((r3.1.1,(r3.1.2.1,(r3.1.2.2.1,r3.1.2.2.2))),r3.2))
 else(
 Option.bind (α:=Bool) (
 bif decide (s.1=3) then(
 some (decide (s.1=3)))
 else(
 some (decide (s.1=4)))) fun s3=>
 bif s3 then(
 (qlY (n.1,n.2.1,n.2.2.1,n.2.2.2.1,n.2.2.2.2.1,n.2.2.2.2.2) (d.1,d.2.1,d.2.2.1,d.2.2.2) (s.1,s.2.1,s.2.2.1,s.2.2.2.1,s.2.2.2.2.1,s.2.2.2.2.2.1,s.2.2.2.2.2.2)).bind fun r4=>
 some ((r4.1.1,(r4.1.2.1,(r4.1.2.2.1,r4.1.2.2.2))),r4.2))
 else(
 bif decide (s.1=5) then(
 (qlZ (n.1,n.2.1,n.2.2.1,n.2.2.2.1,n.2.2.2.2.1,n.2.2.2.2.2) (d.1,d.2.1,d.2.2.1,d.2.2.2) (s.1,s.2.1,s.2.2.1,s.2.2.2.1,s.2.2.2.2.1,s.2.2.2.2.2.1,s.2.2.2.2.2.2)).bind fun r5=>
 some ((r5.1.1,(r5.1.2.1,(r5.1.2.2.1,r5.1.2.2.2))),r5.2))
 else(
 Option.bind (α:=Bool) (
 bif decide (s.2.2.1<1) then(
 some true)
 else(
 some (decide (100<s.2.2.1)))) fun s4=>
 bif s4 then(
 some ((d.1,(d.2.1,(d.2.2.1,d.2.2.2))),1))
 else(
 (qdP (d.1,d.2.1,d.2.2.1,d.2.2.2)).bind fun r6=>
 (iter (fun x5=>qb9 s x5.1 x5.2.1 x5.2.2.1 x5.2.2.2.1 x5.2.2.2.2) (0,r6.1,r6.2.1,r6.2.2.1,r6.2.2.2)).bind fun s5=>
 some ((s5.1,(s5.2.1,(s5.2.2.1,s5.2.2.2))),0)))))))
def qmF:Fun:=
 ⟨53,3,2,
 ⟨r26_,[],[]⟩,
 ⟨r48_,[],[]⟩,
 fun x=>qhz x.1 x.2.1 x.2.2⟩
theorem qsb:FO qmF:=fi [] [qmB,qle,qnZ,qn0,qn1,qdQ,qn3] 83 [] ((nn (nn (nn (mm (nn (mm (mm (nn (.mk [.join [⟨.n,⟨[(3,pt 64 0),(4,pt 80 0),(5,pt 96 0),(6,pt 112 0),(23,kk),(24,bb)],v35_,[]⟩⟩]] none .nil .nil)) (nn (mm (nn (.mk [.join [⟨.n,⟨[(3,pt 64 0),(4,pt 80 0),(5,pt 96 0),(6,pt 112 0),(23,kk),(32,bb)],v35_,[]⟩⟩]] none .nil .nil)) .nil))) .nil)) (mm (mm (.mk [.join [⟨.n,⟨[(4,pt 80 0),(5,pt 96 0),(6,pt 112 0),(56,bb)],[(80,40,kp 4),(96,57,kp 7),(112,40,kp 4)],[]⟩⟩]] none .nil .nil) .nil) (nn (mm (nn (mm (.mk [] (some (⟨[(5,pt 96 0),(6,pt 112 0),(9,pt 160 0),(10,ii)],[(96,57,kp 7),(112,40,kp 4),(160,40,[.own 960,.own 961,.own 962,.own 963])],a85_⟩,[⟨.x 1,⟨[(6,pt 112 0),(9,pt 160 0)],[(112,40,kp 4),(160,40,[.own 960,.own 961,.own 962,.own 963])],a85_⟩⟩])) .nil .nil) .nil)) .nil)))))))) func53 ⟨⟨qr7,qrl,qtv,qtw,qtx,qfi,qtz,trivial⟩,trivial⟩
def qfP(a:yB1):Option (Bool):=
 bif decide (0<=a.2.1) then(
 bif decide (a.2.1<=1099511627776) then(
 bif decide (0<=a.2.2.1) then(
 bif decide (a.2.2.1<=1099511627776) then(
 bif decide (0<=a.2.2.2.1) then(
 bif decide (a.2.2.2.1<=1099511627776) then(
 bif decide ((-1099511627776)<=a.2.2.2.2) then(
 some (decide (a.2.2.2.2<=1099511627776)))
 else(
 some false))
 else(
 some false))
 else(
 some false))
 else(
 some false))
 else(
 some false))
 else(
 some false))
 else(
 some false)
def qiD:Fun:=
 ⟨89,1,1,
 ⟨[(0,dd tT2)],[],[]⟩,
 ⟨[(0,bb)],[],[]⟩,
 fun x=>qfP x⟩
theorem qmG:FO qiD:=fi [] [] 41 [] .nil func89 ⟨trivial,trivial⟩
def qeg(l:List yB1)(i:Int):Option (Int⊕(Unit⊕Bool)):=
 bif decide (i<(l.length:Int)) then(
 Option.bind (α:=Bool) (
 gd (inB i l.length)<|
 (qct ((l.getD i.toNat ([],0,0,0,0)).1)).bind fun r=>
 bif !r then(
 some true)
 else(
 gd (inB i l.length)<|
 (qfP (l.getD i.toNat ([],0,0,0,0))).bind fun r2=>
 bif !r2 then(
 some true)
 else(
 bif decide (0<i) then(
 gd (inB (wi64 (i-1)) l.length)<|
 gd (inB i l.length)<|
 some (!Op.bytesLess ((l.getD (wi64 (i-1)).toNat ([],(0,(0,(0,0))))).1) ((l.getD i.toNat ([],(0,(0,(0,0))))).1)))
 else(
 some false)))) fun s=>
 bif s then(
 some (.inr (.inr false)))
 else(
 some (.inl (wi64 (i+1)))))
 else(
 some (.inr (.inl ())))
def qfQ(l:List yB1):Option (Bool):=
 bif decide (64<(l.length:Int)) then(
 some false)
 else(
 (iter (fun x=>qeg l x) 0).bind fun s2=>
 s2.elim (fun s3=>
 some true)
 (fun s4=>
 some s4))
def qgd:Fun:=
 ⟨35,1,1,
 ⟨[(0,dd (.sl tT2))],[],[]⟩,
 ⟨[(0,bb)],[],[]⟩,
 fun x=>qfQ x⟩
theorem qiE:FO qgd:=fi [] [qgX,qiD] 46 [] ((nn (nn (mm (nn (mm (.mk [] (some (⟨[(0,kk),(3,ii)],[],[]⟩,[⟨.x 0,⟨[],[],[]⟩⟩,⟨.r,⟨[(2,bb)],[],[]⟩⟩])) (nn (mm (mm (mm (.mk [.join [⟨.n,⟨[(0,kk),(3,kk),(45,bb)],[],[]⟩⟩]] none .nil .nil) .nil) .nil) .nil)) .nil) .nil)) .nil)))) func35 ⟨⟨qjx,qmG,trivial⟩,trivial⟩
def qhA(e:List UInt8×Int×Int):Option (Bool):=
 (qct e.1).bind fun r=>
 bif !r then(
 some false)
 else(
 Option.bind (α:=Bool) (
 bif decide (e.2.1=1) then(
 some (decide (e.2.1=1)))
 else(
 Option.bind (α:=Bool) (
 bif decide (e.2.1=2) then(
 some (decide (e.2.1=2)))
 else(
 some (decide (e.2.1=3)))) fun s=>
 some s)) fun s2=>
 bif s2 then(
 bif decide (0<=e.2.2) then(
 some (decide (e.2.2<=1099511627776)))
 else(
 some false))
 else(
 bif decide (e.2.1=4) then(
 bif decide ((-1099511627776)<=e.2.2) then(
 some (decide (e.2.2<=1099511627776)))
 else(
 some false))
 else(
 some false)))
def qmH:Fun:=
 ⟨91,1,1,
 ⟨[(0,dd (.pair (.str) tT7))],[],[]⟩,
 ⟨[(0,bb)],[],[]⟩,
 fun x=>qhA x⟩
theorem qsc:FO qmH:=fi [] [qgX] 31 [] ((nn (nn (mm (nn (mm (mm (nn (.mk [.join [⟨.n,⟨[(1,pt 32 0),(8,kk),(9,bb)],v103_,[]⟩⟩]] none .nil (nn (.mk [.join [⟨.n,⟨[(1,pt 32 0),(8,kk),(9,bb)],v103_,[]⟩⟩]] none .nil .nil)))) .nil) .nil)) .nil)))) func91 ⟨⟨qjx,trivial⟩,trivial⟩
def qfj(l:List yB1)(e:List UInt8×Int×Int)(k:Int):Option (Int⊕Int):=
 Option.bind (α:=Bool) (
 bif decide (k<(l.length:Int)) then(
 gd (inB k l.length)<|
 some (Op.bytesLess ((l.getD k.toNat ([],(0,(0,(0,0))))).1) e.1))
 else(
 some false)) fun s2=>
 bif s2 then(
 some (.inl (wi64 (k+1))))
 else(
 some (.inr k))
def qe4(l:List yB1)(e:List UInt8×Int×Int):Option ((List yB1)×Int):=
 Option.bind (α:=Bool) (
 (qfQ l).bind fun r=>
 bif !r then(
 some true)
 else(
 (qhA (e.1,e.2.1,e.2.2)).bind fun r2=>
 some (!r2))) fun s=>
 bif s then(
 some (l,27))
 else(
 (iter (fun x=>qfj l e x) 0).bind fun s3=>
 gd (fits (0+l.length) 48)<|
 Option.bind (α:=Bool×List yB1) (
 bif decide (s3=(l.length:Int)) then(
 some (true,([]++l)))
 else(
 gd (inB s3 l.length)<|
 some ((!decide ((l.getD s3.toNat ([],(0,(0,(0,0))))).1=e.1)),([]++l)))) fun s4=>
 Option.bind (α:=List yB1) (
 bif s4.1 then(
 gd (cutG none (some (.i64,s3)) l.length)<|
 gd (fits (0+(l.take s3.toNat).length) 48)<|
 gd (fits (([]++(l.take s3.toNat)).length+1) 48)<|
 gd (cutG (some (.i64,s3)) none l.length)<|
 gd (fits ((([]++(l.take s3.toNat))++[(e.1,0,0,0,0)]).length+(l.drop s3.toNat).length) 48)<|
 some ((([]++(l.take s3.toNat))++[(e.1,(0,(0,(0,0))))])++(l.drop s3.toNat)))
 else(
 some s4.2)) fun s5=>
 Option.bind (α:=List yB1) (
 bif decide (e.2.1=1) then(
 gd (inB s3 s5.length)<|
 gd (inB s3 s5.length)<|
 some (s5.set s3.toNat ((s5.getD s3.toNat ([],(0,(0,(0,0))))).1,(wi64 ((((s5.getD s3.toNat ([],(0,(0,(0,0))))).2).1)+e.2.2),((s5.getD s3.toNat ([],(0,(0,(0,0))))).2).2))))
 else(
 Option.bind (α:=List yB1) (
 bif decide (e.2.1=2) then(
 gd (inB s3 s5.length)<|
 gd (inB s3 s5.length)<|
 some (s5.set s3.toNat ((s5.getD s3.toNat ([],(0,(0,(0,0))))).1,(((s5.getD s3.toNat ([],(0,(0,(0,0))))).2).1,(wi64 (((((s5.getD s3.toNat ([],(0,(0,(0,0))))).2).2).1)+e.2.2),(((s5.getD s3.toNat ([],(0,(0,(0,0))))).2).2).2)))))
 else(
 Option.bind (α:=List yB1) (
 bif decide (e.2.1=3) then(
 gd (inB s3 s5.length)<|
 gd (inB s3 s5.length)<|
 some (s5.set s3.toNat ((s5.getD s3.toNat ([],(0,(0,(0,0))))).1,(((s5.getD s3.toNat ([],(0,(0,(0,0))))).2).1,((((s5.getD s3.toNat ([],(0,(0,(0,0))))).2).2).1,(wi64 ((((((s5.getD s3.toNat ([],(0,(0,(0,0))))).2).2).2).1)+e.2.2),((((s5.getD s3.toNat ([],(0,(0,(0,0))))).2).2).2).2))))))
 else(
 gd (inB s3 s5.length)<|
 gd (inB s3 s5.length)<|
 some (s5.set s3.toNat ((s5.getD s3.toNat ([],(0,(0,(0,0))))).1,(((s5.getD s3.toNat ([],(0,(0,(0,0))))).2).1,((((s5.getD s3.toNat ([],(0,(0,(0,0))))).2).2).1,(((((s5.getD s3.toNat ([],(0,(0,(0,0))))).2).2).2).1,wi64 ((((((s5.getD s3.toNat ([],(0,(0,(0,0))))).2).2).2).2)+e.2.2)))))))) fun s6=>
 some s6)) fun s7=>
 some s7)) fun s8=>
 Option.bind (α:=Bool×List yB1) (
 bif decide (64<(s8.length:Int)) then(
 some (true,s8))
 else(
 gd (inB s3 s8.length)<|
 (qfP (s8.getD s3.toNat ([],0,0,0,0))).bind fun r3=>
 some ((!r3),s8))) fun s9=>
 bif s9.1 then(
 some (l,4))
 else(
 some (s9.2,0)))
def qjM:Fun:=
 ⟨39,2,2,
 ⟨[(0,dd (.sl tT2)),(1,dd (.pair (.str) tT7))],[],[]⟩,
 ⟨[(0,dd (.sl tT2)),(1,ii)],[],[]⟩,
 fun x=>qe4 x.1 x.2⟩
theorem qn4:FO qjM:=fi [33,50] [qgd,qmH,qiD] 133 [] ((nn (mm (mm (.mk [.join [⟨.n,⟨[(0,kk),(3,pt 64 0),(15,bb)],v52_,[]⟩⟩]] none .nil .nil) .nil) (nn (mm (mm (.mk [] (some (⟨[(0,kk),(3,pt 64 0),(6,ii)],v52_,[]⟩,[⟨.x 0,⟨[(0,kk),(3,pt 64 0),(6,ii)],v52_,[]⟩⟩])) (mm (mm (.mk [.join [⟨.n,⟨[(0,kk),(3,pt 64 0),(6,kk),(30,bb)],v52_,[]⟩⟩]] none .nil .nil) .nil) .nil) .nil) .nil) (nn (mm (mm (.mk [.join [⟨.n,⟨[(0,kk),(3,pt 64 0),(6,kk),(7,ow 576),(49,bb)],v52_,[(576,.arr 110 tT2)]⟩⟩]] none .nil .nil) (.mk [.join [⟨.n,⟨[(0,kk),(3,pt 64 0),(6,kk),(7,ow 139)],v52_,a126_⟩⟩]] none .nil .nil)) (mm (nn (mm (nn (.mk [.join [⟨.n,⟨r134_,[],a126_⟩⟩]] none .nil (nn (.mk [.join [⟨.n,⟨r134_,[],a126_⟩⟩]] none .nil (nn (.mk [.join [⟨.n,⟨r134_,[],a126_⟩⟩]] none .nil .nil)))))) .nil)) (mm (mm (.mk [.join [⟨.n,⟨[(0,kk),(7,ow 139),(130,bb)],[],a126_⟩⟩]] none .nil .nil) .nil) .nil))))))))) func39 ⟨⟨qiE,qsc,qmG,trivial⟩,trivial⟩
def qjN(n:yB0)(c:yB9)(r:yB11):Option (yB9×Int):=
 bif decide (c.2.2.2=1000) then(
 some (((c.1.1,(c.1.2.1,(c.1.2.2.1,c.1.2.2.2))),(c.2.1,(c.2.2.1,c.2.2.2))),4))
 else(
 (qlV ((c.1.1,c.1.2.1,c.1.2.2.1,c.1.2.2.2),c.2.1,c.2.2.1,c.2.2.2)).bind fun r2=>
 bif decide (r.1=1) then(
 Option.bind (α:=yB14) (
 bif decide ((r.2.1.length:Int)<5) then(
 some (true,r2.2.1,r2.2.2.1,r2.2.2.2.1,r2.2.2.2.2.1,r2.2.2.2.2.2.1,r2.2.2.2.2.2.2))
 else(
 (qgu (r.2.2.1.1,r.2.2.1.2.1,r.2.2.1.2.2.1,r.2.2.1.2.2.2.1,r.2.2.1.2.2.2.2.1,r.2.2.1.2.2.2.2.2.1,r.2.2.1.2.2.2.2.2.2)).bind fun r3=>
 bif !r3 then(
 some (true,r2.2.1,r2.2.2.1,r2.2.2.2.1,r2.2.2.2.2.1,r2.2.2.2.2.2.1,r2.2.2.2.2.2.2))
 else(
 some ((!(decide (r.2.2.2.1=[])&&(decide (r.2.2.2.2.1=0)&&decide (r.2.2.2.2.2=0)))),r2.2.1,r2.2.2.1,r2.2.2.2.1,r2.2.2.2.2.1,r2.2.2.2.2.2.1,r2.2.2.2.2.2.2)))) fun s=>
 bif s.1 then(
 some (((c.1.1,(c.1.2.1,(c.1.2.2.1,c.1.2.2.2))),(c.2.1,(c.2.2.1,c.2.2.2))),28))
 else(
 gd (inB 0 r.2.1.length)<|
 gd (inB 1 r.2.1.length)<|
 gd (inB 2 r.2.1.length)<|
 gd (inB 3 r.2.1.length)<|
 gd (inB 4 r.2.1.length)<|
 gd (cutG (some (.i64,5)) none r.2.1.length)<|
 gd (fits (0+(r.2.1.drop 5).length) 8)<|
 (qhw (r.2.1.getD 0 0,r.2.1.getD 1 0,r.2.1.getD 2 0,r.2.1.getD 3 0,r.2.1.getD 4 0,[]++(r.2.1.drop 5))).bind fun r4=>
 bif !r4 then(
 some (((c.1.1,(c.1.2.1,(c.1.2.2.1,c.1.2.2.2))),(c.2.1,(c.2.2.1,c.2.2.2))),28))
 else(
 (qgv (r.2.1.getD 0 0,r.2.1.getD 1 0,r.2.1.getD 2 0,r.2.1.getD 3 0,r.2.1.getD 4 0,[]++(r.2.1.drop 5)) s.2.2.2.2.2.1).bind fun r5=>
 bif !r5.1 then(
 some (((c.1.1,(c.1.2.1,(c.1.2.2.1,c.1.2.2.2))),(c.2.1,(c.2.2.1,c.2.2.2))),6))
 else(
 some (((s.2.1,(s.2.2.1,(s.2.2.2.1,s.2.2.2.2.1))),(r5.2,(s.2.2.2.2.2.2,wi64 (r2.1+1)))),0)))))
 else(
 bif decide (r.1=2) then(
 Option.bind (α:=yB14) (
 bif decide (0<(r.2.1.length:Int)) then(
 some (true,r2.2.1,r2.2.2.1,r2.2.2.2.1,r2.2.2.2.2.1,r2.2.2.2.2.2.1,r2.2.2.2.2.2.2))
 else(
 some ((!(decide (r.2.2.2.1=[])&&(decide (r.2.2.2.2.1=0)&&decide (r.2.2.2.2.2=0)))),r2.2.1,r2.2.2.1,r2.2.2.2.1,r2.2.2.2.2.1,r2.2.2.2.2.2.1,r2.2.2.2.2.2.2))) fun s2=>
 bif s2.1 then(
 some (((c.1.1,(c.1.2.1,(c.1.2.2.1,c.1.2.2.2))),(c.2.1,(c.2.2.1,c.2.2.2))),28))
 else(
 (qhz (n.1,n.2.1,n.2.2.1,n.2.2.2.1,n.2.2.2.2.1,n.2.2.2.2.2) (s2.2.1,s2.2.2.1,s2.2.2.2.1,s2.2.2.2.2.1) (r.2.2.1.1,r.2.2.1.2.1,r.2.2.1.2.2.1,r.2.2.1.2.2.2.1,r.2.2.1.2.2.2.2.1,r.2.2.1.2.2.2.2.2.1,r.2.2.1.2.2.2.2.2.2)).bind fun r6=>
 bif !decide (r6.2=0) then(
 some (((c.1.1,(c.1.2.1,(c.1.2.2.1,c.1.2.2.2))),(c.2.1,(c.2.2.1,c.2.2.2))),r6.2))
 else(
 some (((r6.1.1,(r6.1.2.1,(r6.1.2.2.1,r6.1.2.2.2))),(s2.2.2.2.2.2.1,(s2.2.2.2.2.2.2,wi64 (r2.1+1)))),0))))
 else(
 bif decide (r.1=3) then(
 Option.bind (α:=yB14) (
 bif decide (0<(r.2.1.length:Int)) then(
 some (true,r2.2.1,r2.2.2.1,r2.2.2.2.1,r2.2.2.2.2.1,r2.2.2.2.2.2.1,r2.2.2.2.2.2.2))
 else(
 (qgu (r.2.2.1.1,r.2.2.1.2.1,r.2.2.1.2.2.1,r.2.2.1.2.2.2.1,r.2.2.1.2.2.2.2.1,r.2.2.1.2.2.2.2.2.1,r.2.2.1.2.2.2.2.2.2)).bind fun r7=>
 some ((!r7),r2.2.1,r2.2.2.1,r2.2.2.2.1,r2.2.2.2.2.1,r2.2.2.2.2.2.1,r2.2.2.2.2.2.2))) fun s3=>
 bif s3.1 then(
 some (((c.1.1,(c.1.2.1,(c.1.2.2.1,c.1.2.2.2))),(c.2.1,(c.2.2.1,c.2.2.2))),28))
 else(
 (qe4 s3.2.2.2.2.2.2 (r.2.2.2.1,r.2.2.2.2.1,r.2.2.2.2.2)).bind fun r8=>
 bif !decide (r8.2=0) then(
 some (((c.1.1,(c.1.2.1,(c.1.2.2.1,c.1.2.2.2))),(c.2.1,(c.2.2.1,c.2.2.2))),r8.2))
 else(
 some (((s3.2.1,(s3.2.2.1,(s3.2.2.2.1,s3.2.2.2.2.1))),(s3.2.2.2.2.2.1,(r8.1,wi64 (r2.1+1)))),0))))
 else(
 some (((c.1.1,(c.1.2.1,(c.1.2.2.1,c.1.2.2.2))),(c.2.1,(c.2.2.1,c.2.2.2))),28)))))
def qmI:Fun:=
 ⟨23,3,2,
 ⟨r18_,[],[]⟩,
 ⟨r29_,[],[]⟩,
 fun x=>qjN x.1 x.2.1 x.2.2⟩
theorem qsd:FO qmI:=fi [65] [qnW,qk7,qmz,qk9,qmF,qjM] 145 [] ((nn (nn (nn (nn (mm (nn (mm (nn (mm (mm (mm (.mk [.join [⟨.n,⟨[(4,pt 80 0),(5,pt 96 0),(6,pt 112 0),(8,pt 144 0),(46,bb)],v39_,a24_⟩⟩]] none .nil .nil) .nil) (nn (nn (nn (mm (.mk [.fz [10]] none .nil .nil) .nil))))) (nn (mm (mm (mm (.mk [.join [⟨.n,⟨[(3,pt 64 0),(4,pt 80 0),(5,pt 96 0),(6,pt 112 0),(8,pt 144 0),(98,bb)],[(64,33,kp 6),(80,44,kp 7),(96,61,kp 12),(112,44,kp 7),(144,44,[.own 368,.own 369,.own 370,.own 371,.own 372,.own 373,.keep])],a24_⟩⟩]] none .nil .nil) .nil) (mm (.mk [.fz [8]] none .nil .nil) .nil)) (nn (mm (mm (mm (.mk [.join [⟨.n,⟨[(4,pt 80 0),(5,pt 96 0),(6,pt 112 0),(8,pt 144 0),(127,bb)],v39_,a24_⟩⟩]] none .nil .nil) .nil) (mm (.mk [.fz [8]] none .nil .nil) .nil)) .nil)))))) .nil)) .nil)))))) func23 ⟨⟨qtt,qrg,qr6,qrj,qsb,qn4,trivial⟩,trivial⟩
def qib(n:Int):Option (Int):=
 bif decide (0<=n) then(
 some (wu64 ((wu64 n)*2)))
 else(
 some (wu64 ((wu64 ((wu64 (wi64 (0-(wi64 (n+1)))))*2))+1)))
def qlf:Fun:=
 ⟨159,1,1,
 ⟨[(0,ii)],[],[]⟩,
 ⟨[(0,dd (.int .u64))],[],[]⟩,
 fun x=>qib x⟩
theorem qrm:FO qlf:=fi [] [] 14 [] .nil func159 ⟨trivial,trivial⟩
def qcQ(u:Int)(out:List Int):Option ((Int×List Int)⊕(Int×List Int)):=
 bif decide (128<=u) then(
 gd (fits (out.length+1) 1)<|
 some (.inl (wu64 (Int.tdiv u 128),out++[wu8 (wu64 ((Int.tmod u 128)+128))])))
 else(
 some (.inr (u,out)))
def qgw(b:List Int)(n:Int):Option (List Int):=
 gd (fits (0+b.length) 1)<|
 (qib n).bind fun r=>
 (iter (fun x=>qcQ x.1 x.2) (r,[]++b)).bind fun s=>
 gd (fits (s.2.length+1) 1)<|
 some (s.2++[wu8 s.1])
def qhB:Fun:=
 ⟨111,2,1,
 ⟨r127_,[],[]⟩,
 ⟨[(0,ow 0)],[],a112_⟩,
 fun x=>qgw x.1 x.2⟩
theorem qlg:FO qhB:=fi [7] [qlf] 28 [] ((nn (nn (nn (mm (mm (.mk [] (some (⟨[(5,ow 107),(6,dd (.int .u64))],[],[(107,.arr 5 (.int .u8))]⟩,[⟨.x 0,⟨[(5,ow 107),(6,dd (.int .u64))],[],[(107,.arr 5 (.int .u8))]⟩⟩])) .nil .nil) .nil) .nil))))) func111 ⟨⟨qrm,trivial⟩,trivial⟩
def qe5(l:List Int)(i:Int)(b:List Int):Option ((Int×List Int)⊕(List Int)):=
 bif decide (i<(l.length:Int)) then(
 gd (inB i l.length)<|
 (qgw b (l.getD i.toNat 0)).bind fun r=>
 some (.inl (wi64 (i+1),r)))
 else(
 some (.inr b))
def qi0(l:List Int):Option (List Int):=
 (iter (fun x=>qe5 l x.1 x.2) (0,[])).bind fun s=>
 some s
def qpy:Fun:=
 ⟨54,2,1,
 ⟨[(0,.one .nil),(1,dd (.sl I6))],[],[]⟩,
 ⟨[(0,ow 0)],[],a112_⟩,
 fun x=>qi0 x⟩
theorem quS:FO qpy:=fi [] [qhB] 19 [] ((nn (mm (nn (mm (.mk [] (some (⟨[(0,ow 27),(1,kk),(5,ii)],[],[(27,.arr 5 (.int .u8))]⟩,[⟨.x 0,⟨[(0,ow 27)],[],[(27,.arr 5 (.int .u8))]⟩⟩])) .nil .nil) .nil)) .nil))) func54 ⟨⟨qlg,trivial⟩,trivial⟩
def qcj(r:yB11)(i:Int)(l:List Int):Option ((Int×List Int)⊕(List Int)):=
 bif decide (i<(r.2.2.1.2.2.2.2.2.1.length:Int)) then(
 gd (inB i r.2.2.1.2.2.2.2.2.1.length)<|
 Option.bind (α:=Int×List Int) (
 bif (r.2.2.1.2.2.2.2.2.1.getD i.toNat (0,false)).2 then(
 some (1,l))
 else(
 some (0,l))) fun s2=>
 gd (inB i r.2.2.1.2.2.2.2.2.1.length)<|
 gd (fits (s2.2.length+2) 8)<|
 some (.inl (wi64 (i+1),s2.2++[(r.2.2.1.2.2.2.2.2.1.getD i.toNat (0,false)).1,s2.1])))
 else(
 some (.inr l))
def qgx(r:yB11):Option (Int×List Int):=
 Option.bind (α:=Bool) (
 bif decide (21<(r.2.1.length:Int)) then(
 some true)
 else(
 bif decide (32<(r.2.2.1.2.2.2.2.2.1.length:Int)) then(
 some true)
 else(
 some (decide (12<(r.2.2.2.1.length:Int)))))) fun s=>
 bif s then(
 some (4,[]))
 else(
 gd (fits (2+r.2.1.length) 8)<|
 gd (fits (([r.1,(r.2.1.length:Int)]++r.2.1).length+6) 8)<|
 (iter (fun x=>qcj r x.1 x.2) (0,([r.1,(r.2.1.length:Int)]++r.2.1)++[r.2.2.1.1,r.2.2.1.2.1,r.2.2.1.2.2.1,r.2.2.1.2.2.2.1,r.2.2.1.2.2.2.2.1,(r.2.2.1.2.2.2.2.2.1.length:Int)])).bind fun s3=>
 gd (fits (s3.length+4) 8)<|
 (qi0 (s3++[r.2.2.1.2.2.2.2.2.2,r.2.2.2.2.1,r.2.2.2.2.2,(r.2.2.2.1.length:Int)])).bind fun r2=>
 gd (Nat.blt 0 (r2.length+r.2.2.2.1.length)&&fits (r2.length+r.2.2.2.1.length) 1)<|
 some (0,r2++qeR r.2.2.2.1))
def qlh:Fun:=
 ⟨24,1,2,
 ⟨r64_,[],[]⟩,
 ⟨r131_,[],a112_⟩,
 fun x=>qgx x⟩
theorem qrn:FO qlh:=fi [32] [qpy] 105 [] ((nn (mm (mm (.mk [.join [⟨.n,⟨[(1,pt 32 0),(26,bb)],[(32,61,kp 12)],[]⟩⟩]] none .nil .nil) .nil) (nn (nn (nn (mm (nn (mm (.mk [] (some (⟨[(1,pt 32 0),(4,ow 91),(5,pt 96 0),(6,ii)],v120_,[(91,.arr 3 I6)]⟩,[⟨.x 0,⟨[(1,pt 32 0),(4,ow 91),(5,pt 96 0)],v120_,[(91,.arr 3 I6)]⟩⟩])) (nn (mm (mm (nn (mm (nn (.mk [.join [⟨.n,⟨[(1,pt 32 0),(4,ow 91),(5,pt 96 0),(6,kk),(7,ii)],v120_,[(91,.arr 3 I6)]⟩⟩]] none .nil .nil)) .nil)) .nil) .nil)) .nil) .nil)) .nil))))))) func24 ⟨⟨quS,trivial⟩,trivial⟩
def qjO(b:List Int):Option (Int×List Int):=
 bif decide (4000<(b.length:Int)) then(
 some (4,[]))
 else(
 (qgw [] (b.length:Int)).bind fun r=>
 gd (fits (r.length+b.length) 1)<|
 some (0,r++b))
def qmJ:Fun:=
 ⟨55,1,2,
 ⟨r89_,[],[]⟩,
 ⟨r131_,[],a112_⟩,
 fun x=>qjO x⟩
theorem qse:FO qmJ:=fi [] [qhB] 12 [] .nil func55 ⟨⟨qlg,trivial⟩,trivial⟩
def qeh(u:Int):Option (Int):=
 bif decide (Int.tmod u 2=0) then(
 some (wi64 (wu64 (Int.tdiv u 2))))
 else(
 some (wi64 ((wi64 (0-(wi64 (wu64 (Int.tdiv u 2)))))-1)))
def qi1:Fun:=
 ⟨160,1,1,
 ⟨[(0,dd (.int .u64))],[],[]⟩,
 ⟨[(0,ii)],[],[]⟩,
 fun x=>qeh x⟩
theorem qoZ:FO qi1:=fi [] [] 14 [] .nil func160 ⟨trivial,trivial⟩
def qbv(b:List Int)(vat:Int)(u:Int)(k:Int):Option ((Int×Int)⊕(Unit⊕(Int×Int×Int))):=
 bif decide (k<10) then(
 bif decide ((b.length:Int)<=wi64 (vat+k)) then(
 some (.inr (.inr (0,0,2))))
 else(
 gd (inB (wi64 (vat+k)) b.length)<|
 Option.bind (α:=Bool) (
 bif decide (k=9) then(
 some (decide (1<b.getD (wi64 (vat+k)).toNat 0)))
 else(
 some false)) fun s2=>
 bif s2 then(
 some (.inr (.inr (0,0,3))))
 else(
 gd (!decide (wi64 (7*k)<0))<|
 bif decide (b.getD (wi64 (vat+k)).toNat 0<128) then(
 Option.bind (α:=Bool) (
 bif decide (b.getD (wi64 (vat+k)).toNat 0=0) then(
 some (decide (0<k)))
 else(
 some false)) fun s3=>
 bif s3 then(
 some (.inr (.inr (0,0,3))))
 else(
 (qeh (wu64 (u+(wu64 ((wu64 (Int.tmod (b.getD (wi64 (vat+k)).toNat 0) 128))*2^shAmt .u64 (wi64 (7*k))))))).bind fun r=>
 some (.inr (.inr (r,wi64 ((wi64 (vat+k))+1),0)))))
 else(
 some (.inl (wu64 (u+(wu64 ((wu64 (Int.tmod (b.getD (wi64 (vat+k)).toNat 0) 128))*2^shAmt .u64 (wi64 (7*k))))),wi64 (k+1)))))))
 else(
 some (.inr (.inl ())))
def qn5(b:List Int)(vat:Int):Option (Int×Int×Int):=
 Option.bind (α:=Bool) (
 bif decide (vat<0) then(
 some true)
 else(
 some (decide ((b.length:Int)<vat)))) fun s=>
 bif s then(
 some (0,0,1))
 else(
 (iter (fun x=>qbv b vat x.1 x.2) (0,0)).bind fun s4=>
 s4.elim (fun s5=>
 some (0,0,3))
 (fun s6=>
 some (s6.1,s6.2.1,s6.2.2)))
def qpz:Fun:=
 ⟨112,2,3,
 ⟨r127_,[],[]⟩,
 ⟨r102_,[],[]⟩,
 fun x=>qn5 x.1 x.2⟩
theorem quT:FO qpz:=fi [] [qi1] 62 [] ((nn (mm (mm (.mk [.join [⟨.n,⟨[(0,kk),(1,kk),(17,bb)],[],[]⟩⟩]] none .nil .nil) .nil) (nn (mm (nn (mm (.mk [] (some (⟨[(0,kk),(1,kk),(7,dd (.int .u64)),(8,ii)],[],[]⟩,[⟨.x 0,⟨[],[],[]⟩⟩,⟨.r,⟨[(4,ii),(5,ii),(6,ii)],[],[]⟩⟩])) (nn (mm (mm (nn (nn (mm (mm (.mk [.join [⟨.n,⟨[(0,kk),(1,kk),(7,kk),(8,kk),(9,kk),(39,bb)],[],[]⟩⟩]] none .nil .nil) .nil) (nn (nn (mm (mm (mm (.mk [.join [⟨.n,⟨[(1,kk),(7,kk),(8,kk),(55,bb)],[],[]⟩⟩]] none .nil .nil) .nil) .nil) .nil)))))) .nil) .nil)) .nil) .nil)) .nil))))) func112 ⟨⟨qoZ,trivial⟩,trivial⟩
def qdR(b:List Int)(vat:Int)(out:List (List Int)):Option ((Int×List (List Int))⊕(Int×List (List Int))):=
 bif decide (vat<(b.length:Int)) then(
 (qn5 b vat).bind fun r=>
 Option.bind (α:=Bool×List (List Int)) (
 bif !decide (r.2.2=0) then(
 some (true,out))
 else(
 bif decide (r.1<0) then(
 some (true,out))
 else(
 bif decide (4000<r.1) then(
 some (true,out))
 else(
 some (decide (wi64 ((b.length:Int)-r.2.1)<r.1),out))))) fun s=>
 bif s.1 then(
 some (.inr (vat,s.2)))
 else(
 gd (inR r.2.1 (wi64 (r.2.1+r.1)) b.length)<|
 gd (fits (0+((b.take (wi64 (r.2.1+r.1)).toNat).drop r.2.1.toNat).length) 1)<|
 gd (fits (s.2.length+1) 24)<|
 some (.inl (wi64 (r.2.1+r.1),s.2++[([]++((b.take (wi64 (r.2.1+r.1)).toNat).drop r.2.1.toNat))]))))
 else(
 some (.inr (vat,out)))
def ql2(b:List Int):Option (Int×List (List Int)):=
 (iter (fun x=>qdR b x.1 x.2) (0,[])).bind fun s2=>
 some (s2.1,s2.2)
def qn6:Fun:=
 ⟨56,1,2,
 ⟨r89_,[],[]⟩,
 ⟨r131_,[],a135_⟩,
 fun x=>ql2 x⟩
theorem qtA:FO qn6:=fi [39,1000046] [qpz] 54 [] ((nn (nn (nn (mm (mm (.mk [] (some (⟨[(0,kk),(4,ow 91),(5,ii)],[],a67_⟩,[⟨.x 0,⟨[(4,ow 91),(5,ii)],[],a67_⟩⟩])) (nn (mm (nn (mm (mm (.mk [.join [⟨.n,⟨r116_,[],a67_⟩⟩]] none .nil .nil) .nil) .nil)) .nil)) .nil) .nil) .nil))))) func56 ⟨⟨quT,trivial⟩,trivial⟩
def qic(f:List Int×List Int)(b:List Int):Option ((List Int×List Int)×Int):=
 (qjO b).bind fun r=>
 bif !decide (r.1=0) then(
 some ((f.1,f.2),r.1))
 else(
 (ql2 f.1).bind fun r2=>
 bif !decide (r2.1=(f.1.length:Int)) then(
 some ((f.1,f.2),21))
 else(
 bif decide (65536<wi64 ((wi64 ((f.1.length:Int)+(f.2.length:Int)))+(r.2.length:Int))) then(
 some ((f.1,f.2),29))
 else(
 gd (fits (0+f.1.length) 1)<|
 gd (fits (0+f.2.length) 1)<|
 gd (fits (([]++f.2).length+r.2.length) 1)<|
 some ((([]++f.1),([]++f.2)++r.2),0))))
def qli:Fun:=
 ⟨25,2,2,
 ⟨[(0,dd (.pair (.sl (.int .u8)) (.sl (.int .u8)))),(1,dd (.sl (.int .u8)))],[],[]⟩,
 ⟨r113_,[],[]⟩,
 fun x=>qic x.1 x.2⟩
theorem qro:FO qli:=fi [43,47] [qmJ,qn6] 54 [] .nil func25 ⟨⟨qse,qtA,trivial⟩,trivial⟩
def qjP(f:List Int×List Int)(keep:Int):Option (List Int×List Int):=
 gd (fits (0+f.1.length) 1)<|
 gd (cutG none (some (.i64,max 0 (min keep (f.2.length:Int)))) f.2.length)<|
 gd (fits (([]++f.1).length+(f.2.take (max 0 (min keep (f.2.length:Int))).toNat).length) 1)<|
 some (([]++f.1)++(f.2.take (max 0 (min keep (f.2.length:Int))).toNat),[])
def qmK:Fun:=
 ⟨57,2,1,
 ⟨r113_,[],[]⟩,
 ⟨r62_,[],[]⟩,
 fun x=>qjP x.1 x.2⟩
theorem qsf:FO qmK:=fi [12] [] 22 [] .nil func57 ⟨trivial,trivial⟩
def ql3(f:List Int×List Int):Option (List Int×List Int):=
 (qjP (f.1,f.2) (f.2.length:Int)).bind fun r=>
 some (r.1,r.2)
def qn7:Fun:=
 ⟨26,1,1,
 ⟨r62_,[],[]⟩,
 ⟨r62_,[],[]⟩,
 fun x=>ql3 x⟩
theorem qtB:FO qn7:=fi [] [qmK] 8 [] .nil func26 ⟨⟨qsf,trivial⟩,trivial⟩
def qjQ(n:yB0)(f:List Int×List Int)(c:yB9)(r:yB11):Option ((List Int×List Int)×yB9×Int):=
 (qjN (n.1,n.2.1,n.2.2.1,n.2.2.2.1,n.2.2.2.2.1,n.2.2.2.2.2) ((c.1.1,c.1.2.1,c.1.2.2.1,c.1.2.2.2),c.2.1,c.2.2.1,c.2.2.2) (r.1,r.2.1,(r.2.2.1.1,r.2.2.1.2.1,r.2.2.1.2.2.1,r.2.2.1.2.2.2.1,r.2.2.1.2.2.2.2.1,r.2.2.1.2.2.2.2.2.1,r.2.2.1.2.2.2.2.2.2),r.2.2.2.1,r.2.2.2.2.1,r.2.2.2.2.2)).bind fun r2=>
 bif !decide (r2.2=0) then(
 some ((f.1,f.2),((c.1.1,(c.1.2.1,(c.1.2.2.1,c.1.2.2.2))),(c.2.1,(c.2.2.1,c.2.2.2))),r2.2))
 else(
 (qgx (r.1,r.2.1,(r.2.2.1.1,r.2.2.1.2.1,r.2.2.1.2.2.1,r.2.2.1.2.2.2.1,r.2.2.1.2.2.2.2.1,r.2.2.1.2.2.2.2.2.1,r.2.2.1.2.2.2.2.2.2),r.2.2.2.1,r.2.2.2.2.1,r.2.2.2.2.2)).bind fun r3=>
 bif !decide (r3.1=0) then(
 some ((f.1,f.2),((c.1.1,(c.1.2.1,(c.1.2.2.1,c.1.2.2.2))),(c.2.1,(c.2.2.1,c.2.2.2))),r3.1))
 else(
 (qic (f.1,f.2) r3.2).bind fun r4=>
 bif !decide (r4.2=0) then(
 some ((f.1,f.2),((c.1.1,(c.1.2.1,(c.1.2.2.1,c.1.2.2.2))),(c.2.1,(c.2.2.1,c.2.2.2))),r4.2))
 else(
 (ql3 (r4.1.1,r4.1.2)).bind fun r5=>
 some ((r5.1,r5.2),((r2.1.1.1,(r2.1.1.2.1,(r2.1.1.2.2.1,r2.1.1.2.2.2))),(r2.1.2.1,(r2.1.2.2.1,r2.1.2.2.2))),0))))
def qmL:Fun:=
 ⟨9,4,3,
 ⟨[(0,dd tT0),(1,dd (.pair (.sl (.int .u8)) (.sl (.int .u8)))),(2,dd (.pair (.pair (.sl tT1) tT6) (.pair (.sl tT3) (.pair (.sl tT2) I6)))),(3,dd (.pair I6 (.pair (.sl I6) (.pair (.pair I6 (.pair I6 (.pair I6 tT4))) (.pair (.str) tT7)))))],[],[]⟩,
 ⟨r38_,[],[]⟩,
 fun x=>qjQ x.1 x.2.1 x.2.2.1 x.2.2.2⟩
theorem qsg:FO qmL:=fi [] [qmI,qlh,qli,qn7] 51 [] ((nn (nn (nn (nn (nn (mm (.mk [.fz [13]] none .nil .nil) .nil))))))) func9 ⟨⟨qsd,qrn,qro,qtB,trivial⟩,trivial⟩
def qi2(s:List Int):Option (List Int):=
 bif Nat.beq s.length 0 then(bothO (
 some []) (
 gd (fits (0+s.length) 1)<|
 some ([]++s)))
 else(
 gd (fits (0+s.length) 1)<|
 some ([]++s))
def qaO:Fun:=
 ⟨62,1,1,
 ⟨r89_,[],[]⟩,
 ⟨r89_,[],[]⟩,
 fun x=>qi2 x⟩
theorem qhC:FO qaO:=fi [5] [] 8 [] .nil func62 ⟨trivial,trivial⟩
def qbi(s:List Int):Option (List Int):=gd (fits (0+s.length) 1) (some ([]++s))
def qcK:Fun:={ f:=qaO.f,np:=qaO.np,nr:=qaO.nr,ji:=qaO.ji,jo:=qaO.jo,tw:=fun x=>qbi x }
theorem qei:FO qcK:=qhC.le fun x=>qh1 x _
def qaf(s:List yT0)(f:yT0×Unit->Option Bool)(v:Int):Option (Int⊕(Unit⊕Int)):=
 bif decide (v<(s.length:Int)) then(
 gd (inB v s.length)<|
 (f (s.getD v.toNat ([],0,0,0,0,0,[]),())).bind fun r=>
 bif r then(
 some (.inr (.inr v)))
 else(
 some (.inl (wi64 (v+1)))))
 else(
 some (.inr (.inl ())))
def qaH(s:List yT0)(f:yT0×Unit->Option Bool):Option (Int):=
 (iter (fun x=>qaf s f x) 0).bind fun s2=>
 s2.elim (fun s3=>
 some (-1))
 (fun s4=>
 some s4)
def qbs:Fun:=
 ⟨211,2,1,
 ⟨r90_,[],[]⟩,
 ⟨[(0,ii)],[],[]⟩,
 fun x=>qaH x.1 x.2⟩
theorem qcZ:FO qbs:=fi [] [] 19 [] ((nn (mm (nn (mm (.mk [] (some (⟨r34_,[],[]⟩,[⟨.x 0,⟨[],[],[]⟩⟩,⟨.r,⟨[(4,ii)],[],[]⟩⟩])) .nil .nil) .nil)) .nil))) func211 ⟨trivial,trivial⟩
def qap(s:List yT0)(f:yT0×Unit->Option Bool):Option (Bool):=
 (qaH s f).bind fun r=>
 some (decide (0<=r))
def qaM:Fun:=
 ⟨178,2,1,
 ⟨r90_,[],[]⟩,
 ⟨[(0,bb)],[],[]⟩,
 fun x=>qap x.1 x.2⟩
theorem qbj:FO qaM:=fi [] [qbs] 9 [] .nil func178 ⟨⟨qcZ,trivial⟩,trivial⟩
def qgK(s:yB10):Option (Bool):=
 bif decide ((s.2.2.2.2.2.2.length:Int)<2) then(
 some true)
 else(
 some (decide (8<(s.2.2.2.2.2.2.length:Int))))
def qhD:Fun:=
 ⟨179,1,1,
 ⟨r98_,[],[]⟩,
 ⟨[(0,bb)],[],[]⟩,
 fun x=>qgK x⟩
theorem qnb:FO qhD:=fi [] [] 13 [] .nil func179 ⟨trivial,trivial⟩
def qej(n:yB0):Option (Bool):=
 Option.bind (α:=Bool) (
 bif decide ((n.1.length:Int)<1) then(
 some true)
 else(
 bif decide (24<(n.1.length:Int)) then(
 some true)
 else(
 bif decide (32<(n.2.1.length:Int)) then(
 some true)
 else(
 bif decide (24<(n.2.2.1.length:Int)) then(
 some true)
 else(
 some (decide (12<(n.2.2.2.1.length:Int)))))))) fun s=>
 bif s then(
 some false)
 else(
 (qap n.2.1 (fun h=>(qgK h.1).bind fun y=>some y)).bind fun r=>
 some (!r))
def qi3:Fun:=
 ⟨126,1,1,
 ⟨[(0,dd tT0)],[],[]⟩,
 ⟨[(0,bb)],[],[]⟩,
 fun x=>qej x⟩
theorem qo0:FO qi3:=fi [] [qaM,qhD] 35 [] ((nn (mm (mm (.mk [.join [⟨.n,⟨[(1,pt 32 0),(30,bb)],v7_,[]⟩⟩]] none .nil .nil) .nil) .nil))) func126 ⟨⟨qbj,qnb,trivial⟩,trivial⟩
def qeC(n:yB0)(v:Int)(out:List (List UInt8)):Option ((Int×List (List UInt8))⊕(List (List UInt8))):=
 bif decide (v<(n.2.1.length:Int)) then(
 gd (inB v n.2.1.length)<|
 gd (fits (out.length+1) 16)<|
 some (.inl (wi64 (v+1),out++[(n.2.1.getD v.toNat ([],(0,(0,(0,(0,(0,[]))))))).1])))
 else(
 some (.inr out))
def qeD(n:yB0)(v2:Int)(out2:List (List UInt8))(out3:List (List UInt8)):Option ((Int×List (List UInt8)×List (List UInt8))⊕(List (List UInt8)×List (List UInt8))):=
 bif decide (v2<(n.2.2.1.length:Int)) then(
 gd (inB v2 n.2.2.1.length)<|
 gd (fits (out3.length+1) 16)<|
 some (.inl (wi64 (v2+1),out2,out3++[(n.2.2.1.getD v2.toNat ([],(0,0))).1])))
 else(
 some (.inr (out2,out3)))
def qeE(n:yB0)(v3:Int)(out4:List (List UInt8))(out5:List (List UInt8))(out6:List (List UInt8)):Option ((Int×List (List UInt8)×List (List UInt8)×List (List UInt8))⊕(List (List UInt8)×List (List UInt8)×List (List UInt8))):=
 bif decide (v3<(n.2.2.2.1.length:Int)) then(
 gd (inB v3 n.2.2.2.1.length)<|
 gd (fits (out6.length+1) 16)<|
 some (.inl (wi64 (v3+1),out4,out5,out6++[(n.2.2.2.1.getD v3.toNat ([],(0,(0,(0,0))))).1])))
 else(
 some (.inr (out4,out5,out6)))
def qb3(n:yB0):Option yB12:=
 (iter (fun x=>qeC n x.1 x.2) (0,[])).bind fun s=>
 (iter (fun x2=>qeD n x2.1 x2.2.1 x2.2.2) (0,s,[])).bind fun s2=>
 (iter (fun x3=>qeE n x3.1 x3.2.1 x3.2.2.1 x3.2.2.2) (0,s2.1,s2.2,[])).bind fun s3=>
 some (n.1,s3.1,s3.2.1,s3.2.2)
def qgL:Fun:=
 ⟨127,1,1,
 ⟨[(0,dd tT0)],[],[]⟩,
 ⟨r74_,[],[]⟩,
 fun x=>qb3 x⟩
theorem qkl:FO qgL:=fi [] [] 59 [] ((nn (nn (nn (mm (nn (mm (.mk [] (some (⟨r95_,v33_,a136_⟩,[⟨.x 0,⟨r41_,v33_,a136_⟩⟩])) .nil .nil) .nil)) (mm (nn (mm (.mk [] (some (⟨r96_,v30_,a69_⟩,[⟨.x 2,⟨r41_,v30_,a69_⟩⟩])) .nil .nil) .nil)) (mm (nn (mm (.mk [] (some (⟨r115_,v36_,a37_⟩,[⟨.x 4,⟨r32_,v36_,a37_⟩⟩])) .nil .nil) .nil)) .nil))))))) func127 ⟨trivial,trivial⟩
def qaz(s:List (List UInt8))(f:List UInt8×Unit->Option Bool)(v:Int):Option (Int⊕(Unit⊕Int)):=
 bif decide (v<(s.length:Int)) then(
 gd (inB v s.length)<|
 (f (s.getD v.toNat [],())).bind fun r=>
 bif r then(
 some (.inr (.inr v)))
 else(
 some (.inl (wi64 (v+1)))))
 else(
 some (.inr (.inl ())))
def qbf(s:List (List UInt8))(f:List UInt8×Unit->Option Bool):Option (Int):=
 (iter (fun x=>qaz s f x) 0).bind fun s2=>
 s2.elim (fun s3=>
 some (-1))
 (fun s4=>
 some s4)
def qcx:Fun:=
 ⟨180,2,1,
 ⟨r125_,[],[]⟩,
 ⟨[(0,ii)],[],[]⟩,
 fun x=>qbf x.1 x.2⟩
theorem qfk:FO qcx:=fi [] [] 19 [] ((nn (mm (nn (mm (.mk [] (some (⟨r34_,[],[]⟩,[⟨.x 0,⟨[],[],[]⟩⟩,⟨.r,⟨[(4,ii)],[],[]⟩⟩])) .nil .nil) .nil)) .nil))) func180 ⟨trivial,trivial⟩
def qaA(s:List (List UInt8))(f:List UInt8×Unit->Option Bool):Option (Bool):=
 (qbf s f).bind fun r=>
 some (decide (0<=r))
def qca:Fun:=
 ⟨128,2,1,
 ⟨r125_,[],[]⟩,
 ⟨[(0,bb)],[],[]⟩,
 fun x=>qaA x.1 x.2⟩
theorem qek:FO qca:=fi [] [qcx] 9 [] .nil func128 ⟨⟨qfk,trivial⟩,trivial⟩
def qeY(c:Int):Option (Int):=
 Option.bind (α:=Unit⊕Unit⊕Int) (
 Option.bind (α:=Bool) (
 bif decide (97<=c) then(
 some (decide (c<=122)))
 else(
 some false)) fun s=>
 bif s then(
 some (.inr (.inr 1)))
 else(
 Option.bind (α:=Bool) (
 bif decide (48<=c) then(
 some (decide (c<=57)))
 else(
 some false)) fun s2=>
 bif s2 then(
 some (.inl ()))
 else(
 bif decide (c=45) then(
 some (.inl ()))
 else(
 some (.inr (.inl ())))))) fun s3=>
 s3.elim (fun s4=>
 some 2)
 (fun s5=>
 s5.elim (fun s6=>
 some 0)
 (fun s7=>
 some s7))
def qmM:Fun:=
 ⟨143,1,1,
 ⟨[(0,dd (.int .u8))],[],[]⟩,
 ⟨[(0,ii)],[],[]⟩,
 fun x=>qeY x⟩
theorem qsh:FO qmM:=fi [] [] 20 [] ((nn (mm (mm (mm (.mk [.join [⟨.n,⟨[],[],[]⟩⟩,⟨.x 0,⟨[],[],[]⟩⟩,⟨.r,⟨[(2,ii)],[],[]⟩⟩]] none (mm (mm (mm (mm (mm (mm (.mk [.join [⟨.n,⟨[(0,kk),(3,bb)],[],[]⟩⟩]] none .nil .nil) .nil) (mm (mm (.mk [.join [⟨.n,⟨[(0,kk),(10,bb)],[],[]⟩⟩]] none .nil .nil) .nil) .nil)) .nil) .nil) .nil) .nil) .nil) .nil) .nil) .nil))) func143 ⟨trivial,trivial⟩
def qb4(s:List UInt8)(v:Int):Option (Int⊕(Unit⊕Bool)):=
 bif decide (v<(s.length:Int)) then(
 gd (inB v s.length)<|
 (qeY (Int.ofNat (s.getD v.toNat 0).toNat)).bind fun r2=>
 bif decide (r2=0) then(
 some (.inr (.inr false)))
 else(
 some (.inl (wi64 (v+1)))))
 else(
 some (.inr (.inl ())))
def qcR(s:List UInt8):Option (Bool):=
 Option.bind (α:=Bool) (
 bif decide ((s.length:Int)<1) then(
 some true)
 else(
 bif decide (12<(s.length:Int)) then(
 some true)
 else(
 gd (inB 0 s.length)<|
 (qeY (Int.ofNat (s.getD 0 0).toNat)).bind fun r=>
 some (!decide (r=1))))) fun s2=>
 bif s2 then(
 some false)
 else(
 (iter (fun x=>qb4 s x) 0).bind fun s3=>
 s3.elim (fun s4=>
 some true)
 (fun s5=>
 some s5))
def qg4:Fun:=
 ⟨84,1,1,
 ⟨[(0,ss)],[],[]⟩,
 ⟨[(0,bb)],[],[]⟩,
 fun x=>qcR x⟩
theorem qjR:FO qg4:=fi [] [qmM] 29 [] ((nn (mm (mm (.mk [.join [⟨.n,⟨[(0,kk),(17,bb)],[],[]⟩⟩]] none .nil .nil) .nil) (mm (nn (mm (.mk [] (some (⟨[(0,kk),(19,kk),(20,ii)],[],[]⟩,[⟨.x 0,⟨[],[],[]⟩⟩,⟨.r,⟨[(2,bb)],[],[]⟩⟩])) .nil .nil) .nil)) .nil)))) func84 ⟨⟨qsh,trivial⟩,trivial⟩
def qcS(s:List UInt8):Option (Bool):=
 (qcR s).bind fun r=>
 some (!r)
def qid:Fun:=
 ⟨129,1,1,
 ⟨[(0,ss)],[],[]⟩,
 ⟨[(0,bb)],[],[]⟩,
 fun x=>qcS x⟩
theorem qn8:FO qid:=fi [] [qg4] 6 [] .nil func129 ⟨⟨qjR,trivial⟩,trivial⟩
def qaI(s:List (List UInt8))(v:List UInt8)(v2:Int):Option (Int⊕(Unit⊕Int)):=
 bif decide (v2<(s.length:Int)) then(
 gd (inB v2 s.length)<|
 bif decide (v=s.getD v2.toNat []) then(
 some (.inr (.inr v2)))
 else(
 some (.inl (wi64 (v2+1)))))
 else(
 some (.inr (.inl ())))
def qaW(s:List (List UInt8))(v:List UInt8):Option (Int):=
 (iter (fun x=>qaI s v x) 0).bind fun s2=>
 s2.elim (fun s3=>
 some (-1))
 (fun s4=>
 some s4)
def qdb:Fun:=
 ⟨181,2,1,
 ⟨[(0,dd (.sl (.str))),(1,ss)],[],[]⟩,
 ⟨[(0,ii)],[],[]⟩,
 fun x=>qaW x.1 x.2⟩
theorem qgM:FO qdb:=fi [] [] 19 [] ((nn (mm (nn (mm (.mk [] (some (⟨r34_,[],[]⟩,[⟨.x 0,⟨[],[],[]⟩⟩,⟨.r,⟨[(4,ii)],[],[]⟩⟩])) .nil .nil) .nil)) .nil))) func181 ⟨trivial,trivial⟩
def qlj(x:yB1)(v:yB1):Option (Bool):=
 some (decide (x.2.1=v.2.1))
def qie:Fun:=
 ⟨183,2,1,
 ⟨[(0,dd tT2),(1,.one (.sel tT2))],[],[]⟩,
 ⟨[(0,bb)],[],[]⟩,
 fun x=>qlj x.1 x.2⟩
theorem qn9:FO qie:=fi [] [] 9 [] .nil func183 ⟨trivial,trivial⟩
def qag(s:List yB1)(f:yB1×Unit->Option Bool)(v:Int):Option (Int⊕(Unit⊕Int)):=
 bif decide (v<(s.length:Int)) then(
 gd (inB v s.length)<|
 (f (s.getD v.toNat ([],0,0,0,0),())).bind fun r=>
 bif r then(
 some (.inr (.inr v)))
 else(
 some (.inl (wi64 (v+1)))))
 else(
 some (.inr (.inl ())))
def qam(s:List yB1)(f:yB1×Unit->Option Bool):Option (Int):=
 (iter (fun x=>qag s f x) 0).bind fun s2=>
 s2.elim (fun s3=>
 some (-1))
 (fun s4=>
 some s4)
def qaX:Fun:=
 ⟨182,2,1,
 ⟨r75_,[],[]⟩,
 ⟨[(0,ii)],[],[]⟩,
 fun x=>qam x.1 x.2⟩
theorem qbt:FO qaX:=fi [] [] 19 [] ((nn (mm (nn (mm (.mk [] (some (⟨r34_,[],[]⟩,[⟨.x 0,⟨[],[],[]⟩⟩,⟨.r,⟨[(4,ii)],[],[]⟩⟩])) .nil .nil) .nil)) .nil))) func182 ⟨trivial,trivial⟩
def qeF(r:yB12)(v:Int)(v2:Int):Option (Int⊕(Unit⊕Bool)):=
 bif decide (v2<(([r.1,r.2.1,r.2.2.1,r.2.2.2].getD v.toNat []).length:Int)) then(
 gd (inB v2 ([r.1,r.2.1,r.2.2.1,r.2.2.2].getD v.toNat []).length)<|
 (qaW ([r.1,r.2.1,r.2.2.1,r.2.2.2].getD v.toNat []) (([r.1,r.2.1,r.2.2.1,r.2.2.2].getD v.toNat []).getD v2.toNat [])).bind fun r2=>
 bif decide (r2<v2) then(
 some (.inr (.inr true)))
 else(
 some (.inl (wi64 (v2+1)))))
 else(
 some (.inr (.inl ())))
def qeG(r:yB12)(v:Int):Option (Int⊕(Unit⊕Bool)):=
 bif decide (v<4) then(
 gd (inB v 4)<|
 (iter (fun x=>qeF r v x) 0).bind fun s=>
 s.elim (fun s2=>
 some (.inl (wi64 (v+1))))
 (fun s3=>
 some (.inr (.inr s3))))
 else(
 some (.inr (.inl ())))
def qeH(n:yB0)(v3:Int):Option (Int⊕(Unit⊕Bool)):=
 bif decide (v3<(n.2.2.2.1.length:Int)) then(
 gd (inB v3 n.2.2.2.1.length)<|
 (qam n.2.2.2.1 (fun h=>(qlj h.1 ((n.2.2.2.1.getD v3.toNat ([],0,0,0,0)).1,((n.2.2.2.1.getD v3.toNat ([],0,0,0,0)).2).1,(((n.2.2.2.1.getD v3.toNat ([],0,0,0,0)).2).2).1,((((n.2.2.2.1.getD v3.toNat ([],0,0,0,0)).2).2).2).1,((((n.2.2.2.1.getD v3.toNat ([],0,0,0,0)).2).2).2).2)).bind fun y=>some y)).bind fun r3=>
 bif decide (r3<v3) then(
 some (.inr (.inr true)))
 else(
 some (.inl (wi64 (v3+1)))))
 else(
 some (.inr (.inl ())))
def qfl(n:yB0):Option (Bool):=
 (qb3 (n.1,n.2.1,n.2.2.1,n.2.2.2.1,n.2.2.2.2.1,n.2.2.2.2.2)).bind fun r=>
 (iter (fun x2=>qeG r x2) 0).bind fun s4=>
 s4.elim (fun s5=>
 (iter (fun x3=>qeH n x3) 0).bind fun s7=>
 s7.elim (fun s8=>
 some false)
 (fun s9=>
 some s9))
 (fun s6=>
 some s6)
def qkm:Fun:=
 ⟨130,1,1,
 ⟨[(0,dd tT0)],[],[]⟩,
 ⟨[(0,bb)],[],[]⟩,
 fun x=>qfl x⟩
theorem qpT:FO qkm:=fi [] [qgL,qdb,qaX,qie] 43 [] ((nn (mm (nn (mm (.mk [] (some (⟨[(1,pt 32 0),(10,kk),(11,ii)],v7_,[]⟩,[⟨.x 0,⟨[(1,pt 32 0)],v7_,[]⟩⟩,⟨.r,⟨[(2,bb)],[],[]⟩⟩])) (nn (nn (mm (mm (nn (nn (mm (.mk [] (some (⟨[(1,pt 32 0),(4,kk),(10,kk),(11,kk),(14,kk),(15,kk),(16,ii)],v7_,[]⟩,[⟨.x 2,⟨[(1,pt 32 0),(10,kk),(11,kk)],v7_,[]⟩⟩,⟨.r,⟨[(2,bb)],[],[]⟩⟩])) .nil .nil) .nil))) .nil) .nil))) .nil) .nil)) (mm (nn (mm (.mk [] (some (⟨[(1,pt 32 0),(29,kk),(30,kk),(31,ii)],v7_,[]⟩,[⟨.x 4,⟨[],[],[]⟩⟩,⟨.r,⟨[(2,bb)],[],[]⟩⟩])) (nn (nn (mm (mm (nn (mm (.mk [.fv [(8,.pair (.str) (.pair I6 (.pair I6 tT7)))]] none .nil .nil) .nil)) .nil) .nil))) .nil) .nil)) .nil)))) func130 ⟨⟨qkl,qgM,qbt,qn9,trivial⟩,trivial⟩
def qfm(k:Int)(v:yB0):Option (Bool):=
 bif decide (k<0) then(
 some true)
 else(
 some (decide ((v.1.length:Int)<=k)))
def qif:Fun:=
 ⟨184,2,1,
 ⟨[(0,ii),(1,.one (.sel tT0))],[],[]⟩,
 ⟨[(0,bb)],[],[]⟩,
 fun x=>qfm x.1 x.2⟩
theorem qoa:FO qif:=fi [] [] 13 [] .nil func184 ⟨trivial,trivial⟩
def qaP(s:List Int)(f:Int×Unit->Option Bool)(v:Int):Option (Int⊕(Unit⊕Int)):=
 bif decide (v<(s.length:Int)) then(
 gd (inB v s.length)<|
 (f (s.getD v.toNat 0,())).bind fun r=>
 bif r then(
 some (.inr (.inr v)))
 else(
 some (.inl (wi64 (v+1)))))
 else(
 some (.inr (.inl ())))
def qbS(s:List Int)(f:Int×Unit->Option Bool):Option (Int):=
 (iter (fun x=>qaP s f x) 0).bind fun s2=>
 s2.elim (fun s3=>
 some (-1))
 (fun s4=>
 some s4)
def qdx:Fun:=
 ⟨144,2,1,
 ⟨r121_,[],[]⟩,
 ⟨[(0,ii)],[],[]⟩,
 fun x=>qbS x.1 x.2⟩
theorem qhE:FO qdx:=fi [] [] 19 [] ((nn (mm (nn (mm (.mk [] (some (⟨r34_,[],[]⟩,[⟨.x 0,⟨[],[],[]⟩⟩,⟨.r,⟨[(4,ii)],[],[]⟩⟩])) .nil .nil) .nil)) .nil))) func144 ⟨trivial,trivial⟩
def qaF(s:List Int)(f:Int×Unit->Option Bool):Option (Bool):=
 (qbS s f).bind fun r=>
 some (decide (0<=r))
def qbg:Fun:=
 ⟨86,2,1,
 ⟨r121_,[],[]⟩,
 ⟨[(0,bb)],[],[]⟩,
 fun x=>qaF x.1 x.2⟩
theorem qbL:FO qbg:=fi [] [qdx] 9 [] .nil func86 ⟨⟨qhE,trivial⟩,trivial⟩
def qeI(n:yB0)(v:Int)(all:List Int):Option ((Int×List Int)⊕(List Int)):=
 bif decide (v<(n.2.1.length:Int)) then(
 gd (inB v n.2.1.length)<|
 gd (fits (all.length+2) 8)<|
 some (.inl (wi64 (v+1),all++[((n.2.1.getD v.toNat ([],(0,(0,(0,(0,(0,[]))))))).2).1,(((n.2.1.getD v.toNat ([],(0,(0,(0,(0,(0,[]))))))).2).2).1])))
 else(
 some (.inr all))
def qeJ(n:yB0)(v2:Int)(all2:List Int):Option ((Int×List Int)⊕(List Int)):=
 bif decide (v2<(n.2.2.1.length:Int)) then(
 gd (inB v2 n.2.2.1.length)<|
 gd (fits (all2.length+1) 8)<|
 some (.inl (wi64 (v2+1),all2++[((n.2.2.1.getD v2.toNat ([],(0,0))).2).1])))
 else(
 some (.inr all2))
def qeK(n:yB0)(v3:Int)(all3:List Int):Option ((Int×List Int)⊕(List Int)):=
 bif decide (v3<(n.2.2.2.1.length:Int)) then(
 gd (inB v3 n.2.2.2.1.length)<|
 gd (fits (all3.length+1) 8)<|
 some (.inl (wi64 (v3+1),all3++[((n.2.2.2.1.getD v3.toNat ([],(0,(0,(0,0))))).2).1])))
 else(
 some (.inr all3))
def qfn(n:yB0):Option (Bool):=
 (iter (fun x=>qeI n x.1 x.2) (0,[])).bind fun s=>
 (iter (fun x2=>qeJ n x2.1 x2.2) (0,s)).bind fun s2=>
 (iter (fun x3=>qeK n x3.1 x3.2) (0,s2)).bind fun s3=>
 (qaF s3 (fun h=>(qfm h.1 (n.1,n.2.1,n.2.2.1,n.2.2.2.1,n.2.2.2.2.1,n.2.2.2.2.2)).bind fun y=>some y)).bind fun r=>
 some (!r)
def qkn:Fun:=
 ⟨131,1,1,
 ⟨[(0,dd tT0)],[],[]⟩,
 ⟨[(0,bb)],[],[]⟩,
 fun x=>qfn x⟩
theorem qpU:FO qkn:=fi [] [qbg,qif] 55 [] ((nn (nn (mm (nn (mm (.mk [] (some (⟨[(1,pt 32 0),(3,ow 75),(11,kk),(12,kk),(13,ii)],v7_,a130_⟩,[⟨.x 0,⟨[(1,pt 32 0),(3,ow 75)],v7_,a130_⟩⟩])) .nil .nil) .nil)) (mm (nn (mm (.mk [] (some (⟨[(1,pt 32 0),(3,ow 75),(26,kk),(27,kk),(28,ii)],v7_,a130_⟩,[⟨.x 2,⟨[(1,pt 32 0),(3,ow 75)],v7_,a130_⟩⟩])) .nil .nil) .nil)) (mm (nn (mm (.mk [] (some (⟨[(1,pt 32 0),(3,ow 75),(39,kk),(40,kk),(41,ii)],v7_,a130_⟩,[⟨.x 4,⟨[(1,pt 32 0),(3,ow 75)],v7_,a130_⟩⟩])) .nil .nil) .nil)) (mm (.mk [.fv [(1,.pair (.sl (.str)) (.pair (.sl (.pair (.str) tT5)) (.pair (.sl (.pair (.str) tT7)) (.pair (.sl tT2) tT7))))]] none .nil .nil) .nil))))))) func131 ⟨⟨qbL,qoa,trivial⟩,trivial⟩
def qbT(n:Int)(least:Int)(most:Int):Option (Bool):=
 bif decide (least<=n) then(
 some (decide (n<=most)))
 else(
 some false)
def qfo:Fun:=
 ⟨189,3,1,
 ⟨r102_,[],[]⟩,
 ⟨[(0,bb)],[],[]⟩,
 fun x=>qbT x.1 x.2.1 x.2.2⟩
theorem qg5:FO qfo:=fi [] [] 15 [] .nil func189 ⟨trivial,trivial⟩
def qfp(s:yB10)(v:Int):Option (Int⊕(Unit⊕Bool)):=
 bif decide (v<(s.2.2.2.2.2.2.length:Int)) then(
 gd (inB v s.2.2.2.2.2.2.length)<|
 Option.bind (α:=Bool) (
 (qbT (((s.2.2.2.2.2.2.getD v.toNat (0,0,0)).2).1) (-500) 5000).bind fun r4=>
 bif !r4 then(
 some true)
 else(
 (qbT (((s.2.2.2.2.2.2.getD v.toNat (0,0,0)).2).2) 0 100000000).bind fun r5=>
 bif !r5 then(
 some true)
 else(
 bif decide (0<v) then(
 gd (inB (wi64 (v-1)) s.2.2.2.2.2.2.length)<|
 some (decide ((s.2.2.2.2.2.2.getD v.toNat (0,(0,0))).1<=(s.2.2.2.2.2.2.getD (wi64 (v-1)).toNat (0,(0,0))).1)))
 else(
 some false)))) fun s3=>
 bif s3 then(
 some (.inr (.inr false)))
 else(
 some (.inl (wi64 (v+1)))))
 else(
 some (.inr (.inl ())))
def qgy(s:yB10):Option (Bool):=
 Option.bind (α:=Bool) (
 bif decide (s.2.1=s.2.2.1) then(
 some true)
 else(
 (qbT s.2.2.2.1 1 1000000).bind fun r=>
 bif !r then(
 some true)
 else(
 (qbT s.2.2.2.2.1 0 1000).bind fun r2=>
 bif !r2 then(
 some true)
 else(
 (qbT s.2.2.2.2.2.1 0 100000).bind fun r3=>
 some (!r3))))) fun s2=>
 bif s2 then(
 some false)
 else(
 (iter (fun x=>qfp s x) 0).bind fun s4=>
 s4.elim (fun s5=>
 gd (inB 0 s.2.2.2.2.2.2.length)<|
 bif decide ((s.2.2.2.2.2.2.getD 0 (0,0,0)).1=0) then(
 gd (inB (wi64 ((s.2.2.2.2.2.2.length:Int)-1)) s.2.2.2.2.2.2.length)<|
 some (decide ((s.2.2.2.2.2.2.getD (wi64 ((s.2.2.2.2.2.2.length:Int)-1)).toNat (0,(0,0))).1=s.2.2.2.1)))
 else(
 some false))
 (fun s6=>
 some s6))
def qlk:Fun:=
 ⟨186,1,1,
 ⟨r98_,[],[]⟩,
 ⟨[(0,bb)],[],[]⟩,
 fun x=>qgy x⟩
theorem qrp:FO qlk:=fi [] [qfo] 83 [] ((nn (mm (mm (.mk [.join [⟨.n,⟨[(1,pt 32 0),(27,bb)],v104_,[]⟩⟩]] none .nil .nil) .nil) (mm (nn (mm (.mk [] (some (⟨[(1,pt 32 0),(29,kk),(30,kk),(31,ii)],v104_,[]⟩,[⟨.x 0,⟨[(1,pt 32 0)],v104_,[]⟩⟩,⟨.r,⟨[(2,bb)],[],[]⟩⟩])) (nn (nn (mm (mm (nn (mm (.mk [.join [⟨.n,⟨[(1,pt 32 0),(29,kk),(30,kk),(31,kk),(61,bb)],v104_,[]⟩⟩]] none .nil .nil) .nil)) .nil) .nil))) .nil) .nil)) .nil)))) func186 ⟨⟨qg5,trivial⟩,trivial⟩
def qeL(s:yB10):Option (Bool):=
 (qgy (s.1,s.2.1,s.2.2.1,s.2.2.2.1,s.2.2.2.2.1,s.2.2.2.2.2.1,s.2.2.2.2.2.2)).bind fun r=>
 some (!r)
def qhF:Fun:=
 ⟨185,1,1,
 ⟨r98_,[],[]⟩,
 ⟨[(0,bb)],[],[]⟩,
 fun x=>qeL x⟩
theorem qnc:FO qhF:=fi [] [qlk] 6 [] .nil func185 ⟨⟨qrp,trivial⟩,trivial⟩
def qar(s:yB13)(f:(List UInt8×Int×Int)×Unit->Option Bool)(v:Int):Option (Int⊕(Unit⊕Int)):=
 bif decide (v<(s.length:Int)) then(
 gd (inB v s.length)<|
 (f (s.getD v.toNat ([],0,0),())).bind fun r=>
 bif r then(
 some (.inr (.inr v)))
 else(
 some (.inl (wi64 (v+1)))))
 else(
 some (.inr (.inl ())))
def qa2(s:yB13)(f:(List UInt8×Int×Int)×Unit->Option Bool):Option (Int):=
 (iter (fun x=>qar s f x) 0).bind fun s2=>
 s2.elim (fun s3=>
 some (-1))
 (fun s4=>
 some s4)
def qbX:Fun:=
 ⟨212,2,1,
 ⟨r91_,[],[]⟩,
 ⟨[(0,ii)],[],[]⟩,
 fun x=>qa2 x.1 x.2⟩
theorem qd3:FO qbX:=fi [] [] 19 [] ((nn (mm (nn (mm (.mk [] (some (⟨r34_,[],[]⟩,[⟨.x 0,⟨[],[],[]⟩⟩,⟨.r,⟨[(4,ii)],[],[]⟩⟩])) .nil .nil) .nil)) .nil))) func212 ⟨trivial,trivial⟩
def qaN(s:yB13)(f:(List UInt8×Int×Int)×Unit->Option Bool):Option (Bool):=
 (qa2 s f).bind fun r=>
 some (decide (0<=r))
def qbF:Fun:=
 ⟨187,2,1,
 ⟨r91_,[],[]⟩,
 ⟨[(0,bb)],[],[]⟩,
 fun x=>qaN x.1 x.2⟩
theorem qdq:FO qbF:=fi [] [qbX] 9 [] .nil func187 ⟨⟨qd3,trivial⟩,trivial⟩
def qeM(p:List UInt8×Int×Int):Option (Bool):=
 (qbT p.2.2 0 100000000).bind fun r=>
 some (!r)
def qhG:Fun:=
 ⟨188,1,1,
 ⟨[(0,dd (.pair (.str) tT7))],[],[]⟩,
 ⟨[(0,bb)],[],[]⟩,
 fun x=>qeM x⟩
theorem qnd:FO qhG:=fi [] [qfo] 7 [] .nil func188 ⟨⟨qg5,trivial⟩,trivial⟩
def qaD(s:List yB1)(f:yB1×Unit->Option Bool):Option (Bool):=
 (qam s f).bind fun r=>
 some (decide (0<=r))
def qbk:Fun:=
 ⟨190,2,1,
 ⟨r75_,[],[]⟩,
 ⟨[(0,bb)],[],[]⟩,
 fun x=>qaD x.1 x.2⟩
theorem qcO:FO qbk:=fi [] [qaX] 9 [] .nil func190 ⟨⟨qbt,trivial⟩,trivial⟩
def qeN(s:yB1):Option (Bool):=
 (qbT s.2.2.1 0 100000000).bind fun r=>
 bif !r then(
 some true)
 else(
 (qbT s.2.2.2.1 0 100000).bind fun r2=>
 bif !r2 then(
 some true)
 else(
 (qbT s.2.2.2.2 0 100000000).bind fun r3=>
 some (!r3)))
def qhH:Fun:=
 ⟨191,1,1,
 ⟨[(0,dd tT2)],[],[]⟩,
 ⟨[(0,bb)],[],[]⟩,
 fun x=>qeN x⟩
theorem qne:FO qhH:=fi [] [qfo] 19 [] .nil func191 ⟨⟨qg5,trivial⟩,trivial⟩
def qel(n:yB0):Option (Bool):=
 (qap n.2.1 (fun h=>(qeL h.1).bind fun y=>some y)).bind fun r=>
 bif r then(
 some false)
 else(
 (qaN n.2.2.1 (fun h2=>(qeM h2.1).bind fun y=>some y)).bind fun r2=>
 bif r2 then(
 some false)
 else(
 (qaD n.2.2.2.1 (fun h3=>(qeN h3.1).bind fun y=>some y)).bind fun r3=>
 bif r3 then(
 some false)
 else(
 (qbT n.2.2.2.2.1 (-100000) 100000000).bind fun r4=>
 bif r4 then(
 (qbT n.2.2.2.2.2 0 100).bind fun r5=>
 some r5)
 else(
 some false))))
def qi4:Fun:=
 ⟨132,1,1,
 ⟨[(0,dd tT0)],[],[]⟩,
 ⟨[(0,bb)],[],[]⟩,
 fun x=>qel x⟩
theorem qo1:FO qi4:=fi [] [qaM,qhF,qbF,qhG,qbk,qhH,qfo] 20 [] .nil func132 ⟨⟨qbj,qnc,qdq,qnd,qcO,qne,qg5,trivial⟩,trivial⟩
def qeO(r2:yB12)(v:Int):Option (Int⊕(Unit⊕Int)):=
 bif decide (v<4) then(
 gd (inB v 4)<|
 (qaA ([r2.1,r2.2.1,r2.2.2.1,r2.2.2.2].getD v.toNat []) (fun h=>(qcS h.1).bind fun y=>some y)).bind fun r3=>
 bif r3 then(
 some (.inr (.inr 3)))
 else(
 some (.inl (wi64 (v+1)))))
 else(
 some (.inr (.inl ())))
def qcy(n:yB0):Option (Int):=
 (qej (n.1,n.2.1,n.2.2.1,n.2.2.2.1,n.2.2.2.2.1,n.2.2.2.2.2)).bind fun r=>
 bif !r then(
 some 4)
 else(
 (qb3 (n.1,n.2.1,n.2.2.1,n.2.2.2.1,n.2.2.2.2.1,n.2.2.2.2.2)).bind fun r2=>
 (iter (fun x=>qeO r2 x) 0).bind fun s=>
 s.elim (fun s2=>
 (qfl (n.1,n.2.1,n.2.2.1,n.2.2.2.1,n.2.2.2.2.1,n.2.2.2.2.2)).bind fun r4=>
 bif r4 then(
 some 7)
 else(
 (qfn (n.1,n.2.1,n.2.2.1,n.2.2.2.1,n.2.2.2.2.1,n.2.2.2.2.2)).bind fun r5=>
 bif !r5 then(
 some 8)
 else(
 (qel (n.1,n.2.1,n.2.2.1,n.2.2.2.1,n.2.2.2.2.1,n.2.2.2.2.2)).bind fun r6=>
 bif !r6 then(
 some 9)
 else(
 some 0))))
 (fun s3=>
 some s3))
def qcu:Fun:=
 ⟨73,1,1,
 ⟨[(0,dd tT0)],[],[]⟩,
 ⟨[(0,ii)],[],[]⟩,
 fun x=>qcy x⟩
theorem qdc:FO qcu:=fi [] [qi3,qgL,qca,qid,qkm,qkn,qi4] 27 [] ((nn (nn (mm (nn (mm (.mk [] (some (⟨[(1,pt 32 0),(9,kk),(10,ii)],v7_,[]⟩,[⟨.x 0,⟨[(1,pt 32 0)],v7_,[]⟩⟩,⟨.r,⟨[(2,ii)],[],[]⟩⟩])) .nil .nil) .nil)) .nil)))) func73 ⟨⟨qo0,qkl,qek,qn8,qpT,qpU,qo1,trivial⟩,trivial⟩
def qdy(v:Int×Int×Bool×Bool):Option (Bool):=
 bif decide (1<=v.1) then(
 bif decide (v.1<=60) then(
 bif decide (0<=v.2.1) then(
 some (decide (v.2.1<=v.1)))
 else(
 some false))
 else(
 some false))
 else(
 some false)
def qdj:Fun:=
 ⟨77,1,1,
 ⟨[(0,dd tT1)],[],[]⟩,
 ⟨[(0,bb)],[],[]⟩,
 fun x=>qdy x⟩
theorem qem:FO qdj:=fi [] [] 23 [] .nil func77 ⟨trivial,trivial⟩
def qgz(n:yB0):Option (Int):=
 some (wi64 ((n.2.1.length:Int)+(n.2.2.1.length:Int)))
def qhI:Fun:=
 ⟨74,1,1,
 ⟨[(0,dd tT0)],[],[]⟩,
 ⟨[(0,ii)],[],[]⟩,
 fun x=>qgz x⟩
theorem qll:FO qhI:=fi [] [] 10 [] .nil func74 ⟨trivial,trivial⟩
def qrq(x:Int)(y:Int):Option (Int×Int):=
 some (wu32 (Int.fdiv (wu64 ((wu64 x)*(wu64 y))) (2^shAmt .u64 32)),wu32 (wu64 ((wu64 x)*(wu64 y))))
def qob:Fun:=
 ⟨213,2,2,
 ⟨[(0,dd (.int .u32)),(1,dd (.int .u32))],[],[]⟩,
 ⟨[(0,dd (.int .u32)),(1,dd (.int .u32))],[],[]⟩,
 fun x=>qrq x.1 x.2⟩
theorem qxf:FO qob:=fi [] [] 17 [] .nil func213 ⟨trivial,trivial⟩
def qlm(x:Int)(y:Int):Option (Int×Int):=
 some (wu64 ((wu64 ((wu64 ((Int.fdiv x (2^shAmt .u64 32))*(Int.fdiv y (2^shAmt .u64 32))))+(Int.fdiv (wu64 ((wu64 ((Int.fdiv x (2^shAmt .u64 32))*(qdZ .u64 y 4294967295)))+(Int.fdiv (wu64 ((qdZ .u64 x 4294967295)*(qdZ .u64 y 4294967295))) (2^shAmt .u64 32)))) (2^shAmt .u64 32))))+(Int.fdiv (wu64 ((qdZ .u64 (wu64 ((wu64 ((Int.fdiv x (2^shAmt .u64 32))*(qdZ .u64 y 4294967295)))+(Int.fdiv (wu64 ((qdZ .u64 x 4294967295)*(qdZ .u64 y 4294967295))) (2^shAmt .u64 32)))) 4294967295)+(wu64 ((qdZ .u64 x 4294967295)*(Int.fdiv y (2^shAmt .u64 32)))))) (2^shAmt .u64 32))),wu64 (x*y))
def qig:Fun:=
 ⟨214,2,2,
 ⟨r79_,[],[]⟩,
 ⟨r79_,[],[]⟩,
 fun x=>qlm x.1 x.2⟩
theorem qoc:FO qig:=fi [] [] 51 [] .nil func214 ⟨trivial,trivial⟩
def qjS(x:Int)(y:Int):Option (Int×Int):=
 (qlm x y).bind fun r=>
 some (r.1,r.2)
def qko:Fun:=
 ⟨199,2,2,
 ⟨r79_,[],[]⟩,
 ⟨r79_,[],[]⟩,
 fun x=>qjS x.1 x.2⟩
theorem qpV:FO qko:=fi [] [qig] 30 [] .nil func199 ⟨⟨qoc,trivial⟩,trivial⟩
def qae(n:Int)(newslice:yB4):Option ((Int×List (Int×Int×Bool×Bool))⊕yB4):=
 bif decide (n<(newslice.length:Int)) then(
 gd (decide (0<newslice.length)&&inR n (newslice.length:Int) newslice.length)<|
 gd (decide (0<newslice.length)&&inR 0 n newslice.length)<|
 gd ((decide (newslice.length=newslice.length)&&(decide (newslice.length=newslice.length)&&decide (n.toNat<=newslice.length)))&&decide (0<newslice.length))<|
 some (.inl (wi64 (n+(Int.ofNat (min (newslice.take n.toNat).length (newslice.length-n.toNat)))),cpyD newslice n.toNat (newslice.take n.toNat))))
 else(
 some (.inr newslice))
def qa5(x:yB4)(count:Int):Option yB4:=
 Option.bind (α:=Unit) (
 bif decide (count<0) then(
 none)
 else(
 some ())) fun s=>
 (qjS (wu64 (x.length:Int)) (wu64 count)).bind fun r=>
 Option.bind (α:=Bool) (
 bif decide (0<r.1) then(
 some true)
 else(
 some (decide (9223372036854775807<r.2)))) fun s2=>
 Option.bind (α:=Unit) (
 bif s2 then(
 none)
 else(
 some ())) fun s3=>
 gd (makeG 24 (wi64 r.2))<|
 gd ((true&&true)&&decide (0<(List.replicate (wi64 r.2).toNat ((0,0,false,false):Int×Int×Bool×Bool)).length))<|
 (iter (fun x2=>qae x2.1 x2.2) (Int.ofNat (min x.length ((List.replicate (wi64 r.2).toNat ((0,0,false,false):Int×Int×Bool×Bool)).length-0)),cpyD (List.replicate (wi64 r.2).toNat ((0,0,false,false):Int×Int×Bool×Bool)) 0 x)).bind fun s4=>
 some s4
def qcb:Fun:=
 ⟨166,2,1,
 ⟨[(0,dd (.sl tT1)),(1,ii)],[],[]⟩,
 ⟨[(0,ow 0)],[],[(0,.arr 133 tT1)]⟩,
 fun x=>qa5 x.1 x.2⟩
theorem qen:FO qcb:=fi [5000044] [qko] 48 [] ((nn (mm (nn (.mk [.join [⟨.n,⟨[(0,kk),(1,kk)],[],[]⟩⟩]] none .nil .nil)) (nn (mm (mm (.mk [.join [⟨.n,⟨[(0,kk),(6,kk),(26,bb)],[],[]⟩⟩]] none .nil .nil) (.mk [.join [⟨.n,⟨[(0,kk),(6,kk)],[],[]⟩⟩]] none .nil .nil)) (nn (nn (mm (mm (.mk [] (some (⟨[(7,ow 496),(8,ii)],[],[(496,.arr 133 tT1)]⟩,[⟨.x 0,⟨[(7,ow 496)],[],[(496,.arr 133 tT1)]⟩⟩])) .nil .nil) .nil) .nil)))))))) func166 ⟨⟨qpV,trivial⟩,trivial⟩
def qod(n:yB0)(travel:Int):Option (yB3×Int):=
 (qcy (n.1,n.2.1,n.2.2.1,n.2.2.2.1,n.2.2.2.2.1,n.2.2.2.2.2)).bind fun r=>
 bif !decide (r=0) then(
 some (([],([],([],[]))),r))
 else(
 (qdy (travel,0,false,false)).bind fun r2=>
 bif !r2 then(
 some (([],([],([],[]))),20))
 else(
 gd (makeG 8 (n.2.1.length:Int))<|
 gd (makeG 8 (n.2.2.1.length:Int))<|
 gd (makeG 1 (n.2.2.2.1.length:Int))<|
 (qgz (n.1,n.2.1,n.2.2.1,n.2.2.2.1,n.2.2.2.2.1,n.2.2.2.2.2)).bind fun r3=>
 (qa5 [(travel,0,false,false)] r3).bind fun r4=>
 some ((r4,(List.replicate (n.2.1.length:Int).toNat (0:Int),(List.replicate (n.2.2.1.length:Int).toNat (0:Int),List.replicate (n.2.2.2.1.length:Int).toNat (false:Bool)))),0)))
def qpA:Fun:=
 ⟨117,2,2,
 ⟨r138_,[],[]⟩,
 ⟨r48_,[],[]⟩,
 fun x=>qod x.1 x.2⟩
theorem quU:FO qpA:=fi [] [qcu,qdj,qhI,qcb] 41 [] .nil func117 ⟨⟨qdc,qem,qll,qen,trivial⟩,trivial⟩
def qfR(n:yB0)(travel:Int):Option (yB9×Int):=
 (qod (n.1,n.2.1,n.2.2.1,n.2.2.2.1,n.2.2.2.2.1,n.2.2.2.2.2) travel).bind fun r=>
 bif !decide (r.2=0) then(
 some ((([],([],([],[]))),([],([],0))),r.2))
 else(
 some (((r.1.1,(r.1.2.1,(r.1.2.2.1,r.1.2.2.2))),([],([],0))),0))
def qoe:Fun:=
 ⟨63,2,2,
 ⟨r138_,[],[]⟩,
 ⟨r29_,[],[]⟩,
 fun x=>qfR x.1 x.2⟩
theorem qtC:FO qoe:=fi [] [qpA] 20 [] .nil func63 ⟨⟨quU,trivial⟩,trivial⟩
def qcL(b:List Int)(vat:Int)(u:Int)(v:Int):Option ((Int×Int)⊕(Unit⊕(Int×Int×Int))):=
 bif decide (v<10) then(
 bif decide ((b.length:Int)<=wi64 (vat+v)) then(
 some (.inr (.inr (0,0,2))))
 else(
 gd (inB (wi64 (vat+v)) b.length)<|
 gd (!decide (wi64 (7*v)<0))<|
 bif decide (128<=b.getD (wi64 (vat+v)).toNat 0) then(
 some (.inl (bitOr .u64 u (wu64 ((wu64 (qdZ .u8 (b.getD (wi64 (vat+v)).toNat 0) 127))*2^shAmt .u64 (wi64 (7*v)))),wi64 (v+1))))
 else(
 Option.bind (α:=Bool) (
 bif decide (v=9) then(
 bif decide (1<b.getD (wi64 (vat+v)).toNat 0) then(
 some true)
 else(
 bif decide (0<v) then(
 some (decide (b.getD (wi64 (vat+v)).toNat 0=0)))
 else(
 some false)))
 else(
 bif decide (0<v) then(
 some (decide (b.getD (wi64 (vat+v)).toNat 0=0)))
 else(
 some false))) fun s2=>
 bif s2 then(
 some (.inr (.inr (0,0,3))))
 else(
 some (.inr (.inr (qzE .i64 (wi64 (Int.fdiv (bitOr .u64 u (wu64 ((wu64 (qdZ .u8 (b.getD (wi64 (vat+v)).toNat 0) 127))*2^shAmt .u64 (wi64 (7*v))))) (2^shAmt .u64 1))) (wi64 (0-(wi64 (qdZ .u64 (bitOr .u64 u (wu64 ((wu64 (qdZ .u8 (b.getD (wi64 (vat+v)).toNat 0) 127))*2^shAmt .u64 (wi64 (7*v))))) 1)))),wi64 ((wi64 (vat+v))+1),0)))))))
 else(
 some (.inr (.inl ())))
def ql4(b:List Int)(vat:Int):Option (Int×Int×Int):=
 Option.bind (α:=Bool) (
 bif decide (vat<0) then(
 some true)
 else(
 some (decide ((b.length:Int)<vat)))) fun s=>
 bif s then(
 some (0,0,1))
 else(
 (iter (fun x=>qcL b vat x.1 x.2) (0,0)).bind fun s3=>
 s3.elim (fun s4=>
 some (0,0,3))
 (fun s5=>
 some (s5.1,s5.2.1,s5.2.2)))
def qnf:Fun:=
 ⟨167,2,3,
 ⟨r127_,[],[]⟩,
 ⟨r102_,[],[]⟩,
 fun x=>ql4 x.1 x.2⟩
theorem qrr:FO qnf:=fi [] [] 70 [] ((nn (mm (mm (.mk [.join [⟨.n,⟨[(0,kk),(1,kk),(17,bb)],[],[]⟩⟩]] none .nil .nil) .nil) (nn (mm (nn (mm (.mk [] (some (⟨[(0,kk),(1,kk),(7,dd (.int .u64)),(18,ii)],[],[]⟩,[⟨.x 0,⟨[],[],[]⟩⟩,⟨.r,⟨[(4,ii),(5,ii),(6,ii)],[],[]⟩⟩])) (nn (nn (mm (mm (nn (nn (nn (nn (nn (mm (mm (.mk [.join [⟨.n,⟨[(1,kk),(7,kk),(8,kk),(56,bb)],[],[]⟩⟩]] none .nil .nil) .nil) .nil)))))) .nil) .nil))) .nil) .nil)) .nil))))) func167 ⟨trivial,trivial⟩
def qcT(b:List Int)(vat:Int)(out:List (List Int)):Option ((Int×List (List Int))⊕(Int×List (List Int))):=
 bif decide (vat<(b.length:Int)) then(
 (ql4 b vat).bind fun r=>
 Option.bind (α:=Bool×List (List Int)) (
 bif !decide (r.2.2=0) then(
 some (true,out))
 else(
 bif decide (r.1<0) then(
 some (true,out))
 else(
 bif decide (4000<r.1) then(
 some (true,out))
 else(
 some (decide (wi64 ((b.length:Int)-r.2.1)<r.1),out))))) fun s=>
 bif s.1 then(
 some (.inr (vat,s.2)))
 else(
 gd (inR r.2.1 (wi64 (r.2.1+r.1)) b.length)<|
 (qbi ((b.take (wi64 (r.2.1+r.1)).toNat).drop r.2.1.toNat)).bind fun r2=>
 gd (fits (s.2.length+1) 24)<|
 some (.inl (wi64 (r.2.1+r.1),s.2++[r2]))))
 else(
 some (.inr (vat,out)))
def qih(b:List Int):Option (Int×List (List Int)):=
 (iter (fun x=>qcT b x.1 x.2) (0,[])).bind fun s2=>
 some (s2.1,s2.2)
def qln:Fun:=
 ⟨118,1,2,
 ⟨r89_,[],[]⟩,
 ⟨r131_,[],a135_⟩,
 fun x=>qih x⟩
theorem qrs:FO qln:=fi [] [qnf,qcK] 53 [] ((nn (nn (nn (mm (mm (.mk [] (some (⟨[(0,kk),(4,ow 91),(5,ii)],[],a67_⟩,[⟨.x 0,⟨[(4,ow 91),(5,ii)],[],a67_⟩⟩])) (nn (mm (nn (mm (mm (.mk [.join [⟨.n,⟨r116_,[],a67_⟩⟩]] none .nil .nil) .nil) .nil)) .nil)) .nil) .nil) .nil))))) func118 ⟨⟨qrr,qei,trivial⟩,trivial⟩
def qdS(parts:List (List Int))(v:Int)(out:List Int):Option ((Int×List Int)⊕(List Int)):=
 bif decide (v<(parts.length:Int)) then(
 gd (inB v parts.length)<|
 gd (fits (out.length+(parts.getD v.toNat []).length) 1)<|
 some (.inl (wi64 (v+1),out++(parts.getD v.toNat []))))
 else(
 some (.inr out))
def qge(parts:List (List Int)):Option (List Int):=
 (iter (fun x=>qdS parts x.1 x.2) (0,[])).bind fun s=>
 some s
def qi5:Fun:=
 ⟨119,1,1,
 ⟨[(0,dd (.sl (.sl (.int .u8))))],[],[]⟩,
 ⟨[(0,ow 0)],[],a112_⟩,
 fun x=>qge x⟩
theorem qo2:FO qi5:=fi [] [] 17 [] ((nn (nn (mm (nn (mm (.mk [] (some (⟨[(3,ow 75),(6,kk),(7,kk),(8,ii)],[],[(75,.arr 5 (.int .u8))]⟩,[⟨.x 0,⟨[(3,ow 75)],[],[(75,.arr 5 (.int .u8))]⟩⟩])) .nil .nil) .nil)) .nil)))) func119 ⟨trivial,trivial⟩
def qfq(f:List Int×List Int):Option ((List Int×List Int)×List (List Int)):=
 (qih f.1).bind fun r=>
 gd (cutG none (some (.i64,r.1)) f.1.length)<|
 (qge [f.1.take r.1.toNat]).bind fun r2=>
 some ((r2,[]),r.2)
def qii:Fun:=
 ⟨64,1,2,
 ⟨r62_,[],[]⟩,
 ⟨[(0,dd (.pair (.sl (.int .u8)) (.sl (.int .u8)))),(1,ow 0)],[],a135_⟩,
 fun x=>qfq x⟩
theorem qof:FO qii:=fi [] [qln,qi5] 20 [] .nil func64 ⟨⟨qrs,qo2,trivial⟩,trivial⟩
def qaa(r:List Int)(r2:Int)(r3:Bool):Option (Int×List Int×Int×Bool):=
 (ql4 r r2).bind fun r4=>
 Option.bind (α:=Bool) (
 bif r3 then(
 some true)
 else(
 some (!decide (r4.2.2=0)))) fun s=>
 bif s then(
 some (0,r,r2,true))
 else(
 some (r4.1,r,r4.2.1,r3))
def qc0:Fun:=
 ⟨120,1,1,
 ⟨[(0,pt 0 0)],v46_,[]⟩,
 ⟨[(0,ii)],v46_,[]⟩,
 fun x=>qaa x.1 x.2.1 x.2.2⟩
theorem qfr:FO qc0:=fi [] [qnf] 35 [] ((nn (nn (mm (mm (.mk [.join [⟨.n,⟨[(0,pt 0 0),(3,kk),(4,kk),(26,bb)],[(0,206,[.keep,.keep,.keep])],[]⟩⟩]] none .nil .nil) .nil) .nil)))) func120 ⟨⟨qrr,trivial⟩,trivial⟩
def qaJ(most:Int)(r:List Int)(r2:Int)(r3:Bool):Option (Int×List Int×Int×Bool):=
 (qaa r r2 r3).bind fun r4=>
 Option.bind (α:=Bool) (
 bif decide (r4.1<0) then(
 some true)
 else(
 some (decide (most<r4.1)))) fun s=>
 bif s then(
 some (0,r4.2.1,r4.2.2.1,true))
 else(
 some (r4.1,r4.2.1,r4.2.2.1,r4.2.2.2))
def qfH:Fun:=
 ⟨121,2,1,
 ⟨r137_,v46_,[]⟩,
 ⟨[(0,ii)],v46_,[]⟩,
 fun x=>qaJ x.1 x.2.1 x.2.2.1 x.2.2.2⟩
theorem qkE:FO qfH:=fi [] [qc0] 19 [] ((nn (nn (mm (mm (.mk [.join [⟨.n,⟨[(0,pt 0 0),(5,kk),(14,bb)],[(0,206,[.keep,.keep,.keep])],[]⟩⟩]] none .nil .nil) .nil) .nil)))) func121 ⟨⟨qfr,trivial⟩,trivial⟩
def qbw(r2:Int×List Int×Int×Bool)(v:Int)(r3:List Int)(r4:Int)(r5:Bool)(out:List Int):Option ((Int×List Int×Int×Bool×List Int)⊕(List Int×Int×Bool×List Int)):=
 bif decide (v<r2.1) then(
 (qaa r3 r4 r5).bind fun r6=>
 gd (fits (out.length+1) 8)<|
 some (.inl (wi64 (v+1),r6.2.1,r6.2.2.1,r6.2.2.2,out++[r6.1])))
 else(
 some (.inr (r3,r4,r5,out)))
def qbx(r12:Int×List Int×Int×Bool)(v2:Int)(r13:List Int)(r14:Int)(r15:Bool)(p:List Int)(p2:List (Int×Bool)):Option ((Int×List Int×Int×Bool×List Int×List (Int×Bool))⊕(List Int×Int×Bool×List Int×List (Int×Bool))):=
 bif decide (v2<r12.1) then(
 (qaa r13 r14 r15).bind fun r16=>
 (qaJ 1 r16.2.1 r16.2.2.1 r16.2.2.2).bind fun r17=>
 gd (fits (p2.length+1) 16)<|
 some (.inl (wi64 (v2+1),r17.2.1,r17.2.2.1,r17.2.2.2,p,p2++[(r16.1,decide (r17.1=1))])))
 else(
 some (.inr (r13,r14,r15,p,p2)))
def qfs(b:List Int):Option (yB11×Int):=
 (qaa b 0 false).bind fun r=>
 (qaJ 21 r.2.1 r.2.2.1 r.2.2.2).bind fun r2=>
 (iter (fun x=>qbw r2 x.1 x.2.1 x.2.2.1 x.2.2.2.1 x.2.2.2.2) (0,r2.2.1,r2.2.2.1,r2.2.2.2,[])).bind fun s=>
 (qaa s.1 s.2.1 s.2.2.1).bind fun r7=>
 (qaa r7.2.1 r7.2.2.1 r7.2.2.2).bind fun r8=>
 (qaa r8.2.1 r8.2.2.1 r8.2.2.2).bind fun r9=>
 (qaa r9.2.1 r9.2.2.1 r9.2.2.2).bind fun r10=>
 (qaa r10.2.1 r10.2.2.1 r10.2.2.2).bind fun r11=>
 (qaJ 32 r11.2.1 r11.2.2.1 r11.2.2.2).bind fun r12=>
 (iter (fun x2=>qbx r12 x2.1 x2.2.1 x2.2.2.1 x2.2.2.2.1 x2.2.2.2.2.1 x2.2.2.2.2.2) (0,r12.2.1,r12.2.2.1,r12.2.2.2,s.2.2.2,[])).bind fun s2=>
 (qaa s2.1 s2.2.1 s2.2.2.1).bind fun r18=>
 (qaa r18.2.1 r18.2.2.1 r18.2.2.2).bind fun r19=>
 (qaa r19.2.1 r19.2.2.1 r19.2.2.2).bind fun r20=>
 (qaJ 12 r20.2.1 r20.2.2.1 r20.2.2.2).bind fun r21=>
 Option.bind (α:=Bool×List Int×List (Int×Bool)) (
 bif r21.2.2.2 then(
 some (true,s2.2.2.2.1,s2.2.2.2.2))
 else(
 some ((!decide (wi64 ((b.length:Int)-r21.2.2.1)=r21.1)),s2.2.2.2.1,s2.2.2.2.2))) fun s3=>
 bif s3.1 then(
 some ((0,([],((0,(0,(0,(0,(0,([],0)))))),([],(0,0))))),3))
 else(
 gd (cutG (some (.i64,r21.2.2.1)) none b.length)<|
 some ((r.1,(s3.2.1,((r7.1,(r8.1,(r9.1,(r10.1,(r11.1,(s3.2.2,r18.1)))))),(qfc (b.drop r21.2.2.1.toNat),(r19.1,r20.1))))),0))
def qkp:Fun:=
 ⟨65,1,2,
 ⟨r89_,[],[]⟩,
 ⟨[(0,dd (.pair I6 (.pair (.sl I6) (.pair (.pair I6 (.pair I6 (.pair I6 tT4))) (.pair (.str) tT7))))),(1,ii)],[],[]⟩,
 fun x=>qfs x⟩
theorem qpW:FO qkp:=fi [] [qc0,qfH] 113 [] ((nn (nn (nn (nn (mm (nn (mm (.mk [] (some (⟨[(0,kk),(2,pt 48 0),(4,pt 192 0),(5,pt 96 0),(16,kk),(17,ii)],v25_,[(1577,.arr 3 I6)]⟩,[⟨.x 0,⟨[(0,kk),(2,pt 48 0),(4,pt 192 0),(5,pt 96 0)],v25_,[(1577,.arr 3 I6)]⟩⟩])) .nil .nil) .nil)) (nn (nn (mm (nn (mm (.mk [] (some (⟨[(0,kk),(2,pt 48 0),(4,pt 192 0),(5,pt 96 0),(6,pt 96 5),(52,kk),(53,ii)],v20_,a80_⟩,[⟨.x 2,⟨[(0,kk),(2,pt 48 0),(4,pt 192 0),(5,pt 96 0),(6,pt 96 5)],v20_,a80_⟩⟩])) .nil .nil) .nil)) (nn (nn (mm (mm (.mk [.join [⟨.n,⟨[(0,kk),(2,pt 48 0),(4,pt 192 0),(5,pt 96 0),(101,bb)],[(48,61,kp 12),(192,206,[.keep,.keep,.keep]),(96,61,[.keep,.own 1577,.keep,.keep,.keep,.keep,.keep,.own 1673,.keep,.keep,.keep,.keep])],a80_⟩⟩]] none .nil .nil) .nil) .nil)))))))))))) func65 ⟨⟨qfr,qkE,trivial⟩,trivial⟩
def qfb(s:yB4):Option yB4:=
 bif Nat.beq s.length 0 then(bothO (
 some []) (
 gd (fits (0+s.length) 24)<|
 some ([]++s)))
 else(
 gd (fits (0+s.length) 24)<|
 some ([]++s))
def qas:Fun:=
 ⟨200,1,1,
 ⟨[(0,dd (.sl tT1))],[],[]⟩,
 ⟨[(0,ow 0)],[],[(0,.arr 133 tT1)]⟩,
 fun x=>qfb x⟩
theorem qd4:FO qas:=fi [5] [] 8 [] .nil func200 ⟨trivial,trivial⟩
def qa6(s:yB4):Option yB4:=gd (fits (0+s.length) 24) (some ([]++s))
def qck:Fun:={ f:=qas.f,np:=qas.np,nr:=qas.nr,ji:=qas.ji,jo:=qas.jo,tw:=fun x=>qa6 x }
theorem qeZ:FO qck:=qd4.le fun x=>qh1 x _
def qkF(s:List Int):Option (List Int):=
 bif Nat.beq s.length 0 then(bothO (
 some []) (
 gd (fits (0+s.length) 8)<|
 some ([]++s)))
 else(
 gd (fits (0+s.length) 8)<|
 some ([]++s))
def qa3:Fun:=
 ⟨171,1,1,
 ⟨r123_,[],[]⟩,
 ⟨[(0,ow 0)],[],[(0,.arr 3 I6)]⟩,
 fun x=>qkF x⟩
theorem qiF:FO qa3:=fi [5] [] 8 [] .nil func171 ⟨trivial,trivial⟩
def qbY(s:List Int):Option (List Int):=gd (fits (0+s.length) 8) (some ([]++s))
def qft:Fun:={ f:=qa3.f,np:=qa3.np,nr:=qa3.nr,ji:=qa3.ji,jo:=qa3.jo,tw:=fun x=>qbY x }
theorem qjT:FO qft:=qiF.le fun x=>qh1 x _
def qi6(s:List Bool):Option (List Bool):=
 bif Nat.beq s.length 0 then(bothO (
 some []) (
 gd (fits (0+s.length) 1)<|
 some ([]++s)))
 else(
 gd (fits (0+s.length) 1)<|
 some ([]++s))
def qaQ:Fun:=
 ⟨201,1,1,
 ⟨[(0,dd (.sl (.bool)))],[],[]⟩,
 ⟨[(0,ow 0)],[],a139_⟩,
 fun x=>qi6 x⟩
theorem qhJ:FO qaQ:=fi [5] [] 8 [] .nil func201 ⟨trivial,trivial⟩
def qcq(s:List Bool):Option (List Bool):=gd (fits (0+s.length) 1) (some ([]++s))
def qeo:Fun:={ f:=qaQ.f,np:=qaQ.np,nr:=qaQ.nr,ji:=qaQ.ji,jo:=qaQ.jo,tw:=fun x=>qcq x }
theorem qiG:FO qeo:=qhJ.le fun x=>qh1 x _
def qhK(d:yB3):Option (yB4×List Int×List Int×List Bool):=
 (qa6 d.1).bind fun r=>
 (qbY d.2.1).bind fun r2=>
 (qbY d.2.2.1).bind fun r3=>
 (qcq d.2.2.2).bind fun r4=>
 some (r,r2,r3,r4)
def qlo:Fun:=
 ⟨168,1,1,
 ⟨[(0,dd (.pair (.sl tT1) tT6))],[],[]⟩,
 ⟨[(0,.agg [.own 0,.own 1,.own 2,.own 3])],[],a56_⟩,
 fun x=>qhK x⟩
theorem qpB:FO qlo:=fi [] [qck,qft,qeo] 34 [] .nil func168 ⟨⟨qeZ,qjT,qiG,trivial⟩,trivial⟩
def qdr(s:List yB2):Option (List yB2):=
 bif Nat.beq s.length 0 then(bothO (
 some []) (
 gd (fits (0+s.length) 64)<|
 some ([]++s)))
 else(
 gd (fits (0+s.length) 64)<|
 some ([]++s))
def qah:Fun:=
 ⟨169,1,1,
 ⟨[(0,dd (.sl tT3))],[],[]⟩,
 ⟨[(0,ow 0)],[],a117_⟩,
 fun x=>qdr x⟩
theorem qc1:FO qah:=fi [5] [] 8 [] .nil func169 ⟨trivial,trivial⟩
def qaK(s:List yB2):Option (List yB2):=gd (fits (0+s.length) 64) (some ([]++s))
def qbE:Fun:={ f:=qah.f,np:=qah.np,nr:=qah.nr,ji:=qah.ji,jo:=qah.jo,tw:=fun x=>qaK x }
theorem qdn:FO qbE:=qc1.le fun x=>qh1 x _
def qdT(s:List yB1):Option (List yB1):=
 bif Nat.beq s.length 0 then(bothO (
 some []) (
 gd (fits (0+s.length) 48)<|
 some ([]++s)))
 else(
 gd (fits (0+s.length) 48)<|
 some ([]++s))
def qak:Fun:=
 ⟨170,1,1,
 ⟨[(0,dd (.sl tT2))],[],[]⟩,
 ⟨[(0,ow 0)],[],[(0,.arr 110 tT2)]⟩,
 fun x=>qdT x⟩
theorem qdo:FO qak:=fi [5] [] 8 [] .nil func170 ⟨trivial,trivial⟩
def qal(s:List yB1):Option (List yB1):=gd (fits (0+s.length) 48) (some ([]++s))
def qa9:Fun:={ f:=qak.f,np:=qak.np,nr:=qak.nr,ji:=qak.ji,jo:=qak.jo,tw:=fun x=>qal x }
theorem qbM:FO qa9:=qdo.le fun x=>qh1 x _
def qmk(s:List Int):Option (List Int):=
 bif Nat.beq s.length 0 then(bothO (
 some []) (
 gd (fits (0+s.length) 8)<|
 some ([]++s)))
 else(
 gd (fits (0+s.length) 8)<|
 some ([]++s))
def qbc:Fun:=
 ⟨171,1,1,
 ⟨r123_,[],[]⟩,
 ⟨r123_,[],[]⟩,
 fun x=>qmk x⟩
theorem qjU:FO qbc:=fi [5] [] 8 [] .nil func171 ⟨trivial,trivial⟩
def qcz(s:List Int):Option (List Int):=gd (fits (0+s.length) 8) (some ([]++s))
def qdz:Fun:={ f:=qbc.f,np:=qbc.np,nr:=qbc.nr,ji:=qbc.ji,jo:=qbc.jo,tw:=fun x=>qcz x }
theorem qgA:FO qdz:=qjU.le fun x=>qh1 x _
def qgf(r2:List yB2)(v:Int)(c2:List yB2)(c3:yB4)(c4:List Int)(c5:List Int)(c6:List Bool)(c7:List yB1):Option ((Int×(List yB2)×yB4×List Int×List Int×List Bool×List yB1)⊕(yB4×List Int×List Int×List Bool×(List yB2)×List yB1)):=
 bif decide (v<(r2.length:Int)) then(
 gd (inB v c2.length)<|
 (qcz ((((((c2.getD v.toNat (0,0,0,0,0,[])).2).2).2).2).2)).bind fun r4=>
 gd (inB v c2.length)<|
 some (.inl (wi64 (v+1),c2.set v.toNat ((c2.getD v.toNat (0,(0,(0,(0,(0,[])))))).1,(((c2.getD v.toNat (0,(0,(0,(0,(0,[])))))).2).1,((((c2.getD v.toNat (0,(0,(0,(0,(0,[])))))).2).2).1,(((((c2.getD v.toNat (0,(0,(0,(0,(0,[])))))).2).2).2).1,((((((c2.getD v.toNat (0,(0,(0,(0,(0,[])))))).2).2).2).2).1,r4))))),c3,c4,c5,c6,c7)))
 else(
 some (.inr (c3,c4,c5,c6,c2,c7)))
def qc2(c:yB9):Option (Int×yB4×List Int×List Int×List Bool×(List yB2)×List yB1):=
 (qhK (c.1.1,c.1.2.1,c.1.2.2.1,c.1.2.2.2)).bind fun r=>
 (qaK c.2.1).bind fun r2=>
 (qal c.2.2.1).bind fun r3=>
 (iter (fun x=>qgf r2 x.1 x.2.1 x.2.2.1 x.2.2.2.1 x.2.2.2.2.1 x.2.2.2.2.2.1 x.2.2.2.2.2.2) (0,r2,r.1,r.2.1,r.2.2.1,r.2.2.2,r3)).bind fun s=>
 some (c.2.2.2,s.1,s.2.1,s.2.2.1,s.2.2.2.1,s.2.2.2.2.1,s.2.2.2.2.2)
def qmN:Fun:=
 ⟨122,1,1,
 ⟨r88_,[],[]⟩,
 ⟨r101_,[],a55_⟩,
 fun x=>qc2 x⟩
theorem qsi:FO qmN:=fi [] [qlo,qbE,qa9,qdz] 35 [] ((nn (nn (mm (nn (mm (.mk [] (some (⟨[(1,pt 32 0),(2,pt 48 0),(18,ow 176),(19,kk),(20,ii)],v66_,[(176,.arr 100 tT3),(128,.arr 133 tT1),(129,.arr 3 I6),(130,.arr 3 I6),(131,.arr 4 (.bool)),(224,.arr 110 tT2)]⟩,[⟨.x 0,⟨[(1,pt 32 0),(2,pt 48 0)],v66_,[(128,.arr 133 tT1),(129,.arr 3 I6),(130,.arr 3 I6),(131,.arr 4 (.bool)),(176,.arr 100 tT3),(224,.arr 110 tT2)]⟩⟩])) .nil .nil) .nil)) .nil)))) func122 ⟨⟨qpB,qdn,qbM,qgA,trivial⟩,trivial⟩
def qfu(s:yB5):Option (Bool):=
 bif decide (s.1=0) then(
 bif decide (s.2.1=0) then(
 bif decide (s.2.2.1=0) then(
 bif decide (s.2.2.2.1=0) then(
 bif decide (s.2.2.2.2.1=0) then(
 bif decide (s.2.2.2.2.2.2=0) then(
 some (decide ((s.2.2.2.2.2.1.length:Int)=0)))
 else(
 some false))
 else(
 some false))
 else(
 some false))
 else(
 some false))
 else(
 some false))
 else(
 some false)
def qgN:Fun:=
 ⟨172,1,1,
 ⟨r53_,[],[]⟩,
 ⟨[(0,bb)],[],[]⟩,
 fun x=>qfu x⟩
theorem qkq:FO qgN:=fi [] [] 40 [] .nil func172 ⟨trivial,trivial⟩
def qby(n:Int)(most:Int):Option (Bool):=
 bif decide (0<=n) then(
 some (decide (n<=most)))
 else(
 some false)
def qhL:Fun:=
 ⟨85,2,1,
 ⟨r50_,[],[]⟩,
 ⟨[(0,bb)],[],[]⟩,
 fun x=>qby x.1 x.2⟩
theorem qng:FO qhL:=fi [] [] 12 [] .nil func85 ⟨trivial,trivial⟩
def qbz(v:Int):Option (Bool):=
 bif decide (v<(-9007199254740992)) then(
 some true)
 else(
 some (decide (9007199254740992<v)))
def qhM:Fun:=
 ⟨87,1,1,
 ⟨[(0,ii)],[],[]⟩,
 ⟨[(0,bb)],[],[]⟩,
 fun x=>qbz x⟩
theorem qnh:FO qhM:=fi [] [] 9 [] .nil func87 ⟨trivial,trivial⟩
def qdk(t:yB2):Option (Bool):=
 Option.bind (α:=Bool) (
 (qby t.1 255).bind fun r=>
 bif !r then(
 some true)
 else(
 (qby t.2.1 255).bind fun r2=>
 bif !r2 then(
 some true)
 else(
 (qby t.2.2.1 2147483648).bind fun r3=>
 bif !r3 then(
 some true)
 else(
 (qby t.2.2.2.1 1099511627776).bind fun r4=>
 bif !r4 then(
 some true)
 else(
 (qby t.2.2.2.2.1 63).bind fun r5=>
 some (!r5)))))) fun s=>
 bif s then(
 some false)
 else(
 bif decide ((t.2.2.2.2.2.length:Int)<=16) then(
 (qaF t.2.2.2.2.2 (fun h=>(qbz h.1).bind fun y=>some y)).bind fun r6=>
 some (!r6))
 else(
 some false))
def qfS:Fun:=
 ⟨34,1,1,
 ⟨[(0,dd tT3)],[],[]⟩,
 ⟨[(0,bb)],[],[]⟩,
 fun x=>qdk x⟩
theorem qi7:FO qfS:=fi [] [qhL,qbg,qhM] 47 [] ((nn (nn (mm (mm (.mk [.join [⟨.n,⟨[(1,pt 32 0),(36,bb)],[(32,100,kp 6)],[]⟩⟩]] none .nil .nil) .nil) .nil)))) func34 ⟨⟨qng,qbL,qnh,trivial⟩,trivial⟩
def qay(x:List yB2)(target:Int)(cmp:yB2×Int×Unit->Option Int)(i:Int)(j:Int):Option ((Int×Int)⊕Int):=
 bif decide (i<j) then(
 gd (inB (wi64 (Int.fdiv (wu64 (wi64 (i+j))) (2^shAmt .u64 1))) x.length)<|
 (cmp (x.getD (wi64 (Int.fdiv (wu64 (wi64 (i+j))) (2^shAmt .u64 1))).toNat (0,0,0,0,0,[]),target,())).bind fun r=>
 bif decide (r<0) then(
 some (.inl (wi64 ((wi64 (Int.fdiv (wu64 (wi64 (i+j))) (2^shAmt .u64 1)))+1),j)))
 else(
 some (.inl (i,wi64 (Int.fdiv (wu64 (wi64 (i+j))) (2^shAmt .u64 1))))))
 else(
 some (.inr i))
def qaE(x:List yB2)(target:Int)(cmp:yB2×Int×Unit->Option Int):Option (Int×Bool):=
 (iter (fun x2=>qay x target cmp x2.1 x2.2) (0,(x.length:Int))).bind fun s=>
 bif decide (s<(x.length:Int)) then(
 gd (inB s x.length)<|
 (cmp (x.getD s.toNat (0,0,0,0,0,[]),target,())).bind fun r2=>
 some (s,decide (r2=0)))
 else(
 some (s,false))
def qa0:Fun:=
 ⟨202,3,2,
 ⟨[(0,dd (.sl tT3)),(1,ii),(2,.one (.fn [.pair I6 (.pair I6 (.pair I6 (.pair I6 (.pair I6 (.sl I6))))),.int .i64] I6))],[],[]⟩,
 ⟨[(0,ii),(1,bb)],[],[]⟩,
 fun x=>qaE x.1 x.2.1 x.2.2⟩
theorem qbQ:FO qa0:=fi [] [] 49 [] ((nn (nn (nn (mm (mm (.mk [] (some (⟨r122_,[],[]⟩,[⟨.x 0,⟨[(0,kk),(1,kk),(2,kk),(8,kk),(9,ii)],[],[]⟩⟩])) .nil .nil) .nil) .nil))))) func202 ⟨trivial,trivial⟩
def qg6(x:Int):Option (Bool):=
 some (!decide (x=x))
def qkr:Fun:=
 ⟨215,1,1,
 ⟨[(0,ii)],[],[]⟩,
 ⟨[(0,bb)],[],[]⟩,
 fun x=>qg6 x⟩
theorem qpX:FO qkr:=fi [] [] 6 [] .nil func215 ⟨trivial,trivial⟩
def qhN(x:Int)(y:Int):Option (Int):=
 (qg6 x).bind fun r=>
 (qg6 y).bind fun r2=>
 bif r then(
 bif r2 then(
 some 0)
 else(
 some (-1)))
 else(
 bif r2 then(
 some 1)
 else(
 bif decide (x<y) then(
 some (-1))
 else(
 bif decide (y<x) then(
 some 1)
 else(
 some 0))))
def qij:Fun:=
 ⟨204,2,1,
 ⟨r50_,[],[]⟩,
 ⟨[(0,ii)],[],[]⟩,
 fun x=>qhN x.1 x.2⟩
theorem qog:FO qij:=fi [] [qkr] 20 [] .nil func204 ⟨⟨qpX,trivial⟩,trivial⟩
def qc3(t:yB2)(s:Int):Option (Int):=
 (qhN t.1 s).bind fun r=>
 some r
def qks:Fun:=
 ⟨203,2,1,
 ⟨[(0,dd tT3),(1,ii)],[],[]⟩,
 ⟨[(0,ii)],[],[]⟩,
 fun x=>qc3 x.1 x.2⟩
theorem qpY:FO qks:=fi [] [qij] 9 [] .nil func203 ⟨⟨qog,trivial⟩,trivial⟩
def qjV(l:List yB2)(station:Int):Option (Int×Bool):=
 (qaE l station (fun h=>(qc3 h.1 h.2.1).bind fun y=>some y)).bind fun r=>
 some (r.1,r.2)
def qmO:Fun:=
 ⟨173,2,2,
 ⟨[(0,dd (.sl tT3)),(1,ii)],[],[]⟩,
 ⟨[(0,ii),(1,bb)],[],[]⟩,
 fun x=>qjV x.1 x.2⟩
theorem qsj:FO qmO:=fi [] [qa0,qks] 11 [] .nil func173 ⟨⟨qbQ,qpY,trivial⟩,trivial⟩
def qbA:Fun:=qgs 174 100 tT3 64
theorem qdd:FO qbA:=qD0 ⟨_,func174,(by kernel_rfl),rfl⟩ underlying41 tk100.info rfl (by decide) (by decide) qC2 (ins_grow' tk100.info rfl (by decide)) qzH
def qfv(a:yB2)(b:yB2):Option (Bool):=
 bif decide (a.1=b.1) then(
 bif decide (a.2.1<b.2.1) then(
 some true)
 else(
 bif decide (a.2.1=b.2.1) then(
 some (decide (a.2.2.1<b.2.2.1)))
 else(
 some false)))
 else(
 some false)
def qik:Fun:=
 ⟨175,2,1,
 ⟨[(0,dd tT3),(1,dd tT3)],[],[]⟩,
 ⟨[(0,bb)],[],[]⟩,
 fun x=>qfv x.1 x.2⟩
theorem qoh:FO qik:=fi [] [] 31 [] .nil func175 ⟨trivial,trivial⟩
end
end Go.Proofs.YtfdgemafaphpaaaGreat
