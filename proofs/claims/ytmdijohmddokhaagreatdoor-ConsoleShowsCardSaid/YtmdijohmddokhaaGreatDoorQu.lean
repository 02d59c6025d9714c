/- Lemmas. No condition. -/
import Derived.Test.YtmdijohmddokhaaGreatDoorProg
import Derived.Test.YtmdijohmddokhaaGreatDoorSqFM
import Derived.Test.YtmdijohmddokhaaGreatDoorIn4
import Derived.Test.YtmdijohmddokhaaGreatDoorLx
import Derived.Test.YtmdijohmddokhaaGreatDoorLc
namespace Go.Proofs.YtmdijohmddokhaaGreatDoor
open Go Go.Sq
open Go.Proofs.Tryz
noncomputable section
abbrev I6:Ty:=.int .i64
abbrev dd(τ:Ty):Sh:=.one (.data τ)
abbrev pt(b o:Nat):Sh:=.one (.ptr b o)
abbrev ow(b:Nat):Sh:=.one (.own b)
abbrev FO(e:Fun):Prop:=FunOk Tryz.prog e
abbrev yT0:Type:=List UInt8×Int×Int×Int×Int×Int×List (Int×Int×Int)
abbrev tT0:Ty:=.pair (.sl (.str)) (.pair (.sl (.pair (.str) (.pair I6 (.pair I6 (.pair I6 (.pair I6 (.pair I6 (.sl (.pair I6 (.pair I6 I6)))))))))) (.pair (.sl (.pair (.str) (.pair I6 I6))) (.pair (.sl (.pair (.str) (.pair I6 (.pair I6 (.pair I6 I6))))) (.pair I6 I6))))
abbrev tT1:Ty:=.pair I6 (.pair I6 (.pair I6 (.pair I6 (.pair I6 (.pair (.sl (.pair I6 (.bool))) I6)))))
abbrev tT2:Ty:=.pair I6 (.pair I6 (.pair (.bool) (.bool)))
abbrev tT3:Ty:=.pair I6 (.pair I6 (.pair I6 (.pair I6 (.pair I6 (.sl I6)))))
abbrev tT4:Ty:=.pair (.str) (.pair I6 (.pair I6 (.pair I6 I6)))
abbrev tT5:Ty:=.pair I6 (.pair I6 (.pair I6 (.pair I6 (.pair I6 (.sl (.pair I6 (.pair I6 I6)))))))
abbrev tT6:Ty:=.pair (.sl I6) (.pair (.sl I6) (.sl (.bool)))
abbrev tT7:Ty:=.pair (.str) (.pair I6 I6)
abbrev yB0:Type:=List (List UInt8)×List yT0×List (List UInt8×Int×Int)×List (List UInt8×Int×Int×Int×Int)×Int×Int
abbrev yB1:Type:=Int×List Int×(Int×Int×Int×Int×Int×List (Int×Bool)×Int)×List UInt8×Int×Int
abbrev yB2:Type:=List UInt8×Int×Int×Int×Int
abbrev yB3:Type:=Int×Int×Int×Int×Int×List Int
abbrev yB4:Type:=List (Int×Int×Bool×Bool)×List Int×List Int×List Bool
abbrev yB5:Type:=List (Int×Int×Bool×Bool)
abbrev yB6:Type:=Int×Int×Int×Int×Int×List (Int×Bool)×Int
abbrev yB7:Type:=List Int×List Int×List Bool
abbrev yB8:Type:=Int×Int×List (Int×Bool)×Int
abbrev yB9:Type:=List UInt8×Int×Int×Int×Int×Int×List (Int×Int×Int)
abbrev yB10:Type:=yB4×List yB3×List yB2×Int
abbrev yB11:Type:=Int×yB5×List Int×List Int×List Bool
abbrev yB12:Type:=List (List UInt8)×List (List UInt8)×List (List UInt8)×List (List UInt8)
abbrev yB13:Type:=Bool×yB5×List Int×List Int×List Bool×(List yB3)×List yB2
abbrev yB14:Type:=(Int×List Int)⊕(List Int)
abbrev fd(n:String)(t o:Nat)(p:String)(b:Nat):Field:={ name:=n,type:=t,offset:=o,embedded:=false,tag := "",pkgPath:=p,byteOffset:=b }
def ti3:TI:=⟨3,.int .i64,1,8,.int .i64 0,.int .i64,false⟩
theorem tk3:ti3.ok prog:=⟨underlying3,by kernel_rfl,fun h=>by cases h⟩
def ti4:TI:=⟨4,.bool,1,1,.bool false,.bool,false⟩
theorem tk4:ti4.ok prog:=⟨underlying4,by kernel_rfl,fun h=>by cases h⟩
def ti5:TI:=⟨5,.int .u8,1,1,.int .u8 0,.int .u8,false⟩
theorem tk5:ti5.ok prog:=⟨underlying5,by kernel_rfl,fun h=>by cases h⟩
def ti9:TI:=⟨9,.string,1,16,.string ⟨#[]⟩,.str,false⟩
theorem tk9:ti9.ok prog:=⟨underlying9,by kernel_rfl,fun h=>by cases h⟩
def ti22:TI:=⟨22,.slice 3,1,24,.slice none 0 0,.sl I6,false⟩
theorem tk22:ti22.ok prog:=⟨underlying22,by kernel_rfl,fun h=>by cases h⟩
def ti27:TI:=⟨27,.slice 9,1,24,.slice none 0 0,.sl (.str),false⟩
theorem tk27:ti27.ok prog:=⟨underlying27,by kernel_rfl,fun h=>by cases h⟩
def ti28:TI:=⟨28,.slice 83,1,24,.slice none 0 0,.sl (.pair (.str) tT5),false⟩
theorem tk28:ti28.ok prog:=⟨underlying28,by kernel_rfl,fun h=>by cases h⟩
def ti29:TI:=⟨29,.slice 85,1,24,.slice none 0 0,.sl tT7,false⟩
theorem tk29:ti29.ok prog:=⟨underlying29,by kernel_rfl,fun h=>by cases h⟩
def ti30:TI:=⟨30,.slice 93,1,24,.slice none 0 0,.sl tT4,false⟩
theorem tk30:ti30.ok prog:=⟨underlying30,by kernel_rfl,fun h=>by cases h⟩
def ti32:TI:=⟨32,.struct #[fd "Nodes" 27 0 "" 0,fd "Segments" 28 1 "" 24,fd "Ports" 29 2 "" 48,fd "Stations" 30 3 "" 72,fd "Vapour" 3 4 "" 96,fd "Settle" 3 5 "" 104],6,112,.agg #[.slice none 0 0,.slice none 0 0,.slice none 0 0,.slice none 0 0,.int .i64 0,.int .i64 0],.pair (.sl (.str)) (.pair (.sl (.pair (.str) tT5)) (.pair (.sl tT7) (.pair (.sl tT4) (.pair I6 I6)))),true⟩
theorem tk32:ti32.ok prog:=⟨underlying32,by kernel_rfl,fun _=>⟨eqGuardType32,stoodInHeld32⟩⟩
def ti35:TI:=⟨35,.slice 61,1,24,.slice none 0 0,.sl (.pair I6 (.pair (.sl I6) (.pair tT1 tT7))),false⟩
theorem tk35:ti35.ok prog:=⟨underlying35,by kernel_rfl,fun h=>by cases h⟩
def ti39:TI:=⟨39,.slice 126,1,24,.slice none 0 0,.sl tT2,false⟩
theorem tk39:ti39.ok prog:=⟨underlying39,by kernel_rfl,fun h=>by cases h⟩
def ti40:TI:=⟨40,.slice 4,1,24,.slice none 0 0,.sl (.bool),false⟩
theorem tk40:ti40.ok prog:=⟨underlying40,by kernel_rfl,fun h=>by cases h⟩
def ti42:TI:=⟨42,.struct #[fd "Rates" 22 0 "" 0,fd "Ports" 22 1 "" 24,fd "Pumps" 40 2 "" 48],3,72,.agg #[.slice none 0 0,.slice none 0 0,.slice none 0 0],.pair (.sl I6) (.pair (.sl I6) (.sl (.bool))),true⟩
theorem tk42:ti42.ok prog:=⟨underlying42,by kernel_rfl,fun _=>⟨eqGuardType42,stoodInHeld42⟩⟩
def ti44:TI:=⟨44,.struct #[fd "Valves" 39 0 "" 0,fd "Plan" 42 1 "" 24],4,96,.agg #[.slice none 0 0,.slice none 0 0,.slice none 0 0,.slice none 0 0],.pair (.sl tT2) tT6,true⟩
theorem tk44:ti44.ok prog:=⟨underlying44,by kernel_rfl,fun _=>⟨eqGuardType44,stoodInHeld44⟩⟩
def ti45:TI:=⟨45,.slice 108,1,24,.slice none 0 0,.sl tT3,false⟩
theorem tk45:ti45.ok prog:=⟨underlying45,by kernel_rfl,fun h=>by cases h⟩
def ti46:TI:=⟨46,.slice 140,1,24,.slice none 0 0,.sl tT4,false⟩
theorem tk46:ti46.ok prog:=⟨underlying46,by kernel_rfl,fun h=>by cases h⟩
def ti48:TI:=⟨48,.struct #[fd "Desk" 44 0 "" 0,fd "Stations" 45 4 "" 96,fd "Accounts" 46 5 "" 120,fd "Count" 3 6 "" 144],7,152,.agg #[.slice none 0 0,.slice none 0 0,.slice none 0 0,.slice none 0 0,.slice none 0 0,.slice none 0 0,.int .i64 0],.pair (.pair (.sl tT2) tT6) (.pair (.sl tT3) (.pair (.sl tT4) I6)),true⟩
theorem tk48:ti48.ok prog:=⟨underlying48,by kernel_rfl,fun _=>⟨eqGuardType48,stoodInHeld48⟩⟩
def ti53:TI:=⟨53,.slice 76,1,24,.slice none 0 0,.sl (.pair I6 (.bool)),false⟩
theorem tk53:ti53.ok prog:=⟨underlying53,by kernel_rfl,fun h=>by cases h⟩
def ti55:TI:=⟨55,.struct #[fd "In" 3 0 "" 0,fd "Out" 3 1 "" 8,fd "Hops" 53 2 "" 16,fd "Rate" 3 3 "" 40],4,48,.agg #[.int .i64 0,.int .i64 0,.slice none 0 0,.int .i64 0],.pair I6 (.pair I6 (.pair (.sl (.pair I6 (.bool))) I6)),true⟩
theorem tk55:ti55.ok prog:=⟨underlying55,by kernel_rfl,fun _=>⟨eqGuardType55,stoodInHeld55⟩⟩
def ti57:TI:=⟨57,.struct #[fd "Kind" 3 0 "" 0,fd "Index" 3 1 "" 8,fd "Value" 3 2 "" 16,fd "Path" 55 3 "" 24],7,72,.agg #[.int .i64 0,.int .i64 0,.int .i64 0,.int .i64 0,.int .i64 0,.slice none 0 0,.int .i64 0],.pair I6 (.pair I6 (.pair I6 (.pair I6 (.pair I6 (.pair (.sl (.pair I6 (.bool))) I6))))),true⟩
theorem tk57:ti57.ok prog:=⟨underlying57,by kernel_rfl,fun _=>⟨eqGuardType57,stoodInHeld57⟩⟩
def ti59:TI:=⟨59,.struct #[fd "Shipper" 9 0 "" 0,fd "Kind" 3 1 "" 16,fd "Volume" 3 2 "" 24],3,32,.agg #[.string ⟨#[]⟩,.int .i64 0,.int .i64 0],.pair (.str) (.pair I6 I6),true⟩
theorem tk59:ti59.ok prog:=⟨underlying59,by kernel_rfl,fun _=>⟨eqGuardType59,stoodInHeld59⟩⟩
def ti61:TI:=⟨61,.struct #[fd "Kind" 3 0 "" 0,fd "Values" 22 1 "" 8,fd "Step" 57 2 "" 32,fd "Entry" 59 9 "" 104],12,136,.agg #[.int .i64 0,.slice none 0 0,.int .i64 0,.int .i64 0,.int .i64 0,.int .i64 0,.int .i64 0,.slice none 0 0,.int .i64 0,.string ⟨#[]⟩,.int .i64 0,.int .i64 0],.pair I6 (.pair (.sl I6) (.pair tT1 tT7)),true⟩
theorem tk61:ti61.ok prog:=⟨underlying61,by kernel_rfl,fun _=>⟨eqGuardType61,stoodInHeld61⟩⟩
def ti76:TI:=⟨76,.struct #[fd "Segment" 3 0 "" 0,fd "Back" 4 1 "" 8],2,16,.agg #[.int .i64 0,.bool false],.pair I6 (.bool),true⟩
theorem tk76:ti76.ok prog:=⟨underlying76,by kernel_rfl,fun _=>⟨eqGuardType76,stoodInHeld76⟩⟩
def ti77:TI:=⟨77,.slice 5,1,24,.slice none 0 0,.sl (.int .u8),false⟩
theorem tk77:ti77.ok prog:=⟨underlying77,by kernel_rfl,fun h=>by cases h⟩
def ti80:TI:=⟨80,.struct #[fd "At" 3 0 "" 0,fd "Height" 3 1 "" 8,fd "Limit" 3 2 "" 16],3,24,.agg #[.int .i64 0,.int .i64 0,.int .i64 0],.pair I6 (.pair I6 I6),true⟩
theorem tk80:ti80.ok prog:=⟨underlying80,by kernel_rfl,fun _=>⟨eqGuardType80,stoodInHeld80⟩⟩
def ti81:TI:=⟨81,.slice 80,1,24,.slice none 0 0,.sl (.pair I6 (.pair I6 I6)),false⟩
theorem tk81:ti81.ok prog:=⟨underlying81,by kernel_rfl,fun h=>by cases h⟩
def ti83:TI:=⟨83,.struct #[fd "Name" 9 0 "" 0,fd "From" 3 1 "" 16,fd "To" 3 2 "" 24,fd "Capacity" 3 3 "" 32,fd "Resist" 3 4 "" 40,fd "Wave" 3 5 "" 48,fd "Points" 81 6 "" 56],7,80,.agg #[.string ⟨#[]⟩,.int .i64 0,.int .i64 0,.int .i64 0,.int .i64 0,.int .i64 0,.slice none 0 0],.pair (.str) tT5,true⟩
theorem tk83:ti83.ok prog:=⟨underlying83,by kernel_rfl,fun _=>⟨eqGuardType83,stoodInHeld83⟩⟩
def ti85:TI:=⟨85,.struct #[fd "Name" 9 0 "" 0,fd "Node" 3 1 "" 16,fd "Pressure" 3 2 "" 24],3,32,.agg #[.string ⟨#[]⟩,.int .i64 0,.int .i64 0],.pair (.str) (.pair I6 I6),true⟩
theorem tk85:ti85.ok prog:=⟨underlying85,by kernel_rfl,fun _=>⟨eqGuardType85,stoodInHeld85⟩⟩
def ti87:TI:=⟨87,.struct #[fd "L" 22 0 "" 0,fd "At" 3 1 "" 24],2,32,.agg #[.slice none 0 0,.int .i64 0],.pair (.sl I6) I6,true⟩
theorem tk87:ti87.ok prog:=⟨underlying87,by kernel_rfl,fun _=>⟨eqGuardType87,stoodInHeld87⟩⟩
def ti93:TI:=⟨93,.struct #[fd "Name" 9 0 "" 0,fd "Node" 3 1 "" 16,fd "Head" 3 2 "" 24,fd "Fall" 3 3 "" 32,fd "Suction" 3 4 "" 40],5,48,.agg #[.string ⟨#[]⟩,.int .i64 0,.int .i64 0,.int .i64 0,.int .i64 0],.pair (.str) (.pair I6 (.pair I6 (.pair I6 I6))),true⟩
theorem tk93:ti93.ok prog:=⟨underlying93,by kernel_rfl,fun _=>⟨eqGuardType93,stoodInHeld93⟩⟩
def ti108:TI:=⟨108,.struct #[fd "Station" 3 0 "" 0,fd "Epoch" 3 1 "" 8,fd "Seq" 3 2 "" 16,fd "Time" 3 3 "" 24,fd "Kind" 3 4 "" 32,fd "Values" 22 5 "" 40],6,64,.agg #[.int .i64 0,.int .i64 0,.int .i64 0,.int .i64 0,.int .i64 0,.slice none 0 0],.pair I6 (.pair I6 (.pair I6 (.pair I6 (.pair I6 (.sl I6))))),true⟩
theorem tk108:ti108.ok prog:=⟨underlying108,by kernel_rfl,fun _=>⟨eqGuardType108,stoodInHeld108⟩⟩
def ti122:TI:=⟨122,.struct #[fd "Segments" 40 0 "" 0,fd "Ports" 40 1 "" 24],2,48,.agg #[.slice none 0 0,.slice none 0 0],.pair (.sl (.bool)) (.sl (.bool)),true⟩
theorem tk122:ti122.ok prog:=⟨underlying122,by kernel_rfl,fun _=>⟨eqGuardType122,stoodInHeld122⟩⟩
def ti126:TI:=⟨126,.struct #[fd "Travel" 3 0 "" 0,fd "Open" 3 1 "" 8,fd "Want" 4 2 "" 16,fd "Stuck" 4 3 "" 17],4,24,.agg #[.int .i64 0,.int .i64 0,.bool false,.bool false],.pair I6 (.pair I6 (.pair (.bool) (.bool))),true⟩
theorem tk126:ti126.ok prog:=⟨underlying126,by kernel_rfl,fun _=>⟨eqGuardType126,stoodInHeld126⟩⟩
def ti129:TI:=⟨129,.pointer 131,1,8,.pointer none,.unit,false⟩
theorem tk129:ti129.ok prog:=⟨underlying129,by kernel_rfl,fun h=>by cases h⟩
def ti131:TI:=⟨131,.struct #[fd "addr" 129 0 "strings" 0,fd "buf" 77 1 "strings" 8],2,32,.agg #[.pointer none,.slice none 0 0],.unit,true⟩
theorem tk131:ti131.ok prog:=⟨underlying131,by kernel_rfl,fun _=>⟨eqGuardType131,stoodInHeld131⟩⟩
def ti133:TI:=⟨133,.interface #[("Error",141)],1,16,.nilIface,.err,false⟩
theorem tk133:ti133.ok prog:=⟨underlying133,by kernel_rfl,fun h=>by cases h⟩
def ti140:TI:=⟨140,.struct #[fd "Shipper" 9 0 "" 0,fd "Received" 3 1 "" 16,fd "Delivered" 3 2 "" 24,fd "Slop" 3 3 "" 32,fd "Shared" 3 4 "" 40],5,48,.agg #[.string ⟨#[]⟩,.int .i64 0,.int .i64 0,.int .i64 0,.int .i64 0],.pair (.str) (.pair I6 (.pair I6 (.pair I6 I6))),true⟩
theorem tk140:ti140.ok prog:=⟨underlying140,by kernel_rfl,fun _=>⟨eqGuardType140,stoodInHeld140⟩⟩
def ti148:TI:=⟨148,.slice 59,1,24,.slice none 0 0,.sl tT7,false⟩
theorem tk148:ti148.ok prog:=⟨underlying148,by kernel_rfl,fun h=>by cases h⟩
def ti153:TI:=⟨153,.array 4 27,4,96,.agg #[.slice none 0 0,.slice none 0 0,.slice none 0 0,.slice none 0 0],.pair (.sl (.str)) (.pair (.sl (.str)) (.pair (.sl (.str)) (.sl (.str)))),false⟩
theorem tk153:ti153.ok prog:=⟨underlying153,by kernel_rfl,fun h=>by cases h⟩
def ti160:TI:=⟨160,.func #[27] #[61] false,1,8,.nilFunc,.fnl [174,175],false⟩
theorem tk160:ti160.ok prog:=⟨underlying160,by kernel_rfl,fun h=>by cases h⟩
def ti162:TI:=⟨162,.map 9 160,1,8,.map none,.unit,false⟩
theorem tk162:ti162.ok prog:=⟨underlying162,by kernel_rfl,fun h=>by cases h⟩
def ti167:TI:=⟨167,.struct #[fd "words" 27 0 "batchline/console" 0,fd "failed" 4 1 "batchline/console" 24],2,32,.agg #[.slice none 0 0,.bool false],.pair (.sl (.str)) (.bool),true⟩
theorem tk167:ti167.ok prog:=⟨underlying167,by kernel_rfl,fun _=>⟨eqGuardType167,stoodInHeld167⟩⟩
def ti177:TI:=⟨177,.func #[32,180,61] #[36] false,1,8,.nilFunc,.fnl [106,107,108],false⟩
theorem tk177:ti177.ok prog:=⟨underlying177,by kernel_rfl,fun h=>by cases h⟩
def ti178:TI:=⟨178,.map 3 177,1,8,.map none,.unit,false⟩
theorem tk178:ti178.ok prog:=⟨underlying178,by kernel_rfl,fun h=>by cases h⟩
def ti196:TI:=⟨196,.pointer 5,1,8,.pointer none,.unit,false⟩
theorem tk196:ti196.ok prog:=⟨underlying196,by kernel_rfl,fun h=>by cases h⟩
def ti197:TI:=⟨197,.func #[3] #[4] false,1,8,.nilFunc,.clo 309 (.pair (.sl tT2) tT6),false⟩
theorem tk197:ti197.ok prog:=⟨underlying197,by kernel_rfl,fun h=>by cases h⟩
def ti204:TI:=⟨204,.slice 55,1,24,.slice none 0 0,.sl (.pair I6 (.pair I6 (.pair (.sl (.pair I6 (.bool))) I6))),false⟩
theorem tk204:ti204.ok prog:=⟨underlying204,by kernel_rfl,fun h=>by cases h⟩
def ti244:TI:=⟨244,.array 24 3,24,192,.agg #[.int .i64 0,.int .i64 0,.int .i64 0,.int .i64 0,.int .i64 0,.int .i64 0,.int .i64 0,.int .i64 0,.int .i64 0,.int .i64 0,.int .i64 0,.int .i64 0,.int .i64 0,.int .i64 0,.int .i64 0,.int .i64 0,.int .i64 0,.int .i64 0,.int .i64 0,.int .i64 0,.int .i64 0,.int .i64 0,.int .i64 0,.int .i64 0],.arr 24 I6,true⟩
theorem tk244:ti244.ok prog:=⟨underlying244,by kernel_rfl,fun _=>⟨by kernel_rfl,by kernel_rfl⟩⟩
def ti246:TI:=⟨246,.struct #[fd "come" 244 0 "batchline/flow" 0,fd "leave" 244 24 "batchline/flow" 192],48,384,.agg #[.int .i64 0,.int .i64 0,.int .i64 0,.int .i64 0,.int .i64 0,.int .i64 0,.int .i64 0,.int .i64 0,.int .i64 0,.int .i64 0,.int .i64 0,.int .i64 0,.int .i64 0,.int .i64 0,.int .i64 0,.int .i64 0,.int .i64 0,.int .i64 0,.int .i64 0,.int .i64 0,.int .i64 0,.int .i64 0,.int .i64 0,.int .i64 0,.int .i64 0,.int .i64 0,.int .i64 0,.int .i64 0,.int .i64 0,.int .i64 0,.int .i64 0,.int .i64 0,.int .i64 0,.int .i64 0,.int .i64 0,.int .i64 0,.int .i64 0,.int .i64 0,.int .i64 0,.int .i64 0,.int .i64 0,.int .i64 0,.int .i64 0,.int .i64 0,.int .i64 0,.int .i64 0,.int .i64 0,.int .i64 0],.pair (.arr 24 I6) (.arr 24 I6),true⟩
theorem tk246:ti246.ok prog:=⟨underlying246,by kernel_rfl,fun _=>⟨eqGuardType246,stoodInHeld246⟩⟩
def ti260:TI:=⟨260,.int .u64,1,8,.int .u64 0,.int .u64,false⟩
theorem tk260:ti260.ok prog:=⟨underlying260,by kernel_rfl,fun h=>by cases h⟩
def ti272:TI:=⟨272,.func #[32,273,57] #[36] false,1,8,.nilFunc,.unit,false⟩
theorem tk272:ti272.ok prog:=⟨underlying272,by kernel_rfl,fun h=>by cases h⟩
def ti279:TI:=⟨279,.int .u64,1,8,.int .u64 0,.int .u64,false⟩
theorem tk279:ti279.ok prog:=⟨underlying279,by kernel_rfl,fun h=>by cases h⟩
def ti287:TI:=⟨287,.int .u32,1,4,.int .u32 0,.int .u32,false⟩
theorem tk287:ti287.ok prog:=⟨underlying287,by kernel_rfl,fun h=>by cases h⟩
def ti296:TI:=⟨296,.array 7 272,7,56,.agg #[.nilFunc,.nilFunc,.nilFunc,.nilFunc,.nilFunc,.nilFunc,.nilFunc],.unit,false⟩
theorem tk296:ti296.ok prog:=⟨underlying296,by kernel_rfl,fun h=>by cases h⟩
def types:List TI:=[ti3,ti4,ti5,ti9,ti22,ti27,ti28,ti29,ti30,ti32,ti35,ti39,ti40,ti42,ti44,ti45,ti46,ti48,ti53,ti55,ti57,ti59,ti61,ti76,ti77,ti80,ti81,ti83,ti85,ti87,ti93,ti108,ti122,ti126,ti129,ti131,ti133,ti140,ti148,ti153,ti160,ti162,ti167,ti177,ti178,ti196,ti197,ti204,ti244,ti246,ti260,ti272,ti279,ti287,ti296]
theorem qkk:Tys prog types:=⟨tk3,tk4,tk5,tk9,tk22,tk27,tk28,tk29,tk30,tk32,tk35,tk39,tk40,tk42,tk44,tk45,tk46,tk48,tk53,tk55,tk57,tk59,tk61,tk76,tk77,tk80,tk81,tk83,tk85,tk87,tk93,tk108,tk122,tk126,tk129,tk131,tk133,tk140,tk148,tk153,tk160,tk162,tk167,tk177,tk178,tk196,tk197,tk204,tk244,tk246,tk260,tk272,tk279,tk287,tk296,trivial⟩
def xt84:Ext:=qDi 84
theorem xk84:ExtOk prog xt84:=qAq func84 (by kernel_rfl) (by kernel_rfl) (by kernel_rfl) (by kernel_rfl)
def xt264:Ext:=qDh 264
theorem xk264:ExtOk prog xt264:=qAp func264 (by kernel_rfl) (by kernel_rfl) (by kernel_rfl) (by kernel_rfl)
def xt315:Ext:=qDf 315
theorem xk315:ExtOk prog xt315:=qAm func315 (by kernel_rfl) (by kernel_rfl) (by kernel_rfl) (by kernel_rfl)
theorem mx:prog.follows .mixedOrders=true:=by kernel_rfl
abbrev kk:Sh:=.one .keep
abbrev ii:Sh:=.one (.data (.int .i64))
abbrev bb:Sh:=.one (.data .bool)
abbrev ss:Sh:=.one (.data .str)
abbrev nn(r:Plan):Plan:=.mk [] none .nil r
abbrev mm(l r:Plan):Plan:=.mk [] none l r
abbrev kp(n:Nat):List Sh1:=List.replicate n .keep
theorem fi{e:Fun}{fn:Func}{c:Code}(ow:List Nat)(fs:List Fun)(N:Nat)(xs:List Ext)(p:Plan)(hf:Tryz.prog.funcs[e.f]? = some fn)(hfs:CxOk Tryz.prog ⟨types,ow,fs,N,xs⟩)(hb:fn.body=some c:=by exact rfl)(hname:(fn.name == "runtime.NumGoroutine")=false:=by kernel_rfl)(hN:fn.ntmps=N:=by exact rfl)(hnp:Nat.ble e.np N=true:=by exact rfl)(hnr:fn.results.toList.length=e.nr:=by exact rfl)(hregs:e.ji.regs.all (fun q=>Nat.blt q.1 e.np)=true:=by exact rfl)(h:∀x,e.tw x=evFun ⟨types,ow,fs,N,xs⟩ e.ji e.jo fn.results.toList c p x:=by intro x; kernel_rfl):FunOk Tryz.prog e:=FunOk.intro (C:=⟨types,ow,fs,N,xs⟩) hf hb hname hN hnp hnr hregs qkk hfs mx h
abbrev v0_:List (Nat×TypeId×List Sh1):=[(48,32,kp 6),(64,42,[.keep,.keep,.keep])]
abbrev a1_:List (Nat×ObSh):=[(1,.arr 126 tT2),(2,.arr 3 I6),(3,.arr 3 I6),(4,.arr 4 (.bool))]
abbrev v2_:List (Nat×TypeId×List Sh1):=[(0,87,[.data (.sl I6),.data I6]),(64,32,kp 6),(80,42,[.keep,.keep,.keep]),(96,42,[.own 416,.own 480,.own 1593])]
abbrev v3_:List (Nat×TypeId×List Sh1):=[(0,87,[.data (.sl I6),.data I6])]
abbrev v4_:List (Nat×TypeId×List Sh1):=[(0,87,[.keep,.keep]),(64,32,kp 6),(80,42,[.keep,.keep,.keep]),(96,42,[.own 416,.own 480,.own 1593])]
abbrev v5_:List (Nat×TypeId×List Sh1):=[(0,61,[.data I6,.data (.sl I6),.data I6,.data I6,.data I6,.data I6,.data I6,.data (.sl (.pair I6 (.bool))),.data I6,.data (.str),.data I6,.data I6])]
abbrev v6_:List (Nat×TypeId×List Sh1):=[(0,44,[.own 1,.own 2,.own 3,.own 4])]
abbrev v7_:List (Nat×TypeId×List Sh1):=[(32,32,kp 6)]
abbrev a8_:List (Nat×ObSh):=[(1,.arr 126 tT2),(2,.arr 3 I6),(3,.arr 3 I6),(4,.arr 4 (.bool)),(5,.arr 108 tT3),(6,.arr 140 tT4)]
abbrev v9_:List (Nat×TypeId×List Sh1):=[(0,87,[.data (.sl I6),.data I6]),(48,32,kp 6),(64,32,[.own 1049,.own 1065,.own 1081,.own 1097,.keep,.keep])]
abbrev a10_:List (Nat×ObSh):=[(219,.arr 3 I6),(416,.arr 3 I6),(480,.arr 3 I6),(1593,.arr 4 (.bool))]
abbrev a11_:List (Nat×ObSh):=[(1049,.arr 9 (.str)),(1065,.arr 83 (.pair (.str) tT5)),(1081,.arr 85 tT7),(1097,.arr 93 tT4)]
abbrev v12_:List (Nat×TypeId×List Sh1):=[(48,32,kp 6),(64,48,kp 7),(155,131,[.ptr 155 0,.own 2521])]
abbrev a13_:List (Nat×ObSh):=[(400,.arr 3 I6),(464,.arr 3 I6),(171,.arr 55 (.pair I6 (.pair I6 (.pair (.sl (.pair I6 (.bool))) I6)))),(736,.arr 76 (.pair I6 (.bool)))]
abbrev v14_:List (Nat×TypeId×List Sh1):=[(0,87,[.data (.sl I6),.data I6]),(48,32,kp 6),(64,32,[.own 1049,.own 1065,.keep,.keep,.keep,.keep])]
abbrev a15_:List (Nat×ObSh):=[(432,.arr 76 (.pair I6 (.bool))),(656,.arr 126 tT2),(657,.arr 3 I6),(658,.arr 3 I6),(659,.arr 4 (.bool))]
abbrev v16_:List (Nat×TypeId×List Sh1):=[(80,32,kp 6),(144,55,[.data I6,.data I6,.data (.sl (.pair I6 (.bool))),.data I6]),(176,55,[.keep,.data I6,.own 2873,.data I6])]
abbrev r17_:List (Nat×Sh):=[(0,dd (.pair I6 (.pair (.sl I6) (.pair tT1 tT7))))]
abbrev a18_:List (Nat×ObSh):=[(416,.arr 3 I6),(480,.arr 3 I6),(1593,.arr 4 (.bool))]
abbrev a19_:List (Nat×ObSh):=[(80,.one 246 (.pair (.arr 24 I6) (.arr 24 I6))),(96,.one 246 (.pair (.arr 24 I6) (.arr 24 I6)))]
abbrev v20_:List (Nat×TypeId×List Sh1):=[(64,32,kp 6),(80,44,kp 4),(96,57,kp 7),(112,44,kp 4),(144,55,[.keep,.keep,.own 432,.keep]),(160,44,[.own 656,.own 657,.own 658,.own 659]),(192,76,[.keep,.keep])]
abbrev a21_:List (Nat×ObSh):=[(219,.arr 3 I6),(283,.arr 3 I6),(416,.arr 3 I6),(480,.arr 3 I6),(1593,.arr 4 (.bool))]
abbrev a22_:List (Nat×ObSh):=[(2521,.arr 5 (.int .u8))]
abbrev a23_:List (Nat×ObSh):=[(107,.arr 3 I6),(288,.arr 4 (.bool))]
abbrev v24_:List (Nat×TypeId×List Sh1):=[(0,87,[.data (.sl I6),.data I6]),(144,83,kp 7),(160,83,[.keep,.keep,.keep,.keep,.keep,.keep,.own 2681])]
abbrev a25_:List (Nat×ObSh):=[(368,.arr 126 tT2),(369,.arr 3 I6),(370,.arr 3 I6),(371,.arr 4 (.bool)),(372,.arr 108 tT3),(373,.arr 140 tT4)]
abbrev v26_:List (Nat×TypeId×List Sh1):=[(64,32,kp 6),(80,42,[.keep,.keep,.keep])]
abbrev r27_:List (Nat×Sh):=[(0,dd (.pair (.pair (.sl tT2) tT6) (.pair (.sl tT3) (.pair (.sl tT4) I6)))),(1,ii)]
abbrev v28_:List (Nat×TypeId×List Sh1):=[(32,32,kp 6),(48,153,kp 4),(64,153,[.keep,.own 1065,.own 1081,.keep])]
abbrev a29_:List (Nat×ObSh):=[(7,.arr 126 tT2),(8,.arr 3 I6),(9,.arr 3 I6),(10,.arr 4 (.bool)),(11,.arr 108 tT3),(12,.arr 140 tT4)]
abbrev r30_:List (Nat×Sh):=[(2,pt 48 0),(3,pt 64 0)]
abbrev a31_:List (Nat×ObSh):=[(400,.arr 3 I6),(464,.arr 3 I6),(171,.arr 55 (.pair I6 (.pair I6 (.pair (.sl (.pair I6 (.bool))) I6))))]
abbrev v32_:List (Nat×TypeId×List Sh1):=[(32,32,kp 6),(48,153,kp 4),(64,153,[.keep,.own 1065,.keep,.keep])]
abbrev r33_:List (Nat×Sh):=[(0,kk),(1,kk),(7,kk),(8,ii)]
abbrev r34_:List (Nat×Sh):=[(0,dd tT0),(1,dd (.pair I6 (.pair I6 (.pair (.sl (.pair I6 (.bool))) I6))))]
abbrev v35_:List (Nat×TypeId×List Sh1):=[(64,32,kp 6),(80,44,kp 4),(96,57,kp 7),(112,44,kp 4)]
abbrev v36_:List (Nat×TypeId×List Sh1):=[(48,153,kp 4),(64,153,[.keep,.own 1065,.own 1081,.own 1097])]
abbrev r37_:List (Nat×Sh):=[(0,dd tT0),(1,dd (.pair (.pair (.sl tT2) tT6) (.pair (.sl tT3) (.pair (.sl tT4) I6)))),(2,dd (.pair I6 (.pair (.sl I6) (.pair tT1 tT7))))]
abbrev a38_:List (Nat×ObSh):=[(1065,.arr 9 (.str)),(1081,.arr 9 (.str)),(1097,.arr 9 (.str))]
abbrev v39_:List (Nat×TypeId×List Sh1):=[(80,48,kp 7),(96,61,kp 12),(112,48,kp 7),(144,48,[.own 368,.own 369,.own 370,.own 371,.own 372,.own 373,.keep])]
abbrev r40_:List (Nat×Sh):=[(2,pt 48 0),(3,pt 64 0),(5,ow 107),(6,ow 288),(7,kk),(8,kk),(9,bb),(20,kk),(21,kk),(30,kk),(31,kk),(32,kk)]
abbrev a41_:List (Nat×ObSh):=[(1,.arr 9 (.str))]
abbrev r42_:List (Nat×Sh):=[(1,pt 32 0),(2,pt 48 0),(3,pt 64 0)]
abbrev v43_:List (Nat×TypeId×List Sh1):=[(48,32,kp 6),(64,44,kp 4)]
abbrev v44_:List (Nat×TypeId×List Sh1):=[(48,32,kp 6),(192,55,[.keep,.keep,.own 736,.keep])]
abbrev a45_:List (Nat×ObSh):=[(107,.arr 3 I6),(256,.arr 4 (.bool))]
abbrev a46_:List (Nat×ObSh):=[(128,.arr 126 tT2),(129,.arr 3 I6),(130,.arr 3 I6),(131,.arr 4 (.bool)),(1113,.arr 108 tT3),(192,.arr 140 tT4)]
abbrev v47_:List (Nat×TypeId×List Sh1):=[(0,167,[.own 1,.data (.bool)])]
abbrev v48_:List (Nat×TypeId×List Sh1):=[(0,44,[.own 1,.own 2,.own 3,.own 4]),(96,57,kp 7)]
abbrev r49_:List (Nat×Sh):=[(0,dd (.pair (.sl tT2) tT6)),(1,ii)]
abbrev a50_:List (Nat×ObSh):=[(123,.arr 61 (.pair I6 (.pair (.sl I6) (.pair tT1 tT7))))]
abbrev r51_:List (Nat×Sh):=[(0,dd tT0),(1,pt 0 0),(2,dd (.pair I6 (.pair (.sl I6) (.pair tT1 tT7))))]
abbrev a52_:List (Nat×ObSh):=[(1049,.arr 9 (.str)),(1065,.arr 83 (.pair (.str) tT5))]
abbrev r53_:List (Nat×Sh):=[(0,ss),(1,ss)]
abbrev r54_:List (Nat×Sh):=[(0,dd tT0),(1,dd tT6)]
abbrev a55_:List (Nat×ObSh):=[(25,.arr 9 (.str))]
abbrev v56_:List (Nat×TypeId×List Sh1):=[(64,59,[.keep,.keep,.keep])]
abbrev r57_:List (Nat×Sh):=[(0,dd tT0),(1,dd (.pair (.sl tT2) tT6)),(2,dd tT1)]
abbrev a58_:List (Nat×ObSh):=[(0,.arr 126 tT2),(1,.arr 3 I6),(2,.arr 3 I6),(3,.arr 4 (.bool)),(4,.arr 108 tT3),(5,.arr 140 tT4)]
abbrev v59_:List (Nat×TypeId×List Sh1):=[(0,167,[.own 25,.data (.bool)]),(80,32,kp 6),(96,57,kp 7)]
abbrev a60_:List (Nat×ObSh):=[(0,.arr 126 tT2),(1,.arr 3 I6),(2,.arr 3 I6),(3,.arr 4 (.bool))]
abbrev r61_:List (Nat×Sh):=[(0,ii),(1,ii)]
abbrev v62_:List (Nat×TypeId×List Sh1):=[(0,48,[.own 7,.own 8,.own 9,.own 10,.own 11,.own 12,.data I6])]
abbrev a63_:List (Nat×ObSh):=[(2873,.arr 76 (.pair I6 (.bool)))]
abbrev v64_:List (Nat×TypeId×List Sh1):=[(48,32,kp 6),(64,55,kp 4)]
abbrev v65_:List (Nat×TypeId×List Sh1):=[(32,42,[.keep,.keep,.keep]),(48,42,[.keep,.keep,.keep]),(64,42,[.own 1049,.keep,.own 160])]
abbrev v66_:List (Nat×TypeId×List Sh1):=[(0,167,[.own 2,.data (.bool)])]
abbrev r67_:List (Nat×Sh):=[(2,pt 48 0),(3,pt 64 0),(8,pt 155 0),(9,.one (.clp 57 155 0))]
abbrev v68_:List (Nat×TypeId×List Sh1):=[(0,48,[.own 1,.own 2,.own 3,.own 4,.own 5,.own 6,.data I6])]
abbrev v69_:List (Nat×TypeId×List Sh1):=[(0,87,[.keep,.keep]),(48,32,kp 6),(64,32,[.own 1049,.keep,.keep,.keep,.keep,.keep])]
abbrev v70_:List (Nat×TypeId×List Sh1):=[(0,61,[.keep,.keep,.keep,.keep,.keep,.keep,.keep,.own 137,.keep,.keep,.keep,.keep])]
abbrev a71_:List (Nat×ObSh):=[(0,.one 246 (.pair (.arr 24 I6) (.arr 24 I6)))]
abbrev r72_:List (Nat×Sh):=[(0,dd tT0),(1,pt 0 0),(2,dd tT1)]
abbrev v73_:List (Nat×TypeId×List Sh1):=[(32,48,[.own 128,.own 129,.own 130,.own 131,.own 176,.own 224,.keep]),(48,48,kp 7)]
abbrev r74_:List (Nat×Sh):=[(0,dd (.sl tT4)),(1,.one (.fn [.pair (.str) (.pair I6 (.pair I6 (.pair I6 I6)))] (.bool)))]
abbrev v75_:List (Nat×TypeId×List Sh1):=[(48,32,kp 6),(80,61,kp 12)]
abbrev a76_:List (Nat×ObSh):=[(1065,.arr 9 (.str)),(1081,.arr 9 (.str))]
abbrev v77_:List (Nat×TypeId×List Sh1):=[(32,42,[.keep,.keep,.keep]),(48,122,[.keep,.keep]),(64,122,[.own 1049,.keep])]
abbrev a78_:List (Nat×ObSh):=[(171,.arr 61 (.pair I6 (.pair (.sl I6) (.pair tT1 tT7))))]
abbrev r79_:List (Nat×Sh):=[(0,dd (.sl tT2)),(1,.one (.fn [.pair I6 (.pair I6 (.pair (.bool) (.bool)))] (.bool)))]
abbrev a80_:List (Nat×ObSh):=[(219,.arr 61 (.pair I6 (.pair (.sl I6) (.pair tT1 tT7))))]
abbrev r81_:List (Nat×Sh):=[(0,dd (.sl (.str)))]
abbrev r82_:List (Nat×Sh):=[(0,dd tT2),(1,ii)]
abbrev r83_:List (Nat×Sh):=[(1,pt 32 0),(3,pt 64 0),(4,kk),(27,kk),(28,bb)]
abbrev r84_:List (Nat×Sh):=[(0,dd (.pair (.sl (.str)) (.pair (.sl (.str)) (.pair (.sl (.str)) (.sl (.str))))))]
abbrev v85_:List (Nat×TypeId×List Sh1):=[(0,48,[.own 1,.own 2,.own 3,.own 4,.own 5,.own 6,.keep]),(96,61,kp 12)]
abbrev r86_:List (Nat×Sh):=[(0,dd (.int .u64)),(1,dd (.int .u64))]
abbrev r87_:List (Nat×Sh):=[(1,kk),(2,pt 48 0),(4,pt 80 0),(7,kk),(9,kk)]
abbrev v88_:List (Nat×TypeId×List Sh1):=[(32,59,[.keep,.keep,.keep])]
abbrev v89_:List (Nat×TypeId×List Sh1):=[(64,48,kp 7),(155,131,[.ptr 155 0,.own 2521])]
abbrev r90_:List (Nat×Sh):=[(0,pt 0 0),(4,pt 80 0),(5,pt 96 0)]
abbrev v91_:List (Nat×TypeId×List Sh1):=[(48,126,[.keep,.data I6,.keep,.keep]),(80,126,kp 4),(96,126,kp 4)]
abbrev r92_:List (Nat×Sh):=[(4,dd (.sl (.pair I6 (.pair I6 (.pair (.sl (.pair I6 (.bool))) I6))))),(5,ii)]
abbrev v93_:List (Nat×TypeId×List Sh1):=[(48,126,[.data I6,.data I6,.data (.bool),.data (.bool)]),(80,126,kp 4)]
abbrev a94_:List (Nat×ObSh):=[(2073,.arr 126 tT2),(416,.arr 3 I6),(480,.arr 3 I6),(544,.arr 4 (.bool))]
abbrev r95_:List (Nat×Sh):=[(1,pt 32 0),(4,kk),(5,bb)]
abbrev a96_:List (Nat×ObSh):=[(960,.arr 126 tT2),(961,.arr 3 I6),(962,.arr 3 I6),(963,.arr 4 (.bool))]
abbrev v97_:List (Nat×TypeId×List Sh1):=[(0,44,[.own 1,.own 2,.own 3,.own 4]),(64,32,kp 6),(96,57,kp 7)]
abbrev r98_:List (Nat×Sh):=[(0,dd (.sl (.pair (.str) tT5))),(1,.one (.fn [.pair (.str) tT5] (.bool)))]
abbrev r99_:List (Nat×Sh):=[(0,dd (.pair (.pair (.sl tT2) tT6) (.pair (.sl tT3) (.pair (.sl tT4) I6))))]
abbrev r100_:List (Nat×Sh):=[(0,dd (.sl (.pair I6 (.bool)))),(1,.one (.fn [.pair I6 (.bool)] (.bool)))]
abbrev a101_:List (Nat×ObSh):=[(75,.arr 3 I6)]
abbrev v102_:List (Nat×TypeId×List Sh1):=[(32,32,kp 6),(96,153,kp 4)]
abbrev r103_:List (Nat×Sh):=[(0,dd (.sl tT7)),(1,.one (.fn [.pair (.str) (.pair I6 I6)] (.bool)))]
abbrev r104_:List (Nat×Sh):=[(0,pt 0 0),(3,pt 64 0),(4,pt 80 0),(5,pt 96 0),(7,kk),(8,kk)]
abbrev r105_:List (Nat×Sh):=[(1,pt 32 0),(2,pt 48 0),(3,pt 64 0),(14,kk),(15,kk),(16,ii)]
abbrev r106_:List (Nat×Sh):=[(1,pt 32 0),(2,pt 48 0),(3,pt 64 0),(29,kk),(30,kk),(31,ii)]
abbrev v107_:List (Nat×TypeId×List Sh1):=[(0,167,[.own 25,.data (.bool)])]
abbrev v108_:List (Nat×TypeId×List Sh1):=[(32,57,kp 7),(64,55,kp 4)]
abbrev r109_:List (Nat×Sh):=[(0,dd (.pair (.str) tT5))]
abbrev r110_:List (Nat×Sh):=[(0,.agg [.own 0,.own 1,.own 2,.own 3,.own 4,.own 5,.data I6])]
abbrev r111_:List (Nat×Sh):=[(0,dd tT0),(1,dd tT6),(2,ii)]
abbrev r112_:List (Nat×Sh):=[(2,pt 48 0),(4,pt 80 0)]
abbrev r113_:List (Nat×Sh):=[(0,dd (.pair I6 (.pair I6 (.pair (.sl (.pair I6 (.bool))) I6))))]
abbrev r114_:List (Nat×Sh):=[(0,dd tT0),(1,dd (.pair I6 (.pair (.sl I6) (.pair tT1 tT7))))]
abbrev r115_:List (Nat×Sh):=[(0,dd (.sl I6))]
abbrev v116_:List (Nat×TypeId×List Sh1):=[(32,83,kp 7)]
abbrev v117_:List (Nat×TypeId×List Sh1):=[(0,167,[.own 1,.keep]),(80,32,kp 6),(96,57,kp 7)]
abbrev v118_:List (Nat×TypeId×List Sh1):=[(48,32,kp 6)]
abbrev r119_:List (Nat×Sh):=[(2,pt 48 0),(3,pt 64 0),(5,ow 107),(6,ow 256),(7,ii)]
abbrev r120_:List (Nat×Sh):=[(2,pt 48 0),(3,pt 64 0),(5,ow 107),(6,ow 256),(7,kk)]
abbrev a121_:List (Nat×ObSh):=[(139,.arr 3 I6)]
abbrev a122_:List (Nat×ObSh):=[(2681,.arr 80 (.pair I6 (.pair I6 I6)))]
abbrev r123_:List (Nat×Sh):=[(2,pt 48 0),(7,ow 400),(8,ow 464),(9,ow 171),(10,kk)]
abbrev v124_:List (Nat×TypeId×List Sh1):=[(32,126,[.keep,.data I6,.keep,.keep]),(48,126,kp 4)]
abbrev v125_:List (Nat×TypeId×List Sh1):=[(48,32,kp 6),(96,55,kp 4),(144,76,[.keep,.keep])]
abbrev a126_:List (Nat×ObSh):=[(1049,.arr 3 I6),(1065,.arr 3 I6),(160,.arr 4 (.bool))]
abbrev a127_:List (Nat×ObSh):=[(2,.arr 9 (.str))]
abbrev r128_:List (Nat×Sh):=[(0,pt 0 0),(2,pt 48 0),(3,pt 64 0),(5,kk),(9,kk)]
abbrev r129_:List (Nat×Sh):=[(2,pt 48 0),(3,pt 64 0),(44,kk),(45,kk),(46,ii)]
abbrev r130_:List (Nat×Sh):=[(0,pt 0 2),(1,dd (.sl (.str))),(2,.one (.sel tT0))]
abbrev a131_:List (Nat×ObSh):=[(0,.arr 108 tT3)]
abbrev r132_:List (Nat×Sh):=[(2,pt 48 0),(3,pt 64 0),(5,ii)]
abbrev r133_:List (Nat×Sh):=[(0,dd (.sl I6)),(1,.one (.fn [.int .i64] (.bool)))]
abbrev r134_:List (Nat×Sh):=[(0,dd tT0),(1,ss)]
abbrev v135_:List (Nat×TypeId×List Sh1):=[(0,167,[.own 25,.data (.bool)]),(96,61,kp 12)]
abbrev r136_:List (Nat×Sh):=[(0,kk),(1,kk),(2,kk),(8,kk),(9,ii),(10,ii)]
abbrev r137_:List (Nat×Sh):=[(0,dd (.sl (.str))),(1,.one (.fn [.str] (.bool)))]
abbrev r138_:List (Nat×Sh):=[(0,pt 0 0),(5,pt 96 0)]
abbrev v139_:List (Nat×TypeId×List Sh1):=[(48,44,kp 4),(64,57,kp 7),(80,44,kp 4)]
abbrev v140_:List (Nat×TypeId×List Sh1):=[(48,32,kp 6),(64,57,kp 7)]
abbrev a141_:List (Nat×ObSh):=[(139,.arr 140 tT4)]
abbrev r142_:List (Nat×Sh):=[(0,kk),(6,kk),(7,ow 139)]
abbrev v143_:List (Nat×TypeId×List Sh1):=[(0,131,[.nptr 0 0,.own 1])]
abbrev a144_:List (Nat×ObSh):=[(1065,.arr 9 (.str))]
abbrev r145_:List (Nat×Sh):=[(0,pt 0 0),(1,ii)]
abbrev r146_:List (Nat×Sh):=[(0,dd tT0),(1,ii)]
abbrev a147_:List (Nat×ObSh):=[(0,.arr 4 (.bool))]
def qpX(l:List Int):Option (Bool):=some (decide ((l.length:Int)<=400))
def qoS:Fun:=⟨7,1,1,⟨r115_,[],[]⟩,⟨[(0,bb)],[],[]⟩,fun x=>qpX x⟩
theorem qui:FO qoS:=fi [] [] 6 [] .nil func7 ⟨trivial,trivial⟩
def qaf(s:List yT0)(f:yT0×Unit->Option Bool)(v:Int):Option (Int⊕(Unit⊕Int)):=bif decide (v<(s.length:Int)) then(gd (inB v s.length)<|(f (s.getD v.toNat ([],0,0,0,0,0,[]),())).bind fun r=>bif r then(some (.inr (.inr v)))else(some (.inl (wi64 (v+1)))))else(some (.inr (.inl ())))
def qas(s:List yT0)(f:yT0×Unit->Option Bool):Option (Int):=(iter (fun x=>qaf s f x) 0).bind fun s2=>s2.elim (fun s3=>some (-1)) (fun s4=>some s4)
def qaT:Fun:=⟨223,2,1,⟨r98_,[],[]⟩,⟨[(0,ii)],[],[]⟩,U2 qas⟩
theorem qbu:FO qaT:=fi [] [] 19 [] ((nn (mm (nn (mm (.mk [] (some (⟨r33_,[],[]⟩,[⟨.x 0,⟨[],[],[]⟩⟩,⟨.r,⟨[(4,ii)],[],[]⟩⟩])) .nil .nil) .nil)) .nil))) func223 ⟨trivial,trivial⟩
def qam(s:List yT0)(f:yT0×Unit->Option Bool):Option (Bool):=(qas s f).bind fun r=>some (decide (0<=r))
def qaJ:Fun:=⟨146,2,1,⟨r98_,[],[]⟩,⟨[(0,bb)],[],[]⟩,U2 qam⟩
theorem qbn:FO qaJ:=fi [] [qaT] 9 [] .nil func146 ⟨⟨qbu,trivial⟩,trivial⟩
def qhm(s:yB9):Option (Bool):=bif decide ((s.2.2.2.2.2.2.length:Int)<2) then(some true)else(some (decide (8<(s.2.2.2.2.2.2.length:Int))))
def qia:Fun:=⟨147,1,1,⟨r109_,[],[]⟩,⟨[(0,bb)],[],[]⟩,fun x=>qhm x⟩
theorem qod:FO qia:=fi [] [] 13 [] .nil func147 ⟨trivial,trivial⟩
def qeA(n:yB0):Option (Bool):=Option.bind (α:=Bool) (bif decide ((n.1.length:Int)<1) then(some true)else(bif decide (24<(n.1.length:Int)) then(some true)else(bif decide (32<(n.2.1.length:Int)) then(some true)else(bif decide (24<(n.2.2.1.length:Int)) then(some true)else(some (decide (12<(n.2.2.2.1.length:Int)))))))) fun s=>bif s then(some false)else((qam n.2.1 (fun h=>(qhm h.1).bind fun y=>some y)).bind fun r=>some (!r))
def qjF:Fun:=⟨75,1,1,⟨[(0,dd tT0)],[],[]⟩,⟨[(0,bb)],[],[]⟩,fun x=>qeA x⟩
theorem qpY:FO qjF:=fi [] [qaJ,qia] 35 [] ((nn (mm (mm (.mk [.join [⟨.n,⟨[(1,pt 32 0),(30,bb)],v7_,[]⟩⟩]] none .nil .nil) .nil) .nil))) func75 ⟨⟨qbn,qod,trivial⟩,trivial⟩
def qeX(n:yB0)(v:Int)(out:List (List UInt8)):Option ((Int×List (List UInt8))⊕(List (List UInt8))):=bif decide (v<(n.2.1.length:Int)) then(gd (inB v n.2.1.length)<|gd (fits (out.length+1) 16)<|some (.inl (wi64 (v+1),out++[(n.2.1.getD v.toNat ([],(0,(0,(0,(0,(0,[]))))))).1])))else(some (.inr out))
def qeY(n:yB0)(v2:Int)(out2:List (List UInt8))(out3:List (List UInt8)):Option ((Int×List (List UInt8)×List (List UInt8))⊕(List (List UInt8)×List (List UInt8))):=bif decide (v2<(n.2.2.1.length:Int)) then(gd (inB v2 n.2.2.1.length)<|gd (fits (out3.length+1) 16)<|some (.inl (wi64 (v2+1),out2,out3++[(n.2.2.1.getD v2.toNat ([],(0,0))).1])))else(some (.inr (out2,out3)))
def qeZ(n:yB0)(v3:Int)(out4:List (List UInt8))(out5:List (List UInt8))(out6:List (List UInt8)):Option ((Int×List (List UInt8)×List (List UInt8)×List (List UInt8))⊕(List (List UInt8)×List (List UInt8)×List (List UInt8))):=bif decide (v3<(n.2.2.2.1.length:Int)) then(gd (inB v3 n.2.2.2.1.length)<|gd (fits (out6.length+1) 16)<|some (.inl (wi64 (v3+1),out4,out5,out6++[(n.2.2.2.1.getD v3.toNat ([],(0,(0,(0,0))))).1])))else(some (.inr (out4,out5,out6)))
def qcb(n:yB0):Option yB12:=(iter (fun x=>qeX n x.1 x.2) (0,[])).bind fun s=>(iter (fun x2=>qeY n x2.1 x2.2.1 x2.2.2) (0,s,[])).bind fun s2=>(iter (fun x3=>qeZ n x3.1 x3.2.1 x3.2.2.1 x3.2.2.2) (0,s2.1,s2.2,[])).bind fun s3=>some (n.1,s3.1,s3.2.1,s3.2.2)
def qhn:Fun:=⟨76,1,1,⟨[(0,dd tT0)],[],[]⟩,⟨r84_,[],[]⟩,fun x=>qcb x⟩
theorem qk1:FO qhn:=fi [] [] 59 [] ((nn (nn (nn (mm (nn (mm (.mk [] (some (⟨r105_,v32_,a144_⟩,[⟨.x 0,⟨r42_,v32_,a144_⟩⟩])) .nil .nil) .nil)) (mm (nn (mm (.mk [] (some (⟨r106_,v28_,a76_⟩,[⟨.x 2,⟨r42_,v28_,a76_⟩⟩])) .nil .nil) .nil)) (mm (nn (mm (.mk [] (some (⟨r129_,v36_,a38_⟩,[⟨.x 4,⟨r30_,v36_,a38_⟩⟩])) .nil .nil) .nil)) .nil))))))) func76 ⟨trivial,trivial⟩
def qax(s:List (List UInt8))(f:List UInt8×Unit->Option Bool)(v:Int):Option (Int⊕(Unit⊕Int)):=bif decide (v<(s.length:Int)) then(gd (inB v s.length)<|(f (s.getD v.toNat [],())).bind fun r=>bif r then(some (.inr (.inr v)))else(some (.inl (wi64 (v+1)))))else(some (.inr (.inl ())))
def qbg(s:List (List UInt8))(f:List UInt8×Unit->Option Bool):Option (Int):=(iter (fun x=>qax s f x) 0).bind fun s2=>s2.elim (fun s3=>some (-1)) (fun s4=>some s4)
def qcH:Fun:=⟨148,2,1,⟨r137_,[],[]⟩,⟨[(0,ii)],[],[]⟩,U2 qbg⟩
theorem qfE:FO qcH:=fi [] [] 19 [] ((nn (mm (nn (mm (.mk [] (some (⟨r33_,[],[]⟩,[⟨.x 0,⟨[],[],[]⟩⟩,⟨.r,⟨[(4,ii)],[],[]⟩⟩])) .nil .nil) .nil)) .nil))) func148 ⟨trivial,trivial⟩
def qay(s:List (List UInt8))(f:List UInt8×Unit->Option Bool):Option (Bool):=(qbg s f).bind fun r=>some (decide (0<=r))
def qcj:Fun:=⟨77,2,1,⟨r137_,[],[]⟩,⟨[(0,bb)],[],[]⟩,U2 qay⟩
theorem qeB:FO qcj:=fi [] [qcH] 9 [] .nil func77 ⟨⟨qfE,trivial⟩,trivial⟩
def qfl(c:Int):Option (Int):=Option.bind (α:=Unit⊕Unit⊕Int) (Option.bind (α:=Bool) (bif decide (97<=c) then(some (decide (c<=122)))else(some false)) fun s=>bif s then(some (.inr (.inr 1)))else(Option.bind (α:=Bool) (bif decide (48<=c) then(some (decide (c<=57)))else(some false)) fun s2=>bif s2 then(some (.inl ()))else(bif decide (c=45) then(some (.inl ()))else(some (.inr (.inl ())))))) fun s3=>s3.elim (fun s4=>some 2) (fun s5=>s5.elim (fun s6=>some 0) (fun s7=>some s7))
def qnv:Fun:=⟨149,1,1,⟨[(0,dd (.int .u8))],[],[]⟩,⟨[(0,ii)],[],[]⟩,fun x=>qfl x⟩
theorem qsQ:FO qnv:=fi [] [] 20 [] ((nn (mm (mm (mm (.mk [.join [⟨.n,⟨[],[],[]⟩⟩,⟨.x 0,⟨[],[],[]⟩⟩,⟨.r,⟨[(2,ii)],[],[]⟩⟩]] none (mm (mm (mm (mm (mm (mm (.mk [.join [⟨.n,⟨[(0,kk),(3,bb)],[],[]⟩⟩]] none .nil .nil) .nil) (mm (mm (.mk [.join [⟨.n,⟨[(0,kk),(10,bb)],[],[]⟩⟩]] none .nil .nil) .nil) .nil)) .nil) .nil) .nil) .nil) .nil) .nil) .nil) .nil))) func149 ⟨trivial,trivial⟩
def qcc(s:List UInt8)(v:Int):Option (Int⊕(Unit⊕Bool)):=bif decide (v<(s.length:Int)) then(gd (inB v s.length)<|(qfl (Int.ofNat (s.getD v.toNat 0).toNat)).bind fun r2=>bif decide (r2=0) then(some (.inr (.inr false)))else(some (.inl (wi64 (v+1)))))else(some (.inr (.inl ())))
def qcE(s:List UInt8):Option (Bool):=Option.bind (α:=Bool) (bif decide ((s.length:Int)<1) then(some true)else(bif decide (12<(s.length:Int)) then(some true)else(gd (inB 0 s.length)<|(qfl (Int.ofNat (s.getD 0 0).toNat)).bind fun r=>some (!decide (r=1))))) fun s2=>bif s2 then(some false)else((iter (fun x=>qcc s x) 0).bind fun s3=>s3.elim (fun s4=>some true) (fun s5=>some s5))
def qfF:Fun:=⟨79,1,1,⟨[(0,ss)],[],[]⟩,⟨[(0,bb)],[],[]⟩,fun x=>qcE x⟩
theorem qhO:FO qfF:=fi [] [qnv] 29 [] ((nn (mm (mm (.mk [.join [⟨.n,⟨[(0,kk),(17,bb)],[],[]⟩⟩]] none .nil .nil) .nil) (mm (nn (mm (.mk [] (some (⟨[(0,kk),(19,kk),(20,ii)],[],[]⟩,[⟨.x 0,⟨[],[],[]⟩⟩,⟨.r,⟨[(2,bb)],[],[]⟩⟩])) .nil .nil) .nil)) .nil)))) func79 ⟨⟨qsQ,trivial⟩,trivial⟩
def qc6(s:List UInt8):Option (Bool):=(qcE s).bind fun r=>some (!r)
def qiU:Fun:=⟨78,1,1,⟨[(0,ss)],[],[]⟩,⟨[(0,bb)],[],[]⟩,fun x=>qc6 x⟩
theorem qoT:FO qiU:=fi [] [qfF] 6 [] .nil func78 ⟨⟨qhO,trivial⟩,trivial⟩
def qaH(s:List (List UInt8))(v:List UInt8)(v2:Int):Option (Int⊕(Unit⊕Int)):=bif decide (v2<(s.length:Int)) then(gd (inB v2 s.length)<|bif decide (v=s.getD v2.toNat []) then(some (.inr (.inr v2)))else(some (.inl (wi64 (v2+1)))))else(some (.inr (.inl ())))
def qaz(s:List (List UInt8))(v:List UInt8):Option (Int):=(iter (fun x=>qaH s v x) 0).bind fun s2=>s2.elim (fun s3=>some (-1)) (fun s4=>some s4)
def qb4:Fun:=⟨150,2,1,⟨[(0,dd (.sl (.str))),(1,ss)],[],[]⟩,⟨[(0,ii)],[],[]⟩,U2 qaz⟩
theorem qdt:FO qb4:=fi [] [] 19 [] ((nn (mm (nn (mm (.mk [] (some (⟨r33_,[],[]⟩,[⟨.x 0,⟨[],[],[]⟩⟩,⟨.r,⟨[(4,ii)],[],[]⟩⟩])) .nil .nil) .nil)) .nil))) func150 ⟨trivial,trivial⟩
def qlN(x:yB2)(v:yB2):Option (Bool):=some (decide (x.2.1=v.2.1))
def qiV:Fun:=⟨152,2,1,⟨[(0,dd tT4),(1,.one (.sel tT4))],[],[]⟩,⟨[(0,bb)],[],[]⟩,U2 qlN⟩
theorem qoU:FO qiV:=fi [] [] 9 [] .nil func152 ⟨trivial,trivial⟩
def qag(s:List yB2)(f:yB2×Unit->Option Bool)(v:Int):Option (Int⊕(Unit⊕Int)):=bif decide (v<(s.length:Int)) then(gd (inB v s.length)<|(f (s.getD v.toNat ([],0,0,0,0),())).bind fun r=>bif r then(some (.inr (.inr v)))else(some (.inl (wi64 (v+1)))))else(some (.inr (.inl ())))
def qaa(s:List yB2)(f:yB2×Unit->Option Bool):Option (Int):=(iter (fun x=>qag s f x) 0).bind fun s2=>s2.elim (fun s3=>some (-1)) (fun s4=>some s4)
def qaB:Fun:=⟨151,2,1,⟨r74_,[],[]⟩,⟨[(0,ii)],[],[]⟩,U2 qaa⟩
theorem qaU:FO qaB:=fi [] [] 19 [] ((nn (mm (nn (mm (.mk [] (some (⟨r33_,[],[]⟩,[⟨.x 0,⟨[],[],[]⟩⟩,⟨.r,⟨[(4,ii)],[],[]⟩⟩])) .nil .nil) .nil)) .nil))) func151 ⟨trivial,trivial⟩
def qe0(r:yB12)(v:Int)(v2:Int):Option (Int⊕(Unit⊕Bool)):=bif decide (v2<(([r.1,r.2.1,r.2.2.1,r.2.2.2].getD v.toNat []).length:Int)) then(gd (inB v2 ([r.1,r.2.1,r.2.2.1,r.2.2.2].getD v.toNat []).length)<|(qaz ([r.1,r.2.1,r.2.2.1,r.2.2.2].getD v.toNat []) (([r.1,r.2.1,r.2.2.1,r.2.2.2].getD v.toNat []).getD v2.toNat [])).bind fun r2=>bif decide (r2<v2) then(some (.inr (.inr true)))else(some (.inl (wi64 (v2+1)))))else(some (.inr (.inl ())))
def qe1(r:yB12)(v:Int):Option (Int⊕(Unit⊕Bool)):=bif decide (v<4) then(gd (inB v 4)<|(iter (fun x=>qe0 r v x) 0).bind fun s=>s.elim (fun s2=>some (.inl (wi64 (v+1)))) (fun s3=>some (.inr (.inr s3))))else(some (.inr (.inl ())))
def qe2(n:yB0)(v3:Int):Option (Int⊕(Unit⊕Bool)):=bif decide (v3<(n.2.2.2.1.length:Int)) then(gd (inB v3 n.2.2.2.1.length)<|(qaa n.2.2.2.1 (fun h=>(qlN h.1 ((n.2.2.2.1.getD v3.toNat ([],0,0,0,0)).1,((n.2.2.2.1.getD v3.toNat ([],0,0,0,0)).2).1,(((n.2.2.2.1.getD v3.toNat ([],0,0,0,0)).2).2).1,((((n.2.2.2.1.getD v3.toNat ([],0,0,0,0)).2).2).2).1,((((n.2.2.2.1.getD v3.toNat ([],0,0,0,0)).2).2).2).2)).bind fun y=>some y)).bind fun r3=>bif decide (r3<v3) then(some (.inr (.inr true)))else(some (.inl (wi64 (v3+1)))))else(some (.inr (.inl ())))
def qfG(n:yB0):Option (Bool):=(qcb (Y6 n)).bind fun r=>(iter (fun x2=>qe1 r x2) 0).bind fun s4=>s4.elim (fun s5=>(iter (fun x3=>qe2 n x3) 0).bind fun s7=>s7.elim (fun s8=>some false) (fun s9=>some s9)) (fun s6=>some s6)
def qk2:Fun:=⟨80,1,1,⟨[(0,dd tT0)],[],[]⟩,⟨[(0,bb)],[],[]⟩,fun x=>qfG x⟩
theorem qqI:FO qk2:=fi [] [qhn,qb4,qaB,qiV] 43 [] ((nn (mm (nn (mm (.mk [] (some (⟨[(1,pt 32 0),(10,kk),(11,ii)],v7_,[]⟩,[⟨.x 0,⟨[(1,pt 32 0)],v7_,[]⟩⟩,⟨.r,⟨[(2,bb)],[],[]⟩⟩])) (nn (nn (mm (mm (nn (nn (mm (.mk [] (some (⟨[(1,pt 32 0),(4,kk),(10,kk),(11,kk),(14,kk),(15,kk),(16,ii)],v7_,[]⟩,[⟨.x 2,⟨[(1,pt 32 0),(10,kk),(11,kk)],v7_,[]⟩⟩,⟨.r,⟨[(2,bb)],[],[]⟩⟩])) .nil .nil) .nil))) .nil) .nil))) .nil) .nil)) (mm (nn (mm (.mk [] (some (⟨[(1,pt 32 0),(29,kk),(30,kk),(31,ii)],v7_,[]⟩,[⟨.x 4,⟨[],[],[]⟩⟩,⟨.r,⟨[(2,bb)],[],[]⟩⟩])) (nn (nn (mm (mm (nn (mm (.mk [.fv [(8,.pair (.str) (.pair I6 (.pair I6 (.pair I6 I6))))]] none .nil .nil) .nil)) .nil) .nil))) .nil) .nil)) .nil)))) func80 ⟨⟨qk1,qdt,qaU,qoU,trivial⟩,trivial⟩
def qfH(k:Int)(v:yB0):Option (Bool):=bif decide (k<0) then(some true)else(some (decide ((v.1.length:Int)<=k)))
def qiW:Fun:=⟨154,2,1,⟨[(0,ii),(1,.one (.sel tT0))],[],[]⟩,⟨[(0,bb)],[],[]⟩,U2 qfH⟩
theorem qoV:FO qiW:=fi [] [] 13 [] .nil func154 ⟨trivial,trivial⟩
def qaL(s:List Int)(f:Int×Unit->Option Bool)(v:Int):Option (Int⊕(Unit⊕Int)):=bif decide (v<(s.length:Int)) then(gd (inB v s.length)<|(f (s.getD v.toNat 0,())).bind fun r=>bif r then(some (.inr (.inr v)))else(some (.inl (wi64 (v+1)))))else(some (.inr (.inl ())))
def qbZ(s:List Int)(f:Int×Unit->Option Bool):Option (Int):=(iter (fun x=>qaL s f x) 0).bind fun s2=>s2.elim (fun s3=>some (-1)) (fun s4=>some s4)
def qdS:Fun:=⟨224,2,1,⟨r133_,[],[]⟩,⟨[(0,ii)],[],[]⟩,U2 qbZ⟩
theorem qib:FO qdS:=fi [] [] 19 [] ((nn (mm (nn (mm (.mk [] (some (⟨r33_,[],[]⟩,[⟨.x 0,⟨[],[],[]⟩⟩,⟨.r,⟨[(4,ii)],[],[]⟩⟩])) .nil .nil) .nil)) .nil))) func224 ⟨trivial,trivial⟩
def qaE(s:List Int)(f:Int×Unit->Option Bool):Option (Bool):=(qbZ s f).bind fun r=>some (decide (0<=r))
def qbh:Fun:=⟨153,2,1,⟨r133_,[],[]⟩,⟨[(0,bb)],[],[]⟩,U2 qaE⟩
theorem qbO:FO qbh:=fi [] [qdS] 9 [] .nil func153 ⟨⟨qib,trivial⟩,trivial⟩
def qe3(n:yB0)(v:Int)(all:List Int):Option yB14:=bif decide (v<(n.2.1.length:Int)) then(gd (inB v n.2.1.length)<|gd (fits (all.length+2) 8)<|some (.inl (wi64 (v+1),all++[((n.2.1.getD v.toNat ([],(0,(0,(0,(0,(0,[]))))))).2).1,(((n.2.1.getD v.toNat ([],(0,(0,(0,(0,(0,[]))))))).2).2).1])))else(some (.inr all))
def qe4(n:yB0)(v2:Int)(all2:List Int):Option yB14:=bif decide (v2<(n.2.2.1.length:Int)) then(gd (inB v2 n.2.2.1.length)<|gd (fits (all2.length+1) 8)<|some (.inl (wi64 (v2+1),all2++[((n.2.2.1.getD v2.toNat ([],(0,0))).2).1])))else(some (.inr all2))
def qe5(n:yB0)(v3:Int)(all3:List Int):Option yB14:=bif decide (v3<(n.2.2.2.1.length:Int)) then(gd (inB v3 n.2.2.2.1.length)<|gd (fits (all3.length+1) 8)<|some (.inl (wi64 (v3+1),all3++[((n.2.2.2.1.getD v3.toNat ([],(0,(0,(0,0))))).2).1])))else(some (.inr all3))
def qfI(n:yB0):Option (Bool):=(iter (fun x=>qe3 n x.1 x.2) (0,[])).bind fun s=>(iter (fun x2=>qe4 n x2.1 x2.2) (0,s)).bind fun s2=>(iter (fun x3=>qe5 n x3.1 x3.2) (0,s2)).bind fun s3=>(qaE s3 (fun h=>(qfH h.1 (Y6 n)).bind fun y=>some y)).bind fun r=>some (!r)
def qk3:Fun:=⟨81,1,1,⟨[(0,dd tT0)],[],[]⟩,⟨[(0,bb)],[],[]⟩,fun x=>qfI x⟩
theorem qqJ:FO qk3:=fi [] [qbh,qiW] 55 [] ((nn (nn (mm (nn (mm (.mk [] (some (⟨[(1,pt 32 0),(3,ow 75),(11,kk),(12,kk),(13,ii)],v7_,a101_⟩,[⟨.x 0,⟨[(1,pt 32 0),(3,ow 75)],v7_,a101_⟩⟩])) .nil .nil) .nil)) (mm (nn (mm (.mk [] (some (⟨[(1,pt 32 0),(3,ow 75),(26,kk),(27,kk),(28,ii)],v7_,a101_⟩,[⟨.x 2,⟨[(1,pt 32 0),(3,ow 75)],v7_,a101_⟩⟩])) .nil .nil) .nil)) (mm (nn (mm (.mk [] (some (⟨[(1,pt 32 0),(3,ow 75),(39,kk),(40,kk),(41,ii)],v7_,a101_⟩,[⟨.x 4,⟨[(1,pt 32 0),(3,ow 75)],v7_,a101_⟩⟩])) .nil .nil) .nil)) (mm (.mk [.fv [(1,.pair (.sl (.str)) (.pair (.sl (.pair (.str) tT5)) (.pair (.sl tT7) (.pair (.sl tT4) (.pair I6 I6)))))]] none .nil .nil) .nil))))))) func81 ⟨⟨qbO,qoV,trivial⟩,trivial⟩
def qb0(n:Int)(least:Int)(most:Int):Option (Bool):=bif decide (least<=n) then(some (decide (n<=most)))else(some false)
def qfJ:Fun:=⟨159,3,1,⟨[(0,ii),(1,ii),(2,ii)],[],[]⟩,⟨[(0,bb)],[],[]⟩,U3 qb0⟩
theorem qhP:FO qfJ:=fi [] [] 15 [] .nil func159 ⟨trivial,trivial⟩
def qfK(s:yB9)(v:Int):Option (Int⊕(Unit⊕Bool)):=bif decide (v<(s.2.2.2.2.2.2.length:Int)) then(gd (inB v s.2.2.2.2.2.2.length)<|Option.bind (α:=Bool) ((qb0 (((s.2.2.2.2.2.2.getD v.toNat (0,0,0)).2).1) (-500) 5000).bind fun r4=>bif !r4 then(some true)else((qb0 (((s.2.2.2.2.2.2.getD v.toNat (0,0,0)).2).2) 0 100000000).bind fun r5=>bif !r5 then(some true)else(bif decide (0<v) then(gd (inB (wi64 (v-1)) s.2.2.2.2.2.2.length)<|some (decide ((s.2.2.2.2.2.2.getD v.toNat (0,(0,0))).1<=(s.2.2.2.2.2.2.getD (wi64 (v-1)).toNat (0,(0,0))).1)))else(some false)))) fun s3=>bif s3 then(some (.inr (.inr false)))else(some (.inl (wi64 (v+1)))))else(some (.inr (.inl ())))
def qgZ(s:yB9):Option (Bool):=Option.bind (α:=Bool) (bif decide (s.2.1=s.2.2.1) then(some true)else((qb0 s.2.2.2.1 1 1000000).bind fun r=>bif !r then(some true)else((qb0 s.2.2.2.2.1 0 1000).bind fun r2=>bif !r2 then(some true)else((qb0 s.2.2.2.2.2.1 0 100000).bind fun r3=>some (!r3))))) fun s2=>bif s2 then(some false)else((iter (fun x=>qfK s x) 0).bind fun s4=>s4.elim (fun s5=>gd (inB 0 s.2.2.2.2.2.2.length)<|bif decide ((s.2.2.2.2.2.2.getD 0 (0,0,0)).1=0) then(gd (inB (wi64 ((s.2.2.2.2.2.2.length:Int)-1)) s.2.2.2.2.2.2.length)<|some (decide ((s.2.2.2.2.2.2.getD (wi64 ((s.2.2.2.2.2.2.length:Int)-1)).toNat (0,(0,0))).1=s.2.2.2.1)))else(some false)) (fun s6=>some s6))
def qlO:Fun:=⟨156,1,1,⟨r109_,[],[]⟩,⟨[(0,bb)],[],[]⟩,fun x=>qgZ x⟩
theorem qrV:FO qlO:=fi [] [qfJ] 83 [] ((nn (mm (mm (.mk [.join [⟨.n,⟨[(1,pt 32 0),(27,bb)],v116_,[]⟩⟩]] none .nil .nil) .nil) (mm (nn (mm (.mk [] (some (⟨[(1,pt 32 0),(29,kk),(30,kk),(31,ii)],v116_,[]⟩,[⟨.x 0,⟨[(1,pt 32 0)],v116_,[]⟩⟩,⟨.r,⟨[(2,bb)],[],[]⟩⟩])) (nn (nn (mm (mm (nn (mm (.mk [.join [⟨.n,⟨[(1,pt 32 0),(29,kk),(30,kk),(31,kk),(61,bb)],v116_,[]⟩⟩]] none .nil .nil) .nil)) .nil) .nil))) .nil) .nil)) .nil)))) func156 ⟨⟨qhP,trivial⟩,trivial⟩
def qe6(s:yB9):Option (Bool):=(qgZ (s.1,s.2.1,s.2.2.1,s.2.2.2.1,s.2.2.2.2.1,s.2.2.2.2.2.1,s.2.2.2.2.2.2)).bind fun r=>some (!r)
def qic:Fun:=⟨155,1,1,⟨r109_,[],[]⟩,⟨[(0,bb)],[],[]⟩,fun x=>qe6 x⟩
theorem qoe:FO qic:=fi [] [qlO] 6 [] .nil func155 ⟨⟨qrV,trivial⟩,trivial⟩
def qan(s:List (List UInt8×Int×Int))(f:(List UInt8×Int×Int)×Unit->Option Bool)(v:Int):Option (Int⊕(Unit⊕Int)):=bif decide (v<(s.length:Int)) then(gd (inB v s.length)<|(f (s.getD v.toNat ([],0,0),())).bind fun r=>bif r then(some (.inr (.inr v)))else(some (.inl (wi64 (v+1)))))else(some (.inr (.inl ())))
def qaF(s:List (List UInt8×Int×Int))(f:(List UInt8×Int×Int)×Unit->Option Bool):Option (Int):=(iter (fun x=>qan s f x) 0).bind fun s2=>s2.elim (fun s3=>some (-1)) (fun s4=>some s4)
def qbe:Fun:=⟨225,2,1,⟨r103_,[],[]⟩,⟨[(0,ii)],[],[]⟩,U2 qaF⟩
theorem qb8:FO qbe:=fi [] [] 19 [] ((nn (mm (nn (mm (.mk [] (some (⟨r33_,[],[]⟩,[⟨.x 0,⟨[],[],[]⟩⟩,⟨.r,⟨[(4,ii)],[],[]⟩⟩])) .nil .nil) .nil)) .nil))) func225 ⟨trivial,trivial⟩
def qaK(s:List (List UInt8×Int×Int))(f:(List UInt8×Int×Int)×Unit->Option Bool):Option (Bool):=(qaF s f).bind fun r=>some (decide (0<=r))
def qbG:Fun:=⟨157,2,1,⟨r103_,[],[]⟩,⟨[(0,bb)],[],[]⟩,U2 qaK⟩
theorem qdO:FO qbG:=fi [] [qbe] 9 [] .nil func157 ⟨⟨qb8,trivial⟩,trivial⟩
def qe7(p:List UInt8×Int×Int):Option (Bool):=(qb0 p.2.2 0 100000000).bind fun r=>some (!r)
def qid:Fun:=⟨158,1,1,⟨[(0,dd tT7)],[],[]⟩,⟨[(0,bb)],[],[]⟩,fun x=>qe7 x⟩
theorem qof:FO qid:=fi [] [qfJ] 7 [] .nil func158 ⟨⟨qhP,trivial⟩,trivial⟩
def qaC(s:List yB2)(f:yB2×Unit->Option Bool):Option (Bool):=(qaa s f).bind fun r=>some (decide (0<=r))
def qbo:Fun:=⟨160,2,1,⟨r74_,[],[]⟩,⟨[(0,bb)],[],[]⟩,U2 qaC⟩
theorem qc3:FO qbo:=fi [] [qaB] 9 [] .nil func160 ⟨⟨qaU,trivial⟩,trivial⟩
def qe8(s:yB2):Option (Bool):=(qb0 s.2.2.1 0 100000000).bind fun r=>bif !r then(some true)else((qb0 s.2.2.2.1 0 100000).bind fun r2=>bif !r2 then(some true)else((qb0 s.2.2.2.2 0 100000000).bind fun r3=>some (!r3)))
def qie:Fun:=⟨161,1,1,⟨[(0,dd tT4)],[],[]⟩,⟨[(0,bb)],[],[]⟩,fun x=>qe8 x⟩
theorem qog:FO qie:=fi [] [qfJ] 19 [] .nil func161 ⟨⟨qhP,trivial⟩,trivial⟩
def qeC(n:yB0):Option (Bool):=(qam n.2.1 (fun h=>(qe6 h.1).bind fun y=>some y)).bind fun r=>bif r then(some false)else((qaK n.2.2.1 (fun h2=>(qe7 h2.1).bind fun y=>some y)).bind fun r2=>bif r2 then(some false)else((qaC n.2.2.2.1 (fun h3=>(qe8 h3.1).bind fun y=>some y)).bind fun r3=>bif r3 then(some false)else((qb0 n.2.2.2.2.1 (-100000) 100000000).bind fun r4=>bif r4 then((qb0 n.2.2.2.2.2 0 100).bind fun r5=>some r5)else(some false))))
def qjG:Fun:=⟨82,1,1,⟨[(0,dd tT0)],[],[]⟩,⟨[(0,bb)],[],[]⟩,fun x=>qeC x⟩
theorem qpZ:FO qjG:=fi [] [qaJ,qic,qbG,qid,qbo,qie,qfJ] 20 [] .nil func82 ⟨⟨qbn,qoe,qdO,qof,qc3,qog,qhP,trivial⟩,trivial⟩
def qe9(r2:yB12)(v:Int):Option (Int⊕(Unit⊕Int)):=bif decide (v<4) then(gd (inB v 4)<|(qay ([r2.1,r2.2.1,r2.2.2.1,r2.2.2.2].getD v.toNat []) (fun h=>(qc6 h.1).bind fun y=>some y)).bind fun r3=>bif r3 then(some (.inr (.inr 3)))else(some (.inl (wi64 (v+1)))))else(some (.inr (.inl ())))
def qbH(n:yB0):Option (Int):=(qeA (Y6 n)).bind fun r=>bif !r then(some 4)else((qcb (Y6 n)).bind fun r2=>(iter (fun x=>qe9 r2 x) 0).bind fun s=>s.elim (fun s2=>(qfG (Y6 n)).bind fun r4=>bif r4 then(some 7)else((qfI (Y6 n)).bind fun r5=>bif !r5 then(some 8)else((qeC (Y6 n)).bind fun r6=>bif !r6 then(some 9)else(some 0)))) (fun s3=>some s3))
def qbx:Fun:=⟨30,1,1,⟨[(0,dd tT0)],[],[]⟩,⟨[(0,ii)],[],[]⟩,fun x=>qbH x⟩
theorem qb5:FO qbx:=fi [] [qjF,qhn,qcj,qiU,qk2,qk3,qjG] 27 [] ((nn (nn (mm (nn (mm (.mk [] (some (⟨[(1,pt 32 0),(9,kk),(10,ii)],v7_,[]⟩,[⟨.x 0,⟨[(1,pt 32 0)],v7_,[]⟩⟩,⟨.r,⟨[(2,ii)],[],[]⟩⟩])) .nil .nil) .nil)) .nil)))) func30 ⟨⟨qpY,qk1,qeB,qoT,qqI,qqJ,qpZ,trivial⟩,trivial⟩
def qbP(s:List UInt8)(c:Int):Option (Int):=(idxB s c).bind fun r=>some r
def qcI:Fun:=⟨226,2,1,⟨[(0,ss),(1,dd (.int .u8))],[],[]⟩,⟨[(0,ii)],[],[]⟩,U2 qbP⟩
theorem qfL:FO qcI:=fi [] [] 8 [xt264] .nil func226 ⟨trivial,⟨xk264,trivial⟩⟩
def qbd(s:List UInt8)(substr:List UInt8):Option (Int):=Option.bind (α:=Bool) (bif decide ((substr.length:Int)=0) then(some true)else(some (decide (substr=s)))) fun s2=>bif s2 then(some 0)else(bif decide ((substr.length:Int)=1) then(gd (inB 0 substr.length)<|(qbP s (Int.ofNat (substr.getD 0 0).toNat)).bind fun r=>some r)else(bif decide ((s.length:Int)<=(substr.length:Int)) then(some (-1))else(none)))
def qb6:Fun:=⟨162,2,1,⟨r53_,[],[]⟩,⟨[(0,ii)],[],[]⟩,U2 qbd⟩
theorem qdu:FO qb6:=fi [] [qcI] 143 [] ((nn (nn (mm (mm (mm (.mk [.join [⟨.n,⟨[(0,kk),(1,kk),(5,kk),(16,bb)],[],[]⟩⟩]] none .nil .nil) .nil) .nil) .nil)))) func162 ⟨⟨qfL,trivial⟩,trivial⟩
def qfM(s:List UInt8)(substr:List UInt8):Option (Int):=(qbd s substr).bind fun r=>some r
def qho:Fun:=⟨85,2,1,⟨r53_,[],[]⟩,⟨[(0,ii)],[],[]⟩,U2 qfM⟩
theorem qk4:FO qho:=fi [] [qb6] 8 [] .nil func85 ⟨⟨qdu,trivial⟩,trivial⟩
def qqK(substr:List UInt8)(s2:List UInt8)(n:Int):Option ((List UInt8×Int)⊕Int):=(qfM s2 substr).bind fun r2=>bif decide (r2=(-1)) then(some (.inr n))else(gd (cutG (some (.i64,wi64 (r2+(substr.length:Int)))) none s2.length)<|some (.inl (s2.drop (wi64 (r2+(substr.length:Int))).toNat,wi64 (n+1))))
def qfN(s:List UInt8)(substr:List UInt8):Option (Int):=bif decide ((substr.length:Int)=0) then(none)else(bif decide ((substr.length:Int)=1) then(gd (inB 0 substr.length)<|(cntB s (Int.ofNat (substr.getD 0 0).toNat)).bind fun r=>some r)else((iter (fun x=>qqK substr x.1 x.2) (s,0)).bind fun s3=>some s3))
def qhp:Fun:=⟨31,2,1,⟨r53_,[],[]⟩,⟨[(0,ii)],[],[]⟩,U2 qfN⟩
theorem qk5:FO qhp:=fi [] [qho] 34 [xt84] ((nn (nn (nn (nn (mm (.mk [] (some (⟨[(0,ss),(1,kk),(5,ii)],[],[]⟩,[⟨.r,⟨[(4,ii)],[],[]⟩⟩])) .nil .nil) .nil)))))) func31 ⟨⟨qk4,trivial⟩,⟨xk84,trivial⟩⟩
def qbQ(s:List UInt8)(suffix:List UInt8):Option (Bool):=bif decide ((suffix.length:Int)<=(s.length:Int)) then(gd (cutG (some (.i64,wi64 ((s.length:Int)-(suffix.length:Int)))) none s.length)<|some (decide (s.drop (wi64 ((s.length:Int)-(suffix.length:Int))).toNat=suffix)))else(some false)
def qcJ:Fun:=⟨86,2,1,⟨r53_,[],[]⟩,⟨[(0,bb)],[],[]⟩,U2 qbQ⟩
theorem qfO:FO qcJ:=fi [] [] 21 [] .nil func86 ⟨trivial,trivial⟩
def qeh(s:List UInt8)(suffix:List UInt8):Option (Bool):=(qbQ s suffix).bind fun r=>some r
def qhD:Fun:=⟨32,2,1,⟨r53_,[],[]⟩,⟨[(0,bb)],[],[]⟩,U2 qeh⟩
theorem qnj:FO qhD:=fi [] [qcJ] 8 [] .nil func32 ⟨⟨qfO,trivial⟩,trivial⟩
def qc7(s:List UInt8)(sep:List UInt8):Option (List UInt8×List UInt8×Bool):=(qbd s sep).bind fun r=>bif decide (0<=r) then(gd (cutG none (some (.i64,r)) s.length)<|gd (cutG (some (.i64,wi64 (r+(sep.length:Int)))) none s.length)<|some (s.take r.toNat,s.drop (wi64 (r+(sep.length:Int))).toNat,true))else(some (s,[],false))
def qdT:Fun:=⟨87,2,3,⟨r53_,[],[]⟩,⟨[(0,ss),(1,ss),(2,bb)],[],[]⟩,U2 qc7⟩
theorem qif:FO qdT:=fi [] [qb6] 23 [] .nil func87 ⟨⟨qdu,trivial⟩,trivial⟩
def qkl(s:List UInt8)(sep:List UInt8):Option (List UInt8×List UInt8×Bool):=(qc7 s sep).bind fun r=>some (r.1,r.2.1,r.2.2)
def qnw:Fun:=⟨33,2,3,⟨r53_,[],[]⟩,⟨[(0,ss),(1,ss),(2,bb)],[],[]⟩,U2 qkl⟩
theorem qsR:FO qnw:=fi [] [qdT] 13 [] .nil func33 ⟨⟨qif,trivial⟩,trivial⟩
def qfm(s:List UInt8)(sep:List UInt8)(sepSave:Int)(s2:Int)(s3:List UInt8)(i:Int)(a:List (List UInt8)):Option ((List UInt8×Int×List (List UInt8))⊕(List UInt8×Int×List (List UInt8))):=bif decide (i<wi64 ((min s2 (wi64 ((s.length:Int)+1)))-1)) then((qfM s3 sep).bind fun r2=>bif decide (r2<0) then(some (.inr (s3,i,a)))else(gd (cutG none (some (.i64,wi64 (r2+sepSave))) s3.length)<|gd (inB i a.length)<|gd (cutG (some (.i64,wi64 (r2+(sep.length:Int)))) none s3.length)<|some (.inl (s3.drop (wi64 (r2+(sep.length:Int))).toNat,wi64 (i+1),a.set i.toNat (s3.take (wi64 (r2+sepSave)).toNat)))))else(some (.inr (s3,i,a)))
def qhq(s:List UInt8)(sep:List UInt8)(sepSave:Int)(n:Int):Option (List (List UInt8)):=bif decide (n=0) then(some [])else(bif decide (sep=[]) then(none)else(Option.bind (α:=Int) (bif decide (n<0) then((qfN s sep).bind fun r=>some (wi64 (r+1)))else(some n)) fun s2=>gd (makeG 16 (min s2 (wi64 ((s.length:Int)+1))))<|(iter (fun x=>qfm s sep sepSave s2 x.1 x.2.1 x.2.2) (s,0,List.replicate (min s2 (wi64 ((s.length:Int)+1))).toNat ([]:List UInt8))).bind fun s4=>gd (inB s4.2.1 s4.2.2.length)<|gd (cutG none (some (.i64,wi64 (s4.2.1+1))) (s4.2.2.set s4.2.1.toNat s4.1).length)<|some ((s4.2.2.set s4.2.1.toNat s4.1).take (wi64 (s4.2.1+1)).toNat)))
def qig:Fun:=⟨163,4,1,⟨[(0,ss),(1,ss),(2,ii),(3,ii)],[],[]⟩,⟨r81_,[],[]⟩,U4 qhq⟩
theorem qoh:FO qig:=fi [] [qhp,qho] 66 [] ((nn (nn (nn (mm (nn (.mk [.join [⟨.n,⟨[(0,kk),(1,kk),(2,kk),(3,ii)],[],[]⟩⟩]] none .nil .nil)) (nn (nn (nn (nn (mm (mm (.mk [] (some (⟨[(0,ss),(1,kk),(2,kk),(3,kk),(9,ow 512),(10,ii)],[],[(512,.arr 9 (.str))]⟩,[⟨.x 0,⟨[(0,ss),(9,ow 512),(10,ii)],[],[(512,.arr 9 (.str))]⟩⟩])) .nil .nil) .nil) (nn (mm (.mk [.fz [9]] none .nil .nil) .nil)))))))))))) func163 ⟨⟨qk5,qk4,trivial⟩,trivial⟩
def qhQ(s:List UInt8)(sep:List UInt8):Option (List (List UInt8)):=(qhq s sep 0 (-1)).bind fun r=>some r
def qk6:Fun:=⟨88,2,1,⟨r53_,[],[]⟩,⟨r81_,[],[]⟩,U2 qhQ⟩
theorem qqL:FO qk6:=fi [] [qig] 8 [] .nil func88 ⟨⟨qoh,trivial⟩,trivial⟩
def qlP:Fun:=qAr 231
theorem qrW:FO qlP:=qDR ⟨_,func231,(by kernel_rfl),rfl⟩ strconv_Atoi_ok strconv_Atoi_syn strconv_Atoi_range (by unfold globs; exact .tail _ (.head _)) (by unfold globs; exact .tail _ (.tail _ (.head _)))
def qcK(l:List (List UInt8))(v:Int)(out:List Int):Option yB14:=bif decide (v<(l.length:Int)) then(gd (inB v l.length)<|(atoiT (l.getD v.toNat [])).bind fun r=>Option.bind (α:=Int×List Int) (bif r.2 then(some (0,out))else(some (r.1,out))) fun s=>gd (fits (s.2.length+1) 8)<|some (.inl (wi64 (v+1),s.2++[s.1])))else(some (.inr out))
def qbR(l:List (List UInt8)):Option (List Int):=(iter (fun x=>qcK l x.1 x.2) (0,[])).bind fun s2=>some s2
def qb1:Fun:=⟨167,1,1,⟨r81_,[],[]⟩,⟨[(0,ow 0)],[],[(0,.arr 3 I6)]⟩,fun x=>qbR x⟩
theorem qcL:FO qb1:=fi [] [qlP] 27 [] ((nn (nn (mm (nn (mm (.mk [] (some (⟨[(3,ow 75),(8,kk),(9,kk),(10,ii)],[],a101_⟩,[⟨.x 0,⟨[(3,ow 75)],[],a101_⟩⟩])) (nn (nn (mm (mm (nn (nn (mm (nn (.mk [.join [⟨.n,⟨[(3,ow 75),(6,ii),(8,kk),(9,kk),(10,kk)],[],a101_⟩⟩]] none .nil .nil)) .nil))) .nil) .nil))) .nil) .nil)) .nil)))) func167 ⟨⟨qrW,trivial⟩,trivial⟩
def qfP(w:List (List UInt8))(s:Int)(s2:List Int)(s3:Int)(s4:Int)(s5:Int)(s6:Int)(s7:Int)(s8:List (Int×Bool))(s9:Int)(s10:List UInt8)(s11:Int)(s12:Int):Option (Int×List Int×Int×Int×Int×Int×Int×(List (Int×Bool))×Int×List UInt8×Int×Int):=(qbR w).bind fun r=>gd (inB 0 r.length)<|some (s,s2,s3,r.getD 0 0,s5,s6,s7,s8,s9,s10,s11,s12)
def qg0:Fun:=⟨166,2,0,⟨[(0,pt 0 2),(1,dd (.sl (.str)))],v5_,[]⟩,⟨[],v5_,[]⟩,U13 qfP⟩
theorem qlQ:FO qg0:=fi [] [qb1] 11 [] .nil func166 ⟨⟨qcL,trivial⟩,trivial⟩
def qc4(x:yB2)(v:List (List UInt8)):Option (Bool):=gd (inB 0 v.length)<|some (decide (x.1=v.getD 0 []))
def qfQ:Fun:=⟨169,2,1,⟨[(0,dd tT4),(1,.one (.sel (.sl (.str))))],[],[]⟩,⟨[(0,bb)],[],[]⟩,U2 qc4⟩
theorem qkm:FO qfQ:=fi [] [] 10 [] .nil func169 ⟨trivial,trivial⟩
def qfR(w:List (List UInt8))(v:yB0)(s:Int)(s2:List Int)(s3:Int)(s4:Int)(s5:Int)(s6:Int)(s7:Int)(s8:List (Int×Bool))(s9:Int)(s10:List UInt8)(s11:Int)(s12:Int):Option (Int×List Int×Int×Int×Int×Int×Int×(List (Int×Bool))×Int×List UInt8×Int×Int):=(qaa v.2.2.2.1 (fun h=>(qc4 h.1 w).bind fun y=>some y)).bind fun r=>some (s,s2,s3,r,s5,s6,s7,s8,s9,s10,s11,s12)
def qg1:Fun:=⟨168,3,0,⟨r130_,v5_,[]⟩,⟨[],v5_,[]⟩,fun x=>qfR x.1 x.2.1 x.2.2.1 x.2.2.2.1 x.2.2.2.2.1 x.2.2.2.2.2.1 x.2.2.2.2.2.2.1 x.2.2.2.2.2.2.2.1 x.2.2.2.2.2.2.2.2.1 x.2.2.2.2.2.2.2.2.2.1 x.2.2.2.2.2.2.2.2.2.2.1 x.2.2.2.2.2.2.2.2.2.2.2.1 x.2.2.2.2.2.2.2.2.2.2.2.2.1 x.2.2.2.2.2.2.2.2.2.2.2.2.2⟩
theorem qlR:FO qg1:=fi [] [qaB,qfQ] 12 [] ((nn (.mk [.fv [(4,.sl (.str))]] none .nil .nil))) func168 ⟨⟨qaU,qkm,trivial⟩,trivial⟩
def qfS(w:List (List UInt8))(s:Int)(s2:List Int)(s3:Int)(s4:Int)(s5:Int)(s6:Int)(s7:Int)(s8:List (Int×Bool))(s9:Int)(s10:List UInt8)(s11:Int)(s12:Int):Option (Int×List Int×Int×Int×Int×Int×Int×(List (Int×Bool))×Int×List UInt8×Int×Int):=(qbR w).bind fun r=>gd (inB 0 r.length)<|some (s,s2,s3,s4,r.getD 0 0,s6,s7,s8,s9,s10,s11,s12)
def qg2:Fun:=⟨170,2,0,⟨[(0,pt 0 2),(1,dd (.sl (.str)))],v5_,[]⟩,⟨[],v5_,[]⟩,U13 qfS⟩
theorem qlS:FO qg2:=fi [] [qb1] 11 [] .nil func170 ⟨⟨qcL,trivial⟩,trivial⟩
def qnx(p:List UInt8×Int×Int)(v:List UInt8):Option (Bool):=some (decide (p.1=v))
def qjH:Fun:=⟨232,2,1,⟨[(0,dd tT7),(1,.one (.sel (.str)))],[],[]⟩,⟨[(0,bb)],[],[]⟩,U2 qnx⟩
theorem qp0:FO qjH:=fi [] [] 8 [] .nil func232 ⟨trivial,trivial⟩
def qg3(n:yB0)(name:List UInt8):Option (Int):=(qaF n.2.2.1 (fun h=>(qnx h.1 name).bind fun y=>some y)).bind fun r=>some r
def qlT:Fun:=⟨172,2,1,⟨r134_,[],[]⟩,⟨[(0,ii)],[],[]⟩,U2 qg3⟩
theorem qrX:FO qlT:=fi [] [qbe,qjH] 9 [] ((nn (mm (.mk [.fv [(3,.str)]] none .nil .nil) .nil))) func172 ⟨⟨qb8,qp0,trivial⟩,trivial⟩
def qbS(s:List UInt8)(vprefix:List UInt8):Option (Bool):=bif decide ((vprefix.length:Int)<=(s.length:Int)) then(gd (cutG none (some (.i64,(vprefix.length:Int))) s.length)<|some (decide (s.take (vprefix.length:Int).toNat=vprefix)))else(some false)
def qcM:Fun:=⟨295,2,1,⟨r53_,[],[]⟩,⟨[(0,bb)],[],[]⟩,U2 qbS⟩
theorem qfT:FO qcM:=fi [] [] 18 [] .nil func295 ⟨trivial,trivial⟩
def qbT(s:List UInt8)(vprefix:List UInt8):Option (List UInt8×Bool):=(qbS s vprefix).bind fun r=>bif !r then(some (s,false))else(gd (cutG (some (.i64,(vprefix.length:Int))) none s.length)<|some (s.drop (vprefix.length:Int).toNat,true))
def qcN:Fun:=⟨269,2,2,⟨r53_,[],[]⟩,⟨[(0,ss),(1,bb)],[],[]⟩,U2 qbT⟩
theorem qfU:FO qcN:=fi [] [qcM] 15 [] .nil func269 ⟨⟨qfT,trivial⟩,trivial⟩
def qei(s:List UInt8)(vprefix:List UInt8):Option (List UInt8×Bool):=(qbT s vprefix).bind fun r=>some (r.1,r.2)
def qhE:Fun:=⟨233,2,2,⟨r53_,[],[]⟩,⟨[(0,ss),(1,bb)],[],[]⟩,U2 qei⟩
theorem qnk:FO qhE:=fi [] [qcN] 11 [] .nil func233 ⟨⟨qfU,trivial⟩,trivial⟩
def qjI(s:yB9)(v:List UInt8):Option (Bool):=some (decide (s.1=v))
def qhF:Fun:=⟨270,2,1,⟨[(0,dd (.pair (.str) tT5)),(1,.one (.sel (.str)))],[],[]⟩,⟨[(0,bb)],[],[]⟩,U2 qjI⟩
theorem qnl:FO qhF:=fi [] [] 8 [] .nil func270 ⟨trivial,trivial⟩
def qfV(n:yB0)(name:List UInt8):Option (Int):=(qas n.2.1 (fun h=>(qjI h.1 name).bind fun y=>some y)).bind fun r=>some r
def qiX:Fun:=⟨234,2,1,⟨r134_,[],[]⟩,⟨[(0,ii)],[],[]⟩,U2 qfV⟩
theorem qoW:FO qiX:=fi [] [qaT,qhF] 9 [] ((nn (mm (.mk [.fv [(3,.str)]] none .nil .nil) .nil))) func234 ⟨⟨qbu,qnl,trivial⟩,trivial⟩
def qkn(n:yB0)(s:List UInt8):Option (Int×Bool):=(qei s [45]).bind fun r=>(qfV (Y6 n) r.1).bind fun r2=>some (r2,r.2)
def qny:Fun:=⟨173,2,1,⟨r134_,[],[]⟩,⟨[(0,dd (.pair I6 (.bool)))],[],[]⟩,U2 qkn⟩
theorem qsS:FO qny:=fi [] [qhE,qiX] 17 [] .nil func173 ⟨⟨qnk,qoW,trivial⟩,trivial⟩
def qbp(w:List (List UInt8))(v:yB0)(v2:Int)(s13:List (Int×Bool)):Option ((Int×List (Int×Bool))⊕(List (Int×Bool))):=bif decide (v2<((w.drop 3).length:Int)) then(gd (inB v2 (w.drop 3).length)<|(qkn v ((w.drop 3).getD v2.toNat [])).bind fun r4=>gd (fits (s13.length+1) 16)<|some (.inl (wi64 (v2+1),s13++[(r4.1,r4.2)])))else(some (.inr s13))
def qfW(w:List (List UInt8))(v:yB0)(s:Int)(s2:List Int)(s3:Int)(s4:Int)(s5:Int)(s6:Int)(s7:Int)(s8:Int)(s9:List UInt8)(s10:Int)(s11:Int)(s12:List (Int×Bool)):Option (Int×List Int×Int×Int×Int×Int×Int×Int×List UInt8×Int×Int×List (Int×Bool)):=(qbR w).bind fun r=>gd (inB 0 r.length)<|gd (inB 1 w.length)<|(qg3 v (w.getD 1 [])).bind fun r2=>gd (inB 2 w.length)<|(qg3 v (w.getD 2 [])).bind fun r3=>gd (cutG (some (.i64,3)) none w.length)<|(iter (fun x=>qbp w v x.1 x.2) (0,s12)).bind fun s14=>some (s,s2,s3,s4,r.getD 0 0,r2,r3,s8,s9,s10,s11,s14)
def qg4:Fun:=⟨171,3,0,⟨r130_,[(0,61,[.data I6,.data (.sl I6),.data I6,.data I6,.data I6,.data I6,.data I6,.own 1,.data I6,.data (.str),.data I6,.data I6])],[(1,.arr 76 (.pair I6 (.bool)))]⟩,⟨[],[(0,61,[.data I6,.data (.sl I6),.data I6,.data I6,.data I6,.data I6,.data I6,.own 2,.data I6,.data (.str),.data I6,.data I6])],[(2,.arr 76 (.pair I6 (.bool)))]⟩,fun x=>qfW x.1 x.2.1 x.2.2.1 x.2.2.2.1 x.2.2.2.2.1 x.2.2.2.2.2.1 x.2.2.2.2.2.2.1 x.2.2.2.2.2.2.2.1 x.2.2.2.2.2.2.2.2.1 x.2.2.2.2.2.2.2.2.2.1 x.2.2.2.2.2.2.2.2.2.2.1 x.2.2.2.2.2.2.2.2.2.2.2.1 x.2.2.2.2.2.2.2.2.2.2.2.2.1 x.2.2.2.2.2.2.2.2.2.2.2.2.2⟩
theorem qlU:FO qg4:=fi [] [qb1,qlT,qny] 54 [] ((nn (nn (nn (mm (.mk [] (some (⟨[(0,pt 0 2),(2,kk),(33,kk),(34,kk),(35,ii)],v70_,[(137,.arr 76 (.pair I6 (.bool)))]⟩,[⟨.x 0,⟨[],v70_,[(137,.arr 76 (.pair I6 (.bool)))]⟩⟩])) .nil .nil) .nil))))) func171 ⟨⟨qcL,qrX,qsS,trivial⟩,trivial⟩
def qcO(w:List (List UInt8)):Option yB1:=(qbR w).bind fun r=>some (1,r,(0,0,0,0,0,[],0),[],0,0)
def qg5:Fun:=⟨174,1,1,⟨r81_,[],[]⟩,⟨r17_,[],[]⟩,fun x=>qcO x⟩
theorem qlV:FO qg5:=fi [] [qb1] 6 [] .nil func174 ⟨⟨qcL,trivial⟩,trivial⟩
def qhR:Option (List (List UInt8)):=some ([[],[114,101,99,101,105,118,101,100],[100,101,108,105,118,101,114,101,100],[115,108,111,112],[115,104,97,114,101]]:List (List UInt8))
def qhr:Fun:=⟨176,0,1,⟨[],[],[]⟩,⟨r81_,[],[]⟩,fun x=>qhR⟩
theorem qk7:FO qhr:=fi [] [] 2 [] .nil func176 ⟨trivial,trivial⟩
def qcP(w:List (List UInt8)):Option yB1:=(qhR).bind fun r=>gd (inB 0 w.length)<|(qaz r (w.getD 0 [])).bind fun r2=>gd (inB 1 w.length)<|(qbR w).bind fun r3=>gd (inB 2 r3.length)<|some (3,[],(0,0,0,0,0,[],0),w.getD 1 [],max 0 r2,r3.getD 2 0)
def qg6:Fun:=⟨175,1,1,⟨r81_,[],[]⟩,⟨r17_,[],[]⟩,fun x=>qcP x⟩
theorem qlW:FO qg6:=fi [] [qhr,qb4,qb1] 18 [] .nil func175 ⟨⟨qk7,qdt,qcL,trivial⟩,trivial⟩
def qrY:TI:={ t:=219,desc:=.func #[220,27] #[] false,size:=1,bytes:=8,zero:=.nilFunc,τ:=.fnc 166,eq:=false }
theorem qwX:qrY.ok prog:=⟨underlying219,by kernel_rfl,fun h=>by cases h⟩
def qbv(w:List (List UInt8))(v:Int)(v2:Unit):Option yB1:=(qfP w 2 [] v 0 0 0 0 [] 0 [] 0 0).bind fun r=>some (r.1,r.2.1,(r.2.2.1,r.2.2.2.1,r.2.2.2.2.1,r.2.2.2.2.2.1,r.2.2.2.2.2.2.1,r.2.2.2.2.2.2.2.1,r.2.2.2.2.2.2.2.2.1),r.2.2.2.2.2.2.2.2.2.1,r.2.2.2.2.2.2.2.2.2.2.1,r.2.2.2.2.2.2.2.2.2.2.2)
def qdU:Fun:=⟨165,3,1,⟨[(0,dd (.sl (.str))),(1,.one (.sel I6)),(2,.one (.sel (.fnc 166)))],[],[]⟩,⟨r17_,[],[]⟩,U3 qbv⟩
noncomputable  def cx_console_made_valve:Cx:={ Γ:=qrY::types,ow:=[],fs:=[qg0],N:=14 }
theorem qg7:FO qdU:=FunOk.intro (C:=cx_console_made_valve) (p:=.nil) func165 rfl (by kernel_rfl) rfl rfl rfl rfl ⟨qwX,qkk⟩ ⟨⟨qlQ,trivial⟩,trivial⟩ mx (fun x=>by kernel_rfl)
def qoX:TI:={ t:=219,desc:=.func #[220,27] #[] false,size:=1,bytes:=8,zero:=.nilFunc,τ:=.clo 168 tT0,eq:=false }
theorem quj:qoX.ok prog:=⟨underlying219,by kernel_rfl,fun h=>by cases h⟩
def qbf(w:List (List UInt8))(v:Int)(v2:yB0):Option yB1:=(qfR w v2 2 [] v 0 0 0 0 [] 0 [] 0 0).bind fun r=>some (r.1,r.2.1,(r.2.2.1,r.2.2.2.1,r.2.2.2.2.1,r.2.2.2.2.2.1,r.2.2.2.2.2.2.1,r.2.2.2.2.2.2.2.1,r.2.2.2.2.2.2.2.2.1),r.2.2.2.2.2.2.2.2.2.1,r.2.2.2.2.2.2.2.2.2.2.1,r.2.2.2.2.2.2.2.2.2.2.2)
def qde:Fun:=⟨165,3,1,⟨[(0,dd (.sl (.str))),(1,.one (.sel I6)),(2,.one (.sel (.clo 168 tT0)))],[],[]⟩,⟨r17_,[],[]⟩,U3 qbf⟩
noncomputable  def cx_console_made_station:Cx:={ Γ:=qoX::types,ow:=[],fs:=[qg1],N:=14 }
theorem qfX:FO qde:=FunOk.intro (C:=cx_console_made_station) (p:=.nil) func165 rfl (by kernel_rfl) rfl rfl rfl rfl ⟨quj,qkk⟩ ⟨⟨qlR,trivial⟩,trivial⟩ mx (fun x=>by kernel_rfl)
def qtx:TI:={ t:=219,desc:=.func #[220,27] #[] false,size:=1,bytes:=8,zero:=.nilFunc,τ:=.fnc 170,eq:=false }
theorem qyW:qtx.ok prog:=⟨underlying219,by kernel_rfl,fun h=>by cases h⟩
def qc8(w:List (List UInt8))(v:Int)(v2:Unit):Option yB1:=(qfS w 2 [] v 0 0 0 0 [] 0 [] 0 0).bind fun r=>some (r.1,r.2.1,(r.2.2.1,r.2.2.2.1,r.2.2.2.2.1,r.2.2.2.2.2.1,r.2.2.2.2.2.2.1,r.2.2.2.2.2.2.2.1,r.2.2.2.2.2.2.2.2.1),r.2.2.2.2.2.2.2.2.2.1,r.2.2.2.2.2.2.2.2.2.2.1,r.2.2.2.2.2.2.2.2.2.2.2)
def qhG:Fun:=⟨165,3,1,⟨[(0,dd (.sl (.str))),(1,.one (.sel I6)),(2,.one (.sel (.fnc 170)))],[],[]⟩,⟨r17_,[],[]⟩,U3 qc8⟩
noncomputable  def cx_console_made_wait:Cx:={ Γ:=qtx::types,ow:=[],fs:=[qg2],N:=14 }
theorem qnm:FO qhG:=FunOk.intro (C:=cx_console_made_wait) (p:=.nil) func165 rfl (by kernel_rfl) rfl rfl rfl rfl ⟨qyW,qkk⟩ ⟨⟨qlS,trivial⟩,trivial⟩ mx (fun x=>by kernel_rfl)
def qty:TI:={ t:=219,desc:=.func #[220,27] #[] false,size:=1,bytes:=8,zero:=.nilFunc,τ:=.clo 171 tT0,eq:=false }
theorem qyX:qty.ok prog:=⟨underlying219,by kernel_rfl,fun h=>by cases h⟩
def qc9(w:List (List UInt8))(v:Int)(v2:yB0):Option yB1:=Option.bind (α:=Int×List Int×Int×Int×Int×Int×Int×Int×List UInt8×Int×Int×List (Int×Bool)) (some (0,[],0,0,0,0,0,0,[],0,0,[])) fun s=>Option.bind (α:=Int×List Int×Int×Int×Int×Int×Int×Int×List UInt8×Int×Int×Int×List Int×Int×Int×Int×Int×Int×Int×List UInt8×Int×Int×(List (Int×Bool))×List (Int×Bool)) (some (s.1,s.2.1,s.2.2.1,s.2.2.2.1,s.2.2.2.2.1,s.2.2.2.2.2.1,s.2.2.2.2.2.2.1,s.2.2.2.2.2.2.2.1,s.2.2.2.2.2.2.2.2.1,s.2.2.2.2.2.2.2.2.2.1,s.2.2.2.2.2.2.2.2.2.2.1,2,[],v,0,0,0,0,0,[],0,0,s.2.2.2.2.2.2.2.2.2.2.2,[])) fun s2=>(qfW w v2 s2.2.2.2.2.2.2.2.2.2.2.2.1 s2.2.2.2.2.2.2.2.2.2.2.2.2.1 s2.2.2.2.2.2.2.2.2.2.2.2.2.2.1 s2.2.2.2.2.2.2.2.2.2.2.2.2.2.2.1 s2.2.2.2.2.2.2.2.2.2.2.2.2.2.2.2.1 s2.2.2.2.2.2.2.2.2.2.2.2.2.2.2.2.2.1 s2.2.2.2.2.2.2.2.2.2.2.2.2.2.2.2.2.2.1 s2.2.2.2.2.2.2.2.2.2.2.2.2.2.2.2.2.2.2.1 s2.2.2.2.2.2.2.2.2.2.2.2.2.2.2.2.2.2.2.2.1 s2.2.2.2.2.2.2.2.2.2.2.2.2.2.2.2.2.2.2.2.2.1 s2.2.2.2.2.2.2.2.2.2.2.2.2.2.2.2.2.2.2.2.2.2.1 s2.2.2.2.2.2.2.2.2.2.2.2.2.2.2.2.2.2.2.2.2.2.2.2).bind fun r=>some (r.1,r.2.1,(r.2.2.1,r.2.2.2.1,r.2.2.2.2.1,r.2.2.2.2.2.1,r.2.2.2.2.2.2.1,r.2.2.2.2.2.2.2.2.2.2.2,r.2.2.2.2.2.2.2.1),r.2.2.2.2.2.2.2.2.1,r.2.2.2.2.2.2.2.2.2.1,r.2.2.2.2.2.2.2.2.2.2.1)
def qhH:Fun:=⟨165,3,1,⟨[(0,dd (.sl (.str))),(1,.one (.sel I6)),(2,.one (.sel (.clo 171 tT0)))],[],[]⟩,⟨r17_,[],[]⟩,U3 qc9⟩
noncomputable  def cx_console_made_flow:Cx:={ Γ:=qty::types,ow:=[],fs:=[qg4],N:=14 }
theorem qnn:FO qhH:=FunOk.intro (C:=cx_console_made_flow) (p:=(mm (.mk [.join [⟨.n,⟨[(0,kk),(1,kk),(2,kk),(4,pt 91 0)],[(91,61,[.data I6,.data (.sl I6),.data I6,.data I6,.data I6,.data I6,.data I6,.own 1593,.data I6,.data (.str),.data I6,.data I6])],[(1593,.arr 76 (.pair I6 (.bool)))]⟩⟩]] none .nil .nil) (mm (.mk [.join [⟨.n,⟨[(0,kk),(2,kk),(4,pt 91 0),(5,pt 107 0)],[(91,61,[.data I6,.data (.sl I6),.data I6,.data I6,.data I6,.data I6,.data I6,.own 1593,.data I6,.data (.str),.data I6,.data I6]),(107,61,[.data I6,.data (.sl I6),.data I6,.data I6,.data I6,.data I6,.data I6,.own 1849,.data I6,.data (.str),.data I6,.data I6])],[(1593,.arr 76 (.pair I6 (.bool))),(1849,.arr 76 (.pair I6 (.bool)))]⟩⟩]] none .nil .nil) .nil))) func165 rfl (by kernel_rfl) rfl rfl rfl rfl ⟨qyX,qkk⟩ ⟨⟨qlU,trivial⟩,trivial⟩ mx (fun x=>by kernel_rfl)
end
end Go.Proofs.YtmdijohmddokhaaGreatDoor
