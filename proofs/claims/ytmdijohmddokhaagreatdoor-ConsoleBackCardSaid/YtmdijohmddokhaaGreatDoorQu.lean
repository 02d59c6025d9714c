/- Functions, evaluated. No condition. -/
import Derived.Test.YtmdijohmddokhaaGreatDoorProg
import Derived.Test.YtmdijohmddokhaaGreatDoorSqLI
import Derived.Test.YtmdijohmddokhaaGreatDoorIn4
import Derived.Test.YtmdijohmddokhaaGreatDoorSqLB
import Derived.Test.YtmdijohmddokhaaGreatDoorLx
import Derived.Test.YtmdijohmddokhaaGreatDoorLc
namespace Go.Proofs.YtmdijohmddokhaaGreatDoor
open Go Go.Sq
open Go.Proofs.Tryz
noncomputable section
abbrev I6:Ty:=.int .i64
abbrev dd(τ:Ty):Sh:=.one (.data τ)
abbrev pt(b o:Nat):Sh:=.one (.ptr b o)
abbrev ow(b:Nat):Sh:=.one (.own b)
abbrev FO(e:Fun):Prop:=FunOk Tryz.prog e
abbrev yT0:Type:=List UInt8×Int×Int×Int×Int×Int×List (Int×Int×Int)
abbrev tT0:Ty:=.pair (.sl (.str)) (.pair (.sl (.pair (.str) (.pair I6 (.pair I6 (.pair I6 (.pair I6 (.pair I6 (.sl (.pair I6 (.pair I6 I6)))))))))) (.pair (.sl (.pair (.str) (.pair I6 I6))) (.pair (.sl (.pair (.str) (.pair I6 (.pair I6 (.pair I6 I6))))) (.pair I6 I6))))
abbrev tT1:Ty:=.pair I6 (.pair I6 (.pair (.bool) (.bool)))
abbrev tT2:Ty:=.pair I6 (.pair I6 (.pair I6 (.pair I6 (.pair I6 (.pair (.sl (.pair I6 (.bool))) I6)))))
abbrev tT3:Ty:=.pair I6 (.pair I6 (.pair I6 (.pair I6 (.pair I6 (.sl I6)))))
abbrev tT4:Ty:=.pair (.str) (.pair I6 (.pair I6 (.pair I6 I6)))
abbrev tT5:Ty:=.pair I6 (.pair I6 (.pair I6 (.pair I6 (.pair I6 (.sl (.pair I6 (.pair I6 I6)))))))
abbrev tT6:Ty:=.pair (.sl I6) (.pair (.sl I6) (.sl (.bool)))
abbrev tT7:Ty:=.pair (.str) (.pair I6 I6)
abbrev yB0:Type:=List (List UInt8)×List yT0×List (List UInt8×Int×Int)×List (List UInt8×Int×Int×Int×Int)×Int×Int
abbrev yB1:Type:=Int×List Int×(Int×Int×Int×Int×Int×List (Int×Bool)×Int)×List UInt8×Int×Int
abbrev yB2:Type:=List UInt8×Int×Int×Int×Int
abbrev yB3:Type:=Int×Int×Int×Int×Int×List Int
abbrev yB4:Type:=List (Int×Int×Bool×Bool)
abbrev yB5:Type:=List (Int×Int×Bool×Bool)×List Int×List Int×List Bool
abbrev yB6:Type:=Int×Int×Int×Int×Int×List (Int×Bool)×Int
abbrev yB7:Type:=List Int×List Int×List Bool
abbrev yB8:Type:=Int×Int×List (Int×Bool)×Int
abbrev yB9:Type:=List UInt8×Int×Int×Int×Int×Int×List (Int×Int×Int)
abbrev yB10:Type:=Int×yB4×List Int×List Int×List Bool
abbrev yB11:Type:=yB5×List yB3×List yB2×Int
abbrev yB12:Type:=List (List UInt8)×List (List UInt8)×List (List UInt8)×List (List UInt8)
abbrev yB13:Type:=Bool×yB4×List Int×List Int×List Bool×(List yB3)×List yB2
abbrev fd(n:String)(t o:Nat)(p:String)(b:Nat):Field:={ name:=n,type:=t,offset:=o,embedded:=false,tag := "",pkgPath:=p,byteOffset:=b }
def ti3:TI:=⟨3,.int .i64,1,8,.int .i64 0,.int .i64,false⟩
theorem tk3:ti3.ok prog:=⟨underlying3,by kernel_rfl,fun h=>by cases h⟩
def ti4:TI:=⟨4,.bool,1,1,.bool false,.bool,false⟩
theorem tk4:ti4.ok prog:=⟨underlying4,by kernel_rfl,fun h=>by cases h⟩
def ti5:TI:=⟨5,.int .u8,1,1,.int .u8 0,.int .u8,false⟩
theorem tk5:ti5.ok prog:=⟨underlying5,by kernel_rfl,fun h=>by cases h⟩
def ti9:TI:=⟨9,.string,1,16,.string ⟨#[]⟩,.str,false⟩
theorem tk9:ti9.ok prog:=⟨underlying9,by kernel_rfl,fun h=>by cases h⟩
def ti22:TI:=⟨22,.slice 3,1,24,.slice none 0 0,.sl I6,false⟩
theorem tk22:ti22.ok prog:=⟨underlying22,by kernel_rfl,fun h=>by cases h⟩
def ti27:TI:=⟨27,.slice 9,1,24,.slice none 0 0,.sl (.str),false⟩
theorem tk27:ti27.ok prog:=⟨underlying27,by kernel_rfl,fun h=>by cases h⟩
def ti28:TI:=⟨28,.slice 83,1,24,.slice none 0 0,.sl (.pair (.str) tT5),false⟩
theorem tk28:ti28.ok prog:=⟨underlying28,by kernel_rfl,fun h=>by cases h⟩
def ti29:TI:=⟨29,.slice 85,1,24,.slice none 0 0,.sl tT7,false⟩
theorem tk29:ti29.ok prog:=⟨underlying29,by kernel_rfl,fun h=>by cases h⟩
def ti30:TI:=⟨30,.slice 93,1,24,.slice none 0 0,.sl tT4,false⟩
theorem tk30:ti30.ok prog:=⟨underlying30,by kernel_rfl,fun h=>by cases h⟩
def ti32:TI:=⟨32,.struct #[fd "Nodes" 27 0 "" 0,fd "Segments" 28 1 "" 24,fd "Ports" 29 2 "" 48,fd "Stations" 30 3 "" 72,fd "Vapour" 3 4 "" 96,fd "Settle" 3 5 "" 104],6,112,.agg #[.slice none 0 0,.slice none 0 0,.slice none 0 0,.slice none 0 0,.int .i64 0,.int .i64 0],.pair (.sl (.str)) (.pair (.sl (.pair (.str) tT5)) (.pair (.sl tT7) (.pair (.sl tT4) (.pair I6 I6)))),true⟩
theorem tk32:ti32.ok prog:=⟨underlying32,by kernel_rfl,fun _=>⟨eqGuardType32,stoodInHeld32⟩⟩
def ti35:TI:=⟨35,.slice 61,1,24,.slice none 0 0,.sl (.pair I6 (.pair (.sl I6) (.pair tT2 tT7))),false⟩
theorem tk35:ti35.ok prog:=⟨underlying35,by kernel_rfl,fun h=>by cases h⟩
def ti39:TI:=⟨39,.slice 126,1,24,.slice none 0 0,.sl tT1,false⟩
theorem tk39:ti39.ok prog:=⟨underlying39,by kernel_rfl,fun h=>by cases h⟩
def ti40:TI:=⟨40,.slice 4,1,24,.slice none 0 0,.sl (.bool),false⟩
theorem tk40:ti40.ok prog:=⟨underlying40,by kernel_rfl,fun h=>by cases h⟩
def ti42:TI:=⟨42,.struct #[fd "Rates" 22 0 "" 0,fd "Ports" 22 1 "" 24,fd "Pumps" 40 2 "" 48],3,72,.agg #[.slice none 0 0,.slice none 0 0,.slice none 0 0],.pair (.sl I6) (.pair (.sl I6) (.sl (.bool))),true⟩
theorem tk42:ti42.ok prog:=⟨underlying42,by kernel_rfl,fun _=>⟨eqGuardType42,stoodInHeld42⟩⟩
def ti44:TI:=⟨44,.struct #[fd "Valves" 39 0 "" 0,fd "Plan" 42 1 "" 24],4,96,.agg #[.slice none 0 0,.slice none 0 0,.slice none 0 0,.slice none 0 0],.pair (.sl tT1) tT6,true⟩
theorem tk44:ti44.ok prog:=⟨underlying44,by kernel_rfl,fun _=>⟨eqGuardType44,stoodInHeld44⟩⟩
def ti45:TI:=⟨45,.slice 108,1,24,.slice none 0 0,.sl tT3,false⟩
theorem tk45:ti45.ok prog:=⟨underlying45,by kernel_rfl,fun h=>by cases h⟩
def ti46:TI:=⟨46,.slice 140,1,24,.slice none 0 0,.sl tT4,false⟩
theorem tk46:ti46.ok prog:=⟨underlying46,by kernel_rfl,fun h=>by cases h⟩
def ti48:TI:=⟨48,.struct #[fd "Desk" 44 0 "" 0,fd "Stations" 45 4 "" 96,fd "Accounts" 46 5 "" 120,fd "Count" 3 6 "" 144],7,152,.agg #[.slice none 0 0,.slice none 0 0,.slice none 0 0,.slice none 0 0,.slice none 0 0,.slice none 0 0,.int .i64 0],.pair (.pair (.sl tT1) tT6) (.pair (.sl tT3) (.pair (.sl tT4) I6)),true⟩
theorem tk48:ti48.ok prog:=⟨underlying48,by kernel_rfl,fun _=>⟨eqGuardType48,stoodInHeld48⟩⟩
def ti53:TI:=⟨53,.slice 76,1,24,.slice none 0 0,.sl (.pair I6 (.bool)),false⟩
theorem tk53:ti53.ok prog:=⟨underlying53,by kernel_rfl,fun h=>by cases h⟩
def ti55:TI:=⟨55,.struct #[fd "In" 3 0 "" 0,fd "Out" 3 1 "" 8,fd "Hops" 53 2 "" 16,fd "Rate" 3 3 "" 40],4,48,.agg #[.int .i64 0,.int .i64 0,.slice none 0 0,.int .i64 0],.pair I6 (.pair I6 (.pair (.sl (.pair I6 (.bool))) I6)),true⟩
theorem tk55:ti55.ok prog:=⟨underlying55,by kernel_rfl,fun _=>⟨eqGuardType55,stoodInHeld55⟩⟩
def ti57:TI:=⟨57,.struct #[fd "Kind" 3 0 "" 0,fd "Index" 3 1 "" 8,fd "Value" 3 2 "" 16,fd "Path" 55 3 "" 24],7,72,.agg #[.int .i64 0,.int .i64 0,.int .i64 0,.int .i64 0,.int .i64 0,.slice none 0 0,.int .i64 0],.pair I6 (.pair I6 (.pair I6 (.pair I6 (.pair I6 (.pair (.sl (.pair I6 (.bool))) I6))))),true⟩
theorem tk57:ti57.ok prog:=⟨underlying57,by kernel_rfl,fun _=>⟨eqGuardType57,stoodInHeld57⟩⟩
def ti59:TI:=⟨59,.struct #[fd "Shipper" 9 0 "" 0,fd "Kind" 3 1 "" 16,fd "Volume" 3 2 "" 24],3,32,.agg #[.string ⟨#[]⟩,.int .i64 0,.int .i64 0],.pair (.str) (.pair I6 I6),true⟩
theorem tk59:ti59.ok prog:=⟨underlying59,by kernel_rfl,fun _=>⟨eqGuardType59,stoodInHeld59⟩⟩
def ti61:TI:=⟨61,.struct #[fd "Kind" 3 0 "" 0,fd "Values" 22 1 "" 8,fd "Step" 57 2 "" 32,fd "Entry" 59 9 "" 104],12,136,.agg #[.int .i64 0,.slice none 0 0,.int .i64 0,.int .i64 0,.int .i64 0,.int .i64 0,.int .i64 0,.slice none 0 0,.int .i64 0,.string ⟨#[]⟩,.int .i64 0,.int .i64 0],.pair I6 (.pair (.sl I6) (.pair tT2 tT7)),true⟩
theorem tk61:ti61.ok prog:=⟨underlying61,by kernel_rfl,fun _=>⟨eqGuardType61,stoodInHeld61⟩⟩
def ti76:TI:=⟨76,.struct #[fd "Segment" 3 0 "" 0,fd "Back" 4 1 "" 8],2,16,.agg #[.int .i64 0,.bool false],.pair I6 (.bool),true⟩
theorem tk76:ti76.ok prog:=⟨underlying76,by kernel_rfl,fun _=>⟨eqGuardType76,stoodInHeld76⟩⟩
def ti77:TI:=⟨77,.slice 5,1,24,.slice none 0 0,.sl (.int .u8),false⟩
theorem tk77:ti77.ok prog:=⟨underlying77,by kernel_rfl,fun h=>by cases h⟩
def ti80:TI:=⟨80,.struct #[fd "At" 3 0 "" 0,fd "Height" 3 1 "" 8,fd "Limit" 3 2 "" 16],3,24,.agg #[.int .i64 0,.int .i64 0,.int .i64 0],.pair I6 (.pair I6 I6),true⟩
theorem tk80:ti80.ok prog:=⟨underlying80,by kernel_rfl,fun _=>⟨eqGuardType80,stoodInHeld80⟩⟩
def ti81:TI:=⟨81,.slice 80,1,24,.slice none 0 0,.sl (.pair I6 (.pair I6 I6)),false⟩
theorem tk81:ti81.ok prog:=⟨underlying81,by kernel_rfl,fun h=>by cases h⟩
def ti83:TI:=⟨83,.struct #[fd "Name" 9 0 "" 0,fd "From" 3 1 "" 16,fd "To" 3 2 "" 24,fd "Capacity" 3 3 "" 32,fd "Resist" 3 4 "" 40,fd "Wave" 3 5 "" 48,fd "Points" 81 6 "" 56],7,80,.agg #[.string ⟨#[]⟩,.int .i64 0,.int .i64 0,.int .i64 0,.int .i64 0,.int .i64 0,.slice none 0 0],.pair (.str) tT5,true⟩
theorem tk83:ti83.ok prog:=⟨underlying83,by kernel_rfl,fun _=>⟨eqGuardType83,stoodInHeld83⟩⟩
def ti85:TI:=⟨85,.struct #[fd "Name" 9 0 "" 0,fd "Node" 3 1 "" 16,fd "Pressure" 3 2 "" 24],3,32,.agg #[.string ⟨#[]⟩,.int .i64 0,.int .i64 0],.pair (.str) (.pair I6 I6),true⟩
theorem tk85:ti85.ok prog:=⟨underlying85,by kernel_rfl,fun _=>⟨eqGuardType85,stoodInHeld85⟩⟩
def ti87:TI:=⟨87,.struct #[fd "L" 22 0 "" 0,fd "At" 3 1 "" 24],2,32,.agg #[.slice none 0 0,.int .i64 0],.pair (.sl I6) I6,true⟩
theorem tk87:ti87.ok prog:=⟨underlying87,by kernel_rfl,fun _=>⟨eqGuardType87,stoodInHeld87⟩⟩
def ti93:TI:=⟨93,.struct #[fd "Name" 9 0 "" 0,fd "Node" 3 1 "" 16,fd "Head" 3 2 "" 24,fd "Fall" 3 3 "" 32,fd "Suction" 3 4 "" 40],5,48,.agg #[.string ⟨#[]⟩,.int .i64 0,.int .i64 0,.int .i64 0,.int .i64 0],.pair (.str) (.pair I6 (.pair I6 (.pair I6 I6))),true⟩
theorem tk93:ti93.ok prog:=⟨underlying93,by kernel_rfl,fun _=>⟨eqGuardType93,stoodInHeld93⟩⟩
def ti108:TI:=⟨108,.struct #[fd "Station" 3 0 "" 0,fd "Epoch" 3 1 "" 8,fd "Seq" 3 2 "" 16,fd "Time" 3 3 "" 24,fd "Kind" 3 4 "" 32,fd "Values" 22 5 "" 40],6,64,.agg #[.int .i64 0,.int .i64 0,.int .i64 0,.int .i64 0,.int .i64 0,.slice none 0 0],.pair I6 (.pair I6 (.pair I6 (.pair I6 (.pair I6 (.sl I6))))),true⟩
theorem tk108:ti108.ok prog:=⟨underlying108,by kernel_rfl,fun _=>⟨eqGuardType108,stoodInHeld108⟩⟩
def ti122:TI:=⟨122,.struct #[fd "Segments" 40 0 "" 0,fd "Ports" 40 1 "" 24],2,48,.agg #[.slice none 0 0,.slice none 0 0],.pair (.sl (.bool)) (.sl (.bool)),true⟩
theorem tk122:ti122.ok prog:=⟨underlying122,by kernel_rfl,fun _=>⟨eqGuardType122,stoodInHeld122⟩⟩
def ti126:TI:=⟨126,.struct #[fd "Travel" 3 0 "" 0,fd "Open" 3 1 "" 8,fd "Want" 4 2 "" 16,fd "Stuck" 4 3 "" 17],4,24,.agg #[.int .i64 0,.int .i64 0,.bool false,.bool false],.pair I6 (.pair I6 (.pair (.bool) (.bool))),true⟩
theorem tk126:ti126.ok prog:=⟨underlying126,by kernel_rfl,fun _=>⟨eqGuardType126,stoodInHeld126⟩⟩
def ti133:TI:=⟨133,.interface #[("Error",141)],1,16,.nilIface,.err,false⟩
theorem tk133:ti133.ok prog:=⟨underlying133,by kernel_rfl,fun h=>by cases h⟩
def ti140:TI:=⟨140,.struct #[fd "Shipper" 9 0 "" 0,fd "Received" 3 1 "" 16,fd "Delivered" 3 2 "" 24,fd "Slop" 3 3 "" 32,fd "Shared" 3 4 "" 40],5,48,.agg #[.string ⟨#[]⟩,.int .i64 0,.int .i64 0,.int .i64 0,.int .i64 0],.pair (.str) (.pair I6 (.pair I6 (.pair I6 I6))),true⟩
theorem tk140:ti140.ok prog:=⟨underlying140,by kernel_rfl,fun _=>⟨eqGuardType140,stoodInHeld140⟩⟩
def ti148:TI:=⟨148,.slice 59,1,24,.slice none 0 0,.sl tT7,false⟩
theorem tk148:ti148.ok prog:=⟨underlying148,by kernel_rfl,fun h=>by cases h⟩
def ti153:TI:=⟨153,.array 4 27,4,96,.agg #[.slice none 0 0,.slice none 0 0,.slice none 0 0,.slice none 0 0],.pair (.sl (.str)) (.pair (.sl (.str)) (.pair (.sl (.str)) (.sl (.str)))),false⟩
theorem tk153:ti153.ok prog:=⟨underlying153,by kernel_rfl,fun h=>by cases h⟩
def ti160:TI:=⟨160,.func #[27] #[61] false,1,8,.nilFunc,.fnl [174,175],false⟩
theorem tk160:ti160.ok prog:=⟨underlying160,by kernel_rfl,fun h=>by cases h⟩
def ti162:TI:=⟨162,.map 9 160,1,8,.map none,.unit,false⟩
theorem tk162:ti162.ok prog:=⟨underlying162,by kernel_rfl,fun h=>by cases h⟩
def ti167:TI:=⟨167,.struct #[fd "words" 27 0 "batchline/console" 0,fd "failed" 4 1 "batchline/console" 24],2,32,.agg #[.slice none 0 0,.bool false],.pair (.sl (.str)) (.bool),true⟩
theorem tk167:ti167.ok prog:=⟨underlying167,by kernel_rfl,fun _=>⟨eqGuardType167,stoodInHeld167⟩⟩
def ti177:TI:=⟨177,.func #[32,180,61] #[36] false,1,8,.nilFunc,.fnl [106,107,108],false⟩
theorem tk177:ti177.ok prog:=⟨underlying177,by kernel_rfl,fun h=>by cases h⟩
def ti178:TI:=⟨178,.map 3 177,1,8,.map none,.unit,false⟩
theorem tk178:ti178.ok prog:=⟨underlying178,by kernel_rfl,fun h=>by cases h⟩
def ti197:TI:=⟨197,.func #[3] #[4] false,1,8,.nilFunc,.clo 309 (.pair (.sl tT1) tT6),false⟩
theorem tk197:ti197.ok prog:=⟨underlying197,by kernel_rfl,fun h=>by cases h⟩
def ti204:TI:=⟨204,.slice 55,1,24,.slice none 0 0,.sl (.pair I6 (.pair I6 (.pair (.sl (.pair I6 (.bool))) I6))),false⟩
theorem tk204:ti204.ok prog:=⟨underlying204,by kernel_rfl,fun h=>by cases h⟩
def ti244:TI:=⟨244,.array 24 3,24,192,.agg #[.int .i64 0,.int .i64 0,.int .i64 0,.int .i64 0,.int .i64 0,.int .i64 0,.int .i64 0,.int .i64 0,.int .i64 0,.int .i64 0,.int .i64 0,.int .i64 0,.int .i64 0,.int .i64 0,.int .i64 0,.int .i64 0,.int .i64 0,.int .i64 0,.int .i64 0,.int .i64 0,.int .i64 0,.int .i64 0,.int .i64 0,.int .i64 0],.arr 24 I6,true⟩
theorem tk244:ti244.ok prog:=⟨underlying244,by kernel_rfl,fun _=>⟨by kernel_rfl,by kernel_rfl⟩⟩
def ti246:TI:=⟨246,.struct #[fd "come" 244 0 "batchline/flow" 0,fd "leave" 244 24 "batchline/flow" 192],48,384,.agg #[.int .i64 0,.int .i64 0,.int .i64 0,.int .i64 0,.int .i64 0,.int .i64 0,.int .i64 0,.int .i64 0,.int .i64 0,.int .i64 0,.int .i64 0,.int .i64 0,.int .i64 0,.int .i64 0,.int .i64 0,.int .i64 0,.int .i64 0,.int .i64 0,.int .i64 0,.int .i64 0,.int .i64 0,.int .i64 0,.int .i64 0,.int .i64 0,.int .i64 0,.int .i64 0,.int .i64 0,.int .i64 0,.int .i64 0,.int .i64 0,.int .i64 0,.int .i64 0,.int .i64 0,.int .i64 0,.int .i64 0,.int .i64 0,.int .i64 0,.int .i64 0,.int .i64 0,.int .i64 0,.int .i64 0,.int .i64 0,.int .i64 0,.int .i64 0,.int .i64 0,.int .i64 0,.int .i64 0,.int .i64 0],.pair (.arr 24 I6) (.arr 24 I6),true⟩
theorem tk246:ti246.ok prog:=⟨underlying246,by kernel_rfl,fun _=>⟨eqGuardType246,stoodInHeld246⟩⟩
def ti260:TI:=⟨260,.int .u64,1,8,.int .u64 0,.int .u64,false⟩
theorem tk260:ti260.ok prog:=⟨underlying260,by kernel_rfl,fun h=>by cases h⟩
def ti272:TI:=⟨272,.func #[32,273,57] #[36] false,1,8,.nilFunc,.unit,false⟩
theorem tk272:ti272.ok prog:=⟨underlying272,by kernel_rfl,fun h=>by cases h⟩
def ti279:TI:=⟨279,.int .u64,1,8,.int .u64 0,.int .u64,false⟩
theorem tk279:ti279.ok prog:=⟨underlying279,by kernel_rfl,fun h=>by cases h⟩
def ti287:TI:=⟨287,.int .u32,1,4,.int .u32 0,.int .u32,false⟩
theorem tk287:ti287.ok prog:=⟨underlying287,by kernel_rfl,fun h=>by cases h⟩
def ti296:TI:=⟨296,.array 7 272,7,56,.agg #[.nilFunc,.nilFunc,.nilFunc,.nilFunc,.nilFunc,.nilFunc,.nilFunc],.unit,false⟩
theorem tk296:ti296.ok prog:=⟨underlying296,by kernel_rfl,fun h=>by cases h⟩
def types:List TI:=[ti3,ti4,ti5,ti9,ti22,ti27,ti28,ti29,ti30,ti32,ti35,ti39,ti40,ti42,ti44,ti45,ti46,ti48,ti53,ti55,ti57,ti59,ti61,ti76,ti77,ti80,ti81,ti83,ti85,ti87,ti93,ti108,ti122,ti126,ti133,ti140,ti148,ti153,ti160,ti162,ti167,ti177,ti178,ti197,ti204,ti244,ti246,ti260,ti272,ti279,ti287,ti296]
theorem qke:Tys prog types:=⟨tk3,tk4,tk5,tk9,tk22,tk27,tk28,tk29,tk30,tk32,tk35,tk39,tk40,tk42,tk44,tk45,tk46,tk48,tk53,tk55,tk57,tk59,tk61,tk76,tk77,tk80,tk81,tk83,tk85,tk87,tk93,tk108,tk122,tk126,tk133,tk140,tk148,tk153,tk160,tk162,tk167,tk177,tk178,tk197,tk204,tk244,tk246,tk260,tk272,tk279,tk287,tk296,trivial⟩
def xt84:Ext:=qC4 84
theorem xk84:ExtOk prog xt84:=qAh func84 (by kernel_rfl) (by kernel_rfl) (by kernel_rfl) (by kernel_rfl)
def xt264:Ext:=qC3 264
theorem xk264:ExtOk prog xt264:=qAg func264 (by kernel_rfl) (by kernel_rfl) (by kernel_rfl) (by kernel_rfl)
def xt315:Ext:=qC1 315
theorem xk315:ExtOk prog xt315:=qAd func315 (by kernel_rfl) (by kernel_rfl) (by kernel_rfl) (by kernel_rfl)
theorem mx:prog.follows .mixedOrders=true:=by kernel_rfl
abbrev kk:Sh:=.one .keep
abbrev ii:Sh:=.one (.data (.int .i64))
abbrev bb:Sh:=.one (.data .bool)
abbrev ss:Sh:=.one (.data .str)
abbrev nn(r:Plan):Plan:=.mk [] none .nil r
abbrev mm(l r:Plan):Plan:=.mk [] none l r
abbrev kp(n:Nat):List Sh1:=List.replicate n .keep
theorem fi{e:Fun}{fn:Func}{c:Code}(ow:List Nat)(fs:List Fun)(N:Nat)(xs:List Ext)(p:Plan)(hf:Tryz.prog.funcs[e.f]? = some fn)(hfs:CxOk Tryz.prog ⟨types,ow,fs,N,xs⟩)(hb:fn.body=some c:=by exact rfl)(hname:(fn.name == "runtime.NumGoroutine")=false:=by kernel_rfl)(hN:fn.ntmps=N:=by exact rfl)(hnp:Nat.ble e.np N=true:=by exact rfl)(hnr:fn.results.toList.length=e.nr:=by exact rfl)(hregs:e.ji.regs.all (fun q=>Nat.blt q.1 e.np)=true:=by exact rfl)(h:∀x,e.tw x=evFun ⟨types,ow,fs,N,xs⟩ e.ji e.jo fn.results.toList c p x:=by intro x; kernel_rfl):FunOk Tryz.prog e:=
 FunOk.intro (C:=⟨types,ow,fs,N,xs⟩) hf hb hname hN hnp hnr hregs qke hfs mx h
abbrev v0_:List (Nat×TypeId×List Sh1):=[(48,32,kp 6),(64,42,[.keep,.keep,.keep])]
abbrev a1_:List (Nat×ObSh):=[(1,.arr 126 tT1),(2,.arr 3 I6),(3,.arr 3 I6),(4,.arr 4 (.bool))]
abbrev v2_:List (Nat×TypeId×List Sh1):=[(0,87,[.data (.sl I6),.data I6]),(64,32,kp 6),(80,42,[.keep,.keep,.keep]),(96,42,[.own 416,.own 480,.own 1593])]
abbrev v3_:List (Nat×TypeId×List Sh1):=[(0,87,[.data (.sl I6),.data I6])]
abbrev v4_:List (Nat×TypeId×List Sh1):=[(0,87,[.keep,.keep]),(64,32,kp 6),(80,42,[.keep,.keep,.keep]),(96,42,[.own 416,.own 480,.own 1593])]
abbrev v5_:List (Nat×TypeId×List Sh1):=[(0,61,[.data I6,.data (.sl I6),.data I6,.data I6,.data I6,.data I6,.data I6,.data (.sl (.pair I6 (.bool))),.data I6,.data (.str),.data I6,.data I6])]
abbrev v6_:List (Nat×TypeId×List Sh1):=[(0,44,[.own 1,.own 2,.own 3,.own 4])]
abbrev v7_:List (Nat×TypeId×List Sh1):=[(32,32,kp 6)]
abbrev a8_:List (Nat×ObSh):=[(1,.arr 126 tT1),(2,.arr 3 I6),(3,.arr 3 I6),(4,.arr 4 (.bool)),(5,.arr 108 tT3),(6,.arr 140 tT4)]
abbrev v9_:List (Nat×TypeId×List Sh1):=[(0,87,[.data (.sl I6),.data I6]),(48,32,kp 6),(64,32,[.own 1049,.own 1065,.own 1081,.own 1097,.keep,.keep])]
abbrev a10_:List (Nat×ObSh):=[(219,.arr 3 I6),(416,.arr 3 I6),(480,.arr 3 I6),(1593,.arr 4 (.bool))]
abbrev a11_:List (Nat×ObSh):=[(1049,.arr 9 (.str)),(1065,.arr 83 (.pair (.str) tT5)),(1081,.arr 85 tT7),(1097,.arr 93 tT4)]
abbrev v12_:List (Nat×TypeId×List Sh1):=[(112,32,kp 6),(208,48,[.data (.sl tT1),.data (.sl I6),.data (.sl I6),.data (.sl (.bool)),.data (.sl tT3),.data (.sl tT4),.data I6])]
abbrev a13_:List (Nat×ObSh):=[(400,.arr 3 I6),(464,.arr 3 I6),(171,.arr 55 (.pair I6 (.pair I6 (.pair (.sl (.pair I6 (.bool))) I6)))),(736,.arr 76 (.pair I6 (.bool)))]
abbrev v14_:List (Nat×TypeId×List Sh1):=[(0,87,[.data (.sl I6),.data I6]),(48,32,kp 6),(64,32,[.own 1049,.own 1065,.keep,.keep,.keep,.keep])]
abbrev a15_:List (Nat×ObSh):=[(432,.arr 76 (.pair I6 (.bool))),(656,.arr 126 tT1),(657,.arr 3 I6),(658,.arr 3 I6),(659,.arr 4 (.bool))]
abbrev v16_:List (Nat×TypeId×List Sh1):=[(80,32,kp 6),(144,55,[.data I6,.data I6,.data (.sl (.pair I6 (.bool))),.data I6]),(176,55,[.keep,.data I6,.own 2873,.data I6])]
abbrev r17_:List (Nat×Sh):=[(0,dd (.pair I6 (.pair (.sl I6) (.pair tT2 tT7))))]
abbrev a18_:List (Nat×ObSh):=[(416,.arr 3 I6),(480,.arr 3 I6),(1593,.arr 4 (.bool))]
abbrev a19_:List (Nat×ObSh):=[(80,.one 246 (.pair (.arr 24 I6) (.arr 24 I6))),(96,.one 246 (.pair (.arr 24 I6) (.arr 24 I6)))]
abbrev v20_:List (Nat×TypeId×List Sh1):=[(64,32,kp 6),(80,44,kp 4),(96,57,kp 7),(112,44,kp 4),(144,55,[.keep,.keep,.own 432,.keep]),(160,44,[.own 656,.own 657,.own 658,.own 659]),(192,76,[.keep,.keep])]
abbrev a21_:List (Nat×ObSh):=[(219,.arr 3 I6),(283,.arr 3 I6),(416,.arr 3 I6),(480,.arr 3 I6),(1593,.arr 4 (.bool))]
abbrev a22_:List (Nat×ObSh):=[(107,.arr 3 I6),(288,.arr 4 (.bool))]
abbrev v23_:List (Nat×TypeId×List Sh1):=[(0,87,[.data (.sl I6),.data I6]),(144,83,kp 7),(160,83,[.keep,.keep,.keep,.keep,.keep,.keep,.own 2681])]
abbrev a24_:List (Nat×ObSh):=[(368,.arr 126 tT1),(369,.arr 3 I6),(370,.arr 3 I6),(371,.arr 4 (.bool)),(372,.arr 108 tT3),(373,.arr 140 tT4)]
abbrev v25_:List (Nat×TypeId×List Sh1):=[(64,32,kp 6),(80,42,[.keep,.keep,.keep])]
abbrev r26_:List (Nat×Sh):=[(0,dd (.pair (.pair (.sl tT1) tT6) (.pair (.sl tT3) (.pair (.sl tT4) I6)))),(1,ii)]
abbrev v27_:List (Nat×TypeId×List Sh1):=[(32,32,kp 6),(48,153,kp 4),(64,153,[.keep,.own 1065,.own 1081,.keep])]
abbrev a28_:List (Nat×ObSh):=[(7,.arr 126 tT1),(8,.arr 3 I6),(9,.arr 3 I6),(10,.arr 4 (.bool)),(11,.arr 108 tT3),(12,.arr 140 tT4)]
abbrev r29_:List (Nat×Sh):=[(2,pt 48 0),(3,pt 64 0)]
abbrev a30_:List (Nat×ObSh):=[(400,.arr 3 I6),(464,.arr 3 I6),(171,.arr 55 (.pair I6 (.pair I6 (.pair (.sl (.pair I6 (.bool))) I6))))]
abbrev v31_:List (Nat×TypeId×List Sh1):=[(32,32,kp 6),(48,153,kp 4),(64,153,[.keep,.own 1065,.keep,.keep])]
abbrev r32_:List (Nat×Sh):=[(0,kk),(1,kk),(7,kk),(8,ii)]
abbrev r33_:List (Nat×Sh):=[(0,dd tT0),(1,dd (.pair I6 (.pair I6 (.pair (.sl (.pair I6 (.bool))) I6))))]
abbrev v34_:List (Nat×TypeId×List Sh1):=[(64,32,kp 6),(80,44,kp 4),(96,57,kp 7),(112,44,kp 4)]
abbrev v35_:List (Nat×TypeId×List Sh1):=[(48,153,kp 4),(64,153,[.keep,.own 1065,.own 1081,.own 1097])]
abbrev r36_:List (Nat×Sh):=[(0,dd tT0),(1,dd (.pair (.pair (.sl tT1) tT6) (.pair (.sl tT3) (.pair (.sl tT4) I6)))),(2,dd (.pair I6 (.pair (.sl I6) (.pair tT2 tT7))))]
abbrev a37_:List (Nat×ObSh):=[(1065,.arr 9 (.str)),(1081,.arr 9 (.str)),(1097,.arr 9 (.str))]
abbrev v38_:List (Nat×TypeId×List Sh1):=[(80,48,kp 7),(96,61,kp 12),(112,48,kp 7),(144,48,[.own 368,.own 369,.own 370,.own 371,.own 372,.own 373,.keep])]
abbrev r39_:List (Nat×Sh):=[(2,pt 48 0),(3,pt 64 0),(5,ow 107),(6,ow 288),(7,kk),(8,kk),(9,bb),(20,kk),(21,kk),(30,kk),(31,kk),(32,kk)]
abbrev a40_:List (Nat×ObSh):=[(1,.arr 9 (.str))]
abbrev r41_:List (Nat×Sh):=[(1,pt 32 0),(2,pt 48 0),(3,pt 64 0)]
abbrev v42_:List (Nat×TypeId×List Sh1):=[(48,32,kp 6),(64,44,kp 4)]
abbrev v43_:List (Nat×TypeId×List Sh1):=[(48,32,kp 6),(192,55,[.keep,.keep,.own 736,.keep])]
abbrev a44_:List (Nat×ObSh):=[(107,.arr 3 I6),(256,.arr 4 (.bool))]
abbrev a45_:List (Nat×ObSh):=[(128,.arr 126 tT1),(129,.arr 3 I6),(130,.arr 3 I6),(131,.arr 4 (.bool)),(1113,.arr 108 tT3),(192,.arr 140 tT4)]
abbrev v46_:List (Nat×TypeId×List Sh1):=[(0,167,[.own 1,.data (.bool)])]
abbrev v47_:List (Nat×TypeId×List Sh1):=[(0,44,[.own 1,.own 2,.own 3,.own 4]),(96,57,kp 7)]
abbrev r48_:List (Nat×Sh):=[(0,dd (.pair (.sl tT1) tT6)),(1,ii)]
abbrev a49_:List (Nat×ObSh):=[(123,.arr 61 (.pair I6 (.pair (.sl I6) (.pair tT2 tT7))))]
abbrev r50_:List (Nat×Sh):=[(0,dd tT0),(1,pt 0 0),(2,dd (.pair I6 (.pair (.sl I6) (.pair tT2 tT7))))]
abbrev a51_:List (Nat×ObSh):=[(1049,.arr 9 (.str)),(1065,.arr 83 (.pair (.str) tT5))]
abbrev r52_:List (Nat×Sh):=[(0,ss),(1,ss)]
abbrev r53_:List (Nat×Sh):=[(0,dd tT0),(1,dd tT6)]
abbrev a54_:List (Nat×ObSh):=[(25,.arr 9 (.str))]
abbrev v55_:List (Nat×TypeId×List Sh1):=[(64,59,[.keep,.keep,.keep])]
abbrev r56_:List (Nat×Sh):=[(0,dd tT0),(1,dd (.pair (.sl tT1) tT6)),(2,dd tT2)]
abbrev a57_:List (Nat×ObSh):=[(0,.arr 126 tT1),(1,.arr 3 I6),(2,.arr 3 I6),(3,.arr 4 (.bool)),(4,.arr 108 tT3),(5,.arr 140 tT4)]
abbrev v58_:List (Nat×TypeId×List Sh1):=[(0,167,[.own 25,.data (.bool)]),(80,32,kp 6),(96,57,kp 7)]
abbrev a59_:List (Nat×ObSh):=[(0,.arr 126 tT1),(1,.arr 3 I6),(2,.arr 3 I6),(3,.arr 4 (.bool))]
abbrev r60_:List (Nat×Sh):=[(0,ii),(1,ii)]
abbrev v61_:List (Nat×TypeId×List Sh1):=[(0,48,[.own 7,.own 8,.own 9,.own 10,.own 11,.own 12,.data I6])]
abbrev a62_:List (Nat×ObSh):=[(2873,.arr 76 (.pair I6 (.bool)))]
abbrev v63_:List (Nat×TypeId×List Sh1):=[(48,32,kp 6),(64,55,kp 4)]
abbrev v64_:List (Nat×TypeId×List Sh1):=[(32,42,[.keep,.keep,.keep]),(48,42,[.keep,.keep,.keep]),(64,42,[.own 1049,.keep,.own 160])]
abbrev v65_:List (Nat×TypeId×List Sh1):=[(0,167,[.own 2,.data (.bool)])]
abbrev v66_:List (Nat×TypeId×List Sh1):=[(0,48,[.own 1,.own 2,.own 3,.own 4,.own 5,.own 6,.data I6])]
abbrev v67_:List (Nat×TypeId×List Sh1):=[(0,87,[.keep,.keep]),(48,32,kp 6),(64,32,[.own 1049,.keep,.keep,.keep,.keep,.keep])]
abbrev r68_:List (Nat×Sh):=[(0,dd tT0),(1,dd (.pair I6 (.pair (.sl I6) (.pair tT2 tT7))))]
abbrev v69_:List (Nat×TypeId×List Sh1):=[(0,61,[.keep,.keep,.keep,.keep,.keep,.keep,.keep,.own 137,.keep,.keep,.keep,.keep])]
abbrev a70_:List (Nat×ObSh):=[(0,.one 246 (.pair (.arr 24 I6) (.arr 24 I6)))]
abbrev r71_:List (Nat×Sh):=[(0,dd tT0),(1,pt 0 0),(2,dd tT2)]
abbrev v72_:List (Nat×TypeId×List Sh1):=[(32,48,[.own 128,.own 129,.own 130,.own 131,.own 176,.own 224,.keep]),(48,48,kp 7)]
abbrev r73_:List (Nat×Sh):=[(0,dd (.sl tT4)),(1,.one (.fn [.pair (.str) (.pair I6 (.pair I6 (.pair I6 I6)))] (.bool)))]
abbrev v74_:List (Nat×TypeId×List Sh1):=[(48,32,kp 6),(80,61,kp 12)]
abbrev a75_:List (Nat×ObSh):=[(1065,.arr 9 (.str)),(1081,.arr 9 (.str))]
abbrev v76_:List (Nat×TypeId×List Sh1):=[(32,42,[.keep,.keep,.keep]),(48,122,[.keep,.keep]),(64,122,[.own 1049,.keep])]
abbrev a77_:List (Nat×ObSh):=[(171,.arr 61 (.pair I6 (.pair (.sl I6) (.pair tT2 tT7))))]
abbrev r78_:List (Nat×Sh):=[(0,dd (.sl tT1)),(1,.one (.fn [.pair I6 (.pair I6 (.pair (.bool) (.bool)))] (.bool)))]
abbrev a79_:List (Nat×ObSh):=[(219,.arr 61 (.pair I6 (.pair (.sl I6) (.pair tT2 tT7))))]
abbrev r80_:List (Nat×Sh):=[(6,pt 112 0),(7,kk),(8,kk),(11,kk),(12,pt 208 0),(14,ii),(15,ii),(16,kk)]
abbrev r81_:List (Nat×Sh):=[(0,dd (.sl (.str)))]
abbrev r82_:List (Nat×Sh):=[(0,dd tT1),(1,ii)]
abbrev r83_:List (Nat×Sh):=[(1,pt 32 0),(3,pt 64 0),(4,kk),(27,kk),(28,bb)]
abbrev r84_:List (Nat×Sh):=[(0,dd (.pair (.sl (.str)) (.pair (.sl (.str)) (.pair (.sl (.str)) (.sl (.str))))))]
abbrev v85_:List (Nat×TypeId×List Sh1):=[(0,48,[.own 1,.own 2,.own 3,.own 4,.own 5,.own 6,.keep]),(96,61,kp 12)]
abbrev r86_:List (Nat×Sh):=[(0,dd (.int .u64)),(1,dd (.int .u64))]
abbrev r87_:List (Nat×Sh):=[(1,kk),(2,pt 48 0),(4,pt 80 0),(7,kk),(9,kk)]
abbrev v88_:List (Nat×TypeId×List Sh1):=[(32,59,[.keep,.keep,.keep])]
abbrev r89_:List (Nat×Sh):=[(0,pt 0 0),(4,pt 80 0),(5,pt 96 0)]
abbrev v90_:List (Nat×TypeId×List Sh1):=[(48,126,[.keep,.data I6,.keep,.keep]),(80,126,kp 4),(96,126,kp 4)]
abbrev r91_:List (Nat×Sh):=[(4,dd (.sl (.pair I6 (.pair I6 (.pair (.sl (.pair I6 (.bool))) I6))))),(5,ii)]
abbrev v92_:List (Nat×TypeId×List Sh1):=[(48,126,[.data I6,.data I6,.data (.bool),.data (.bool)]),(80,126,kp 4)]
abbrev a93_:List (Nat×ObSh):=[(2073,.arr 126 tT1),(416,.arr 3 I6),(480,.arr 3 I6),(544,.arr 4 (.bool))]
abbrev r94_:List (Nat×Sh):=[(1,pt 32 0),(4,kk),(5,bb)]
abbrev a95_:List (Nat×ObSh):=[(960,.arr 126 tT1),(961,.arr 3 I6),(962,.arr 3 I6),(963,.arr 4 (.bool))]
abbrev v96_:List (Nat×TypeId×List Sh1):=[(0,44,[.own 1,.own 2,.own 3,.own 4]),(64,32,kp 6),(96,57,kp 7)]
abbrev r97_:List (Nat×Sh):=[(0,dd (.sl (.pair (.str) tT5))),(1,.one (.fn [.pair (.str) tT5] (.bool)))]
abbrev r98_:List (Nat×Sh):=[(0,dd (.pair (.pair (.sl tT1) tT6) (.pair (.sl tT3) (.pair (.sl tT4) I6))))]
abbrev r99_:List (Nat×Sh):=[(0,dd (.sl (.pair I6 (.bool)))),(1,.one (.fn [.pair I6 (.bool)] (.bool)))]
abbrev a100_:List (Nat×ObSh):=[(75,.arr 3 I6)]
abbrev v101_:List (Nat×TypeId×List Sh1):=[(32,32,kp 6),(96,153,kp 4)]
abbrev r102_:List (Nat×Sh):=[(2,pt 48 0),(3,pt 64 0),(5,ii)]
abbrev r103_:List (Nat×Sh):=[(0,dd (.sl tT7)),(1,.one (.fn [.pair (.str) (.pair I6 I6)] (.bool)))]
abbrev r104_:List (Nat×Sh):=[(0,pt 0 0),(3,pt 64 0),(4,pt 80 0),(5,pt 96 0),(7,kk),(8,kk)]
abbrev r105_:List (Nat×Sh):=[(1,pt 32 0),(2,pt 48 0),(3,pt 64 0),(14,kk),(15,kk),(16,ii)]
abbrev r106_:List (Nat×Sh):=[(1,pt 32 0),(2,pt 48 0),(3,pt 64 0),(29,kk),(30,kk),(31,ii)]
abbrev v107_:List (Nat×TypeId×List Sh1):=[(0,167,[.own 25,.data (.bool)])]
abbrev v108_:List (Nat×TypeId×List Sh1):=[(32,57,kp 7),(64,55,kp 4)]
abbrev r109_:List (Nat×Sh):=[(0,dd (.pair (.str) tT5))]
abbrev r110_:List (Nat×Sh):=[(0,.agg [.own 0,.own 1,.own 2,.own 3,.own 4,.own 5,.data I6])]
abbrev r111_:List (Nat×Sh):=[(0,dd tT0),(1,dd tT6),(2,ii)]
abbrev r112_:List (Nat×Sh):=[(2,pt 48 0),(4,pt 80 0)]
abbrev r113_:List (Nat×Sh):=[(0,dd (.pair I6 (.pair I6 (.pair (.sl (.pair I6 (.bool))) I6))))]
abbrev v114_:List (Nat×TypeId×List Sh1):=[(32,83,kp 7)]
abbrev v115_:List (Nat×TypeId×List Sh1):=[(0,167,[.own 1,.keep]),(80,32,kp 6),(96,57,kp 7)]
abbrev v116_:List (Nat×TypeId×List Sh1):=[(48,32,kp 6)]
abbrev r117_:List (Nat×Sh):=[(2,pt 48 0),(3,pt 64 0),(5,ow 107),(6,ow 256),(7,ii)]
abbrev r118_:List (Nat×Sh):=[(2,pt 48 0),(3,pt 64 0),(5,ow 107),(6,ow 256),(7,kk)]
abbrev a119_:List (Nat×ObSh):=[(139,.arr 3 I6)]
abbrev a120_:List (Nat×ObSh):=[(2681,.arr 80 (.pair I6 (.pair I6 I6)))]
abbrev r121_:List (Nat×Sh):=[(2,pt 48 0),(7,ow 400),(8,ow 464),(9,ow 171),(10,kk)]
abbrev v122_:List (Nat×TypeId×List Sh1):=[(32,126,[.keep,.data I6,.keep,.keep]),(48,126,kp 4)]
abbrev v123_:List (Nat×TypeId×List Sh1):=[(48,32,kp 6),(96,55,kp 4),(144,76,[.keep,.keep])]
abbrev a124_:List (Nat×ObSh):=[(1049,.arr 3 I6),(1065,.arr 3 I6),(160,.arr 4 (.bool))]
abbrev a125_:List (Nat×ObSh):=[(2,.arr 9 (.str))]
abbrev r126_:List (Nat×Sh):=[(0,pt 0 0),(2,pt 48 0),(3,pt 64 0),(5,kk),(9,kk)]
abbrev r127_:List (Nat×Sh):=[(2,pt 48 0),(3,pt 64 0),(44,kk),(45,kk),(46,ii)]
abbrev r128_:List (Nat×Sh):=[(0,pt 0 2),(1,dd (.sl (.str))),(2,.one (.sel tT0))]
abbrev a129_:List (Nat×ObSh):=[(0,.arr 108 tT3)]
abbrev r130_:List (Nat×Sh):=[(0,dd (.sl I6)),(1,.one (.fn [.int .i64] (.bool)))]
abbrev r131_:List (Nat×Sh):=[(0,dd tT0),(1,ss)]
abbrev v132_:List (Nat×TypeId×List Sh1):=[(0,167,[.own 25,.data (.bool)]),(96,61,kp 12)]
abbrev r133_:List (Nat×Sh):=[(0,kk),(1,kk),(2,kk),(8,kk),(9,ii),(10,ii)]
abbrev r134_:List (Nat×Sh):=[(0,dd (.sl I6))]
abbrev r135_:List (Nat×Sh):=[(0,dd (.sl (.str))),(1,.one (.fn [.str] (.bool)))]
abbrev r136_:List (Nat×Sh):=[(0,pt 0 0),(5,pt 96 0)]
abbrev v137_:List (Nat×TypeId×List Sh1):=[(48,44,kp 4),(64,57,kp 7),(80,44,kp 4)]
abbrev v138_:List (Nat×TypeId×List Sh1):=[(48,32,kp 6),(64,57,kp 7)]
abbrev r139_:List (Nat×Sh):=[(0,kk),(1,kk),(5,ii)]
abbrev a140_:List (Nat×ObSh):=[(139,.arr 140 tT4)]
abbrev r141_:List (Nat×Sh):=[(0,kk),(6,kk),(7,ow 139)]
abbrev a142_:List (Nat×ObSh):=[(1065,.arr 9 (.str))]
abbrev r143_:List (Nat×Sh):=[(0,pt 0 0),(1,ii)]
abbrev r144_:List (Nat×Sh):=[(0,dd tT0),(1,ii)]
abbrev a145_:List (Nat×ObSh):=[(0,.arr 4 (.bool))]
def qpY(l:List Int):Option (Bool):=
 some (decide ((l.length:Int)<=400))
def qoO:Fun:=
 ⟨7,1,1,
 ⟨r134_,[],[]⟩,
 ⟨[(0,bb)],[],[]⟩,
 fun x=>qpY x⟩
theorem qub:FO qoO:=fi [] [] 6 [] .nil func7 ⟨trivial,trivial⟩
def qaf(s:List yT0)(f:yT0×Unit->Option Bool)(v:Int):Option (Int⊕(Unit⊕Int)):=
 bif decide (v<(s.length:Int)) then(
 gd (inB v s.length)<|
 (f (s.getD v.toNat ([],0,0,0,0,0,[]),())).bind fun r=>
 bif r then(
 some (.inr (.inr v)))
 else(
 some (.inl (wi64 (v+1)))))
 else(
 some (.inr (.inl ())))
def qar(s:List yT0)(f:yT0×Unit->Option Bool):Option (Int):=
 (iter (fun x=>qaf s f x) 0).bind fun s2=>
 s2.elim (fun s3=>
 some (-1))
 (fun s4=>
 some s4)
def qaP:Fun:=
 ⟨223,2,1,
 ⟨r97_,[],[]⟩,
 ⟨[(0,ii)],[],[]⟩,
 fun x=>qar x.1 x.2⟩
theorem qbr:FO qaP:=fi [] [] 19 [] ((nn (mm (nn (mm (.mk [] (some (⟨r32_,[],[]⟩,[⟨.x 0,⟨[],[],[]⟩⟩,⟨.r,⟨[(4,ii)],[],[]⟩⟩])) .nil .nil) .nil)) .nil))) func223 ⟨trivial,trivial⟩
def qam(s:List yT0)(f:yT0×Unit->Option Bool):Option (Bool):=
 (qar s f).bind fun r=>
 some (decide (0<=r))
def qaI:Fun:=
 ⟨146,2,1,
 ⟨r97_,[],[]⟩,
 ⟨[(0,bb)],[],[]⟩,
 fun x=>qam x.1 x.2⟩
theorem qbl:FO qaI:=fi [] [qaP] 9 [] .nil func146 ⟨⟨qbr,trivial⟩,trivial⟩
def qhh(s:yB9):Option (Bool):=
 bif decide ((s.2.2.2.2.2.2.length:Int)<2) then(
 some true)
 else(
 some (decide (8<(s.2.2.2.2.2.2.length:Int))))
def qh3:Fun:=
 ⟨147,1,1,
 ⟨r109_,[],[]⟩,
 ⟨[(0,bb)],[],[]⟩,
 fun x=>qhh x⟩
theorem qn9:FO qh3:=fi [] [] 13 [] .nil func147 ⟨trivial,trivial⟩
def qes(n:yB0):Option (Bool):=
 Option.bind (α:=Bool) (
 bif decide ((n.1.length:Int)<1) then(
 some true)
 else(
 bif decide (24<(n.1.length:Int)) then(
 some true)
 else(
 bif decide (32<(n.2.1.length:Int)) then(
 some true)
 else(
 bif decide (24<(n.2.2.1.length:Int)) then(
 some true)
 else(
 some (decide (12<(n.2.2.2.1.length:Int)))))))) fun s=>
 bif s then(
 some false)
 else(
 (qam n.2.1 (fun h=>(qhh h.1).bind fun y=>some y)).bind fun r=>
 some (!r))
def qjy:Fun:=
 ⟨75,1,1,
 ⟨[(0,dd tT0)],[],[]⟩,
 ⟨[(0,bb)],[],[]⟩,
 fun x=>qes x⟩
theorem qpZ:FO qjy:=fi [] [qaI,qh3] 35 [] ((nn (mm (mm (.mk [.join [⟨.n,⟨[(1,pt 32 0),(30,bb)],v7_,[]⟩⟩]] none .nil .nil) .nil) .nil))) func75 ⟨⟨qbl,qn9,trivial⟩,trivial⟩
def qeQ(n:yB0)(v:Int)(out:List (List UInt8)):Option ((Int×List (List UInt8))⊕(List (List UInt8))):=
 bif decide (v<(n.2.1.length:Int)) then(
 gd (inB v n.2.1.length)<|
 gd (fits (out.length+1) 16)<|
 some (.inl (wi64 (v+1),out++[(n.2.1.getD v.toNat ([],(0,(0,(0,(0,(0,[]))))))).1])))
 else(
 some (.inr out))
def qeR(n:yB0)(v2:Int)(out2:List (List UInt8))(out3:List (List UInt8)):Option ((Int×List (List UInt8)×List (List UInt8))⊕(List (List UInt8)×List (List UInt8))):=
 bif decide (v2<(n.2.2.1.length:Int)) then(
 gd (inB v2 n.2.2.1.length)<|
 gd (fits (out3.length+1) 16)<|
 some (.inl (wi64 (v2+1),out2,out3++[(n.2.2.1.getD v2.toNat ([],(0,0))).1])))
 else(
 some (.inr (out2,out3)))
def qeS(n:yB0)(v3:Int)(out4:List (List UInt8))(out5:List (List UInt8))(out6:List (List UInt8)):Option ((Int×List (List UInt8)×List (List UInt8)×List (List UInt8))⊕(List (List UInt8)×List (List UInt8)×List (List UInt8))):=
 bif decide (v3<(n.2.2.2.1.length:Int)) then(
 gd (inB v3 n.2.2.2.1.length)<|
 gd (fits (out6.length+1) 16)<|
 some (.inl (wi64 (v3+1),out4,out5,out6++[(n.2.2.2.1.getD v3.toNat ([],(0,(0,(0,0))))).1])))
 else(
 some (.inr (out4,out5,out6)))
def qb6(n:yB0):Option yB12:=
 (iter (fun x=>qeQ n x.1 x.2) (0,[])).bind fun s=>
 (iter (fun x2=>qeR n x2.1 x2.2.1 x2.2.2) (0,s,[])).bind fun s2=>
 (iter (fun x3=>qeS n x3.1 x3.2.1 x3.2.2.1 x3.2.2.2) (0,s2.1,s2.2,[])).bind fun s3=>
 some (n.1,s3.1,s3.2.1,s3.2.2)
def qhi:Fun:=
 ⟨76,1,1,
 ⟨[(0,dd tT0)],[],[]⟩,
 ⟨r84_,[],[]⟩,
 fun x=>qb6 x⟩
theorem qkR:FO qhi:=fi [] [] 59 [] ((nn (nn (nn (mm (nn (mm (.mk [] (some (⟨r105_,v31_,a142_⟩,[⟨.x 0,⟨r41_,v31_,a142_⟩⟩])) .nil .nil) .nil)) (mm (nn (mm (.mk [] (some (⟨r106_,v27_,a75_⟩,[⟨.x 2,⟨r41_,v27_,a75_⟩⟩])) .nil .nil) .nil)) (mm (nn (mm (.mk [] (some (⟨r127_,v35_,a37_⟩,[⟨.x 4,⟨r29_,v35_,a37_⟩⟩])) .nil .nil) .nil)) .nil))))))) func76 ⟨trivial,trivial⟩
def qax(s:List (List UInt8))(f:List UInt8×Unit->Option Bool)(v:Int):Option (Int⊕(Unit⊕Int)):=
 bif decide (v<(s.length:Int)) then(
 gd (inB v s.length)<|
 (f (s.getD v.toNat [],())).bind fun r=>
 bif r then(
 some (.inr (.inr v)))
 else(
 some (.inl (wi64 (v+1)))))
 else(
 some (.inr (.inl ())))
def qbf(s:List (List UInt8))(f:List UInt8×Unit->Option Bool):Option (Int):=
 (iter (fun x=>qax s f x) 0).bind fun s2=>
 s2.elim (fun s3=>
 some (-1))
 (fun s4=>
 some s4)
def qcC:Fun:=
 ⟨148,2,1,
 ⟨r135_,[],[]⟩,
 ⟨[(0,ii)],[],[]⟩,
 fun x=>qbf x.1 x.2⟩
theorem qft:FO qcC:=fi [] [] 19 [] ((nn (mm (nn (mm (.mk [] (some (⟨r32_,[],[]⟩,[⟨.x 0,⟨[],[],[]⟩⟩,⟨.r,⟨[(4,ii)],[],[]⟩⟩])) .nil .nil) .nil)) .nil))) func148 ⟨trivial,trivial⟩
def qay(s:List (List UInt8))(f:List UInt8×Unit->Option Bool):Option (Bool):=
 (qbf s f).bind fun r=>
 some (decide (0<=r))
def qce:Fun:=
 ⟨77,2,1,
 ⟨r135_,[],[]⟩,
 ⟨[(0,bb)],[],[]⟩,
 fun x=>qay x.1 x.2⟩
theorem qet:FO qce:=fi [] [qcC] 9 [] .nil func77 ⟨⟨qft,trivial⟩,trivial⟩
def qfe(c:Int):Option (Int):=
 Option.bind (α:=Unit⊕Unit⊕Int) (
 Option.bind (α:=Bool) (
 bif decide (97<=c) then(
 some (decide (c<=122)))
 else(
 some false)) fun s=>
 bif s then(
 some (.inr (.inr 1)))
 else(
 Option.bind (α:=Bool) (
 bif decide (48<=c) then(
 some (decide (c<=57)))
 else(
 some false)) fun s2=>
 bif s2 then(
 some (.inl ()))
 else(
 bif decide (c=45) then(
 some (.inl ()))
 else(
 some (.inr (.inl ())))))) fun s3=>
 s3.elim (fun s4=>
 some 2)
 (fun s5=>
 s5.elim (fun s6=>
 some 0)
 (fun s7=>
 some s7))
def qnr:Fun:=
 ⟨149,1,1,
 ⟨[(0,dd (.int .u8))],[],[]⟩,
 ⟨[(0,ii)],[],[]⟩,
 fun x=>qfe x⟩
theorem qsL:FO qnr:=fi [] [] 20 [] ((nn (mm (mm (mm (.mk [.join [⟨.n,⟨[],[],[]⟩⟩,⟨.x 0,⟨[],[],[]⟩⟩,⟨.r,⟨[(2,ii)],[],[]⟩⟩]] none (mm (mm (mm (mm (mm (mm (.mk [.join [⟨.n,⟨[(0,kk),(3,bb)],[],[]⟩⟩]] none .nil .nil) .nil) (mm (mm (.mk [.join [⟨.n,⟨[(0,kk),(10,bb)],[],[]⟩⟩]] none .nil .nil) .nil) .nil)) .nil) .nil) .nil) .nil) .nil) .nil) .nil) .nil))) func149 ⟨trivial,trivial⟩
def qb7(s:List UInt8)(v:Int):Option (Int⊕(Unit⊕Bool)):=
 bif decide (v<(s.length:Int)) then(
 gd (inB v s.length)<|
 (qfe (Int.ofNat (s.getD v.toNat 0).toNat)).bind fun r2=>
 bif decide (r2=0) then(
 some (.inr (.inr false)))
 else(
 some (.inl (wi64 (v+1)))))
 else(
 some (.inr (.inl ())))
def qcz(s:List UInt8):Option (Bool):=
 Option.bind (α:=Bool) (
 bif decide ((s.length:Int)<1) then(
 some true)
 else(
 bif decide (12<(s.length:Int)) then(
 some true)
 else(
 gd (inB 0 s.length)<|
 (qfe (Int.ofNat (s.getD 0 0).toNat)).bind fun r=>
 some (!decide (r=1))))) fun s2=>
 bif s2 then(
 some false)
 else(
 (iter (fun x=>qb7 s x) 0).bind fun s3=>
 s3.elim (fun s4=>
 some true)
 (fun s5=>
 some s5))
def qfu:Fun:=
 ⟨79,1,1,
 ⟨[(0,ss)],[],[]⟩,
 ⟨[(0,bb)],[],[]⟩,
 fun x=>qcz x⟩
theorem qhH:FO qfu:=fi [] [qnr] 29 [] ((nn (mm (mm (.mk [.join [⟨.n,⟨[(0,kk),(17,bb)],[],[]⟩⟩]] none .nil .nil) .nil) (mm (nn (mm (.mk [] (some (⟨[(0,kk),(19,kk),(20,ii)],[],[]⟩,[⟨.x 0,⟨[],[],[]⟩⟩,⟨.r,⟨[(2,bb)],[],[]⟩⟩])) .nil .nil) .nil)) .nil)))) func79 ⟨⟨qsL,trivial⟩,trivial⟩
def qc2(s:List UInt8):Option (Bool):=
 (qcz s).bind fun r=>
 some (!r)
def qiO:Fun:=
 ⟨78,1,1,
 ⟨[(0,ss)],[],[]⟩,
 ⟨[(0,bb)],[],[]⟩,
 fun x=>qc2 x⟩
theorem qoP:FO qiO:=fi [] [qfu] 6 [] .nil func78 ⟨⟨qhH,trivial⟩,trivial⟩
def qaG(s:List (List UInt8))(v:List UInt8)(v2:Int):Option (Int⊕(Unit⊕Int)):=
 bif decide (v2<(s.length:Int)) then(
 gd (inB v2 s.length)<|
 bif decide (v=s.getD v2.toNat []) then(
 some (.inr (.inr v2)))
 else(
 some (.inl (wi64 (v2+1)))))
 else(
 some (.inr (.inl ())))
def qaz(s:List (List UInt8))(v:List UInt8):Option (Int):=
 (iter (fun x=>qaG s v x) 0).bind fun s2=>
 s2.elim (fun s3=>
 some (-1))
 (fun s4=>
 some s4)
def qb0:Fun:=
 ⟨150,2,1,
 ⟨[(0,dd (.sl (.str))),(1,ss)],[],[]⟩,
 ⟨[(0,ii)],[],[]⟩,
 fun x=>qaz x.1 x.2⟩
theorem qdq:FO qb0:=fi [] [] 19 [] ((nn (mm (nn (mm (.mk [] (some (⟨r32_,[],[]⟩,[⟨.x 0,⟨[],[],[]⟩⟩,⟨.r,⟨[(4,ii)],[],[]⟩⟩])) .nil .nil) .nil)) .nil))) func150 ⟨trivial,trivial⟩
def qlD(x:yB2)(v:yB2):Option (Bool):=
 some (decide (x.2.1=v.2.1))
def qiP:Fun:=
 ⟨152,2,1,
 ⟨[(0,dd tT4),(1,.one (.sel tT4))],[],[]⟩,
 ⟨[(0,bb)],[],[]⟩,
 fun x=>qlD x.1 x.2⟩
theorem qoQ:FO qiP:=fi [] [] 9 [] .nil func152 ⟨trivial,trivial⟩
def qag(s:List yB2)(f:yB2×Unit->Option Bool)(v:Int):Option (Int⊕(Unit⊕Int)):=
 bif decide (v<(s.length:Int)) then(
 gd (inB v s.length)<|
 (f (s.getD v.toNat ([],0,0,0,0),())).bind fun r=>
 bif r then(
 some (.inr (.inr v)))
 else(
 some (.inl (wi64 (v+1)))))
 else(
 some (.inr (.inl ())))
def qaa(s:List yB2)(f:yB2×Unit->Option Bool):Option (Int):=
 (iter (fun x=>qag s f x) 0).bind fun s2=>
 s2.elim (fun s3=>
 some (-1))
 (fun s4=>
 some s4)
def qaB:Fun:=
 ⟨151,2,1,
 ⟨r73_,[],[]⟩,
 ⟨[(0,ii)],[],[]⟩,
 fun x=>qaa x.1 x.2⟩
theorem qaQ:FO qaB:=fi [] [] 19 [] ((nn (mm (nn (mm (.mk [] (some (⟨r32_,[],[]⟩,[⟨.x 0,⟨[],[],[]⟩⟩,⟨.r,⟨[(4,ii)],[],[]⟩⟩])) .nil .nil) .nil)) .nil))) func151 ⟨trivial,trivial⟩
def qeT(r:yB12)(v:Int)(v2:Int):Option (Int⊕(Unit⊕Bool)):=
 bif decide (v2<(([r.1,r.2.1,r.2.2.1,r.2.2.2].getD v.toNat []).length:Int)) then(
 gd (inB v2 ([r.1,r.2.1,r.2.2.1,r.2.2.2].getD v.toNat []).length)<|
 (qaz ([r.1,r.2.1,r.2.2.1,r.2.2.2].getD v.toNat []) (([r.1,r.2.1,r.2.2.1,r.2.2.2].getD v.toNat []).getD v2.toNat [])).bind fun r2=>
 bif decide (r2<v2) then(
 some (.inr (.inr true)))
 else(
 some (.inl (wi64 (v2+1)))))
 else(
 some (.inr (.inl ())))
def qeU(r:yB12)(v:Int):Option (Int⊕(Unit⊕Bool)):=
 bif decide (v<4) then(
 gd (inB v 4)<|
 (iter (fun x=>qeT r v x) 0).bind fun s=>
 s.elim (fun s2=>
 some (.inl (wi64 (v+1))))
 (fun s3=>
 some (.inr (.inr s3))))
 else(
 some (.inr (.inl ())))
def qeV(n:yB0)(v3:Int):Option (Int⊕(Unit⊕Bool)):=
 bif decide (v3<(n.2.2.2.1.length:Int)) then(
 gd (inB v3 n.2.2.2.1.length)<|
 (qaa n.2.2.2.1 (fun h=>(qlD h.1 ((n.2.2.2.1.getD v3.toNat ([],0,0,0,0)).1,((n.2.2.2.1.getD v3.toNat ([],0,0,0,0)).2).1,(((n.2.2.2.1.getD v3.toNat ([],0,0,0,0)).2).2).1,((((n.2.2.2.1.getD v3.toNat ([],0,0,0,0)).2).2).2).1,((((n.2.2.2.1.getD v3.toNat ([],0,0,0,0)).2).2).2).2)).bind fun y=>some y)).bind fun r3=>
 bif decide (r3<v3) then(
 some (.inr (.inr true)))
 else(
 some (.inl (wi64 (v3+1)))))
 else(
 some (.inr (.inl ())))
def qfv(n:yB0):Option (Bool):=
 (qb6 (n.1,n.2.1,n.2.2.1,n.2.2.2.1,n.2.2.2.2.1,n.2.2.2.2.2)).bind fun r=>
 (iter (fun x2=>qeU r x2) 0).bind fun s4=>
 s4.elim (fun s5=>
 (iter (fun x3=>qeV n x3) 0).bind fun s7=>
 s7.elim (fun s8=>
 some false)
 (fun s9=>
 some s9))
 (fun s6=>
 some s6)
def qkS:Fun:=
 ⟨80,1,1,
 ⟨[(0,dd tT0)],[],[]⟩,
 ⟨[(0,bb)],[],[]⟩,
 fun x=>qfv x⟩
theorem qqF:FO qkS:=fi [] [qhi,qb0,qaB,qiP] 43 [] ((nn (mm (nn (mm (.mk [] (some (⟨[(1,pt 32 0),(10,kk),(11,ii)],v7_,[]⟩,[⟨.x 0,⟨[(1,pt 32 0)],v7_,[]⟩⟩,⟨.r,⟨[(2,bb)],[],[]⟩⟩])) (nn (nn (mm (mm (nn (nn (mm (.mk [] (some (⟨[(1,pt 32 0),(4,kk),(10,kk),(11,kk),(14,kk),(15,kk),(16,ii)],v7_,[]⟩,[⟨.x 2,⟨[(1,pt 32 0),(10,kk),(11,kk)],v7_,[]⟩⟩,⟨.r,⟨[(2,bb)],[],[]⟩⟩])) .nil .nil) .nil))) .nil) .nil))) .nil) .nil)) (mm (nn (mm (.mk [] (some (⟨[(1,pt 32 0),(29,kk),(30,kk),(31,ii)],v7_,[]⟩,[⟨.x 4,⟨[],[],[]⟩⟩,⟨.r,⟨[(2,bb)],[],[]⟩⟩])) (nn (nn (mm (mm (nn (mm (.mk [.fv [(8,.pair (.str) (.pair I6 (.pair I6 (.pair I6 I6))))]] none .nil .nil) .nil)) .nil) .nil))) .nil) .nil)) .nil)))) func80 ⟨⟨qkR,qdq,qaQ,qoQ,trivial⟩,trivial⟩
def qfw(k:Int)(v:yB0):Option (Bool):=
 bif decide (k<0) then(
 some true)
 else(
 some (decide ((v.1.length:Int)<=k)))
def qiQ:Fun:=
 ⟨154,2,1,
 ⟨[(0,ii),(1,.one (.sel tT0))],[],[]⟩,
 ⟨[(0,bb)],[],[]⟩,
 fun x=>qfw x.1 x.2⟩
theorem qoR:FO qiQ:=fi [] [] 13 [] .nil func154 ⟨trivial,trivial⟩
def qaK(s:List Int)(f:Int×Unit->Option Bool)(v:Int):Option (Int⊕(Unit⊕Int)):=
 bif decide (v<(s.length:Int)) then(
 gd (inB v s.length)<|
 (f (s.getD v.toNat 0,())).bind fun r=>
 bif r then(
 some (.inr (.inr v)))
 else(
 some (.inl (wi64 (v+1)))))
 else(
 some (.inr (.inl ())))
def qbV(s:List Int)(f:Int×Unit->Option Bool):Option (Int):=
 (iter (fun x=>qaK s f x) 0).bind fun s2=>
 s2.elim (fun s3=>
 some (-1))
 (fun s4=>
 some s4)
def qdP:Fun:=
 ⟨224,2,1,
 ⟨r130_,[],[]⟩,
 ⟨[(0,ii)],[],[]⟩,
 fun x=>qbV x.1 x.2⟩
theorem qh4:FO qdP:=fi [] [] 19 [] ((nn (mm (nn (mm (.mk [] (some (⟨r32_,[],[]⟩,[⟨.x 0,⟨[],[],[]⟩⟩,⟨.r,⟨[(4,ii)],[],[]⟩⟩])) .nil .nil) .nil)) .nil))) func224 ⟨trivial,trivial⟩
def qaE(s:List Int)(f:Int×Unit->Option Bool):Option (Bool):=
 (qbV s f).bind fun r=>
 some (decide (0<=r))
def qbg:Fun:=
 ⟨153,2,1,
 ⟨r130_,[],[]⟩,
 ⟨[(0,bb)],[],[]⟩,
 fun x=>qaE x.1 x.2⟩
theorem qbK:FO qbg:=fi [] [qdP] 9 [] .nil func153 ⟨⟨qh4,trivial⟩,trivial⟩
def qeW(n:yB0)(v:Int)(all:List Int):Option ((Int×List Int)⊕(List Int)):=
 bif decide (v<(n.2.1.length:Int)) then(
 gd (inB v n.2.1.length)<|
 gd (fits (all.length+2) 8)<|
 some (.inl (wi64 (v+1),all++[((n.2.1.getD v.toNat ([],(0,(0,(0,(0,(0,[]))))))).2).1,(((n.2.1.getD v.toNat ([],(0,(0,(0,(0,(0,[]))))))).2).2).1])))
 else(
 some (.inr all))
def qeX(n:yB0)(v2:Int)(all2:List Int):Option ((Int×List Int)⊕(List Int)):=
 bif decide (v2<(n.2.2.1.length:Int)) then(
 gd (inB v2 n.2.2.1.length)<|
 gd (fits (all2.length+1) 8)<|
 some (.inl (wi64 (v2+1),all2++[((n.2.2.1.getD v2.toNat ([],(0,0))).2).1])))
 else(
 some (.inr all2))
def qeY(n:yB0)(v3:Int)(all3:List Int):Option ((Int×List Int)⊕(List Int)):=
 bif decide (v3<(n.2.2.2.1.length:Int)) then(
 gd (inB v3 n.2.2.2.1.length)<|
 gd (fits (all3.length+1) 8)<|
 some (.inl (wi64 (v3+1),all3++[((n.2.2.2.1.getD v3.toNat ([],(0,(0,(0,0))))).2).1])))
 else(
 some (.inr all3))
def qfx(n:yB0):Option (Bool):=
 (iter (fun x=>qeW n x.1 x.2) (0,[])).bind fun s=>
 (iter (fun x2=>qeX n x2.1 x2.2) (0,s)).bind fun s2=>
 (iter (fun x3=>qeY n x3.1 x3.2) (0,s2)).bind fun s3=>
 (qaE s3 (fun h=>(qfw h.1 (n.1,n.2.1,n.2.2.1,n.2.2.2.1,n.2.2.2.2.1,n.2.2.2.2.2)).bind fun y=>some y)).bind fun r=>
 some (!r)
def qkT:Fun:=
 ⟨81,1,1,
 ⟨[(0,dd tT0)],[],[]⟩,
 ⟨[(0,bb)],[],[]⟩,
 fun x=>qfx x⟩
theorem qqG:FO qkT:=fi [] [qbg,qiQ] 55 [] ((nn (nn (mm (nn (mm (.mk [] (some (⟨[(1,pt 32 0),(3,ow 75),(11,kk),(12,kk),(13,ii)],v7_,a100_⟩,[⟨.x 0,⟨[(1,pt 32 0),(3,ow 75)],v7_,a100_⟩⟩])) .nil .nil) .nil)) (mm (nn (mm (.mk [] (some (⟨[(1,pt 32 0),(3,ow 75),(26,kk),(27,kk),(28,ii)],v7_,a100_⟩,[⟨.x 2,⟨[(1,pt 32 0),(3,ow 75)],v7_,a100_⟩⟩])) .nil .nil) .nil)) (mm (nn (mm (.mk [] (some (⟨[(1,pt 32 0),(3,ow 75),(39,kk),(40,kk),(41,ii)],v7_,a100_⟩,[⟨.x 4,⟨[(1,pt 32 0),(3,ow 75)],v7_,a100_⟩⟩])) .nil .nil) .nil)) (mm (.mk [.fv [(1,.pair (.sl (.str)) (.pair (.sl (.pair (.str) tT5)) (.pair (.sl tT7) (.pair (.sl tT4) (.pair I6 I6)))))]] none .nil .nil) .nil))))))) func81 ⟨⟨qbK,qoR,trivial⟩,trivial⟩
def qbW(n:Int)(least:Int)(most:Int):Option (Bool):=
 bif decide (least<=n) then(
 some (decide (n<=most)))
 else(
 some false)
def qfy:Fun:=
 ⟨159,3,1,
 ⟨[(0,ii),(1,ii),(2,ii)],[],[]⟩,
 ⟨[(0,bb)],[],[]⟩,
 fun x=>qbW x.1 x.2.1 x.2.2⟩
theorem qhI:FO qfy:=fi [] [] 15 [] .nil func159 ⟨trivial,trivial⟩
def qfz(s:yB9)(v:Int):Option (Int⊕(Unit⊕Bool)):=
 bif decide (v<(s.2.2.2.2.2.2.length:Int)) then(
 gd (inB v s.2.2.2.2.2.2.length)<|
 Option.bind (α:=Bool) (
 (qbW (((s.2.2.2.2.2.2.getD v.toNat (0,0,0)).2).1) (-500) 5000).bind fun r4=>
 bif !r4 then(
 some true)
 else(
 (qbW (((s.2.2.2.2.2.2.getD v.toNat (0,0,0)).2).2) 0 100000000).bind fun r5=>
 bif !r5 then(
 some true)
 else(
 bif decide (0<v) then(
 gd (inB (wi64 (v-1)) s.2.2.2.2.2.2.length)<|
 some (decide ((s.2.2.2.2.2.2.getD v.toNat (0,(0,0))).1<=(s.2.2.2.2.2.2.getD (wi64 (v-1)).toNat (0,(0,0))).1)))
 else(
 some false)))) fun s3=>
 bif s3 then(
 some (.inr (.inr false)))
 else(
 some (.inl (wi64 (v+1)))))
 else(
 some (.inr (.inl ())))
def qgV(s:yB9):Option (Bool):=
 Option.bind (α:=Bool) (
 bif decide (s.2.1=s.2.2.1) then(
 some true)
 else(
 (qbW s.2.2.2.1 1 1000000).bind fun r=>
 bif !r then(
 some true)
 else(
 (qbW s.2.2.2.2.1 0 1000).bind fun r2=>
 bif !r2 then(
 some true)
 else(
 (qbW s.2.2.2.2.2.1 0 100000).bind fun r3=>
 some (!r3))))) fun s2=>
 bif s2 then(
 some false)
 else(
 (iter (fun x=>qfz s x) 0).bind fun s4=>
 s4.elim (fun s5=>
 gd (inB 0 s.2.2.2.2.2.2.length)<|
 bif decide ((s.2.2.2.2.2.2.getD 0 (0,0,0)).1=0) then(
 gd (inB (wi64 ((s.2.2.2.2.2.2.length:Int)-1)) s.2.2.2.2.2.2.length)<|
 some (decide ((s.2.2.2.2.2.2.getD (wi64 ((s.2.2.2.2.2.2.length:Int)-1)).toNat (0,(0,0))).1=s.2.2.2.1)))
 else(
 some false))
 (fun s6=>
 some s6))
def qlE:Fun:=
 ⟨156,1,1,
 ⟨r109_,[],[]⟩,
 ⟨[(0,bb)],[],[]⟩,
 fun x=>qgV x⟩
theorem qrR:FO qlE:=fi [] [qfy] 83 [] ((nn (mm (mm (.mk [.join [⟨.n,⟨[(1,pt 32 0),(27,bb)],v114_,[]⟩⟩]] none .nil .nil) .nil) (mm (nn (mm (.mk [] (some (⟨[(1,pt 32 0),(29,kk),(30,kk),(31,ii)],v114_,[]⟩,[⟨.x 0,⟨[(1,pt 32 0)],v114_,[]⟩⟩,⟨.r,⟨[(2,bb)],[],[]⟩⟩])) (nn (nn (mm (mm (nn (mm (.mk [.join [⟨.n,⟨[(1,pt 32 0),(29,kk),(30,kk),(31,kk),(61,bb)],v114_,[]⟩⟩]] none .nil .nil) .nil)) .nil) .nil))) .nil) .nil)) .nil)))) func156 ⟨⟨qhI,trivial⟩,trivial⟩
def qeZ(s:yB9):Option (Bool):=
 (qgV (s.1,s.2.1,s.2.2.1,s.2.2.2.1,s.2.2.2.2.1,s.2.2.2.2.2.1,s.2.2.2.2.2.2)).bind fun r=>
 some (!r)
def qh5:Fun:=
 ⟨155,1,1,
 ⟨r109_,[],[]⟩,
 ⟨[(0,bb)],[],[]⟩,
 fun x=>qeZ x⟩
theorem qoa:FO qh5:=fi [] [qlE] 6 [] .nil func155 ⟨⟨qrR,trivial⟩,trivial⟩
def qan(s:List (List UInt8×Int×Int))(f:(List UInt8×Int×Int)×Unit->Option Bool)(v:Int):Option (Int⊕(Unit⊕Int)):=
 bif decide (v<(s.length:Int)) then(
 gd (inB v s.length)<|
 (f (s.getD v.toNat ([],0,0),())).bind fun r=>
 bif r then(
 some (.inr (.inr v)))
 else(
 some (.inl (wi64 (v+1)))))
 else(
 some (.inr (.inl ())))
def qaF(s:List (List UInt8×Int×Int))(f:(List UInt8×Int×Int)×Unit->Option Bool):Option (Int):=
 (iter (fun x=>qan s f x) 0).bind fun s2=>
 s2.elim (fun s3=>
 some (-1))
 (fun s4=>
 some s4)
def qbc:Fun:=
 ⟨225,2,1,
 ⟨r103_,[],[]⟩,
 ⟨[(0,ii)],[],[]⟩,
 fun x=>qaF x.1 x.2⟩
theorem qb4:FO qbc:=fi [] [] 19 [] ((nn (mm (nn (mm (.mk [] (some (⟨r32_,[],[]⟩,[⟨.x 0,⟨[],[],[]⟩⟩,⟨.r,⟨[(4,ii)],[],[]⟩⟩])) .nil .nil) .nil)) .nil))) func225 ⟨trivial,trivial⟩
def qaJ(s:List (List UInt8×Int×Int))(f:(List UInt8×Int×Int)×Unit->Option Bool):Option (Bool):=
 (qaF s f).bind fun r=>
 some (decide (0<=r))
def qbD:Fun:=
 ⟨157,2,1,
 ⟨r103_,[],[]⟩,
 ⟨[(0,bb)],[],[]⟩,
 fun x=>qaJ x.1 x.2⟩
theorem qdL:FO qbD:=fi [] [qbc] 9 [] .nil func157 ⟨⟨qb4,trivial⟩,trivial⟩
def qe0(p:List UInt8×Int×Int):Option (Bool):=
 (qbW p.2.2 0 100000000).bind fun r=>
 some (!r)
def qh6:Fun:=
 ⟨158,1,1,
 ⟨[(0,dd tT7)],[],[]⟩,
 ⟨[(0,bb)],[],[]⟩,
 fun x=>qe0 x⟩
theorem qob:FO qh6:=fi [] [qfy] 7 [] .nil func158 ⟨⟨qhI,trivial⟩,trivial⟩
def qaC(s:List yB2)(f:yB2×Unit->Option Bool):Option (Bool):=
 (qaa s f).bind fun r=>
 some (decide (0<=r))
def qbm:Fun:=
 ⟨160,2,1,
 ⟨r73_,[],[]⟩,
 ⟨[(0,bb)],[],[]⟩,
 fun x=>qaC x.1 x.2⟩
theorem qcZ:FO qbm:=fi [] [qaB] 9 [] .nil func160 ⟨⟨qaQ,trivial⟩,trivial⟩
def qe1(s:yB2):Option (Bool):=
 (qbW s.2.2.1 0 100000000).bind fun r=>
 bif !r then(
 some true)
 else(
 (qbW s.2.2.2.1 0 100000).bind fun r2=>
 bif !r2 then(
 some true)
 else(
 (qbW s.2.2.2.2 0 100000000).bind fun r3=>
 some (!r3)))
def qh7:Fun:=
 ⟨161,1,1,
 ⟨[(0,dd tT4)],[],[]⟩,
 ⟨[(0,bb)],[],[]⟩,
 fun x=>qe1 x⟩
theorem qoc:FO qh7:=fi [] [qfy] 19 [] .nil func161 ⟨⟨qhI,trivial⟩,trivial⟩
def qeu(n:yB0):Option (Bool):=
 (qam n.2.1 (fun h=>(qeZ h.1).bind fun y=>some y)).bind fun r=>
 bif r then(
 some false)
 else(
 (qaJ n.2.2.1 (fun h2=>(qe0 h2.1).bind fun y=>some y)).bind fun r2=>
 bif r2 then(
 some false)
 else(
 (qaC n.2.2.2.1 (fun h3=>(qe1 h3.1).bind fun y=>some y)).bind fun r3=>
 bif r3 then(
 some false)
 else(
 (qbW n.2.2.2.2.1 (-100000) 100000000).bind fun r4=>
 bif r4 then(
 (qbW n.2.2.2.2.2 0 100).bind fun r5=>
 some r5)
 else(
 some false))))
def qjz:Fun:=
 ⟨82,1,1,
 ⟨[(0,dd tT0)],[],[]⟩,
 ⟨[(0,bb)],[],[]⟩,
 fun x=>qeu x⟩
theorem qp0:FO qjz:=fi [] [qaI,qh5,qbD,qh6,qbm,qh7,qfy] 20 [] .nil func82 ⟨⟨qbl,qoa,qdL,qob,qcZ,qoc,qhI,trivial⟩,trivial⟩
def qe2(r2:yB12)(v:Int):Option (Int⊕(Unit⊕Int)):=
 bif decide (v<4) then(
 gd (inB v 4)<|
 (qay ([r2.1,r2.2.1,r2.2.2.1,r2.2.2.2].getD v.toNat []) (fun h=>(qc2 h.1).bind fun y=>some y)).bind fun r3=>
 bif r3 then(
 some (.inr (.inr 3)))
 else(
 some (.inl (wi64 (v+1)))))
 else(
 some (.inr (.inl ())))
def qbE(n:yB0):Option (Int):=
 (qes (n.1,n.2.1,n.2.2.1,n.2.2.2.1,n.2.2.2.2.1,n.2.2.2.2.2)).bind fun r=>
 bif !r then(
 some 4)
 else(
 (qb6 (n.1,n.2.1,n.2.2.1,n.2.2.2.1,n.2.2.2.2.1,n.2.2.2.2.2)).bind fun r2=>
 (iter (fun x=>qe2 r2 x) 0).bind fun s=>
 s.elim (fun s2=>
 (qfv (n.1,n.2.1,n.2.2.1,n.2.2.2.1,n.2.2.2.2.1,n.2.2.2.2.2)).bind fun r4=>
 bif r4 then(
 some 7)
 else(
 (qfx (n.1,n.2.1,n.2.2.1,n.2.2.2.1,n.2.2.2.2.1,n.2.2.2.2.2)).bind fun r5=>
 bif !r5 then(
 some 8)
 else(
 (qeu (n.1,n.2.1,n.2.2.1,n.2.2.2.1,n.2.2.2.2.1,n.2.2.2.2.2)).bind fun r6=>
 bif !r6 then(
 some 9)
 else(
 some 0))))
 (fun s3=>
 some s3))
def qbv:Fun:=
 ⟨30,1,1,
 ⟨[(0,dd tT0)],[],[]⟩,
 ⟨[(0,ii)],[],[]⟩,
 fun x=>qbE x⟩
theorem qb1:FO qbv:=fi [] [qjy,qhi,qce,qiO,qkS,qkT,qjz] 27 [] ((nn (nn (mm (nn (mm (.mk [] (some (⟨[(1,pt 32 0),(9,kk),(10,ii)],v7_,[]⟩,[⟨.x 0,⟨[(1,pt 32 0)],v7_,[]⟩⟩,⟨.r,⟨[(2,ii)],[],[]⟩⟩])) .nil .nil) .nil)) .nil)))) func30 ⟨⟨qpZ,qkR,qet,qoP,qqF,qqG,qp0,trivial⟩,trivial⟩
def qbL(s:List UInt8)(c:Int):Option (Int):=
 (idxB s c).bind fun r=>
 some r
def qcD:Fun:=
 ⟨226,2,1,
 ⟨[(0,ss),(1,dd (.int .u8))],[],[]⟩,
 ⟨[(0,ii)],[],[]⟩,
 fun x=>qbL x.1 x.2⟩
theorem qfA:FO qcD:=fi [] [] 8 [xt264] .nil func226 ⟨trivial,⟨xk264,trivial⟩⟩
def qba(s:List UInt8)(substr:List UInt8):Option (Int):=
 Option.bind (α:=Bool) (
 bif decide ((substr.length:Int)=0) then(
 some true)
 else(
 some (decide (substr=s)))) fun s2=>
 bif s2 then(
 some 0)
 else(
 bif decide ((substr.length:Int)=1) then(
 gd (inB 0 substr.length)<|
 (qbL s (Int.ofNat (substr.getD 0 0).toNat)).bind fun r=>
 some r)
 else(
 bif decide ((s.length:Int)<=(substr.length:Int)) then(
 some (-1))
 else(
 none)))
def qb2:Fun:=
 ⟨162,2,1,
 ⟨r52_,[],[]⟩,
 ⟨[(0,ii)],[],[]⟩,
 fun x=>qba x.1 x.2⟩
theorem qdr:FO qb2:=fi [] [qcD] 143 [] ((nn (nn (mm (mm (mm (.mk [.join [⟨.n,⟨[(0,kk),(1,kk),(5,kk),(16,bb)],[],[]⟩⟩]] none .nil .nil) .nil) .nil) .nil)))) func162 ⟨⟨qfA,trivial⟩,trivial⟩
def qfB(s:List UInt8)(substr:List UInt8):Option (Int):=
 (qba s substr).bind fun r=>
 some r
def qhj:Fun:=
 ⟨85,2,1,
 ⟨r52_,[],[]⟩,
 ⟨[(0,ii)],[],[]⟩,
 fun x=>qfB x.1 x.2⟩
theorem qkU:FO qhj:=fi [] [qb2] 8 [] .nil func85 ⟨⟨qdr,trivial⟩,trivial⟩
def qqH(substr:List UInt8)(s2:List UInt8)(n:Int):Option ((List UInt8×Int)⊕Int):=
 (qfB s2 substr).bind fun r2=>
 bif decide (r2=(-1)) then(
 some (.inr n))
 else(
 gd (cutG (some (.i64,wi64 (r2+(substr.length:Int)))) none s2.length)<|
 some (.inl (s2.drop (wi64 (r2+(substr.length:Int))).toNat,wi64 (n+1))))
def qfC(s:List UInt8)(substr:List UInt8):Option (Int):=
 bif decide ((substr.length:Int)=0) then(
 none)
 else(
 bif decide ((substr.length:Int)=1) then(
 gd (inB 0 substr.length)<|
 (cntB s (Int.ofNat (substr.getD 0 0).toNat)).bind fun r=>
 some r)
 else(
 (iter (fun x=>qqH substr x.1 x.2) (s,0)).bind fun s3=>
 some s3))
def qhk:Fun:=
 ⟨31,2,1,
 ⟨r52_,[],[]⟩,
 ⟨[(0,ii)],[],[]⟩,
 fun x=>qfC x.1 x.2⟩
theorem qkV:FO qhk:=fi [] [qhj] 34 [xt84] ((nn (nn (nn (nn (mm (.mk [] (some (⟨[(0,ss),(1,kk),(5,ii)],[],[]⟩,[⟨.r,⟨[(4,ii)],[],[]⟩⟩])) .nil .nil) .nil)))))) func31 ⟨⟨qkU,trivial⟩,⟨xk84,trivial⟩⟩
def qbM(s:List UInt8)(suffix:List UInt8):Option (Bool):=
 bif decide ((suffix.length:Int)<=(s.length:Int)) then(
 gd (cutG (some (.i64,wi64 ((s.length:Int)-(suffix.length:Int)))) none s.length)<|
 some (decide (s.drop (wi64 ((s.length:Int)-(suffix.length:Int))).toNat=suffix)))
 else(
 some false)
def qcE:Fun:=
 ⟨86,2,1,
 ⟨r52_,[],[]⟩,
 ⟨[(0,bb)],[],[]⟩,
 fun x=>qbM x.1 x.2⟩
theorem qfD:FO qcE:=fi [] [] 21 [] .nil func86 ⟨trivial,trivial⟩
def qea(s:List UInt8)(suffix:List UInt8):Option (Bool):=
 (qbM s suffix).bind fun r=>
 some r
def qhw:Fun:=
 ⟨32,2,1,
 ⟨r52_,[],[]⟩,
 ⟨[(0,bb)],[],[]⟩,
 fun x=>qea x.1 x.2⟩
theorem qne:FO qhw:=fi [] [qcE] 8 [] .nil func32 ⟨⟨qfD,trivial⟩,trivial⟩
def qc3(s:List UInt8)(sep:List UInt8):Option (List UInt8×List UInt8×Bool):=
 (qba s sep).bind fun r=>
 bif decide (0<=r) then(
 gd (cutG none (some (.i64,r)) s.length)<|
 gd (cutG (some (.i64,wi64 (r+(sep.length:Int)))) none s.length)<|
 some (s.take r.toNat,s.drop (wi64 (r+(sep.length:Int))).toNat,true))
 else(
 some (s,[],false))
def qdQ:Fun:=
 ⟨87,2,3,
 ⟨r52_,[],[]⟩,
 ⟨[(0,ss),(1,ss),(2,bb)],[],[]⟩,
 fun x=>qc3 x.1 x.2⟩
theorem qh8:FO qdQ:=fi [] [qb2] 23 [] .nil func87 ⟨⟨qdr,trivial⟩,trivial⟩
def qkf(s:List UInt8)(sep:List UInt8):Option (List UInt8×List UInt8×Bool):=
 (qc3 s sep).bind fun r=>
 some (r.1,r.2.1,r.2.2)
def qns:Fun:=
 ⟨33,2,3,
 ⟨r52_,[],[]⟩,
 ⟨[(0,ss),(1,ss),(2,bb)],[],[]⟩,
 fun x=>qkf x.1 x.2⟩
theorem qsM:FO qns:=fi [] [qdQ] 13 [] .nil func33 ⟨⟨qh8,trivial⟩,trivial⟩
def qff(s:List UInt8)(sep:List UInt8)(sepSave:Int)(s2:Int)(s3:List UInt8)(i:Int)(a:List (List UInt8)):Option ((List UInt8×Int×List (List UInt8))⊕(List UInt8×Int×List (List UInt8))):=
 bif decide (i<wi64 ((min s2 (wi64 ((s.length:Int)+1)))-1)) then(
 (qfB s3 sep).bind fun r2=>
 bif decide (r2<0) then(
 some (.inr (s3,i,a)))
 else(
 gd (cutG none (some (.i64,wi64 (r2+sepSave))) s3.length)<|
 gd (inB i a.length)<|
 gd (cutG (some (.i64,wi64 (r2+(sep.length:Int)))) none s3.length)<|
 some (.inl (s3.drop (wi64 (r2+(sep.length:Int))).toNat,wi64 (i+1),a.set i.toNat (s3.take (wi64 (r2+sepSave)).toNat)))))
 else(
 some (.inr (s3,i,a)))
def qhl(s:List UInt8)(sep:List UInt8)(sepSave:Int)(n:Int):Option (List (List UInt8)):=
 bif decide (n=0) then(
 some [])
 else(
 bif decide (sep=[]) then(
 none)
 else(
 Option.bind (α:=Int) (
 bif decide (n<0) then(
 (qfC s sep).bind fun r=>
 some (wi64 (r+1)))
 else(
 some n)) fun s2=>
 gd (makeG 16 (min s2 (wi64 ((s.length:Int)+1))))<|
 (iter (fun x=>qff s sep sepSave s2 x.1 x.2.1 x.2.2) (s,0,List.replicate (min s2 (wi64 ((s.length:Int)+1))).toNat ([]:List UInt8))).bind fun s4=>
 gd (inB s4.2.1 s4.2.2.length)<|
 gd (cutG none (some (.i64,wi64 (s4.2.1+1))) (s4.2.2.set s4.2.1.toNat s4.1).length)<|
 some ((s4.2.2.set s4.2.1.toNat s4.1).take (wi64 (s4.2.1+1)).toNat)))
def qh9:Fun:=
 ⟨163,4,1,
 ⟨[(0,ss),(1,ss),(2,ii),(3,ii)],[],[]⟩,
 ⟨r81_,[],[]⟩,
 fun x=>qhl x.1 x.2.1 x.2.2.1 x.2.2.2⟩
theorem qod:FO qh9:=fi [] [qhk,qhj] 66 [] ((nn (nn (nn (mm (nn (.mk [.join [⟨.n,⟨[(0,kk),(1,kk),(2,kk),(3,ii)],[],[]⟩⟩]] none .nil .nil)) (nn (nn (nn (nn (mm (mm (.mk [] (some (⟨[(0,ss),(1,kk),(2,kk),(3,kk),(9,ow 512),(10,ii)],[],[(512,.arr 9 (.str))]⟩,[⟨.x 0,⟨[(0,ss),(9,ow 512),(10,ii)],[],[(512,.arr 9 (.str))]⟩⟩])) .nil .nil) .nil) (nn (mm (.mk [.fz [9]] none .nil .nil) .nil)))))))))))) func163 ⟨⟨qkV,qkU,trivial⟩,trivial⟩
def qhJ(s:List UInt8)(sep:List UInt8):Option (List (List UInt8)):=
 (qhl s sep 0 (-1)).bind fun r=>
 some r
def qkW:Fun:=
 ⟨88,2,1,
 ⟨r52_,[],[]⟩,
 ⟨r81_,[],[]⟩,
 fun x=>qhJ x.1 x.2⟩
theorem qqI:FO qkW:=fi [] [qh9] 8 [] .nil func88 ⟨⟨qod,trivial⟩,trivial⟩
def qlF:Fun:=qAi 231
theorem qrS:FO qlF:=qDF ⟨_,func231,(by kernel_rfl),rfl⟩ strconv_Atoi_ok strconv_Atoi_syn strconv_Atoi_range (by unfold globs; exact .tail _ (.head _)) (by unfold globs; exact .tail _ (.tail _ (.head _)))
def qcF(l:List (List UInt8))(v:Int)(out:List Int):Option ((Int×List Int)⊕(List Int)):=
 bif decide (v<(l.length:Int)) then(
 gd (inB v l.length)<|
 (atoiT (l.getD v.toNat [])).bind fun r=>
 Option.bind (α:=Int×List Int) (
 bif r.2 then(
 some (0,out))
 else(
 some (r.1,out))) fun s=>
 gd (fits (s.2.length+1) 8)<|
 some (.inl (wi64 (v+1),s.2++[s.1])))
 else(
 some (.inr out))
def qbN(l:List (List UInt8)):Option (List Int):=
 (iter (fun x=>qcF l x.1 x.2) (0,[])).bind fun s2=>
 some s2
def qbX:Fun:=
 ⟨167,1,1,
 ⟨r81_,[],[]⟩,
 ⟨[(0,ow 0)],[],[(0,.arr 3 I6)]⟩,
 fun x=>qbN x⟩
theorem qcG:FO qbX:=fi [] [qlF] 27 [] ((nn (nn (mm (nn (mm (.mk [] (some (⟨[(3,ow 75),(8,kk),(9,kk),(10,ii)],[],a100_⟩,[⟨.x 0,⟨[(3,ow 75)],[],a100_⟩⟩])) (nn (nn (mm (mm (nn (nn (mm (nn (.mk [.join [⟨.n,⟨[(3,ow 75),(6,ii),(8,kk),(9,kk),(10,kk)],[],a100_⟩⟩]] none .nil .nil)) .nil))) .nil) .nil))) .nil) .nil)) .nil)))) func167 ⟨⟨qrS,trivial⟩,trivial⟩
def qfE(w:List (List UInt8))(s:Int)(s2:List Int)(s3:Int)(s4:Int)(s5:Int)(s6:Int)(s7:Int)(s8:List (Int×Bool))(s9:Int)(s10:List UInt8)(s11:Int)(s12:Int):Option (Int×List Int×Int×Int×Int×Int×Int×(List (Int×Bool))×Int×List UInt8×Int×Int):=
 (qbN w).bind fun r=>
 gd (inB 0 r.length)<|
 some (s,s2,s3,r.getD 0 0,s5,s6,s7,s8,s9,s10,s11,s12)
def qgW:Fun:=
 ⟨166,2,0,
 ⟨[(0,pt 0 2),(1,dd (.sl (.str)))],v5_,[]⟩,
 ⟨[],v5_,[]⟩,
 fun x=>qfE x.1 x.2.1 x.2.2.1 x.2.2.2.1 x.2.2.2.2.1 x.2.2.2.2.2.1 x.2.2.2.2.2.2.1 x.2.2.2.2.2.2.2.1 x.2.2.2.2.2.2.2.2.1 x.2.2.2.2.2.2.2.2.2.1 x.2.2.2.2.2.2.2.2.2.2.1 x.2.2.2.2.2.2.2.2.2.2.2.1 x.2.2.2.2.2.2.2.2.2.2.2.2⟩
theorem qlG:FO qgW:=fi [] [qbX] 11 [] .nil func166 ⟨⟨qcG,trivial⟩,trivial⟩
def qc0(x:yB2)(v:List (List UInt8)):Option (Bool):=
 gd (inB 0 v.length)<|
 some (decide (x.1=v.getD 0 []))
def qfF:Fun:=
 ⟨169,2,1,
 ⟨[(0,dd tT4),(1,.one (.sel (.sl (.str))))],[],[]⟩,
 ⟨[(0,bb)],[],[]⟩,
 fun x=>qc0 x.1 x.2⟩
theorem qkg:FO qfF:=fi [] [] 10 [] .nil func169 ⟨trivial,trivial⟩
def qfG(w:List (List UInt8))(v:yB0)(s:Int)(s2:List Int)(s3:Int)(s4:Int)(s5:Int)(s6:Int)(s7:Int)(s8:List (Int×Bool))(s9:Int)(s10:List UInt8)(s11:Int)(s12:Int):Option (Int×List Int×Int×Int×Int×Int×Int×(List (Int×Bool))×Int×List UInt8×Int×Int):=
 (qaa v.2.2.2.1 (fun h=>(qc0 h.1 w).bind fun y=>some y)).bind fun r=>
 some (s,s2,s3,r,s5,s6,s7,s8,s9,s10,s11,s12)
def qgX:Fun:=
 ⟨168,3,0,
 ⟨r128_,v5_,[]⟩,
 ⟨[],v5_,[]⟩,
 fun x=>qfG x.1 x.2.1 x.2.2.1 x.2.2.2.1 x.2.2.2.2.1 x.2.2.2.2.2.1 x.2.2.2.2.2.2.1 x.2.2.2.2.2.2.2.1 x.2.2.2.2.2.2.2.2.1 x.2.2.2.2.2.2.2.2.2.1 x.2.2.2.2.2.2.2.2.2.2.1 x.2.2.2.2.2.2.2.2.2.2.2.1 x.2.2.2.2.2.2.2.2.2.2.2.2.1 x.2.2.2.2.2.2.2.2.2.2.2.2.2⟩
theorem qlH:FO qgX:=fi [] [qaB,qfF] 12 [] ((nn (.mk [.fv [(4,.sl (.str))]] none .nil .nil))) func168 ⟨⟨qaQ,qkg,trivial⟩,trivial⟩
def qfH(w:List (List UInt8))(s:Int)(s2:List Int)(s3:Int)(s4:Int)(s5:Int)(s6:Int)(s7:Int)(s8:List (Int×Bool))(s9:Int)(s10:List UInt8)(s11:Int)(s12:Int):Option (Int×List Int×Int×Int×Int×Int×Int×(List (Int×Bool))×Int×List UInt8×Int×Int):=
 (qbN w).bind fun r=>
 gd (inB 0 r.length)<|
 some (s,s2,s3,s4,r.getD 0 0,s6,s7,s8,s9,s10,s11,s12)
def qgY:Fun:=
 ⟨170,2,0,
 ⟨[(0,pt 0 2),(1,dd (.sl (.str)))],v5_,[]⟩,
 ⟨[],v5_,[]⟩,
 fun x=>qfH x.1 x.2.1 x.2.2.1 x.2.2.2.1 x.2.2.2.2.1 x.2.2.2.2.2.1 x.2.2.2.2.2.2.1 x.2.2.2.2.2.2.2.1 x.2.2.2.2.2.2.2.2.1 x.2.2.2.2.2.2.2.2.2.1 x.2.2.2.2.2.2.2.2.2.2.1 x.2.2.2.2.2.2.2.2.2.2.2.1 x.2.2.2.2.2.2.2.2.2.2.2.2⟩
theorem qlI:FO qgY:=fi [] [qbX] 11 [] .nil func170 ⟨⟨qcG,trivial⟩,trivial⟩
def qnt(p:List UInt8×Int×Int)(v:List UInt8):Option (Bool):=
 some (decide (p.1=v))
def qjA:Fun:=
 ⟨232,2,1,
 ⟨[(0,dd tT7),(1,.one (.sel (.str)))],[],[]⟩,
 ⟨[(0,bb)],[],[]⟩,
 fun x=>qnt x.1 x.2⟩
theorem qp1:FO qjA:=fi [] [] 8 [] .nil func232 ⟨trivial,trivial⟩
def qgZ(n:yB0)(name:List UInt8):Option (Int):=
 (qaF n.2.2.1 (fun h=>(qnt h.1 name).bind fun y=>some y)).bind fun r=>
 some r
def qlJ:Fun:=
 ⟨172,2,1,
 ⟨r131_,[],[]⟩,
 ⟨[(0,ii)],[],[]⟩,
 fun x=>qgZ x.1 x.2⟩
theorem qrT:FO qlJ:=fi [] [qbc,qjA] 9 [] ((nn (mm (.mk [.fv [(3,.str)]] none .nil .nil) .nil))) func172 ⟨⟨qb4,qp1,trivial⟩,trivial⟩
def qbO(s:List UInt8)(vprefix:List UInt8):Option (Bool):=
 bif decide ((vprefix.length:Int)<=(s.length:Int)) then(
 gd (cutG none (some (.i64,(vprefix.length:Int))) s.length)<|
 some (decide (s.take (vprefix.length:Int).toNat=vprefix)))
 else(
 some false)
def qcH:Fun:=
 ⟨295,2,1,
 ⟨r52_,[],[]⟩,
 ⟨[(0,bb)],[],[]⟩,
 fun x=>qbO x.1 x.2⟩
theorem qfI:FO qcH:=fi [] [] 18 [] .nil func295 ⟨trivial,trivial⟩
def qbP(s:List UInt8)(vprefix:List UInt8):Option (List UInt8×Bool):=
 (qbO s vprefix).bind fun r=>
 bif !r then(
 some (s,false))
 else(
 gd (cutG (some (.i64,(vprefix.length:Int))) none s.length)<|
 some (s.drop (vprefix.length:Int).toNat,true))
def qcI:Fun:=
 ⟨269,2,2,
 ⟨r52_,[],[]⟩,
 ⟨[(0,ss),(1,bb)],[],[]⟩,
 fun x=>qbP x.1 x.2⟩
theorem qfJ:FO qcI:=fi [] [qcH] 15 [] .nil func269 ⟨⟨qfI,trivial⟩,trivial⟩
def qeb(s:List UInt8)(vprefix:List UInt8):Option (List UInt8×Bool):=
 (qbP s vprefix).bind fun r=>
 some (r.1,r.2)
def qhx:Fun:=
 ⟨233,2,2,
 ⟨r52_,[],[]⟩,
 ⟨[(0,ss),(1,bb)],[],[]⟩,
 fun x=>qeb x.1 x.2⟩
theorem qnf:FO qhx:=fi [] [qcI] 11 [] .nil func233 ⟨⟨qfJ,trivial⟩,trivial⟩
def qjB(s:yB9)(v:List UInt8):Option (Bool):=
 some (decide (s.1=v))
def qhy:Fun:=
 ⟨270,2,1,
 ⟨[(0,dd (.pair (.str) tT5)),(1,.one (.sel (.str)))],[],[]⟩,
 ⟨[(0,bb)],[],[]⟩,
 fun x=>qjB x.1 x.2⟩
theorem qng:FO qhy:=fi [] [] 8 [] .nil func270 ⟨trivial,trivial⟩
def qfK(n:yB0)(name:List UInt8):Option (Int):=
 (qar n.2.1 (fun h=>(qjB h.1 name).bind fun y=>some y)).bind fun r=>
 some r
def qiR:Fun:=
 ⟨234,2,1,
 ⟨r131_,[],[]⟩,
 ⟨[(0,ii)],[],[]⟩,
 fun x=>qfK x.1 x.2⟩
theorem qoS:FO qiR:=fi [] [qaP,qhy] 9 [] ((nn (mm (.mk [.fv [(3,.str)]] none .nil .nil) .nil))) func234 ⟨⟨qbr,qng,trivial⟩,trivial⟩
def qkh(n:yB0)(s:List UInt8):Option (Int×Bool):=
 (qeb s [45]).bind fun r=>
 (qfK (n.1,n.2.1,n.2.2.1,n.2.2.2.1,n.2.2.2.2.1,n.2.2.2.2.2) r.1).bind fun r2=>
 some (r2,r.2)
def qnu:Fun:=
 ⟨173,2,1,
 ⟨r131_,[],[]⟩,
 ⟨[(0,dd (.pair I6 (.bool)))],[],[]⟩,
 fun x=>qkh x.1 x.2⟩
theorem qsN:FO qnu:=fi [] [qhx,qiR] 17 [] .nil func173 ⟨⟨qnf,qoS,trivial⟩,trivial⟩
def qbn(w:List (List UInt8))(v:yB0)(v2:Int)(s13:List (Int×Bool)):Option ((Int×List (Int×Bool))⊕(List (Int×Bool))):=
 bif decide (v2<((w.drop 3).length:Int)) then(
 gd (inB v2 (w.drop 3).length)<|
 (qkh v ((w.drop 3).getD v2.toNat [])).bind fun r4=>
 gd (fits (s13.length+1) 16)<|
 some (.inl (wi64 (v2+1),s13++[(r4.1,r4.2)])))
 else(
 some (.inr s13))
def qfL(w:List (List UInt8))(v:yB0)(s:Int)(s2:List Int)(s3:Int)(s4:Int)(s5:Int)(s6:Int)(s7:Int)(s8:Int)(s9:List UInt8)(s10:Int)(s11:Int)(s12:List (Int×Bool)):Option (Int×List Int×Int×Int×Int×Int×Int×Int×List UInt8×Int×Int×List (Int×Bool)):=
 (qbN w).bind fun r=>
 gd (inB 0 r.length)<|
 gd (inB 1 w.length)<|
 (qgZ v (w.getD 1 [])).bind fun r2=>
 gd (inB 2 w.length)<|
 (qgZ v (w.getD 2 [])).bind fun r3=>
 gd (cutG (some (.i64,3)) none w.length)<|
 (iter (fun x=>qbn w v x.1 x.2) (0,s12)).bind fun s14=>
 some (s,s2,s3,s4,r.getD 0 0,r2,r3,s8,s9,s10,s11,s14)
def qg0:Fun:=
 ⟨171,3,0,
 ⟨r128_,[(0,61,[.data I6,.data (.sl I6),.data I6,.data I6,.data I6,.data I6,.data I6,.own 1,.data I6,.data (.str),.data I6,.data I6])],[(1,.arr 76 (.pair I6 (.bool)))]⟩,
 ⟨[],[(0,61,[.data I6,.data (.sl I6),.data I6,.data I6,.data I6,.data I6,.data I6,.own 2,.data I6,.data (.str),.data I6,.data I6])],[(2,.arr 76 (.pair I6 (.bool)))]⟩,
 fun x=>qfL x.1 x.2.1 x.2.2.1 x.2.2.2.1 x.2.2.2.2.1 x.2.2.2.2.2.1 x.2.2.2.2.2.2.1 x.2.2.2.2.2.2.2.1 x.2.2.2.2.2.2.2.2.1 x.2.2.2.2.2.2.2.2.2.1 x.2.2.2.2.2.2.2.2.2.2.1 x.2.2.2.2.2.2.2.2.2.2.2.1 x.2.2.2.2.2.2.2.2.2.2.2.2.1 x.2.2.2.2.2.2.2.2.2.2.2.2.2⟩
theorem qlK:FO qg0:=fi [] [qbX,qlJ,qnu] 54 [] ((nn (nn (nn (mm (.mk [] (some (⟨[(0,pt 0 2),(2,kk),(33,kk),(34,kk),(35,ii)],v69_,[(137,.arr 76 (.pair I6 (.bool)))]⟩,[⟨.x 0,⟨[],v69_,[(137,.arr 76 (.pair I6 (.bool)))]⟩⟩])) .nil .nil) .nil))))) func171 ⟨⟨qcG,qrT,qsN,trivial⟩,trivial⟩
def qcJ(w:List (List UInt8)):Option yB1:=
 (qbN w).bind fun r=>
 some (1,r,(0,0,0,0,0,[],0),[],0,0)
def qg1:Fun:=
 ⟨174,1,1,
 ⟨r81_,[],[]⟩,
 ⟨r17_,[],[]⟩,
 fun x=>qcJ x⟩
theorem qlL:FO qg1:=fi [] [qbX] 6 [] .nil func174 ⟨⟨qcG,trivial⟩,trivial⟩
def qhK:Option (List (List UInt8)):=
 some ([[],[114,101,99,101,105,118,101,100],[100,101,108,105,118,101,114,101,100],[115,108,111,112],[115,104,97,114,101]]:List (List UInt8))
def qhm:Fun:=
 ⟨176,0,1,
 ⟨[],[],[]⟩,
 ⟨r81_,[],[]⟩,
 fun x=>qhK⟩
theorem qkX:FO qhm:=fi [] [] 2 [] .nil func176 ⟨trivial,trivial⟩
def qcK(w:List (List UInt8)):Option yB1:=
 (qhK).bind fun r=>
 gd (inB 0 w.length)<|
 (qaz r (w.getD 0 [])).bind fun r2=>
 gd (inB 1 w.length)<|
 (qbN w).bind fun r3=>
 gd (inB 2 r3.length)<|
 some (3,[],(0,0,0,0,0,[],0),w.getD 1 [],max 0 r2,r3.getD 2 0)
def qg2:Fun:=
 ⟨175,1,1,
 ⟨r81_,[],[]⟩,
 ⟨r17_,[],[]⟩,
 fun x=>qcK x⟩
theorem qlM:FO qg2:=fi [] [qhm,qb0,qbX] 18 [] .nil func175 ⟨⟨qkX,qdq,qcG,trivial⟩,trivial⟩
def qrU:TI:={ t:=219,desc:=.func #[220,27] #[] false,size:=1,bytes:=8,zero:=.nilFunc,τ:=.fnc 166,eq:=false }
theorem qwT:qrU.ok prog:=⟨underlying219,by kernel_rfl,fun h=>by cases h⟩
def qbs(w:List (List UInt8))(v:Int)(v2:Unit):Option yB1:=
 (qfE w 2 [] v 0 0 0 0 [] 0 [] 0 0).bind fun r=>
 some (r.1,r.2.1,(r.2.2.1,r.2.2.2.1,r.2.2.2.2.1,r.2.2.2.2.2.1,r.2.2.2.2.2.2.1,r.2.2.2.2.2.2.2.1,r.2.2.2.2.2.2.2.2.1),r.2.2.2.2.2.2.2.2.2.1,r.2.2.2.2.2.2.2.2.2.2.1,r.2.2.2.2.2.2.2.2.2.2.2)
def qdR:Fun:=
 ⟨165,3,1,
 ⟨[(0,dd (.sl (.str))),(1,.one (.sel I6)),(2,.one (.sel (.fnc 166)))],[],[]⟩,
 ⟨r17_,[],[]⟩,
 fun x=>qbs x.1 x.2.1 x.2.2⟩
noncomputable  def cx_console_made_valve:Cx:={ Γ:=qrU::types,ow:=[],fs:=[qgW],N:=14 }
theorem qg3:FO qdR:=
 FunOk.intro (C:=cx_console_made_valve) (p:=.nil)
  func165 rfl (by kernel_rfl) rfl rfl rfl rfl ⟨qwT,qke⟩ ⟨⟨qlG,trivial⟩,trivial⟩ mx (fun x=>by kernel_rfl)
def qoT:TI:={ t:=219,desc:=.func #[220,27] #[] false,size:=1,bytes:=8,zero:=.nilFunc,τ:=.clo 168 tT0,eq:=false }
theorem quc:qoT.ok prog:=⟨underlying219,by kernel_rfl,fun h=>by cases h⟩
def qbd(w:List (List UInt8))(v:Int)(v2:yB0):Option yB1:=
 (qfG w v2 2 [] v 0 0 0 0 [] 0 [] 0 0).bind fun r=>
 some (r.1,r.2.1,(r.2.2.1,r.2.2.2.1,r.2.2.2.2.1,r.2.2.2.2.2.1,r.2.2.2.2.2.2.1,r.2.2.2.2.2.2.2.1,r.2.2.2.2.2.2.2.2.1),r.2.2.2.2.2.2.2.2.2.1,r.2.2.2.2.2.2.2.2.2.2.1,r.2.2.2.2.2.2.2.2.2.2.2)
def qda:Fun:=
 ⟨165,3,1,
 ⟨[(0,dd (.sl (.str))),(1,.one (.sel I6)),(2,.one (.sel (.clo 168 tT0)))],[],[]⟩,
 ⟨r17_,[],[]⟩,
 fun x=>qbd x.1 x.2.1 x.2.2⟩
noncomputable  def cx_console_made_station:Cx:={ Γ:=qoT::types,ow:=[],fs:=[qgX],N:=14 }
theorem qfM:FO qda:=
 FunOk.intro (C:=cx_console_made_station) (p:=.nil)
  func165 rfl (by kernel_rfl) rfl rfl rfl rfl ⟨quc,qke⟩ ⟨⟨qlH,trivial⟩,trivial⟩ mx (fun x=>by kernel_rfl)
def qtq:TI:={ t:=219,desc:=.func #[220,27] #[] false,size:=1,bytes:=8,zero:=.nilFunc,τ:=.fnc 170,eq:=false }
theorem qyO:qtq.ok prog:=⟨underlying219,by kernel_rfl,fun h=>by cases h⟩
def qc4(w:List (List UInt8))(v:Int)(v2:Unit):Option yB1:=
 (qfH w 2 [] v 0 0 0 0 [] 0 [] 0 0).bind fun r=>
 some (r.1,r.2.1,(r.2.2.1,r.2.2.2.1,r.2.2.2.2.1,r.2.2.2.2.2.1,r.2.2.2.2.2.2.1,r.2.2.2.2.2.2.2.1,r.2.2.2.2.2.2.2.2.1),r.2.2.2.2.2.2.2.2.2.1,r.2.2.2.2.2.2.2.2.2.2.1,r.2.2.2.2.2.2.2.2.2.2.2)
def qhz:Fun:=
 ⟨165,3,1,
 ⟨[(0,dd (.sl (.str))),(1,.one (.sel I6)),(2,.one (.sel (.fnc 170)))],[],[]⟩,
 ⟨r17_,[],[]⟩,
 fun x=>qc4 x.1 x.2.1 x.2.2⟩
noncomputable  def cx_console_made_wait:Cx:={ Γ:=qtq::types,ow:=[],fs:=[qgY],N:=14 }
theorem qnh:FO qhz:=
 FunOk.intro (C:=cx_console_made_wait) (p:=.nil)
  func165 rfl (by kernel_rfl) rfl rfl rfl rfl ⟨qyO,qke⟩ ⟨⟨qlI,trivial⟩,trivial⟩ mx (fun x=>by kernel_rfl)
def qtr:TI:={ t:=219,desc:=.func #[220,27] #[] false,size:=1,bytes:=8,zero:=.nilFunc,τ:=.clo 171 tT0,eq:=false }
theorem qyP:qtr.ok prog:=⟨underlying219,by kernel_rfl,fun h=>by cases h⟩
def qc5(w:List (List UInt8))(v:Int)(v2:yB0):Option yB1:=
 Option.bind (α:=Int×List Int×Int×Int×Int×Int×Int×Int×List UInt8×Int×Int×List (Int×Bool)) (
 some (0,[],0,0,0,0,0,0,[],0,0,[])) fun s=>
 Option.bind (α:=Int×List Int×Int×Int×Int×Int×Int×Int×List UInt8×Int×Int×Int×List Int×Int×Int×Int×Int×Int×Int×List UInt8×Int×Int×(List (Int×Bool))×List (Int×Bool)) (
 some (s.1,s.2.1,s.2.2.1,s.2.2.2.1,s.2.2.2.2.1,s.2.2.2.2.2.1,s.2.2.2.2.2.2.1,s.2.2.2.2.2.2.2.1,s.2.2.2.2.2.2.2.2.1,s.2.2.2.2.2.2.2.2.2.1,s.2.2.2.2.2.2.2.2.2.2.1,2,[],v,0,0,0,0,0,[],0,0,s.2.2.2.2.2.2.2.2.2.2.2,[])) fun s2=>
 (qfL w v2 s2.2.2.2.2.2.2.2.2.2.2.2.1 s2.2.2.2.2.2.2.2.2.2.2.2.2.1 s2.2.2.2.2.2.2.2.2.2.2.2.2.2.1 s2.2.2.2.2.2.2.2.2.2.2.2.2.2.2.1 s2.2.2.2.2.2.2.2.2.2.2.2.2.2.2.2.1 s2.2.2.2.2.2.2.2.2.2.2.2.2.2.2.2.2.1 s2.2.2.2.2.2.2.2.2.2.2.2.2.2.2.2.2.2.1 s2.2.2.2.2.2.2.2.2.2.2.2.2.2.2.2.2.2.2.1 s2.2.2.2.2.2.2.2.2.2.2.2.2.2.2.2.2.2.2.2.1 s2.2.2.2.2.2.2.2.2.2.2.2.2.2.2.2.2.2.2.2.2.1 s2.2.2.2.2.2.2.2.2.2.2.2.2.2.2.2.2.2.2.2.2.2.1 s2.2.2.2.2.2.2.2.2.2.2.2.2.2.2.2.2.2.2.2.2.2.2.2).bind fun r=>
 some (r.1,r.2.1,(r.2.2.1,r.2.2.2.1,r.2.2.2.2.1,r.2.2.2.2.2.1,r.2.2.2.2.2.2.1,r.2.2.2.2.2.2.2.2.2.2.2,r.2.2.2.2.2.2.2.1),r.2.2.2.2.2.2.2.2.1,r.2.2.2.2.2.2.2.2.2.1,r.2.2.2.2.2.2.2.2.2.2.1)
def qhA:Fun:=
 ⟨165,3,1,
 ⟨[(0,dd (.sl (.str))),(1,.one (.sel I6)),(2,.one (.sel (.clo 171 tT0)))],[],[]⟩,
 ⟨r17_,[],[]⟩,
 fun x=>qc5 x.1 x.2.1 x.2.2⟩
noncomputable  def cx_console_made_flow:Cx:={ Γ:=qtr::types,ow:=[],fs:=[qg0],N:=14 }
theorem qni:FO qhA:=
 FunOk.intro (C:=cx_console_made_flow) (p:=(mm (.mk [.join [⟨.n,⟨[(0,kk),(1,kk),(2,kk),(4,pt 91 0)],[(91,61,[.data I6,.data (.sl I6),.data I6,.data I6,.data I6,.data I6,.data I6,.own 1593,.data I6,.data (.str),.data I6,.data I6])],[(1593,.arr 76 (.pair I6 (.bool)))]⟩⟩]] none .nil .nil) (mm (.mk [.join [⟨.n,⟨[(0,kk),(2,kk),(4,pt 91 0),(5,pt 107 0)],[(91,61,[.data I6,.data (.sl I6),.data I6,.data I6,.data I6,.data I6,.data I6,.own 1593,.data I6,.data (.str),.data I6,.data I6]),(107,61,[.data I6,.data (.sl I6),.data I6,.data I6,.data I6,.data I6,.data I6,.own 1849,.data I6,.data (.str),.data I6,.data I6])],[(1593,.arr 76 (.pair I6 (.bool))),(1849,.arr 76 (.pair I6 (.bool)))]⟩⟩]] none .nil .nil) .nil)))
  func165 rfl (by kernel_rfl) rfl rfl rfl rfl ⟨qyP,qke⟩ ⟨⟨qlK,trivial⟩,trivial⟩ mx (fun x=>by kernel_rfl)
end
end Go.Proofs.YtmdijohmddokhaaGreatDoor
