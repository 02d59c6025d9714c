/- Lemmas. No condition. -/
import Derived.Test.YtmdijohmddokhaaGreatDoorProg
import Derived.Test.YtmdijohmddokhaaGreatDoorSqSP
import Derived.Test.YtmdijohmddokhaaGreatDoorIn4
import Derived.Test.YtmdijohmddokhaaGreatDoorLx
import Derived.Test.YtmdijohmddokhaaGreatDoorLc
namespace Go.Proofs.YtmdijohmddokhaaGreatDoor
open Go Go.Sq
open Go.Proofs.Tryz
noncomputable section
abbrev LB:=List UInt8
abbrev LI:=List Int
abbrev I6:Ty:=.int .i64
abbrev dB:Sh1:=.data (.bool)
abbrev dL:Sh1:=.data (.sl I6)
abbrev dd(τ:Ty):Sh:=.one (.data τ)
abbrev pt(b o:Nat):Sh:=.one (.ptr b o)
abbrev ow(b:Nat):Sh:=.one (.own b)
abbrev FO(e:Fun):Prop:=FunOk Tryz.prog e
abbrev yT0:Type:=LB×Int×Int×Int×Int×Int×List (Int×Int×Int)
abbrev tT0:Ty:=.pair (.sl (.str)) (.pair (.sl (.pair (.str) (.pair I6 (.pair I6 (.pair I6 (.pair I6 (.pair I6 (.sl (.pair I6 (.pair I6 I6)))))))))) (.pair (.sl (.pair (.str) (.pair I6 I6))) (.pair (.sl (.pair (.str) (.pair I6 (.pair I6 (.pair I6 I6))))) (.pair I6 I6))))
abbrev tT1:Ty:=.pair I6 (.pair (.sl I6) (.pair (.pair I6 (.pair I6 (.pair I6 (.pair I6 (.pair I6 (.pair (.sl (.pair I6 (.bool))) I6)))))) (.pair (.str) (.pair I6 I6))))
abbrev tT2:Ty:=.pair I6 (.pair I6 (.pair (.bool) (.bool)))
abbrev tT3:Ty:=.pair I6 (.pair I6 (.pair I6 (.pair I6 (.pair I6 (.sl I6)))))
abbrev tT4:Ty:=.pair (.str) (.pair I6 (.pair I6 (.pair I6 I6)))
abbrev tT5:Ty:=.pair I6 (.pair I6 (.pair I6 (.pair I6 (.pair I6 (.sl (.pair I6 (.pair I6 I6)))))))
abbrev tT6:Ty:=.pair (.sl I6) (.pair (.sl I6) (.sl (.bool)))
abbrev tT7:Ty:=.pair I6 (.pair I6 (.pair I6 (.pair I6 (.pair I6 (.pair (.sl (.pair I6 (.bool))) I6)))))
abbrev yB0:Type:=List LB×List yT0×List (LB×Int×Int)×List (LB×Int×Int×Int×Int)×Int×Int
abbrev yB1:Type:=(List (Int×Int×Bool×Bool)×LI×LI×List Bool)×List (Int×Int×Int×Int×Int×LI)×List (LB×Int×Int×Int×Int)×Int
abbrev yB2:Type:=Int×LI×(Int×Int×Int×Int×Int×List (Int×Bool)×Int)×LB×Int×Int
abbrev yB3:Type:=LB×Int×Int×Int×Int
abbrev yB4:Type:=List (Int×Int×Bool×Bool)
abbrev yB5:Type:=Int×Int×Int×Int×Int×LI
abbrev yB6:Type:=(Int×LI×Int×Int×Int×Int×Int×(List (Int×Bool))×Int×LB×Int×Int×Int×Int×Int×Int×Int×Int×(List (Int×Bool))×Int×LB×Int×Int×LI)⊕(Int×LI×Int×Int×Int×Int×Int×(List (Int×Bool))×Int×LB×Int×Int)
abbrev yB7:Type:=List (Int×Int×Bool×Bool)×LI×LI×List Bool
abbrev yB8:Type:=Int×Int×Int×Int×Int×List (Int×Bool)×Int
abbrev yB9:Type:=LI×LI×List Bool
abbrev yB10:Type:=Int×Int×List (Int×Bool)×Int
abbrev yB11:Type:=LB×Int×Int×Int×Int×Int×List (Int×Int×Int)
abbrev yB12:Type:=Int×yB4×LI×LI×List Bool
abbrev yB13:Type:=(Int×yB4×LI×LI×List Bool×(List yB5)×(List yB3)×Int×yB4×LI×LI×List Bool×(List yB5)×(List yB3)×Int)⊕((yB4×LI×LI×List Bool×(List yB5)×(List yB3)×Int×yB4×LI×LI×List Bool×(List yB5)×(List yB3)×Int)⊕(Int×Int×yB4×LI×LI×List Bool×(List yB5)×(List yB3)×Int))
abbrev yB14:Type:=List LB×List LB×List LB×List LB
abbrev yB15:Type:=Bool×yB4×LI×LI×List Bool×(List yB5)×List yB3
abbrev yB16:Type:=(Int×LI)⊕LI
abbrev fd(n:String)(t o:Nat)(p:String)(b:Nat):Field:={ name:=n,type:=t,offset:=o,embedded:=false,tag := "",pkgPath:=p,byteOffset:=b }
def ti3:TI:=⟨3,.int .i64,1,8,.int .i64 0,.int .i64,false⟩
theorem tn{i:TI}(h:prog.underlying i.t=some i.desc)(h2:(prog.info? i.t).map (fun x=>(x.size,x.bytes,x.zero))=some (i.size,i.bytes,some i.zero):=by kernel_rfl)(h3:i.eq=false:=by exact rfl):i.ok prog:=⟨h,h2,fun e=>by rw[h3] at e; cases e⟩
theorem tk3:ti3.ok prog:=tn underlying3
def ti4:TI:=⟨4,.bool,1,1,.bool false,.bool,false⟩
theorem tk4:ti4.ok prog:=tn underlying4
def ti5:TI:=⟨5,.int .u8,1,1,.int .u8 0,.int .u8,false⟩
theorem tk5:ti5.ok prog:=tn underlying5
def ti9:TI:=⟨9,.string,1,16,.string ⟨#[]⟩,.str,false⟩
theorem tk9:ti9.ok prog:=tn underlying9
def ti22:TI:=⟨22,.slice 3,1,24,.slice none 0 0,.sl I6,false⟩
theorem tk22:ti22.ok prog:=tn underlying22
def ti27:TI:=⟨27,.slice 9,1,24,.slice none 0 0,.sl (.str),false⟩
theorem tk27:ti27.ok prog:=tn underlying27
def ti28:TI:=⟨28,.slice 83,1,24,.slice none 0 0,.sl (.pair (.str) tT5),false⟩
theorem tk28:ti28.ok prog:=tn underlying28
def ti29:TI:=⟨29,.slice 85,1,24,.slice none 0 0,.sl (.pair (.str) (.pair I6 I6)),false⟩
theorem tk29:ti29.ok prog:=tn underlying29
def ti30:TI:=⟨30,.slice 93,1,24,.slice none 0 0,.sl tT4,false⟩
theorem tk30:ti30.ok prog:=tn underlying30
def ti32:TI:=⟨32,.struct #[fd "Nodes" 27 0 "" 0,fd "Segments" 28 1 "" 24,fd "Ports" 29 2 "" 48,fd "Stations" 30 3 "" 72,fd "Vapour" 3 4 "" 96,fd "Settle" 3 5 "" 104],6,112,.agg #[.slice none 0 0,.slice none 0 0,.slice none 0 0,.slice none 0 0,.int .i64 0,.int .i64 0],.pair (.sl (.str)) (.pair (.sl (.pair (.str) tT5)) (.pair (.sl (.pair (.str) (.pair I6 I6))) (.pair (.sl tT4) (.pair I6 I6)))),true⟩
theorem tk32:ti32.ok prog:=⟨underlying32,by kernel_rfl,fun _=>⟨eqGuardType32,stoodInHeld32⟩⟩
def ti35:TI:=⟨35,.slice 61,1,24,.slice none 0 0,.sl tT1,false⟩
theorem tk35:ti35.ok prog:=tn underlying35
def ti39:TI:=⟨39,.slice 126,1,24,.slice none 0 0,.sl tT2,false⟩
theorem tk39:ti39.ok prog:=tn underlying39
def ti40:TI:=⟨40,.slice 4,1,24,.slice none 0 0,.sl (.bool),false⟩
theorem tk40:ti40.ok prog:=tn underlying40
def ti42:TI:=⟨42,.struct #[fd "Rates" 22 0 "" 0,fd "Ports" 22 1 "" 24,fd "Pumps" 40 2 "" 48],3,72,.agg #[.slice none 0 0,.slice none 0 0,.slice none 0 0],.pair (.sl I6) (.pair (.sl I6) (.sl (.bool))),true⟩
theorem tk42:ti42.ok prog:=⟨underlying42,by kernel_rfl,fun _=>⟨eqGuardType42,stoodInHeld42⟩⟩
def ti44:TI:=⟨44,.struct #[fd "Valves" 39 0 "" 0,fd "Plan" 42 1 "" 24],4,96,.agg #[.slice none 0 0,.slice none 0 0,.slice none 0 0,.slice none 0 0],.pair (.sl tT2) tT6,true⟩
theorem tk44:ti44.ok prog:=⟨underlying44,by kernel_rfl,fun _=>⟨eqGuardType44,stoodInHeld44⟩⟩
def ti45:TI:=⟨45,.slice 108,1,24,.slice none 0 0,.sl tT3,false⟩
theorem tk45:ti45.ok prog:=tn underlying45
def ti46:TI:=⟨46,.slice 140,1,24,.slice none 0 0,.sl tT4,false⟩
theorem tk46:ti46.ok prog:=tn underlying46
def ti48:TI:=⟨48,.struct #[fd "Desk" 44 0 "" 0,fd "Stations" 45 4 "" 96,fd "Accounts" 46 5 "" 120,fd "Count" 3 6 "" 144],7,152,.agg #[.slice none 0 0,.slice none 0 0,.slice none 0 0,.slice none 0 0,.slice none 0 0,.slice none 0 0,.int .i64 0],.pair (.pair (.sl tT2) tT6) (.pair (.sl tT3) (.pair (.sl tT4) I6)),true⟩
theorem tk48:ti48.ok prog:=⟨underlying48,by kernel_rfl,fun _=>⟨eqGuardType48,stoodInHeld48⟩⟩
def ti53:TI:=⟨53,.slice 76,1,24,.slice none 0 0,.sl (.pair I6 (.bool)),false⟩
theorem tk53:ti53.ok prog:=tn underlying53
def ti55:TI:=⟨55,.struct #[fd "In" 3 0 "" 0,fd "Out" 3 1 "" 8,fd "Hops" 53 2 "" 16,fd "Rate" 3 3 "" 40],4,48,.agg #[.int .i64 0,.int .i64 0,.slice none 0 0,.int .i64 0],.pair I6 (.pair I6 (.pair (.sl (.pair I6 (.bool))) I6)),true⟩
theorem tk55:ti55.ok prog:=⟨underlying55,by kernel_rfl,fun _=>⟨eqGuardType55,stoodInHeld55⟩⟩
def ti57:TI:=⟨57,.struct #[fd "Kind" 3 0 "" 0,fd "Index" 3 1 "" 8,fd "Value" 3 2 "" 16,fd "Path" 55 3 "" 24],7,72,.agg #[.int .i64 0,.int .i64 0,.int .i64 0,.int .i64 0,.int .i64 0,.slice none 0 0,.int .i64 0],.pair I6 (.pair I6 (.pair I6 (.pair I6 (.pair I6 (.pair (.sl (.pair I6 (.bool))) I6))))),true⟩
theorem tk57:ti57.ok prog:=⟨underlying57,by kernel_rfl,fun _=>⟨eqGuardType57,stoodInHeld57⟩⟩
def ti59:TI:=⟨59,.struct #[fd "Shipper" 9 0 "" 0,fd "Kind" 3 1 "" 16,fd "Volume" 3 2 "" 24],3,32,.agg #[.string ⟨#[]⟩,.int .i64 0,.int .i64 0],.pair (.str) (.pair I6 I6),true⟩
theorem tk59:ti59.ok prog:=⟨underlying59,by kernel_rfl,fun _=>⟨eqGuardType59,stoodInHeld59⟩⟩
def ti61:TI:=⟨61,.struct #[fd "Kind" 3 0 "" 0,fd "Values" 22 1 "" 8,fd "Step" 57 2 "" 32,fd "Entry" 59 9 "" 104],12,136,.agg #[.int .i64 0,.slice none 0 0,.int .i64 0,.int .i64 0,.int .i64 0,.int .i64 0,.int .i64 0,.slice none 0 0,.int .i64 0,.string ⟨#[]⟩,.int .i64 0,.int .i64 0],.pair I6 (.pair (.sl I6) (.pair tT7 (.pair (.str) (.pair I6 I6)))),true⟩
theorem tk61:ti61.ok prog:=⟨underlying61,by kernel_rfl,fun _=>⟨eqGuardType61,stoodInHeld61⟩⟩
def ti76:TI:=⟨76,.struct #[fd "Segment" 3 0 "" 0,fd "Back" 4 1 "" 8],2,16,.agg #[.int .i64 0,.bool false],.pair I6 (.bool),true⟩
theorem tk76:ti76.ok prog:=⟨underlying76,by kernel_rfl,fun _=>⟨eqGuardType76,stoodInHeld76⟩⟩
def ti77:TI:=⟨77,.slice 5,1,24,.slice none 0 0,.sl (.int .u8),false⟩
theorem tk77:ti77.ok prog:=tn underlying77
def ti80:TI:=⟨80,.struct #[fd "At" 3 0 "" 0,fd "Height" 3 1 "" 8,fd "Limit" 3 2 "" 16],3,24,.agg #[.int .i64 0,.int .i64 0,.int .i64 0],.pair I6 (.pair I6 I6),true⟩
theorem tk80:ti80.ok prog:=⟨underlying80,by kernel_rfl,fun _=>⟨eqGuardType80,stoodInHeld80⟩⟩
def ti81:TI:=⟨81,.slice 80,1,24,.slice none 0 0,.sl (.pair I6 (.pair I6 I6)),false⟩
theorem tk81:ti81.ok prog:=tn underlying81
def ti83:TI:=⟨83,.struct #[fd "Name" 9 0 "" 0,fd "From" 3 1 "" 16,fd "To" 3 2 "" 24,fd "Capacity" 3 3 "" 32,fd "Resist" 3 4 "" 40,fd "Wave" 3 5 "" 48,fd "Points" 81 6 "" 56],7,80,.agg #[.string ⟨#[]⟩,.int .i64 0,.int .i64 0,.int .i64 0,.int .i64 0,.int .i64 0,.slice none 0 0],.pair (.str) tT5,true⟩
theorem tk83:ti83.ok prog:=⟨underlying83,by kernel_rfl,fun _=>⟨eqGuardType83,stoodInHeld83⟩⟩
def ti85:TI:=⟨85,.struct #[fd "Name" 9 0 "" 0,fd "Node" 3 1 "" 16,fd "Pressure" 3 2 "" 24],3,32,.agg #[.string ⟨#[]⟩,.int .i64 0,.int .i64 0],.pair (.str) (.pair I6 I6),true⟩
theorem tk85:ti85.ok prog:=⟨underlying85,by kernel_rfl,fun _=>⟨eqGuardType85,stoodInHeld85⟩⟩
def ti87:TI:=⟨87,.struct #[fd "L" 22 0 "" 0,fd "At" 3 1 "" 24],2,32,.agg #[.slice none 0 0,.int .i64 0],.pair (.sl I6) I6,true⟩
theorem tk87:ti87.ok prog:=⟨underlying87,by kernel_rfl,fun _=>⟨eqGuardType87,stoodInHeld87⟩⟩
def ti93:TI:=⟨93,.struct #[fd "Name" 9 0 "" 0,fd "Node" 3 1 "" 16,fd "Head" 3 2 "" 24,fd "Fall" 3 3 "" 32,fd "Suction" 3 4 "" 40],5,48,.agg #[.string ⟨#[]⟩,.int .i64 0,.int .i64 0,.int .i64 0,.int .i64 0],.pair (.str) (.pair I6 (.pair I6 (.pair I6 I6))),true⟩
theorem tk93:ti93.ok prog:=⟨underlying93,by kernel_rfl,fun _=>⟨eqGuardType93,stoodInHeld93⟩⟩
def ti108:TI:=⟨108,.struct #[fd "Station" 3 0 "" 0,fd "Epoch" 3 1 "" 8,fd "Seq" 3 2 "" 16,fd "Time" 3 3 "" 24,fd "Kind" 3 4 "" 32,fd "Values" 22 5 "" 40],6,64,.agg #[.int .i64 0,.int .i64 0,.int .i64 0,.int .i64 0,.int .i64 0,.slice none 0 0],.pair I6 (.pair I6 (.pair I6 (.pair I6 (.pair I6 (.sl I6))))),true⟩
theorem tk108:ti108.ok prog:=⟨underlying108,by kernel_rfl,fun _=>⟨eqGuardType108,stoodInHeld108⟩⟩
def ti122:TI:=⟨122,.struct #[fd "Segments" 40 0 "" 0,fd "Ports" 40 1 "" 24],2,48,.agg #[.slice none 0 0,.slice none 0 0],.pair (.sl (.bool)) (.sl (.bool)),true⟩
theorem tk122:ti122.ok prog:=⟨underlying122,by kernel_rfl,fun _=>⟨eqGuardType122,stoodInHeld122⟩⟩
def ti126:TI:=⟨126,.struct #[fd "Travel" 3 0 "" 0,fd "Open" 3 1 "" 8,fd "Want" 4 2 "" 16,fd "Stuck" 4 3 "" 17],4,24,.agg #[.int .i64 0,.int .i64 0,.bool false,.bool false],.pair I6 (.pair I6 (.pair (.bool) (.bool))),true⟩
theorem tk126:ti126.ok prog:=⟨underlying126,by kernel_rfl,fun _=>⟨eqGuardType126,stoodInHeld126⟩⟩
def ti129:TI:=⟨129,.pointer 131,1,8,.pointer none,.unit,false⟩
theorem tk129:ti129.ok prog:=tn underlying129
def ti131:TI:=⟨131,.struct #[fd "addr" 129 0 "strings" 0,fd "buf" 77 1 "strings" 8],2,32,.agg #[.pointer none,.slice none 0 0],.unit,true⟩
theorem tk131:ti131.ok prog:=⟨underlying131,by kernel_rfl,fun _=>⟨eqGuardType131,stoodInHeld131⟩⟩
def ti133:TI:=⟨133,.interface #[("Error",141)],1,16,.nilIface,.err,false⟩
theorem tk133:ti133.ok prog:=tn underlying133
def ti140:TI:=⟨140,.struct #[fd "Shipper" 9 0 "" 0,fd "Received" 3 1 "" 16,fd "Delivered" 3 2 "" 24,fd "Slop" 3 3 "" 32,fd "Shared" 3 4 "" 40],5,48,.agg #[.string ⟨#[]⟩,.int .i64 0,.int .i64 0,.int .i64 0,.int .i64 0],.pair (.str) (.pair I6 (.pair I6 (.pair I6 I6))),true⟩
theorem tk140:ti140.ok prog:=⟨underlying140,by kernel_rfl,fun _=>⟨eqGuardType140,stoodInHeld140⟩⟩
def ti153:TI:=⟨153,.array 4 27,4,96,.agg #[.slice none 0 0,.slice none 0 0,.slice none 0 0,.slice none 0 0],.pair (.sl (.str)) (.pair (.sl (.str)) (.pair (.sl (.str)) (.sl (.str)))),false⟩
theorem tk153:ti153.ok prog:=tn underlying153
def ti160:TI:=⟨160,.func #[27] #[61] false,1,8,.nilFunc,.fnl [174,175],false⟩
theorem tk160:ti160.ok prog:=tn underlying160
def ti162:TI:=⟨162,.map 9 160,1,8,.map none,.unit,false⟩
theorem tk162:ti162.ok prog:=tn underlying162
def ti167:TI:=⟨167,.struct #[fd "words" 27 0 "batchline/console" 0,fd "failed" 4 1 "batchline/console" 24],2,32,.agg #[.slice none 0 0,.bool false],.pair (.sl (.str)) (.bool),true⟩
theorem tk167:ti167.ok prog:=⟨underlying167,by kernel_rfl,fun _=>⟨eqGuardType167,stoodInHeld167⟩⟩
def ti177:TI:=⟨177,.func #[32,180,61] #[36] false,1,8,.nilFunc,.fnl [106,107,108],false⟩
theorem tk177:ti177.ok prog:=tn underlying177
def ti178:TI:=⟨178,.map 3 177,1,8,.map none,.unit,false⟩
theorem tk178:ti178.ok prog:=tn underlying178
def ti196:TI:=⟨196,.pointer 5,1,8,.pointer none,.unit,false⟩
theorem tk196:ti196.ok prog:=tn underlying196
def ti197:TI:=⟨197,.func #[3] #[4] false,1,8,.nilFunc,.clo 309 (.pair (.sl tT2) tT6),false⟩
theorem tk197:ti197.ok prog:=tn underlying197
def ti244:TI:=⟨244,.array 24 3,24,192,.agg (Array.replicate 24 (.int .i64 0)),.arr 24 I6,true⟩
theorem tk244:ti244.ok prog:=⟨underlying244,by kernel_rfl,fun _=>⟨by kernel_rfl,by kernel_rfl⟩⟩
def ti246:TI:=⟨246,.struct #[fd "come" 244 0 "batchline/flow" 0,fd "leave" 244 24 "batchline/flow" 192],48,384,.agg (Array.replicate 48 (.int .i64 0)),.pair (.arr 24 I6) (.arr 24 I6),true⟩
theorem tk246:ti246.ok prog:=⟨underlying246,by kernel_rfl,fun _=>⟨eqGuardType246,stoodInHeld246⟩⟩
def ti260:TI:=⟨260,.int .u64,1,8,.int .u64 0,.int .u64,false⟩
theorem tk260:ti260.ok prog:=tn underlying260
def ti272:TI:=⟨272,.func #[32,273,57] #[36] false,1,8,.nilFunc,.unit,false⟩
theorem tk272:ti272.ok prog:=tn underlying272
def ti279:TI:=⟨279,.int .u64,1,8,.int .u64 0,.int .u64,false⟩
theorem tk279:ti279.ok prog:=tn underlying279
def ti287:TI:=⟨287,.int .u32,1,4,.int .u32 0,.int .u32,false⟩
theorem tk287:ti287.ok prog:=tn underlying287
def ti296:TI:=⟨296,.array 7 272,7,56,.agg #[.nilFunc,.nilFunc,.nilFunc,.nilFunc,.nilFunc,.nilFunc,.nilFunc],.unit,false⟩
theorem tk296:ti296.ok prog:=tn underlying296
def types:List TI:=[ti3,ti4,ti5,ti9,ti22,ti27,ti28,ti29,ti30,ti32,ti35,ti39,ti40,ti42,ti44,ti45,ti46,ti48,ti53,ti55,ti57,ti59,ti61,ti76,ti77,ti80,ti81,ti83,ti85,ti87,ti93,ti108,ti122,ti126,ti129,ti131,ti133,ti140,ti153,ti160,ti162,ti167,ti177,ti178,ti196,ti197,ti244,ti246,ti260,ti272,ti279,ti287,ti296]
theorem qkG:Tys prog types:=⟨tk3,tk4,tk5,tk9,tk22,tk27,tk28,tk29,tk30,tk32,tk35,tk39,tk40,tk42,tk44,tk45,tk46,tk48,tk53,tk55,tk57,tk59,tk61,tk76,tk77,tk80,tk81,tk83,tk85,tk87,tk93,tk108,tk122,tk126,tk129,tk131,tk133,tk140,tk153,tk160,tk162,tk167,tk177,tk178,tk196,tk197,tk244,tk246,tk260,tk272,tk279,tk287,tk296,trivial⟩
def xt84:Ext:=qDS 84
theorem xk84:ExtOk prog xt84:=qAQ func84 (by kernel_rfl) (by kernel_rfl) (by kernel_rfl) (by kernel_rfl)
def xt264:Ext:=qDR 264
theorem xk264:ExtOk prog xt264:=qAP func264 (by kernel_rfl) (by kernel_rfl) (by kernel_rfl) (by kernel_rfl)
def xt315:Ext:=qDO 315
theorem xk315:ExtOk prog xt315:=qAM func315 (by kernel_rfl) (by kernel_rfl) (by kernel_rfl) (by kernel_rfl)
theorem mx:prog.follows .mixedOrders=true:=by kernel_rfl
abbrev kk:Sh:=.one .keep
abbrev ii:Sh:=.one (.data (.int .i64))
abbrev bb:Sh:=.one (.data .bool)
abbrev ss:Sh:=.one (.data .str)
abbrev nn(r:Plan):Plan:=.mk [] none .nil r
abbrev mm(l r:Plan):Plan:=.mk [] none l r
abbrev kp(n:Nat):List Sh1:=List.replicate n .keep
theorem fi{e:Fun}{fn:Func}{c:Code}(ow:List Nat)(fs:List Fun)(N:Nat)(xs:List Ext)(p:Plan)(hf:Tryz.prog.funcs[e.f]? = some fn)(hfs:CxOk Tryz.prog ⟨types,ow,fs,N,xs⟩)(hb:fn.body=some c:=by exact rfl)(hname:(fn.name == "runtime.NumGoroutine")=false:=by kernel_rfl)(hN:fn.ntmps=N:=by exact rfl)(hnp:Nat.ble e.np N=true:=by exact rfl)(hnr:fn.results.toList.length=e.nr:=by exact rfl)(hregs:e.ji.regs.all (fun q=>Nat.blt q.1 e.np)=true:=by exact rfl)(h:∀x,e.tw x=evFun ⟨types,ow,fs,N,xs⟩ e.ji e.jo fn.results.toList c p x:=by intro x; kernel_rfl):FunOk Tryz.prog e:=FunOk.intro (C:=⟨types,ow,fs,N,xs⟩) hf hb hname hN hnp hnr hregs qkG hfs mx h
theorem fl{e:Fun}{fn:Func}{c:Code}(ow:List Nat)(fs:List Fun)(N:Nat)(p:Plan)(hf:Tryz.prog.funcs[e.f]? = some fn)(hfs:qx5 Tryz.prog fs)(hb:fn.body=some c:=by exact rfl)(hname:(fn.name == "runtime.NumGoroutine")=false:=by kernel_rfl)(hN:fn.ntmps=N:=by exact rfl)(hnp:Nat.ble e.np N=true:=by exact rfl)(hnr:fn.results.toList.length=e.nr:=by exact rfl)(hregs:e.ji.regs.all (fun q=>Nat.blt q.1 e.np)=true:=by exact rfl)(h:∀x,e.tw x=evFun ⟨types,ow,fs,N,[]⟩ e.ji e.jo fn.results.toList c p x:=by intro x; kernel_rfl):FunOk Tryz.prog e:=fi ow fs N [] p hf ⟨hfs,trivial⟩ hb hname hN hnp hnr hregs h
theorem fj{e:Fun}{fn:Func}{c:Code}(fs:List Fun)(N:Nat)(p:Plan)(hf:Tryz.prog.funcs[e.f]? = some fn)(hfs:qx5 Tryz.prog fs)(hb:fn.body=some c:=by exact rfl)(hname:(fn.name == "runtime.NumGoroutine")=false:=by kernel_rfl)(hN:fn.ntmps=N:=by exact rfl)(hnp:Nat.ble e.np N=true:=by exact rfl)(hnr:fn.results.toList.length=e.nr:=by exact rfl)(hregs:e.ji.regs.all (fun q=>Nat.blt q.1 e.np)=true:=by exact rfl)(h:∀x,e.tw x=evFun ⟨types,[],fs,N,[]⟩ e.ji e.jo fn.results.toList c p x:=by intro x; kernel_rfl):FunOk Tryz.prog e:=fi [] fs N [] p hf ⟨hfs,trivial⟩ hb hname hN hnp hnr hregs h
theorem fk{e:Fun}{fn:Func}{c:Code}(N:Nat)(p:Plan)(hf:Tryz.prog.funcs[e.f]? = some fn)(hb:fn.body=some c:=by exact rfl)(hname:(fn.name == "runtime.NumGoroutine")=false:=by kernel_rfl)(hN:fn.ntmps=N:=by exact rfl)(hnp:Nat.ble e.np N=true:=by exact rfl)(hnr:fn.results.toList.length=e.nr:=by exact rfl)(hregs:e.ji.regs.all (fun q=>Nat.blt q.1 e.np)=true:=by exact rfl)(h:∀x,e.tw x=evFun ⟨types,[],[],N,[]⟩ e.ji e.jo fn.results.toList c p x:=by intro x; kernel_rfl):FunOk Tryz.prog e:=fi [] [] N [] p hf ⟨trivial,trivial⟩ hb hname hN hnp hnr hregs h
abbrev n2(r:Plan):Plan:=nn (nn r)
abbrev n3(r:Plan):Plan:=nn (n2 r)
abbrev n4(r:Plan):Plan:=nn (n3 r)
abbrev n5(r:Plan):Plan:=nn (n4 r)
abbrev n6(r:Plan):Plan:=nn (n5 r)
abbrev n7(r:Plan):Plan:=nn (n6 r)
abbrev n8(r:Plan):Plan:=nn (n7 r)
abbrev m1(l:Plan):Plan:=mm l .nil
abbrev jy(j:J)(l r:Plan):Plan:=.mk [.join [⟨.n,j⟩]] none l r
abbrev jx(j:J):Plan:=jy j .nil .nil
abbrev jn(r:List (Nat×Sh))(v:List (Nat×TypeId×List Sh1))(a:List (Nat×ObSh)):Plan:=jx ⟨r,v,a⟩
abbrev jm(r:List (Nat×Sh))(v:List (Nat×TypeId×List Sh1)):Plan:=jx ⟨r,v,[]⟩
abbrev lp(j:J)(x:List Alt)(l r:Plan):Plan:=.mk [] (some (j,x)) l r
abbrev v0_:List (Nat×TypeId×List Sh1):=[(80,61,[.data I6,dL,.data I6,.data I6,.data I6,.data I6,.data I6,.data (.sl (.pair I6 (.bool))),.data I6,.data (.str),.data I6,.data I6]),(96,61,[.data I6,.own 1577,.data I6,.data I6,.data I6,.data I6,.data I6,.data (.sl (.pair I6 (.bool))),.data I6,.data (.str),.data I6,.data I6])]
abbrev v1_:List (Nat×TypeId×List Sh1):=[(48,32,kp 6),(64,42,[.keep,.keep,.keep])]
abbrev a2_:List (Nat×ObSh):=[(1,.arr 126 tT2),(2,.arr 3 I6),(3,.arr 3 I6),(4,.arr 4 (.bool))]
abbrev v3_:List (Nat×TypeId×List Sh1):=[(80,61,[.data I6,dL,.data I6,.data I6,.data I6,.data I6,.data I6,.data (.sl (.pair I6 (.bool))),.data I6,.data (.str),.data I6,.data I6])]
abbrev v4_:List (Nat×TypeId×List Sh1):=[(0,61,[.data I6,dL,.data I6,.data I6,.data I6,.data I6,.data I6,.data (.sl (.pair I6 (.bool))),.data I6,.data (.str),.data I6,.data I6])]
abbrev a5_:List (Nat×ObSh):=[(1049,.arr 9 (.str)),(1065,.arr 83 (.pair (.str) tT5)),(1081,.arr 85 (.pair (.str) (.pair I6 I6))),(1097,.arr 93 tT4)]
abbrev v6_:List (Nat×TypeId×List Sh1):=[(0,44,[.own 1,.own 2,.own 3,.own 4])]
abbrev v7_:List (Nat×TypeId×List Sh1):=[(32,32,kp 6)]
abbrev a8_:List (Nat×ObSh):=[(1,.arr 126 tT2),(2,.arr 3 I6),(3,.arr 3 I6),(4,.arr 4 (.bool)),(5,.arr 108 tT3),(6,.arr 140 tT4)]
abbrev v9_:List (Nat×TypeId×List Sh1):=[(0,87,[dL,.data I6]),(48,32,kp 6),(64,32,[.own 1049,.own 1065,.own 1081,.own 1097,.keep,.keep])]
abbrev v10_:List (Nat×TypeId×List Sh1):=[(48,32,kp 6),(64,48,kp 7),(155,131,[.ptr 155 0,.own 2521])]
abbrev v11_:List (Nat×TypeId×List Sh1):=[(64,32,kp 6),(112,48,[.data (.sl tT2),dL,dL,.data (.sl (.bool)),.data (.sl tT3),.data (.sl tT4),.data I6]),(208,48,[.data (.sl tT2),dL,dL,.data (.sl (.bool)),.data (.sl tT3),.data (.sl tT4),.data I6])]
abbrev v12_:List (Nat×TypeId×List Sh1):=[(112,48,[.data (.sl tT2),dL,dL,.data (.sl (.bool)),.data (.sl tT3),.data (.sl tT4),.data I6]),(208,48,[.data (.sl tT2),dL,dL,.data (.sl (.bool)),.data (.sl tT3),.data (.sl tT4),.data I6])]
abbrev v13_:List (Nat×TypeId×List Sh1):=[(0,87,[dL,.data I6])]
abbrev v14_:List (Nat×TypeId×List Sh1):=[(0,87,[dL,.data I6]),(48,32,kp 6),(64,32,[.own 1049,.own 1065,.keep,.keep,.keep,.keep])]
abbrev a15_:List (Nat×ObSh):=[(432,.arr 76 (.pair I6 (.bool))),(656,.arr 126 tT2),(657,.arr 3 I6),(658,.arr 3 I6),(659,.arr 4 (.bool))]
abbrev a16_:List (Nat×ObSh):=[(80,.one 246 (.pair (.arr 24 I6) (.arr 24 I6))),(96,.one 246 (.pair (.arr 24 I6) (.arr 24 I6)))]
abbrev v17_:List (Nat×TypeId×List Sh1):=[(64,32,kp 6),(80,44,kp 4),(96,57,kp 7),(112,44,kp 4),(144,55,[.keep,.keep,.own 432,.keep]),(160,44,[.own 656,.own 657,.own 658,.own 659]),(192,76,[.keep,.keep])]
abbrev v18_:List (Nat×TypeId×List Sh1):=[(48,32,kp 6),(80,61,kp 12),(96,61,kp 12)]
abbrev a19_:List (Nat×ObSh):=[(2521,.arr 5 (.int .u8))]
abbrev a20_:List (Nat×ObSh):=[(107,.arr 3 I6),(288,.arr 4 (.bool))]
abbrev v21_:List (Nat×TypeId×List Sh1):=[(0,87,[dL,.data I6]),(144,83,kp 7),(160,83,[.keep,.keep,.keep,.keep,.keep,.keep,.own 2681])]
abbrev a22_:List (Nat×ObSh):=[(368,.arr 126 tT2),(369,.arr 3 I6),(370,.arr 3 I6),(371,.arr 4 (.bool)),(372,.arr 108 tT3),(373,.arr 140 tT4)]
abbrev r23_:List (Nat×Sh):=[(0,kk),(1,kk),(7,kk),(8,ii)]
abbrev v24_:List (Nat×TypeId×List Sh1):=[(48,32,kp 6),(64,48,kp 7)]
abbrev v25_:List (Nat×TypeId×List Sh1):=[(64,32,kp 6),(80,42,[.keep,.keep,.keep])]
abbrev v26_:List (Nat×TypeId×List Sh1):=[(80,61,kp 12),(96,61,[.keep,.own 1577,.keep,.keep,.keep,.keep,.keep,.keep,.keep,.keep,.keep,.keep])]
abbrev v27_:List (Nat×TypeId×List Sh1):=[(80,61,kp 12),(96,61,[.keep,.keep,.keep,.keep,.keep,.keep,.keep,.keep,.keep,.keep,.data I6,.keep])]
abbrev r28_:List (Nat×Sh):=[(0,dd (.pair (.pair (.sl tT2) tT6) (.pair (.sl tT3) (.pair (.sl tT4) I6)))),(1,ii)]
abbrev v29_:List (Nat×TypeId×List Sh1):=[(32,32,kp 6),(48,153,kp 4),(64,153,[.keep,.own 1065,.own 1081,.keep])]
abbrev a30_:List (Nat×ObSh):=[(7,.arr 126 tT2),(8,.arr 3 I6),(9,.arr 3 I6),(10,.arr 4 (.bool)),(11,.arr 108 tT3),(12,.arr 140 tT4)]
abbrev v31_:List (Nat×TypeId×List Sh1):=[(32,32,kp 6),(48,153,kp 4),(64,153,[.keep,.own 1065,.keep,.keep])]
abbrev r32_:List (Nat×Sh):=[(0,dd tT0),(1,dd (.pair I6 (.pair I6 (.pair (.sl (.pair I6 (.bool))) I6))))]
abbrev v33_:List (Nat×TypeId×List Sh1):=[(48,32,kp 6),(80,55,kp 4),(96,55,[.keep,.keep,.own 1593,.keep])]
abbrev r34_:List (Nat×Sh):=[(2,pt 48 0),(3,pt 64 0)]
abbrev v35_:List (Nat×TypeId×List Sh1):=[(64,32,kp 6),(80,44,kp 4),(96,57,kp 7),(112,44,kp 4)]
abbrev v36_:List (Nat×TypeId×List Sh1):=[(48,153,kp 4),(64,153,[.keep,.own 1065,.own 1081,.own 1097])]
abbrev r37_:List (Nat×Sh):=[(4,pt 80 0),(5,pt 96 0)]
abbrev a38_:List (Nat×ObSh):=[(1065,.arr 9 (.str)),(1081,.arr 9 (.str)),(1097,.arr 9 (.str))]
abbrev v39_:List (Nat×TypeId×List Sh1):=[(80,48,kp 7),(96,61,kp 12),(112,48,kp 7),(144,48,[.own 368,.own 369,.own 370,.own 371,.own 372,.own 373,.keep])]
abbrev r40_:List (Nat×Sh):=[(2,pt 48 0),(3,pt 64 0),(5,ow 107),(6,ow 288),(7,kk),(8,kk),(9,bb),(20,kk),(21,kk),(30,kk),(31,kk),(32,kk)]
abbrev a41_:List (Nat×ObSh):=[(1,.arr 9 (.str))]
abbrev v42_:List (Nat×TypeId×List Sh1):=[(112,48,[.data (.sl tT2),dL,dL,.data (.sl (.bool)),.data (.sl tT3),.data (.sl tT4),.data I6])]
abbrev v43_:List (Nat×TypeId×List Sh1):=[(48,32,kp 6)]
abbrev v44_:List (Nat×TypeId×List Sh1):=[(48,32,kp 6),(64,44,kp 4)]
abbrev a45_:List (Nat×ObSh):=[(107,.arr 3 I6),(256,.arr 4 (.bool))]
abbrev a46_:List (Nat×ObSh):=[(128,.arr 126 tT2),(129,.arr 3 I6),(130,.arr 3 I6),(131,.arr 4 (.bool)),(1113,.arr 108 tT3),(192,.arr 140 tT4)]
abbrev v47_:List (Nat×TypeId×List Sh1):=[(0,167,[.own 1,dB])]
abbrev v48_:List (Nat×TypeId×List Sh1):=[(0,44,[.own 1,.own 2,.own 3,.own 4]),(96,57,kp 7)]
abbrev r49_:List (Nat×Sh):=[(0,dd (.pair (.sl tT2) tT6)),(1,ii)]
abbrev a50_:List (Nat×ObSh):=[(1049,.arr 9 (.str)),(1065,.arr 83 (.pair (.str) tT5))]
abbrev r51_:List (Nat×Sh):=[(0,ii),(1,ii)]
abbrev a52_:List (Nat×ObSh):=[(25,.arr 9 (.str))]
abbrev v53_:List (Nat×TypeId×List Sh1):=[(64,59,[.keep,.keep,.keep])]
abbrev r54_:List (Nat×Sh):=[(0,dd tT0),(1,dd (.pair (.sl tT2) tT6)),(2,dd tT7)]
abbrev a55_:List (Nat×ObSh):=[(0,.arr 126 tT2),(1,.arr 3 I6),(2,.arr 3 I6),(3,.arr 4 (.bool)),(4,.arr 108 tT3),(5,.arr 140 tT4)]
abbrev r56_:List (Nat×Sh):=[(0,ss),(1,ss)]
abbrev a57_:List (Nat×ObSh):=[(1593,.arr 76 (.pair I6 (.bool)))]
abbrev v58_:List (Nat×TypeId×List Sh1):=[(0,167,[.own 25,dB]),(80,32,kp 6),(96,57,kp 7)]
abbrev a59_:List (Nat×ObSh):=[(0,.arr 126 tT2),(1,.arr 3 I6),(2,.arr 3 I6),(3,.arr 4 (.bool))]
abbrev v60_:List (Nat×TypeId×List Sh1):=[(0,48,[.own 7,.own 8,.own 9,.own 10,.own 11,.own 12,.data I6])]
abbrev v61_:List (Nat×TypeId×List Sh1):=[(48,32,kp 6),(64,55,kp 4)]
abbrev r62_:List (Nat×Sh):=[(1,pt 32 0),(2,pt 48 0),(3,pt 64 0)]
abbrev v63_:List (Nat×TypeId×List Sh1):=[(0,167,[.own 2,dB])]
abbrev r64_:List (Nat×Sh):=[(2,pt 48 0),(3,pt 64 0),(8,pt 155 0),(9,.one (.clp 57 155 0))]
abbrev r65_:List (Nat×Sh):=[(0,dd tT0),(1,dd tT6)]
abbrev r66_:List (Nat×Sh):=[(0,dd tT0),(1,dd (.pair (.pair (.sl tT2) tT6) (.pair (.sl tT3) (.pair (.sl tT4) I6)))),(2,dd tT1)]
abbrev v67_:List (Nat×TypeId×List Sh1):=[(0,48,[.own 1,.own 2,.own 3,.own 4,.own 5,.own 6,.data I6])]
abbrev v68_:List (Nat×TypeId×List Sh1):=[(0,87,[.keep,.keep]),(48,32,kp 6),(64,32,[.own 1049,.keep,.keep,.keep,.keep,.keep])]
abbrev r69_:List (Nat×Sh):=[(0,dd (.pair I6 (.pair I6 (.pair (.sl (.pair I6 (.bool))) I6))))]
abbrev r70_:List (Nat×Sh):=[(0,dd tT0),(1,ss)]
abbrev r71_:List (Nat×Sh):=[(0,dd (.sl (.pair (.str) (.pair I6 I6)))),(1,.one (.fn [.pair (.str) (.pair I6 I6)] (.bool)))]
abbrev v72_:List (Nat×TypeId×List Sh1):=[(0,61,[.keep,.keep,.keep,.keep,.keep,.keep,.keep,.own 137,.keep,.keep,.keep,.keep])]
abbrev a73_:List (Nat×ObSh):=[(0,.one 246 (.pair (.arr 24 I6) (.arr 24 I6)))]
abbrev r74_:List (Nat×Sh):=[(0,dd tT0),(1,pt 0 0),(2,dd tT7)]
abbrev v75_:List (Nat×TypeId×List Sh1):=[(32,48,[.own 128,.own 129,.own 130,.own 131,.own 176,.own 224,.keep]),(48,48,kp 7)]
abbrev r76_:List (Nat×Sh):=[(0,dd (.pair (.pair (.sl tT2) tT6) (.pair (.sl tT3) (.pair (.sl tT4) I6)))),(1,ii),(2,ii)]
abbrev r77_:List (Nat×Sh):=[(0,dd (.sl tT4)),(1,.one (.fn [.pair (.str) (.pair I6 (.pair I6 (.pair I6 I6)))] (.bool)))]
abbrev a78_:List (Nat×ObSh):=[(1577,.arr 3 I6)]
abbrev a79_:List (Nat×ObSh):=[(1065,.arr 9 (.str)),(1081,.arr 9 (.str))]
abbrev v80_:List (Nat×TypeId×List Sh1):=[(32,42,[.keep,.keep,.keep]),(48,122,[.keep,.keep]),(64,122,[.own 1049,.keep])]
abbrev r81_:List (Nat×Sh):=[(0,dd tT0),(1,dd (.pair (.pair (.sl tT2) tT6) (.pair (.sl tT3) (.pair (.sl tT4) I6))))]
abbrev r82_:List (Nat×Sh):=[(0,dd (.sl tT2)),(1,.one (.fn [.pair I6 (.pair I6 (.pair (.bool) (.bool)))] (.bool)))]
abbrev r83_:List (Nat×Sh):=[(0,dd tT2),(1,ii)]
abbrev r84_:List (Nat×Sh):=[(1,pt 32 0),(3,pt 64 0),(4,kk),(27,kk),(28,bb)]
abbrev r85_:List (Nat×Sh):=[(0,dd (.pair (.sl (.str)) (.pair (.sl (.str)) (.pair (.sl (.str)) (.sl (.str))))))]
abbrev v86_:List (Nat×TypeId×List Sh1):=[(0,48,[.own 1,.own 2,.own 3,.own 4,.own 5,.own 6,.keep]),(96,61,kp 12)]
abbrev r87_:List (Nat×Sh):=[(0,dd (.int .u64)),(1,dd (.int .u64))]
abbrev v88_:List (Nat×TypeId×List Sh1):=[(32,59,[.keep,.keep,.keep])]
abbrev v89_:List (Nat×TypeId×List Sh1):=[(64,48,kp 7),(155,131,[.ptr 155 0,.own 2521])]
abbrev r90_:List (Nat×Sh):=[(0,pt 0 0),(4,pt 80 0),(5,pt 96 0)]
abbrev v91_:List (Nat×TypeId×List Sh1):=[(48,126,[.keep,.data I6,.keep,.keep]),(80,126,kp 4),(96,126,kp 4)]
abbrev v92_:List (Nat×TypeId×List Sh1):=[(48,126,[.data I6,.data I6,dB,dB]),(80,126,kp 4)]
abbrev a93_:List (Nat×ObSh):=[(2073,.arr 126 tT2),(416,.arr 3 I6),(480,.arr 3 I6),(544,.arr 4 (.bool))]
abbrev r94_:List (Nat×Sh):=[(1,pt 32 0),(4,kk),(5,bb)]
abbrev a95_:List (Nat×ObSh):=[(960,.arr 126 tT2),(961,.arr 3 I6),(962,.arr 3 I6),(963,.arr 4 (.bool))]
abbrev v96_:List (Nat×TypeId×List Sh1):=[(0,44,[.own 1,.own 2,.own 3,.own 4]),(64,32,kp 6),(96,57,kp 7)]
abbrev r97_:List (Nat×Sh):=[(0,dd (.sl (.pair (.str) tT5))),(1,.one (.fn [.pair (.str) tT5] (.bool)))]
abbrev r98_:List (Nat×Sh):=[(0,dd (.pair (.pair (.sl tT2) tT6) (.pair (.sl tT3) (.pair (.sl tT4) I6))))]
abbrev r99_:List (Nat×Sh):=[(0,dd (.sl (.pair I6 (.bool)))),(1,.one (.fn [.pair I6 (.bool)] (.bool)))]
abbrev a100_:List (Nat×ObSh):=[(75,.arr 3 I6)]
abbrev r101_:List (Nat×Sh):=[(0,dd (.pair (.str) (.pair I6 I6)))]
abbrev v102_:List (Nat×TypeId×List Sh1):=[(32,32,kp 6),(96,153,kp 4)]
abbrev r103_:List (Nat×Sh):=[(2,pt 48 0),(3,pt 64 0),(5,ii)]
abbrev r104_:List (Nat×Sh):=[(1,pt 32 0),(2,pt 48 0),(3,pt 64 0),(14,kk),(15,kk),(16,ii)]
abbrev r105_:List (Nat×Sh):=[(1,pt 32 0),(2,pt 48 0),(3,pt 64 0),(29,kk),(30,kk),(31,ii)]
abbrev v106_:List (Nat×TypeId×List Sh1):=[(0,167,[.own 25,dB])]
abbrev v107_:List (Nat×TypeId×List Sh1):=[(32,57,kp 7),(64,55,kp 4)]
abbrev r108_:List (Nat×Sh):=[(0,dd (.pair (.str) tT5))]
abbrev r109_:List (Nat×Sh):=[(0,.agg [.own 0,.own 1,.own 2,.own 3,.own 4,.own 5,.data I6])]
abbrev r110_:List (Nat×Sh):=[(0,dd tT0),(1,dd tT6),(2,ii)]
abbrev r111_:List (Nat×Sh):=[(2,pt 48 0),(4,pt 80 0)]
abbrev r112_:List (Nat×Sh):=[(0,dd (.sl (.str)))]
abbrev v113_:List (Nat×TypeId×List Sh1):=[(32,83,kp 7)]
abbrev v114_:List (Nat×TypeId×List Sh1):=[(0,167,[.own 1,.keep]),(80,32,kp 6),(96,57,kp 7)]
abbrev r115_:List (Nat×Sh):=[(2,pt 48 0),(3,pt 64 0),(5,ow 107),(6,ow 256),(7,ii)]
abbrev r116_:List (Nat×Sh):=[(2,pt 48 0),(3,pt 64 0),(5,ow 107),(6,ow 256),(7,kk)]
abbrev a117_:List (Nat×ObSh):=[(139,.arr 3 I6)]
abbrev a118_:List (Nat×ObSh):=[(2681,.arr 80 (.pair I6 (.pair I6 I6)))]
abbrev v119_:List (Nat×TypeId×List Sh1):=[(48,32,kp 6),(96,55,kp 4),(144,76,[.keep,.keep])]
abbrev v120_:List (Nat×TypeId×List Sh1):=[(32,126,[.keep,.data I6,.keep,.keep]),(48,126,kp 4)]
abbrev a121_:List (Nat×ObSh):=[(2,.arr 9 (.str))]
abbrev r122_:List (Nat×Sh):=[(1,kk),(2,pt 48 0),(4,pt 80 0),(5,pt 96 0),(6,ii)]
abbrev r123_:List (Nat×Sh):=[(0,pt 0 0),(2,pt 48 0),(3,pt 64 0),(5,kk),(9,kk)]
abbrev r124_:List (Nat×Sh):=[(0,dd tT0),(1,pt 0 0),(2,dd tT1)]
abbrev r125_:List (Nat×Sh):=[(2,pt 48 0),(3,pt 64 0),(44,kk),(45,kk),(46,ii)]
abbrev r126_:List (Nat×Sh):=[(0,pt 0 2),(1,dd (.sl (.str))),(2,.one (.sel tT0))]
abbrev a127_:List (Nat×ObSh):=[(0,.arr 108 tT3)]
abbrev r128_:List (Nat×Sh):=[(0,dd (.sl tT4)),(1,dd (.pair (.str) (.pair I6 I6)))]
abbrev v129_:List (Nat×TypeId×List Sh1):=[(48,32,kp 6),(80,61,kp 12)]
abbrev r130_:List (Nat×Sh):=[(4,dd (.sl tT1)),(5,ii),(6,ii)]
abbrev r131_:List (Nat×Sh):=[(2,pt 48 0),(3,pt 64 0),(8,ss)]
abbrev v132_:List (Nat×TypeId×List Sh1):=[(64,32,kp 6),(272,48,kp 7)]
abbrev r133_:List (Nat×Sh):=[(0,dd (.sl I6)),(1,.one (.fn [.int .i64] (.bool)))]
abbrev v134_:List (Nat×TypeId×List Sh1):=[(0,167,[.own 25,dB]),(96,61,kp 12)]
abbrev r135_:List (Nat×Sh):=[(0,kk),(1,kk),(2,kk),(8,kk),(9,ii),(10,ii)]
abbrev r136_:List (Nat×Sh):=[(0,dd (.sl I6))]
abbrev r137_:List (Nat×Sh):=[(0,dd (.sl (.str))),(1,.one (.fn [.str] (.bool)))]
abbrev r138_:List (Nat×Sh):=[(0,pt 0 0),(5,pt 96 0)]
abbrev v139_:List (Nat×TypeId×List Sh1):=[(48,32,kp 6),(64,57,kp 7)]
abbrev v140_:List (Nat×TypeId×List Sh1):=[(48,44,kp 4),(64,57,kp 7),(80,44,kp 4)]
abbrev r141_:List (Nat×Sh):=[(0,kk),(1,kk),(5,ii)]
abbrev a142_:List (Nat×ObSh):=[(139,.arr 140 tT4)]
abbrev r143_:List (Nat×Sh):=[(1,kk),(2,pt 48 0),(8,ii)]
abbrev r144_:List (Nat×Sh):=[(0,dd tT0),(1,ii),(2,ss)]
abbrev r145_:List (Nat×Sh):=[(0,kk),(6,kk),(7,ow 139)]
abbrev v146_:List (Nat×TypeId×List Sh1):=[(0,131,[.nptr 0 0,.own 1])]
abbrev a147_:List (Nat×ObSh):=[(1065,.arr 9 (.str))]
abbrev r148_:List (Nat×Sh):=[(0,ii),(1,bb)]
abbrev r149_:List (Nat×Sh):=[(0,ss),(1,ii)]
abbrev r150_:List (Nat×Sh):=[(0,dd tT0),(1,ii)]
abbrev a151_:List (Nat×ObSh):=[(0,.arr 4 (.bool))]
abbrev a152_:List (Nat×ObSh):=[(75,.arr 9 (.str))]
abbrev j0_:J:=⟨[(0,bb)],[],[]⟩
abbrev j1_:J:=⟨[(0,ii)],[],[]⟩
abbrev j2_:J:=⟨[],[],[]⟩
abbrev j3_:J:=⟨[(4,ii)],[],[]⟩
abbrev j4_:J:=⟨[(2,ii)],[],[]⟩
abbrev j5_:J:=⟨[(0,ss)],[],[]⟩
abbrev j6_:J:=⟨r51_,[],[]⟩
abbrev j7_:J:=⟨[(2,bb)],[],[]⟩
abbrev j8_:J:=⟨r56_,[],[]⟩
abbrev j9_:J:=⟨[(4,bb)],[],[]⟩
abbrev j10_:J:=⟨r23_,[],[]⟩
abbrev j11_:J:=⟨[(0,dd tT0)],[],[]⟩
abbrev j12_:J:=⟨[(1,pt 32 0)],v7_,[]⟩
abbrev j13_:J:=⟨r70_,[],[]⟩
abbrev j14_:J:=⟨[(0,dd tT2)],[],[]⟩
abbrev j15_:J:=⟨[(0,dd tT1)],[],[]⟩
abbrev j16_:J:=⟨r65_,[],[]⟩
abbrev j17_:J:=⟨r83_,[],[]⟩
abbrev j18_:J:=⟨r37_,v0_,a78_⟩
abbrev j19_:J:=⟨[(4,pt 80 0)],v3_,[]⟩
abbrev j20_:J:=⟨r136_,[],[]⟩
abbrev j21_:J:=⟨r112_,[],[]⟩
abbrev j22_:J:=⟨[(0,dd tT7)],[],[]⟩
abbrev j23_:J:=⟨r49_,[],[]⟩
abbrev j24_:J:=⟨[],v63_,a121_⟩
abbrev j25_:J:=⟨r148_,[],[]⟩
abbrev j26_:J:=⟨r74_,v6_,a2_⟩
abbrev j27_:J:=⟨[(0,ii)],v6_,a2_⟩
abbrev j28_:J:=⟨r149_,[],[]⟩
abbrev j29_:J:=⟨[(0,dd tT4)],[],[]⟩
abbrev j30_:J:=⟨[(0,ow 0)],[],[(0,.arr 3 I6)]⟩
abbrev j31_:J:=⟨[(0,ow 0)],[],a151_⟩
abbrev j32_:J:=⟨[(0,dd tT3)],[],[]⟩
abbrev j33_:J:=⟨[(0,ii)],v13_,[]⟩
abbrev j34_:J:=⟨[(1,pt 32 0),(3,ow 75)],v7_,a100_⟩
abbrev j35_:J:=⟨[(0,ss),(1,bb)],[],[]⟩
abbrev j36_:J:=⟨[(0,dd tT0),(1,dd tT1)],[],[]⟩
abbrev j37_:J:=⟨[(0,dd (.sl tT4))],[],[]⟩
abbrev j38_:J:=⟨[(0,dd tT3),(1,dd tT3)],[],[]⟩
abbrev j39_:J:=⟨[(0,pt 0 0)],v13_,[]⟩
abbrev j40_:J:=⟨[(0,pt 0 0),(1,dd tT0),(2,dd tT7)],v47_,a41_⟩
abbrev j41_:J:=⟨[(0,dd (.int .u32)),(1,dd (.int .u32))],[],[]⟩
abbrev j42_:J:=⟨[(0,.agg [.own 0,.own 1,.own 2,.own 3])],[],a59_⟩
abbrev j43_:J:=⟨[(0,kk),(1,kk),(2,kk),(8,kk),(9,ii)],[],[]⟩
abbrev j44_:J:=⟨[(0,dd (.pair (.sl (.bool)) (.sl (.bool))))],[],[]⟩
abbrev j45_:J:=⟨[(0,dd tT0),(1,dd (.pair (.sl tT2) tT6))],[],[]⟩
abbrev j46_:J:=⟨[(0,dd tT0),(1,dd (.pair I6 (.bool)))],[],[]⟩
abbrev j47_:J:=⟨[(0,pt 0 0),(2,pt 48 0),(3,pt 64 0),(5,kk)],v14_,a50_⟩
abbrev j48_:J:=⟨[(0,ow 0),(3,pt 64 0),(6,ii)],[(64,108,kp 6)],a127_⟩
def qqm(l:LI):Option (Bool):=some (decide ((l.length:Int)<=400))
def qo5:Fun:=⟨7,1,1,j20_,j0_,fun x=>qqm x⟩
theorem qux:FO qo5:=fk 6 .nil func7
def qad(s:List yT0)(f:yT0×Unit->Option Bool)(v:Int):Option (Int⊕(Unit⊕Int)):=bif decide (v<(s.length:Int)) then(gd (inB v s.length)<|(f (s.getD v.toNat ([],0,0,0,0,0,[]),())).bind fun r=>bif r then(some (.inr (.inr v)))else(some (.inl (wi64 (v+1)))))else(some (.inr (.inl ())))
def qaq(s:List yT0)(f:yT0×Unit->Option Bool):Option (Int):=(iter (fun x=>qad s f x) 0).bind fun s2=>s2.elim (fun s3=>some (-1)) (fun s4=>some s4)
def qaV:Fun:=⟨223,2,1,⟨r97_,[],[]⟩,j1_,U2 qaq⟩
theorem qbx:FO qaV:=fk 19 (nn (m1 (nn (m1 (lp j10_ [⟨.x 0,j2_⟩,⟨.r,j3_⟩] .nil .nil))))) func223
def qal(s:List yT0)(f:yT0×Unit->Option Bool):Option (Bool):=(qaq s f).bind fun r=>some (decide (0<=r))
def qaL:Fun:=⟨146,2,1,⟨r97_,[],[]⟩,j0_,U2 qal⟩
theorem qbq:FO qaL:=fj [qaV] 9 .nil func146 ⟨qbx,trivial⟩
def qhQ(s:yB11):Option (Bool):=bif decide ((s.2.2.2.2.2.2.length:Int)<2) then(some true)else(some (decide (8<(s.2.2.2.2.2.2.length:Int))))
def qiu:Fun:=⟨147,1,1,⟨r108_,[],[]⟩,j0_,fun x=>qhQ x⟩
theorem qot:FO qiu:=fk 13 .nil func147
def qe4(n:yB0):Option (Bool):=Option.bind (α:=Bool) (bif decide ((n.1.length:Int)<1) then(some true)else(bif decide (24<(n.1.length:Int)) then(some true)else(bif decide (32<(n.2.1.length:Int)) then(some true)else(bif decide (24<(n.2.2.1.length:Int)) then(some true)else(some (decide (12<(n.2.2.2.1.length:Int)))))))) fun s=>bif s then(some false)else((qal n.2.1 (fun h=>(qhQ h.1).bind fun y=>some y)).bind fun r=>some (!r))
def qjZ:Fun:=⟨75,1,1,j11_,j0_,fun x=>qe4 x⟩
theorem qqn:FO qjZ:=fj [qaL,qiu] 35 (nn (m1 (m1 (jm [(1,pt 32 0),(30,bb)] v7_)))) func75 ⟨qbq,qot,trivial⟩
def qfs(n:yB0)(v:Int)(out:List LB):Option ((Int×List LB)⊕(List LB)):=bif decide (v<(n.2.1.length:Int)) then(gd (inB v n.2.1.length)<|gd (fits (out.length+1) 16)<|some (.inl (wi64 (v+1),out++[(n.2.1.getD v.toNat ([],(0,(0,(0,(0,(0,[]))))))).1])))else(some (.inr out))
def qft(n:yB0)(v2:Int)(out2:List LB)(out3:List LB):Option ((Int×List LB×List LB)⊕(List LB×List LB)):=bif decide (v2<(n.2.2.1.length:Int)) then(gd (inB v2 n.2.2.1.length)<|gd (fits (out3.length+1) 16)<|some (.inl (wi64 (v2+1),out2,out3++[(n.2.2.1.getD v2.toNat ([],(0,0))).1])))else(some (.inr (out2,out3)))
def qfu(n:yB0)(v3:Int)(out4:List LB)(out5:List LB)(out6:List LB):Option ((Int×List LB×List LB×List LB)⊕(List LB×List LB×List LB)):=bif decide (v3<(n.2.2.2.1.length:Int)) then(gd (inB v3 n.2.2.2.1.length)<|gd (fits (out6.length+1) 16)<|some (.inl (wi64 (v3+1),out4,out5,out6++[(n.2.2.2.1.getD v3.toNat ([],(0,(0,(0,0))))).1])))else(some (.inr (out4,out5,out6)))
def qby(n:yB0):Option yB14:=(iter (fun x=>qfs n x.1 x.2) (0,[])).bind fun s=>(iter (fun x2=>qft n x2.1 x2.2.1 x2.2.2) (0,s,[])).bind fun s2=>(iter (fun x3=>qfu n x3.1 x3.2.1 x3.2.2.1 x3.2.2.2) (0,s2.1,s2.2,[])).bind fun s3=>some (n.1,s3.1,s3.2.1,s3.2.2)
def qhR:Fun:=⟨76,1,1,j11_,⟨r85_,[],[]⟩,fun x=>qby x⟩
theorem qlf:FO qhR:=fk 59 (n3 (mm (nn (m1 (lp ⟨r104_,v31_,a147_⟩ [⟨.x 0,⟨r62_,v31_,a147_⟩⟩] .nil .nil))) (mm (nn (m1 (lp ⟨r105_,v29_,a79_⟩ [⟨.x 2,⟨r62_,v29_,a79_⟩⟩] .nil .nil))) (m1 (nn (m1 (lp ⟨r125_,v36_,a38_⟩ [⟨.x 4,⟨r34_,v36_,a38_⟩⟩] .nil .nil))))))) func76
def qaw(s:List LB)(f:LB×Unit->Option Bool)(v:Int):Option (Int⊕(Unit⊕Int)):=bif decide (v<(s.length:Int)) then(gd (inB v s.length)<|(f (s.getD v.toNat [],())).bind fun r=>bif r then(some (.inr (.inr v)))else(some (.inl (wi64 (v+1)))))else(some (.inr (.inl ())))
def qbh(s:List LB)(f:LB×Unit->Option Bool):Option (Int):=(iter (fun x=>qaw s f x) 0).bind fun s2=>s2.elim (fun s3=>some (-1)) (fun s4=>some s4)
def qcV:Fun:=⟨148,2,1,⟨r137_,[],[]⟩,j1_,U2 qbh⟩
theorem qf1:FO qcV:=fk 19 (nn (m1 (nn (m1 (lp j10_ [⟨.x 0,j2_⟩,⟨.r,j3_⟩] .nil .nil))))) func148
def qax(s:List LB)(f:LB×Unit->Option Bool):Option (Bool):=(qbh s f).bind fun r=>some (decide (0<=r))
def qcs:Fun:=⟨77,2,1,⟨r137_,[],[]⟩,j0_,U2 qax⟩
theorem qe5:FO qcs:=fj [qcV] 9 .nil func77 ⟨qf1,trivial⟩
def qfK(c:Int):Option (Int):=Option.bind (α:=Unit⊕Unit⊕Int) (Option.bind (α:=Bool) (bif decide (97<=c) then(some (decide (c<=122)))else(some false)) fun s=>bif s then(some (.inr (.inr 1)))else(Option.bind (α:=Bool) (bif decide (48<=c) then(some (decide (c<=57)))else(some false)) fun s2=>bif s2 then(some (.inl ()))else(bif decide (c=45) then(some (.inl ()))else(some (.inr (.inl ())))))) fun s3=>s3.elim (fun s4=>some 2) (fun s5=>s5.elim (fun s6=>some 0) (fun s7=>some s7))
def qnK:Fun:=⟨149,1,1,⟨[(0,dd (.int .u8))],[],[]⟩,j1_,fun x=>qfK x⟩
theorem qs1:FO qnK:=fk 20 (nn (m1 (m1 (m1 (.mk [.join [⟨.n,j2_⟩,⟨.x 0,j2_⟩,⟨.r,j4_⟩]] none (m1 (m1 (m1 (m1 (mm (m1 (jm [(0,kk),(3,bb)] [])) (m1 (m1 (jm [(0,kk),(10,bb)] [])))))))) .nil))))) func149
def qcl(s:LB)(v:Int):Option (Int⊕(Unit⊕Bool)):=bif decide (v<(s.length:Int)) then(gd (inB v s.length)<|(qfK (Int.ofNat (s.getD v.toNat 0).toNat)).bind fun r2=>bif decide (r2=0) then(some (.inr (.inr false)))else(some (.inl (wi64 (v+1)))))else(some (.inr (.inl ())))
def qcS(s:LB):Option (Bool):=Option.bind (α:=Bool) (bif decide ((s.length:Int)<1) then(some true)else(bif decide (12<(s.length:Int)) then(some true)else(gd (inB 0 s.length)<|(qfK (Int.ofNat (s.getD 0 0).toNat)).bind fun r=>some (!decide (r=1))))) fun s2=>bif s2 then(some false)else((iter (fun x=>qcl s x) 0).bind fun s3=>s3.elim (fun s4=>some true) (fun s5=>some s5))
def qf2:Fun:=⟨79,1,1,j5_,j0_,fun x=>qcS x⟩
theorem qh9:FO qf2:=fj [qnK] 29 (nn (mm (m1 (jm [(0,kk),(17,bb)] [])) (m1 (nn (m1 (lp ⟨[(0,kk),(19,kk),(20,ii)],[],[]⟩ [⟨.x 0,j2_⟩,⟨.r,j7_⟩] .nil .nil)))))) func79 ⟨qs1,trivial⟩
def qds(s:LB):Option (Bool):=(qcS s).bind fun r=>some (!r)
def qje:Fun:=⟨78,1,1,j5_,j0_,fun x=>qds x⟩
theorem qo6:FO qje:=fj [qf2] 6 .nil func78 ⟨qh9,trivial⟩
def qaI(s:List LB)(v:LB)(v2:Int):Option (Int⊕(Unit⊕Int)):=bif decide (v2<(s.length:Int)) then(gd (inB v2 s.length)<|bif decide (v=s.getD v2.toNat []) then(some (.inr (.inr v2)))else(some (.inl (wi64 (v2+1)))))else(some (.inr (.inl ())))
def qay(s:List LB)(v:LB):Option (Int):=(iter (fun x=>qaI s v x) 0).bind fun s2=>s2.elim (fun s3=>some (-1)) (fun s4=>some s4)
def qce:Fun:=⟨150,2,1,⟨[(0,dd (.sl (.str))),(1,ss)],[],[]⟩,j1_,U2 qay⟩
theorem qdQ:FO qce:=fk 19 (nn (m1 (nn (m1 (lp j10_ [⟨.x 0,j2_⟩,⟨.r,j3_⟩] .nil .nil))))) func150
def qlU(x:yB3)(v:yB3):Option (Bool):=some (decide (x.2.1=v.2.1))
def qjf:Fun:=⟨152,2,1,⟨[(0,dd tT4),(1,.one (.sel tT4))],[],[]⟩,j0_,U2 qlU⟩
theorem qo7:FO qjf:=fk 9 .nil func152
def qae(s:List yB3)(f:yB3×Unit->Option Bool)(v:Int):Option (Int⊕(Unit⊕Int)):=bif decide (v<(s.length:Int)) then(gd (inB v s.length)<|(f (s.getD v.toNat ([],0,0,0,0),())).bind fun r=>bif r then(some (.inr (.inr v)))else(some (.inl (wi64 (v+1)))))else(some (.inr (.inl ())))
def qab(s:List yB3)(f:yB3×Unit->Option Bool):Option (Int):=(iter (fun x=>qae s f x) 0).bind fun s2=>s2.elim (fun s3=>some (-1)) (fun s4=>some s4)
def qaA:Fun:=⟨151,2,1,⟨r77_,[],[]⟩,j1_,U2 qab⟩
theorem qaW:FO qaA:=fk 19 (nn (m1 (nn (m1 (lp j10_ [⟨.x 0,j2_⟩,⟨.r,j3_⟩] .nil .nil))))) func151
def qfv(r:yB14)(v:Int)(v2:Int):Option (Int⊕(Unit⊕Bool)):=bif decide (v2<(([r.1,r.2.1,r.2.2.1,r.2.2.2].getD v.toNat []).length:Int)) then(gd (inB v2 ([r.1,r.2.1,r.2.2.1,r.2.2.2].getD v.toNat []).length)<|(qay ([r.1,r.2.1,r.2.2.1,r.2.2.2].getD v.toNat []) (([r.1,r.2.1,r.2.2.1,r.2.2.2].getD v.toNat []).getD v2.toNat [])).bind fun r2=>bif decide (r2<v2) then(some (.inr (.inr true)))else(some (.inl (wi64 (v2+1)))))else(some (.inr (.inl ())))
def qfw(r:yB14)(v:Int):Option (Int⊕(Unit⊕Bool)):=bif decide (v<4) then(gd (inB v 4)<|(iter (fun x=>qfv r v x) 0).bind fun s=>s.elim (fun s2=>some (.inl (wi64 (v+1)))) (fun s3=>some (.inr (.inr s3))))else(some (.inr (.inl ())))
def qfx(n:yB0)(v3:Int):Option (Int⊕(Unit⊕Bool)):=bif decide (v3<(n.2.2.2.1.length:Int)) then(gd (inB v3 n.2.2.2.1.length)<|(qab n.2.2.2.1 (fun h=>(qlU h.1 ((n.2.2.2.1.getD v3.toNat ([],0,0,0,0)).1,((n.2.2.2.1.getD v3.toNat ([],0,0,0,0)).2).1,(((n.2.2.2.1.getD v3.toNat ([],0,0,0,0)).2).2).1,((((n.2.2.2.1.getD v3.toNat ([],0,0,0,0)).2).2).2).1,((((n.2.2.2.1.getD v3.toNat ([],0,0,0,0)).2).2).2).2)).bind fun y=>some y)).bind fun r3=>bif decide (r3<v3) then(some (.inr (.inr true)))else(some (.inl (wi64 (v3+1)))))else(some (.inr (.inl ())))
def qf3(n:yB0):Option (Bool):=(qby (Y6 n)).bind fun r=>(iter (fun x2=>qfw r x2) 0).bind fun s4=>s4.elim (fun s5=>(iter (fun x3=>qfx n x3) 0).bind fun s7=>s7.elim (fun s8=>some false) (fun s9=>some s9)) (fun s6=>some s6)
def qlg:Fun:=⟨80,1,1,j11_,j0_,fun x=>qf3 x⟩
theorem qq3:FO qlg:=fj [qhR,qce,qaA,qjf] 43 (nn (mm (nn (m1 (lp ⟨[(1,pt 32 0),(10,kk),(11,ii)],v7_,[]⟩ [⟨.x 0,j12_⟩,⟨.r,j7_⟩] (n2 (m1 (m1 (n2 (m1 (lp ⟨[(1,pt 32 0),(4,kk),(10,kk),(11,kk),(14,kk),(15,kk),(16,ii)],v7_,[]⟩ [⟨.x 2,⟨[(1,pt 32 0),(10,kk),(11,kk)],v7_,[]⟩⟩,⟨.r,j7_⟩] .nil .nil)))))) .nil))) (m1 (nn (m1 (lp ⟨[(1,pt 32 0),(29,kk),(30,kk),(31,ii)],v7_,[]⟩ [⟨.x 4,j2_⟩,⟨.r,j7_⟩] (n2 (m1 (m1 (nn (m1 (.mk [.fv [(8,.pair (.str) (.pair I6 (.pair I6 (.pair I6 I6))))]] none .nil .nil)))))) .nil)))))) func80 ⟨qlf,qdQ,qaW,qo7,trivial⟩
def qf4(k:Int)(v:yB0):Option (Bool):=bif decide (k<0) then(some true)else(some (decide ((v.1.length:Int)<=k)))
def qjg:Fun:=⟨154,2,1,⟨[(0,ii),(1,.one (.sel tT0))],[],[]⟩,j0_,U2 qf4⟩
theorem qo8:FO qjg:=fk 13 .nil func154
def qaO(s:LI)(f:Int×Unit->Option Bool)(v:Int):Option (Int⊕(Unit⊕Int)):=bif decide (v<(s.length:Int)) then(gd (inB v s.length)<|(f (s.getD v.toNat 0,())).bind fun r=>bif r then(some (.inr (.inr v)))else(some (.inl (wi64 (v+1)))))else(some (.inr (.inl ())))
def qb8(s:LI)(f:Int×Unit->Option Bool):Option (Int):=(iter (fun x=>qaO s f x) 0).bind fun s2=>s2.elim (fun s3=>some (-1)) (fun s4=>some s4)
def qeo:Fun:=⟨224,2,1,⟨r133_,[],[]⟩,j1_,U2 qb8⟩
theorem qiv:FO qeo:=fk 19 (nn (m1 (nn (m1 (lp j10_ [⟨.x 0,j2_⟩,⟨.r,j3_⟩] .nil .nil))))) func224
def qaE(s:LI)(f:Int×Unit->Option Bool):Option (Bool):=(qb8 s f).bind fun r=>some (decide (0<=r))
def qbi:Fun:=⟨153,2,1,⟨r133_,[],[]⟩,j0_,U2 qaE⟩
theorem qbX:FO qbi:=fj [qeo] 9 .nil func153 ⟨qiv,trivial⟩
def qfy(n:yB0)(v:Int)(all:LI):Option yB16:=bif decide (v<(n.2.1.length:Int)) then(gd (inB v n.2.1.length)<|gd (fits (all.length+2) 8)<|some (.inl (wi64 (v+1),all++[((n.2.1.getD v.toNat ([],(0,(0,(0,(0,(0,[]))))))).2).1,(((n.2.1.getD v.toNat ([],(0,(0,(0,(0,(0,[]))))))).2).2).1])))else(some (.inr all))
def qfz(n:yB0)(v2:Int)(all2:LI):Option yB16:=bif decide (v2<(n.2.2.1.length:Int)) then(gd (inB v2 n.2.2.1.length)<|gd (fits (all2.length+1) 8)<|some (.inl (wi64 (v2+1),all2++[((n.2.2.1.getD v2.toNat ([],(0,0))).2).1])))else(some (.inr all2))
def qfA(n:yB0)(v3:Int)(all3:LI):Option yB16:=bif decide (v3<(n.2.2.2.1.length:Int)) then(gd (inB v3 n.2.2.2.1.length)<|gd (fits (all3.length+1) 8)<|some (.inl (wi64 (v3+1),all3++[((n.2.2.2.1.getD v3.toNat ([],(0,(0,(0,0))))).2).1])))else(some (.inr all3))
def qf5(n:yB0):Option (Bool):=(iter (fun x=>qfy n x.1 x.2) (0,[])).bind fun s=>(iter (fun x2=>qfz n x2.1 x2.2) (0,s)).bind fun s2=>(iter (fun x3=>qfA n x3.1 x3.2) (0,s2)).bind fun s3=>(qaE s3 (fun h=>(qf4 h.1 (Y6 n)).bind fun y=>some y)).bind fun r=>some (!r)
def qlh:Fun:=⟨81,1,1,j11_,j0_,fun x=>qf5 x⟩
theorem qq4:FO qlh:=fj [qbi,qjg] 55 (n2 (mm (nn (m1 (lp ⟨[(1,pt 32 0),(3,ow 75),(11,kk),(12,kk),(13,ii)],v7_,a100_⟩ [⟨.x 0,j34_⟩] .nil .nil))) (mm (nn (m1 (lp ⟨[(1,pt 32 0),(3,ow 75),(26,kk),(27,kk),(28,ii)],v7_,a100_⟩ [⟨.x 2,j34_⟩] .nil .nil))) (mm (nn (m1 (lp ⟨[(1,pt 32 0),(3,ow 75),(39,kk),(40,kk),(41,ii)],v7_,a100_⟩ [⟨.x 4,j34_⟩] .nil .nil))) (m1 (.mk [.fv [(1,.pair (.sl (.str)) (.pair (.sl (.pair (.str) tT5)) (.pair (.sl (.pair (.str) (.pair I6 I6))) (.pair (.sl tT4) (.pair I6 I6)))))]] none .nil .nil)))))) func81 ⟨qbX,qo8,trivial⟩
def qb9(n:Int)(least:Int)(most:Int):Option (Bool):=bif decide (least<=n) then(some (decide (n<=most)))else(some false)
def qf6:Fun:=⟨159,3,1,⟨[(0,ii),(1,ii),(2,ii)],[],[]⟩,j0_,U3 qb9⟩
theorem qia:FO qf6:=fk 15 .nil func159
def qf7(s:yB11)(v:Int):Option (Int⊕(Unit⊕Bool)):=bif decide (v<(s.2.2.2.2.2.2.length:Int)) then(gd (inB v s.2.2.2.2.2.2.length)<|Option.bind (α:=Bool) ((qb9 (((s.2.2.2.2.2.2.getD v.toNat (0,0,0)).2).1) (-500) 5000).bind fun r4=>bif !r4 then(some true)else((qb9 (((s.2.2.2.2.2.2.getD v.toNat (0,0,0)).2).2) 0 100000000).bind fun r5=>bif !r5 then(some true)else(bif decide (0<v) then(gd (inB (wi64 (v-1)) s.2.2.2.2.2.2.length)<|some (decide ((s.2.2.2.2.2.2.getD v.toNat (0,(0,0))).1<=(s.2.2.2.2.2.2.getD (wi64 (v-1)).toNat (0,(0,0))).1)))else(some false)))) fun s3=>bif s3 then(some (.inr (.inr false)))else(some (.inl (wi64 (v+1)))))else(some (.inr (.inl ())))
def qhw(s:yB11):Option (Bool):=Option.bind (α:=Bool) (bif decide (s.2.1=s.2.2.1) then(some true)else((qb9 s.2.2.2.1 1 1000000).bind fun r=>bif !r then(some true)else((qb9 s.2.2.2.2.1 0 1000).bind fun r2=>bif !r2 then(some true)else((qb9 s.2.2.2.2.2.1 0 100000).bind fun r3=>some (!r3))))) fun s2=>bif s2 then(some false)else((iter (fun x=>qf7 s x) 0).bind fun s4=>s4.elim (fun s5=>gd (inB 0 s.2.2.2.2.2.2.length)<|bif decide ((s.2.2.2.2.2.2.getD 0 (0,0,0)).1=0) then(gd (inB (wi64 ((s.2.2.2.2.2.2.length:Int)-1)) s.2.2.2.2.2.2.length)<|some (decide ((s.2.2.2.2.2.2.getD (wi64 ((s.2.2.2.2.2.2.length:Int)-1)).toNat (0,(0,0))).1=s.2.2.2.1)))else(some false)) (fun s6=>some s6))
def qlV:Fun:=⟨156,1,1,⟨r108_,[],[]⟩,j0_,fun x=>qhw x⟩
theorem qsg:FO qlV:=fj [qf6] 83 (nn (mm (m1 (jm [(1,pt 32 0),(27,bb)] v113_)) (m1 (nn (m1 (lp ⟨[(1,pt 32 0),(29,kk),(30,kk),(31,ii)],v113_,[]⟩ [⟨.x 0,⟨[(1,pt 32 0)],v113_,[]⟩⟩,⟨.r,j7_⟩] (n2 (m1 (m1 (nn (m1 (jm [(1,pt 32 0),(29,kk),(30,kk),(31,kk),(61,bb)] v113_)))))) .nil)))))) func156 ⟨qia,trivial⟩
def qfB(s:yB11):Option (Bool):=(qhw (Y7 s)).bind fun r=>some (!r)
def qiw:Fun:=⟨155,1,1,⟨r108_,[],[]⟩,j0_,fun x=>qfB x⟩
theorem qou:FO qiw:=fj [qlV] 6 .nil func155 ⟨qsg,trivial⟩
def qam(s:List (LB×Int×Int))(f:(LB×Int×Int)×Unit->Option Bool)(v:Int):Option (Int⊕(Unit⊕Int)):=bif decide (v<(s.length:Int)) then(gd (inB v s.length)<|(f (s.getD v.toNat ([],0,0),())).bind fun r=>bif r then(some (.inr (.inr v)))else(some (.inl (wi64 (v+1)))))else(some (.inr (.inl ())))
def qaG(s:List (LB×Int×Int))(f:(LB×Int×Int)×Unit->Option Bool):Option (Int):=(iter (fun x=>qam s f x) 0).bind fun s2=>s2.elim (fun s3=>some (-1)) (fun s4=>some s4)
def qbg:Fun:=⟨225,2,1,⟨r71_,[],[]⟩,j1_,U2 qaG⟩
theorem qci:FO qbg:=fk 19 (nn (m1 (nn (m1 (lp j10_ [⟨.x 0,j2_⟩,⟨.r,j3_⟩] .nil .nil))))) func225
def qaM(s:List (LB×Int×Int))(f:(LB×Int×Int)×Unit->Option Bool):Option (Bool):=(qaG s f).bind fun r=>some (decide (0<=r))
def qbR:Fun:=⟨157,2,1,⟨r71_,[],[]⟩,j0_,U2 qaM⟩
theorem qej:FO qbR:=fj [qbg] 9 .nil func157 ⟨qci,trivial⟩
def qfC(p:LB×Int×Int):Option (Bool):=(qb9 p.2.2 0 100000000).bind fun r=>some (!r)
def qix:Fun:=⟨158,1,1,⟨r101_,[],[]⟩,j0_,fun x=>qfC x⟩
theorem qov:FO qix:=fj [qf6] 7 .nil func158 ⟨qia,trivial⟩
def qaB(s:List yB3)(f:yB3×Unit->Option Bool):Option (Bool):=(qab s f).bind fun r=>some (decide (0<=r))
def qbr:Fun:=⟨160,2,1,⟨r77_,[],[]⟩,j0_,U2 qaB⟩
theorem qdq:FO qbr:=fj [qaA] 9 .nil func160 ⟨qaW,trivial⟩
def qfD(s:yB3):Option (Bool):=(qb9 s.2.2.1 0 100000000).bind fun r=>bif !r then(some true)else((qb9 s.2.2.2.1 0 100000).bind fun r2=>bif !r2 then(some true)else((qb9 s.2.2.2.2 0 100000000).bind fun r3=>some (!r3)))
def qiy:Fun:=⟨161,1,1,j29_,j0_,fun x=>qfD x⟩
theorem qow:FO qiy:=fj [qf6] 19 .nil func161 ⟨qia,trivial⟩
def qe6(n:yB0):Option (Bool):=(qal n.2.1 (fun h=>(qfB h.1).bind fun y=>some y)).bind fun r=>bif r then(some false)else((qaM n.2.2.1 (fun h2=>(qfC h2.1).bind fun y=>some y)).bind fun r2=>bif r2 then(some false)else((qaB n.2.2.2.1 (fun h3=>(qfD h3.1).bind fun y=>some y)).bind fun r3=>bif r3 then(some false)else((qb9 n.2.2.2.2.1 (-100000) 100000000).bind fun r4=>bif r4 then((qb9 n.2.2.2.2.2 0 100).bind fun r5=>some r5)else(some false))))
def qj0:Fun:=⟨82,1,1,j11_,j0_,fun x=>qe6 x⟩
theorem qqo:FO qj0:=fj [qaL,qiw,qbR,qix,qbr,qiy,qf6] 20 .nil func82 ⟨qbq,qou,qej,qov,qdq,qow,qia,trivial⟩
def qfE(r2:yB14)(v:Int):Option (Int⊕(Unit⊕Int)):=bif decide (v<4) then(gd (inB v 4)<|(qax ([r2.1,r2.2.1,r2.2.2.1,r2.2.2.2].getD v.toNat []) (fun h=>(qds h.1).bind fun y=>some y)).bind fun r3=>bif r3 then(some (.inr (.inr 3)))else(some (.inl (wi64 (v+1)))))else(some (.inr (.inl ())))
def qbz(n:yB0):Option (Int):=(qe4 (Y6 n)).bind fun r=>bif !r then(some 4)else((qby (Y6 n)).bind fun r2=>(iter (fun x=>qfE r2 x) 0).bind fun s=>s.elim (fun s2=>(qf3 (Y6 n)).bind fun r4=>bif r4 then(some 7)else((qf5 (Y6 n)).bind fun r5=>bif !r5 then(some 8)else((qe6 (Y6 n)).bind fun r6=>bif !r6 then(some 9)else(some 0)))) (fun s3=>some s3))
def qbo:Fun:=⟨30,1,1,j11_,j1_,fun x=>qbz x⟩
theorem qbF:FO qbo:=fj [qjZ,qhR,qcs,qje,qlg,qlh,qj0] 27 (n2 (m1 (nn (m1 (lp ⟨[(1,pt 32 0),(9,kk),(10,ii)],v7_,[]⟩ [⟨.x 0,j12_⟩,⟨.r,j4_⟩] .nil .nil))))) func30 ⟨qqn,qlf,qe5,qo6,qq3,qq4,qqo,trivial⟩
def qbY(s:LB)(c:Int):Option (Int):=(idxB s c).bind fun r=>some r
def qcW:Fun:=⟨226,2,1,⟨[(0,ss),(1,dd (.int .u8))],[],[]⟩,j1_,U2 qbY⟩
theorem qf8:FO qcW:=fi [] [] 8 [xt264] .nil func226 ⟨trivial,⟨xk264,trivial⟩⟩
def qbf(s:LB)(substr:LB):Option (Int):=Option.bind (α:=Bool) (bif decide ((substr.length:Int)=0) then(some true)else(some (decide (substr=s)))) fun s2=>bif s2 then(some 0)else(bif decide ((substr.length:Int)=1) then(gd (inB 0 substr.length)<|(qbY s (Int.ofNat (substr.getD 0 0).toNat)).bind fun r=>some r)else(bif decide ((s.length:Int)<=(substr.length:Int)) then(some (-1))else(none)))
def qcf:Fun:=⟨162,2,1,j8_,j1_,U2 qbf⟩
theorem qdR:FO qcf:=fj [qcW] 143 (n2 (m1 (m1 (m1 (jm [(0,kk),(1,kk),(5,kk),(16,bb)] []))))) func162 ⟨qf8,trivial⟩
def qo9(s:LB)(substr:LB):Option (Int):=(qbf s substr).bind fun r=>some r
def qli:Fun:=⟨85,2,1,j8_,j1_,U2 qo9⟩
theorem qq5:FO qli:=fj [qcf] 8 .nil func85 ⟨qdR,trivial⟩
def qq6(substr:LB)(s2:LB)(n:Int):Option ((LB×Int)⊕Int):=(qo9 s2 substr).bind fun r2=>bif decide (r2=(-1)) then(some (.inr n))else(gd (cutG (some (.i64,wi64 (r2+(substr.length:Int)))) none s2.length)<|some (.inl (s2.drop (wi64 (r2+(substr.length:Int))).toNat,wi64 (n+1))))
def qib(s:LB)(substr:LB):Option (Int):=bif decide ((substr.length:Int)=0) then(none)else(bif decide ((substr.length:Int)=1) then(gd (inB 0 substr.length)<|(cntB s (Int.ofNat (substr.getD 0 0).toNat)).bind fun r=>some r)else((iter (fun x=>qq6 substr x.1 x.2) (s,0)).bind fun s3=>some s3))
def qlj:Fun:=⟨31,2,1,j8_,j1_,U2 qib⟩
theorem qq7:FO qlj:=fi [] [qli] 34 [xt84] (n4 (m1 (lp ⟨[(0,ss),(1,kk),(5,ii)],[],[]⟩ [⟨.r,j3_⟩] .nil .nil))) func31 ⟨⟨qq5,trivial⟩,⟨xk84,trivial⟩⟩
def qbZ(s:LB)(suffix:LB):Option (Bool):=bif decide ((suffix.length:Int)<=(s.length:Int)) then(gd (cutG (some (.i64,wi64 ((s.length:Int)-(suffix.length:Int)))) none s.length)<|some (decide (s.drop (wi64 ((s.length:Int)-(suffix.length:Int))).toNat=suffix)))else(some false)
def qcX:Fun:=⟨86,2,1,j8_,j0_,U2 qbZ⟩
theorem qf9:FO qcX:=fk 21 .nil func86
def qeP(s:LB)(suffix:LB):Option (Bool):=(qbZ s suffix).bind fun r=>some r
def qh2:Fun:=⟨32,2,1,j8_,j0_,U2 qeP⟩
theorem qnz:FO qh2:=fj [qcX] 8 .nil func32 ⟨qf9,trivial⟩
def qca(s:LB)(sep:LB):Option (LB×LB×Bool):=(qbf s sep).bind fun r=>bif decide (0<=r) then(gd (cutG none (some (.i64,r)) s.length)<|gd (cutG (some (.i64,wi64 (r+(sep.length:Int)))) none s.length)<|some (s.take r.toNat,s.drop (wi64 (r+(sep.length:Int))).toNat,true))else(some (s,[],false))
def qep:Fun:=⟨87,2,3,j8_,⟨[(0,ss),(1,ss),(2,bb)],[],[]⟩,U2 qca⟩
theorem qiz:FO qep:=fj [qcf] 23 .nil func87 ⟨qdR,trivial⟩
def qgO(s:LB)(sep:LB):Option (LB×LB×Bool):=(qca s sep).bind fun r=>some (r.1,r.2.1,r.2.2)
def qnL:Fun:=⟨33,2,3,j8_,⟨[(0,ss),(1,ss),(2,bb)],[],[]⟩,U2 qgO⟩
theorem qs2:FO qnL:=fj [qep] 13 .nil func33 ⟨qiz,trivial⟩
def qlk:Fun:=qyk 88
theorem qq8:FO qlk:=qCy ⟨_,func88,(by kernel_rfl),rfl⟩ (qxj lays146 (by kernel_rfl))
def qlW:Fun:=qAR 231
theorem qsh:FO qlW:=qEw ⟨_,func231,(by kernel_rfl),rfl⟩ strconv_Atoi_ok strconv_Atoi_syn strconv_Atoi_range (by unfold globs; exact .tail _ (.head _)) (by unfold globs; exact .tail _ (.tail _ (.head _)))
def qcY(l:List LB)(v:Int)(out:LI):Option yB16:=bif decide (v<(l.length:Int)) then(gd (inB v l.length)<|(atoiT (l.getD v.toNat [])).bind fun r=>Option.bind (α:=Int×LI) (bif r.2 then(some (0,out))else(some (r.1,out))) fun s=>gd (fits (s.2.length+1) 8)<|some (.inl (wi64 (v+1),s.2++[s.1])))else(some (.inr out))
def qb0(l:List LB):Option LI:=(iter (fun x=>qcY l x.1 x.2) (0,[])).bind fun s2=>some s2
def qcb:Fun:=⟨167,1,1,j21_,j30_,fun x=>qb0 x⟩
theorem qcZ:FO qcb:=fj [qlW] 27 (n2 (m1 (nn (m1 (lp ⟨[(3,ow 75),(8,kk),(9,kk),(10,ii)],[],a100_⟩ [⟨.x 0,⟨[(3,ow 75)],[],a100_⟩⟩] (n2 (m1 (m1 (n2 (m1 (nn (jn [(3,ow 75),(6,ii),(8,kk),(9,kk),(10,kk)] [] a100_))))))) .nil))))) func167 ⟨qsh,trivial⟩
def qea(w:List LB)(s:Int)(s2:LI)(s3:Int)(s4:Int)(s5:Int)(s6:Int)(s7:Int)(s8:List (Int×Bool))(s9:Int)(s10:LB)(s11:Int)(s12:Int):Option (Int×LI×Int×Int×Int×Int×Int×(List (Int×Bool))×Int×LB×Int×Int):=(qb0 w).bind fun r=>gd (inB 0 r.length)<|some (s,s2,s3,r.getD 0 0,s5,s6,s7,s8,s9,s10,s11,s12)
def qhx:Fun:=⟨166,2,0,⟨[(0,pt 0 2),(1,dd (.sl (.str)))],v4_,[]⟩,⟨[],v4_,[]⟩,U13 qea⟩
theorem qlX:FO qhx:=fj [qcb] 11 .nil func166 ⟨qcZ,trivial⟩
def qcj(x:yB3)(v:List LB):Option (Bool):=gd (inB 0 v.length)<|some (decide (x.1=v.getD 0 []))
def qga:Fun:=⟨169,2,1,⟨[(0,dd tT4),(1,.one (.sel (.sl (.str))))],[],[]⟩,j0_,U2 qcj⟩
theorem qkH:FO qga:=fk 10 .nil func169
def qeb(w:List LB)(v:yB0)(s:Int)(s2:LI)(s3:Int)(s4:Int)(s5:Int)(s6:Int)(s7:Int)(s8:List (Int×Bool))(s9:Int)(s10:LB)(s11:Int)(s12:Int):Option (Int×LI×Int×Int×Int×Int×Int×(List (Int×Bool))×Int×LB×Int×Int):=(qab v.2.2.2.1 (fun h=>(qcj h.1 w).bind fun y=>some y)).bind fun r=>some (s,s2,s3,r,s5,s6,s7,s8,s9,s10,s11,s12)
def qhy:Fun:=⟨168,3,0,⟨r126_,v4_,[]⟩,⟨[],v4_,[]⟩,fun x=>qeb x.1 x.2.1 x.2.2.1 x.2.2.2.1 x.2.2.2.2.1 x.2.2.2.2.2.1 x.2.2.2.2.2.2.1 x.2.2.2.2.2.2.2.1 x.2.2.2.2.2.2.2.2.1 x.2.2.2.2.2.2.2.2.2.1 x.2.2.2.2.2.2.2.2.2.2.1 x.2.2.2.2.2.2.2.2.2.2.2.1 x.2.2.2.2.2.2.2.2.2.2.2.2.1 x.2.2.2.2.2.2.2.2.2.2.2.2.2⟩
theorem qlY:FO qhy:=fj [qaA,qga] 12 (nn (.mk [.fv [(4,.sl (.str))]] none .nil .nil)) func168 ⟨qaW,qkH,trivial⟩
def qec(w:List LB)(s:Int)(s2:LI)(s3:Int)(s4:Int)(s5:Int)(s6:Int)(s7:Int)(s8:List (Int×Bool))(s9:Int)(s10:LB)(s11:Int)(s12:Int):Option (Int×LI×Int×Int×Int×Int×Int×(List (Int×Bool))×Int×LB×Int×Int):=(qb0 w).bind fun r=>gd (inB 0 r.length)<|some (s,s2,s3,s4,r.getD 0 0,s6,s7,s8,s9,s10,s11,s12)
def qhz:Fun:=⟨170,2,0,⟨[(0,pt 0 2),(1,dd (.sl (.str)))],v4_,[]⟩,⟨[],v4_,[]⟩,U13 qec⟩
theorem qlZ:FO qhz:=fj [qcb] 11 .nil func170 ⟨qcZ,trivial⟩
def qnM(p:LB×Int×Int)(v:LB):Option (Bool):=some (decide (p.1=v))
def qj1:Fun:=⟨232,2,1,⟨[(0,dd (.pair (.str) (.pair I6 I6))),(1,.one (.sel (.str)))],[],[]⟩,j0_,U2 qnM⟩
theorem qqp:FO qj1:=fk 8 .nil func232
def qeq(n:yB0)(name:LB):Option (Int):=(qaG n.2.2.1 (fun h=>(qnM h.1 name).bind fun y=>some y)).bind fun r=>some r
def ql0:Fun:=⟨172,2,1,j13_,j1_,U2 qeq⟩
theorem qsi:FO ql0:=fj [qbg,qj1] 9 (nn (m1 (.mk [.fv [(3,.str)]] none .nil .nil))) func172 ⟨qci,qqp,trivial⟩
def qb1(s:LB)(vprefix:LB):Option (Bool):=bif decide ((vprefix.length:Int)<=(s.length:Int)) then(gd (cutG none (some (.i64,(vprefix.length:Int))) s.length)<|some (decide (s.take (vprefix.length:Int).toNat=vprefix)))else(some false)
def qc0:Fun:=⟨295,2,1,j8_,j0_,U2 qb1⟩
theorem qgb:FO qc0:=fk 18 .nil func295
def qb2(s:LB)(vprefix:LB):Option (LB×Bool):=(qb1 s vprefix).bind fun r=>bif !r then(some (s,false))else(gd (cutG (some (.i64,(vprefix.length:Int))) none s.length)<|some (s.drop (vprefix.length:Int).toNat,true))
def qc1:Fun:=⟨269,2,2,j8_,j35_,U2 qb2⟩
theorem qgc:FO qc1:=fj [qc0] 15 .nil func269 ⟨qgb,trivial⟩
def qeQ(s:LB)(vprefix:LB):Option (LB×Bool):=(qb2 s vprefix).bind fun r=>some (r.1,r.2)
def qh3:Fun:=⟨233,2,2,j8_,j35_,U2 qeQ⟩
theorem qnA:FO qh3:=fj [qc1] 11 .nil func233 ⟨qgc,trivial⟩
def qj2(s:yB11)(v:LB):Option (Bool):=some (decide (s.1=v))
def qh4:Fun:=⟨270,2,1,⟨[(0,dd (.pair (.str) tT5)),(1,.one (.sel (.str)))],[],[]⟩,j0_,U2 qj2⟩
theorem qnB:FO qh4:=fk 8 .nil func270
def qdt(n:yB0)(name:LB):Option (Int):=(qaq n.2.1 (fun h=>(qj2 h.1 name).bind fun y=>some y)).bind fun r=>some r
def qjh:Fun:=⟨234,2,1,j13_,j1_,U2 qdt⟩
theorem qpa:FO qjh:=fj [qaV,qh4] 9 (nn (m1 (.mk [.fv [(3,.str)]] none .nil .nil))) func234 ⟨qbx,qnB,trivial⟩
def qbO(n:yB0)(s:LB):Option (Int×Bool):=(qeQ s [45]).bind fun r=>(qdt (Y6 n) r.1).bind fun r2=>some (r2,r.2)
def qnN:Fun:=⟨173,2,1,j13_,⟨[(0,dd (.pair I6 (.bool)))],[],[]⟩,U2 qbO⟩
theorem qs3:FO qnN:=fj [qh3,qjh] 17 .nil func173 ⟨qnA,qpa,trivial⟩
def qaD(w:List LB)(v:yB0)(v2:Int)(s13:List (Int×Bool)):Option ((Int×List (Int×Bool))⊕(List (Int×Bool))):=bif decide (v2<((w.drop 3).length:Int)) then(gd (inB v2 (w.drop 3).length)<|(qbO v ((w.drop 3).getD v2.toNat [])).bind fun r4=>gd (fits (s13.length+1) 16)<|some (.inl (wi64 (v2+1),s13++[(r4.1,r4.2)])))else(some (.inr s13))
def qed(w:List LB)(v:yB0)(s:Int)(s2:LI)(s3:Int)(s4:Int)(s5:Int)(s6:Int)(s7:Int)(s8:Int)(s9:LB)(s10:Int)(s11:Int)(s12:List (Int×Bool)):Option (Int×LI×Int×Int×Int×Int×Int×Int×LB×Int×Int×List (Int×Bool)):=(qb0 w).bind fun r=>gd (inB 0 r.length)<|gd (inB 1 w.length)<|(qeq v (w.getD 1 [])).bind fun r2=>gd (inB 2 w.length)<|(qeq v (w.getD 2 [])).bind fun r3=>gd (cutG (some (.i64,3)) none w.length)<|(iter (fun x=>qaD w v x.1 x.2) (0,s12)).bind fun s14=>some (s,s2,s3,s4,r.getD 0 0,r2,r3,s8,s9,s10,s11,s14)
def qhA:Fun:=⟨171,3,0,⟨r126_,[(0,61,[.data I6,dL,.data I6,.data I6,.data I6,.data I6,.data I6,.own 1,.data I6,.data (.str),.data I6,.data I6])],[(1,.arr 76 (.pair I6 (.bool)))]⟩,⟨[],[(0,61,[.data I6,dL,.data I6,.data I6,.data I6,.data I6,.data I6,.own 2,.data I6,.data (.str),.data I6,.data I6])],[(2,.arr 76 (.pair I6 (.bool)))]⟩,fun x=>qed x.1 x.2.1 x.2.2.1 x.2.2.2.1 x.2.2.2.2.1 x.2.2.2.2.2.1 x.2.2.2.2.2.2.1 x.2.2.2.2.2.2.2.1 x.2.2.2.2.2.2.2.2.1 x.2.2.2.2.2.2.2.2.2.1 x.2.2.2.2.2.2.2.2.2.2.1 x.2.2.2.2.2.2.2.2.2.2.2.1 x.2.2.2.2.2.2.2.2.2.2.2.2.1 x.2.2.2.2.2.2.2.2.2.2.2.2.2⟩
theorem ql1:FO qhA:=fj [qcb,ql0,qnN] 54 (n3 (m1 (lp ⟨[(0,pt 0 2),(2,kk),(33,kk),(34,kk),(35,ii)],v72_,[(137,.arr 76 (.pair I6 (.bool)))]⟩ [⟨.x 0,⟨[],v72_,[(137,.arr 76 (.pair I6 (.bool)))]⟩⟩] .nil .nil))) func171 ⟨qcZ,qsi,qs3,trivial⟩
def qbA(w:List LB):Option yB2:=(qb0 w).bind fun r=>some (1,r,(0,0,0,0,0,[],0),[],0,0)
def qhB:Fun:=⟨174,1,1,j21_,j15_,fun x=>qbA x⟩
theorem ql2:FO qhB:=fj [qcb] 6 .nil func174 ⟨qcZ,trivial⟩
def qic:Option (List LB):=some ([[],[114,101,99,101,105,118,101,100],[100,101,108,105,118,101,114,101,100],[115,108,111,112],[115,104,97,114,101]]:List LB)
def qhS:Fun:=⟨176,0,1,j2_,j21_,fun x=>qic⟩
theorem qll:FO qhS:=fk 2 .nil func176
def qbB(w:List LB):Option yB2:=(qic).bind fun r=>gd (inB 0 w.length)<|(qay r (w.getD 0 [])).bind fun r2=>gd (inB 1 w.length)<|(qb0 w).bind fun r3=>gd (inB 2 r3.length)<|some (3,[],(0,0,0,0,0,[],0),w.getD 1 [],max 0 r2,r3.getD 2 0)
def qhC:Fun:=⟨175,1,1,j21_,j15_,fun x=>qbB x⟩
theorem ql3:FO qhC:=fj [qhS,qce,qcb] 18 .nil func175 ⟨qll,qdQ,qcZ,trivial⟩
def qsj:TI:={ t:=219,desc:=.func #[220,27] #[] false,size:=1,bytes:=8,zero:=.nilFunc,T:=.fnc 166,eq:=false }
theorem qxk:qsj.ok prog:=⟨underlying219,by kernel_rfl,fun h=>by cases h⟩
def qa5(w:List LB)(v:Int)(v2:Unit):Option yB2:=(qea w 2 [] v 0 0 0 0 [] 0 [] 0 0).bind fun r=>some (r.1,r.2.1,(r.2.2.1,r.2.2.2.1,r.2.2.2.2.1,r.2.2.2.2.2.1,r.2.2.2.2.2.2.1,r.2.2.2.2.2.2.2.1,r.2.2.2.2.2.2.2.2.1),r.2.2.2.2.2.2.2.2.2.1,r.2.2.2.2.2.2.2.2.2.2.1,r.2.2.2.2.2.2.2.2.2.2.2)
def qer:Fun:=⟨165,3,1,⟨[(0,dd (.sl (.str))),(1,.one (.sel I6)),(2,.one (.sel (.fnc 166)))],[],[]⟩,j15_,U3 qa5⟩
noncomputable  def cx_console_made_valve:Cx:={ Γ:=qsj::types,ow:=[],fs:=[qhx],N:=14 }
theorem qhD:FO qer:=FunOk.intro (C:=cx_console_made_valve) (p:=.nil) func165 rfl (by kernel_rfl) rfl rfl rfl rfl ⟨qxk,qkG⟩ ⟨⟨qlX,trivial⟩,trivial⟩ mx (fun x=>by kernel_rfl)
def qpb:TI:={ t:=219,desc:=.func #[220,27] #[] false,size:=1,bytes:=8,zero:=.nilFunc,T:=.clo 168 tT0,eq:=false }
theorem quy:qpb.ok prog:=⟨underlying219,by kernel_rfl,fun h=>by cases h⟩
def qaN(w:List LB)(v:Int)(v2:yB0):Option yB2:=(qeb w v2 2 [] v 0 0 0 0 [] 0 [] 0 0).bind fun r=>some (r.1,r.2.1,(r.2.2.1,r.2.2.2.1,r.2.2.2.2.1,r.2.2.2.2.2.1,r.2.2.2.2.2.2.1,r.2.2.2.2.2.2.2.1,r.2.2.2.2.2.2.2.2.1),r.2.2.2.2.2.2.2.2.2.1,r.2.2.2.2.2.2.2.2.2.2.1,r.2.2.2.2.2.2.2.2.2.2.2)
def qdB:Fun:=⟨165,3,1,⟨[(0,dd (.sl (.str))),(1,.one (.sel I6)),(2,.one (.sel (.clo 168 tT0)))],[],[]⟩,j15_,U3 qaN⟩
noncomputable  def cx_console_made_station:Cx:={ Γ:=qpb::types,ow:=[],fs:=[qhy],N:=14 }
theorem qgd:FO qdB:=FunOk.intro (C:=cx_console_made_station) (p:=.nil) func165 rfl (by kernel_rfl) rfl rfl rfl rfl ⟨quy,qkG⟩ ⟨⟨qlY,trivial⟩,trivial⟩ mx (fun x=>by kernel_rfl)
def qtG:TI:={ t:=219,desc:=.func #[220,27] #[] false,size:=1,bytes:=8,zero:=.nilFunc,T:=.fnc 170,eq:=false }
theorem qzm:qtG.ok prog:=⟨underlying219,by kernel_rfl,fun h=>by cases h⟩
def qbP(w:List LB)(v:Int)(v2:Unit):Option yB2:=(qec w 2 [] v 0 0 0 0 [] 0 [] 0 0).bind fun r=>some (r.1,r.2.1,(r.2.2.1,r.2.2.2.1,r.2.2.2.2.1,r.2.2.2.2.2.1,r.2.2.2.2.2.2.1,r.2.2.2.2.2.2.2.1,r.2.2.2.2.2.2.2.2.1),r.2.2.2.2.2.2.2.2.2.1,r.2.2.2.2.2.2.2.2.2.2.1,r.2.2.2.2.2.2.2.2.2.2.2)
def qh5:Fun:=⟨165,3,1,⟨[(0,dd (.sl (.str))),(1,.one (.sel I6)),(2,.one (.sel (.fnc 170)))],[],[]⟩,j15_,U3 qbP⟩
noncomputable  def cx_console_made_wait:Cx:={ Γ:=qtG::types,ow:=[],fs:=[qhz],N:=14 }
theorem qnC:FO qh5:=FunOk.intro (C:=cx_console_made_wait) (p:=.nil) func165 rfl (by kernel_rfl) rfl rfl rfl rfl ⟨qzm,qkG⟩ ⟨⟨qlZ,trivial⟩,trivial⟩ mx (fun x=>by kernel_rfl)
def qtH:TI:={ t:=219,desc:=.func #[220,27] #[] false,size:=1,bytes:=8,zero:=.nilFunc,T:=.clo 171 tT0,eq:=false }
theorem qzn:qtH.ok prog:=⟨underlying219,by kernel_rfl,fun h=>by cases h⟩
def qbQ(w:List LB)(v:Int)(v2:yB0):Option yB2:=Option.bind (α:=Int×LI×Int×Int×Int×Int×Int×Int×LB×Int×Int×List (Int×Bool)) (some (0,[],0,0,0,0,0,0,[],0,0,[])) fun s=>Option.bind (α:=Int×LI×Int×Int×Int×Int×Int×Int×LB×Int×Int×Int×LI×Int×Int×Int×Int×Int×Int×LB×Int×Int×(List (Int×Bool))×List (Int×Bool)) (some (s.1,s.2.1,s.2.2.1,s.2.2.2.1,s.2.2.2.2.1,s.2.2.2.2.2.1,s.2.2.2.2.2.2.1,s.2.2.2.2.2.2.2.1,s.2.2.2.2.2.2.2.2.1,s.2.2.2.2.2.2.2.2.2.1,s.2.2.2.2.2.2.2.2.2.2.1,2,[],v,0,0,0,0,0,[],0,0,s.2.2.2.2.2.2.2.2.2.2.2,[])) fun s2=>(qed w v2 s2.2.2.2.2.2.2.2.2.2.2.2.1 s2.2.2.2.2.2.2.2.2.2.2.2.2.1 s2.2.2.2.2.2.2.2.2.2.2.2.2.2.1 s2.2.2.2.2.2.2.2.2.2.2.2.2.2.2.1 s2.2.2.2.2.2.2.2.2.2.2.2.2.2.2.2.1 s2.2.2.2.2.2.2.2.2.2.2.2.2.2.2.2.2.1 s2.2.2.2.2.2.2.2.2.2.2.2.2.2.2.2.2.2.1 s2.2.2.2.2.2.2.2.2.2.2.2.2.2.2.2.2.2.2.1 s2.2.2.2.2.2.2.2.2.2.2.2.2.2.2.2.2.2.2.2.1 s2.2.2.2.2.2.2.2.2.2.2.2.2.2.2.2.2.2.2.2.2.1 s2.2.2.2.2.2.2.2.2.2.2.2.2.2.2.2.2.2.2.2.2.2.1 s2.2.2.2.2.2.2.2.2.2.2.2.2.2.2.2.2.2.2.2.2.2.2.2).bind fun r=>some (r.1,r.2.1,(r.2.2.1,r.2.2.2.1,r.2.2.2.2.1,r.2.2.2.2.2.1,r.2.2.2.2.2.2.1,r.2.2.2.2.2.2.2.2.2.2.2,r.2.2.2.2.2.2.2.1),r.2.2.2.2.2.2.2.2.1,r.2.2.2.2.2.2.2.2.2.1,r.2.2.2.2.2.2.2.2.2.2.1)
def qh6:Fun:=⟨165,3,1,⟨[(0,dd (.sl (.str))),(1,.one (.sel I6)),(2,.one (.sel (.clo 171 tT0)))],[],[]⟩,j15_,U3 qbQ⟩
noncomputable  def cx_console_made_flow:Cx:={ Γ:=qtH::types,ow:=[],fs:=[qhA],N:=14 }
theorem qnD:FO qh6:=FunOk.intro (C:=cx_console_made_flow) (p:=(mm (.mk [.join [⟨.n,⟨[(0,kk),(1,kk),(2,kk),(4,pt 91 0)],[(91,61,[.data I6,dL,.data I6,.data I6,.data I6,.data I6,.data I6,.own 1593,.data I6,.data (.str),.data I6,.data I6])],a57_⟩⟩]] none .nil .nil) (mm (.mk [.join [⟨.n,⟨[(0,kk),(2,kk),(4,pt 91 0),(5,pt 107 0)],[(91,61,[.data I6,dL,.data I6,.data I6,.data I6,.data I6,.data I6,.own 1593,.data I6,.data (.str),.data I6,.data I6]),(107,61,[.data I6,dL,.data I6,.data I6,.data I6,.data I6,.data I6,.own 1849,.data I6,.data (.str),.data I6,.data I6])],[(1593,.arr 76 (.pair I6 (.bool))),(1849,.arr 76 (.pair I6 (.bool)))]⟩⟩]] none .nil .nil) .nil))) func165 rfl (by kernel_rfl) rfl rfl rfl rfl ⟨qzn,qkG⟩ ⟨⟨ql1,trivial⟩,trivial⟩ mx (fun x=>by kernel_rfl)
end
end Go.Proofs.YtmdijohmddokhaaGreatDoor
