/- Lemmas. No condition. -/
import Derived.Test.YtmdijohmddokhaaGreatDoorSqSP
import Derived.Test.YtmdijohmddokhaaGreatDoorQu
import Derived.Handy
namespace Go.Proofs.YtmdijohmddokhaaGreatDoor
open Go Go.Sq Go.RowKit Go.MapKept
set_option maxRecDepth 1000000
set_option maxHeartbeats 4000000
abbrev cT0:Ty:=.pair (.sl (.str)) (.pair (.sl (.pair (.str) (.pair (.int .i64) (.pair (.int .i64) (.pair (.int .i64) (.pair (.int .i64) (.pair (.int .i64) (.sl (.pair (.int .i64) (.pair (.int .i64) (.int .i64))))))))))) (.pair (.sl (.pair (.str) (.pair (.int .i64) (.int .i64)))) (.pair (.sl (.pair (.str) (.pair (.int .i64) (.pair (.int .i64) (.pair (.int .i64) (.int .i64)))))) (.pair (.int .i64) (.int .i64)))))
abbrev cT1:Ty:=.pair (.int .i64) (.pair (.sl (.int .i64)) (.pair (.pair (.int .i64) (.pair (.int .i64) (.pair (.int .i64) (.pair (.int .i64) (.pair (.int .i64) (.pair (.sl (.pair (.int .i64) (.bool))) (.int .i64))))))) (.pair (.str) (.pair (.int .i64) (.int .i64)))))
abbrev cD0:Type:=List (List UInt8)×List (List UInt8×Int×Int×Int×Int×Int×List (Int×Int×Int))×List (List UInt8×Int×Int)×List (List UInt8×Int×Int×Int×Int)×Int×Int
abbrev cD1:Type:=Int×List Int×(Int×Int×Int×Int×Int×List (Int×Bool)×Int)×List UInt8×Int×Int
def qes:List (List UInt8):=[[101,110,116,114,121],[116,101,108,101,103,114,97,109],[102,108,111,119],[119,97,105,116],[115,116,111,112],[115,116,97,114,116],[99,108,111,115,101],[111,112,101,110]]
noncomputable def cmdG(n:cD0)(x:List UInt8×List (List UInt8)×Unit):Option cD1:=bif x.1==[111,112,101,110] then qa5 x.2.1 1 () else bif x.1==[99,108,111,115,101] then qa5 x.2.1 2 () else bif x.1==[115,116,97,114,116] then qaN x.2.1 3 n else bif x.1==[115,116,111,112] then qaN x.2.1 4 n else bif x.1==[119,97,105,116] then qbP x.2.1 6 () else bif x.1==[102,108,111,119] then qbQ x.2.1 5 n else bif x.1==[116,101,108,101,103,114,97,109] then qbA x.2.1 else bif x.1==[101,110,116,114,121] then qbB x.2.1 else none
noncomputable def qlm(n:cD0):Option (List UInt8×List (List UInt8)×Unit->Option cD1):=some (cmdG n)
noncomputable def qiA:Fun:={ f:=89,np:=1,nr:=1,ji:={ regs:=[(0,.one (.data cT0))],vars:=[],arrs:=[] },jo:={ regs:=[(0,.one (.fmap [.sl .str] cT1 qes))],vars:=[],arrs:=[] },tw:=fun x=>qlm x }
theorem qzo(k:Int)(f:FuncId)(c1 c2:Array Value)(w:World):Calls Tryz.prog 164 #[.int .i64 k,.func (.func f) c1 c2] w fun e w'=>e=.returned (.func (.func 165) #[] #[.pointer (some ⟨w.heap.size,0,none⟩),.pointer (some ⟨w.heap.size+1,0,none⟩)])/\w'=(w.alloc (.cells #[.int .i64 k] 3)).alloc (.cells #[.func (.func f) c1 c2] 219):=by
  have nt:Tryz.f164.ntmps=6:=by kernel_rfl
  have hf:=Tryz.func164;generalize hP:Tryz.prog=P at*
  go_enter hf,nt
  go_wp2
  go_ret
  exact⟨rfl,rfl⟩
theorem qAW{F:Nat->Prop}{w:World}(hF:∀b,F b->b<w.heap.size){ps:List Ty}{r:Ty}{G:HL (.str::ps)->Option r.den}(cs:Array Value)
    (v1:CloV Tryz.prog F w w.heap.size (.cells cs 32) ps r G 165 3 219 [111,112,101,110] 1 (.func (.func 166) #[] #[]))
    (v2:CloV Tryz.prog F w w.heap.size (.cells cs 32) ps r G 165 3 219 [99,108,111,115,101] 2 (.func (.func 166) #[] #[]))
    (v3:CloV Tryz.prog F w w.heap.size (.cells cs 32) ps r G 165 3 219 [115,116,97,114,116] 3 (.func (.func 168) #[] #[.pointer (some ⟨w.heap.size,0,none⟩)]))
    (v4:CloV Tryz.prog F w w.heap.size (.cells cs 32) ps r G 165 3 219 [115,116,111,112] 4 (.func (.func 168) #[] #[.pointer (some ⟨w.heap.size,0,none⟩)]))
    (v5:CloV Tryz.prog F w w.heap.size (.cells cs 32) ps r G 165 3 219 [119,97,105,116] 6 (.func (.func 170) #[] #[]))
    (v6:CloV Tryz.prog F w w.heap.size (.cells cs 32) ps r G 165 3 219 [102,108,111,119] 5 (.func (.func 171) #[] #[.pointer (some ⟨w.heap.size,0,none⟩)]))
    (v7:∀(F':Nat->Prop) (W:World),(∀b,F b->F' b)->(∀b,F b->W.heap[b]? = w.heap[b]?)->FnVal Tryz.prog F' W ps r (fun x=>G ([116,101,108,101,103,114,97,109],x)) (.func (.func 174) #[] #[]))
    (v8:∀(F':Nat->Prop) (W:World),(∀b,F b->F' b)->(∀b,F b->W.heap[b]? = w.heap[b]?)->FnVal Tryz.prog F' W ps r (fun x=>G ([101,110,116,114,121],x)) (.func (.func 175) #[] #[])):
    Calls Tryz.prog 89 #[.agg cs] w fun e w'=>∃L,e=.returned (.map (some (w.heap.size+1)))/\L.map (·.1)=qes/\CmdW Tryz.prog F w (w.heap.size+1) w.heap.size (.cells cs 32) ps r G L w':=by
  have nt:Tryz.f89.ntmps=30:=by kernel_rfl
  have hf:=Tryz.func89;have hm:=qzo;have hmk:∀W:World,(Instr.makeMap 162 none).run Tryz.prog W=.ok (.map (some W.heap.size)) (W.alloc (.map #[] 0)):=fun _=>rfl
  have hty:=qkG;have hk9:=tk9;have hko:keyOk types ti9=true:=by kernel_rfl
  have hk9s:ti9.T=.str:=rfl;have hmu:Tryz.prog.underlying 162=some (.map ti9.t 160):=Tryz.underlying162;have hinv:∀(k:Int) (fv:Value) (W:World),(callFunc 164 #[.int .i64 k,fv]).run Tryz.prog W=.ok (.enter 164 #[.int .i64 k,fv]) W:=fun k fv W=>qgL ⟨_,Tryz.func164,by kernel_rfl,rfl⟩ _ W
  generalize hP:Tryz.prog=P at*
  go_enter hf,nt
  go_wp2_with (rw[hmk])
  have hC0:CmdW P F w (w.heap.size+1) w.heap.size (.cells cs 32) ps r G [] ((w.alloc (.cells cs 32)).alloc (.map #[] 0)):=by
    have hs1:(w.alloc (.cells cs 32)).heap.size=w.heap.size+1:=by simp
    refine⟨(qd9 w _).trans (qd9 _ _) (fun _ h _=>h),by omega,by simp,⟨by omega,by omega⟩,?_,⟨#[],0,?_,MapKept.stamped_empty 0,by simp⟩,fun q hq=>(by cases hq)⟩
    · rw[zJ1 _ _ _ (by omega)]; exact(heap_alloc w _).1
    · rw[<-hs1]; exact(heap_alloc _ _).1
  generalize ((w.alloc (.cells cs 32)).alloc (.map #[] 0))=W0 at*
  refine(hm 1 166 #[] #[] W0).mono ?_
  rintro _ _ ⟨rfl,rfl⟩
  obtain⟨W1,hr1,hC1⟩:=hC0.quad hF hty hk9 hko hk9s hmu (key:=[111,112,101,110]) (by simp) v1
  go_wp2_with (rw[hr1])
  refine(hm 2 166 #[] #[] W1).mono ?_
  rintro _ _ ⟨rfl,rfl⟩
  obtain⟨W2,hr2,hC2⟩:=hC1.quad hF hty hk9 hko hk9s hmu (key:=[99,108,111,115,101]) (by simp) v2
  go_wp2_with (rw[hr2])
  refine(hm 3 168 #[] #[.pointer (some ⟨w.heap.size,0,none⟩)] W2).mono ?_
  rintro _ _ ⟨rfl,rfl⟩
  obtain⟨W3,hr3,hC3⟩:=hC2.quad hF hty hk9 hko hk9s hmu (key:=[115,116,97,114,116]) (by simp) v3
  go_wp2_with (rw[hr3])
  refine(hm 4 168 #[] #[.pointer (some ⟨w.heap.size,0,none⟩)] W3).mono ?_
  rintro _ _ ⟨rfl,rfl⟩
  obtain⟨W4,hr4,hC4⟩:=hC3.quad hF hty hk9 hko hk9s hmu (key:=[115,116,111,112]) (by simp) v4
  go_wp2_with (rw[hr4])
  refine(hm 6 170 #[] #[] W4).mono ?_
  rintro _ _ ⟨rfl,rfl⟩
  obtain⟨W5,hr5,hC5⟩:=hC4.quad hF hty hk9 hko hk9s hmu (key:=[119,97,105,116]) (by simp) v5
  go_wp2_with (rw[hr5])
  refine(hm 5 171 #[] #[.pointer (some ⟨w.heap.size,0,none⟩)] W5).mono ?_
  rintro _ _ ⟨rfl,rfl⟩
  obtain⟨W6,hr6,hC6⟩:=hC5.quad hF hty hk9 hko hk9s hmu (key:=[102,108,111,119]) (by simp) v6
  go_wp2_with (rw[hr6])
  obtain⟨W7,hr7,hC7⟩:=hC6.ins hF hty hk9 hko hk9s hmu (k:=[116,101,108,101,103,114,97,109]) (by simp) (v7 _ _ (fun b hb=>.inl hb) (fun b hb=>hC6.fr.blk b (hF b hb) id))
  go_wp2_with (rw[hr7])
  obtain⟨W8,hr8,hC8⟩:=hC7.ins hF hty hk9 hko hk9s hmu (k:=[101,110,116,114,121]) (by simp) (v8 _ _ (fun b hb=>.inl hb) (fun b hb=>hC7.fr.blk b (hF b hb) id))
  go_wp2_with (rw[hr8])
  go_ret
  exact⟨_,rfl,rfl,hC8⟩
theorem qox:FunOk Tryz.prog qiA:=by
  refine FunOk.libF ⟨_,Tryz.func89,by kernel_rfl,rfl⟩ rfl rfl rfl rfl fun x y hxy F w U vs hl hb hgl hd=>?_
  cases hxy
  match vs,hl with
  | [u],_=>
  have h0:Den Tryz.prog F w U (.v cT0 x) u:=hd 0 u rfl;obtain⟨cs,h1,rfl⟩:RdV F w cT0 x u:=by cases h0 with | v h=>exact h
  have hbox:∀(F':Nat->Prop) (W:World) (f:Nat),(∀b,F b->F' b)->(∀b,F b->W.heap[b]? = w.heap[b]?)->F' w.heap.size->W.heap[w.heap.size]? = some (.cells cs.toArray 32)->RdC F' W (.clo f cT0) x [.func (.func f) #[] #[.pointer (some ⟨w.heap.size,0,none⟩)]]:=fun F' W f hF hw hB hO=>qFw hB hO (h1.mono hF hw)
  refine(qAW hb (ps:=[.sl .str]) (r:=cT1) (G:=cmdG x) cs.toArray (qql hgl qhD (T:=.fnc 166) (x:=()) (fun _ _ _ _ _ _=>rfl) ?_) (qql hgl qhD (T:=.fnc 166) (x:=()) (fun _ _ _ _ _ _=>rfl) ?_)
    (qql hgl qgd (T:=.clo 168 cT0) (x:=x) (fun F' W a b c d=>hbox F' W _ a b c d) ?_) (qql hgl qgd (T:=.clo 168 cT0) (x:=x) (fun F' W a b c d=>hbox F' W _ a b c d) ?_)
    (qql hgl qnC (T:=.fnc 170) (x:=()) (fun _ _ _ _ _ _=>rfl) ?_) (qql hgl qnD (T:=.clo 171 cT0) (x:=x) (fun F' W a b c d=>hbox F' W _ a b c d) ?_)
    (qDW hgl ql2 ?_) (qDW hgl ql3 ?_)).mono ?_
  · funext y; exact(by kernel_rfl:cloFn qer [.sl .str] cT1 [.sel (.int .i64) (1:Int) 0,.sel (.fnc 166) () 0] y=(qa5 y.1 1 ()).bind fun z=>some z).trans (bind_some' _)
  · funext y; exact(by kernel_rfl:cloFn qer [.sl .str] cT1 [.sel (.int .i64) (2:Int) 0,.sel (.fnc 166) () 0] y=(qa5 y.1 2 ()).bind fun z=>some z).trans (bind_some' _)
  · funext y; exact(by kernel_rfl:cloFn qdB [.sl .str] cT1 [.sel (.int .i64) (3:Int) 0,.sel (.clo 168 cT0) x 0] y=(qaN y.1 3 x).bind fun z=>some z).trans (bind_some' _)
  · funext y; exact(by kernel_rfl:cloFn qdB [.sl .str] cT1 [.sel (.int .i64) (4:Int) 0,.sel (.clo 168 cT0) x 0] y=(qaN y.1 4 x).bind fun z=>some z).trans (bind_some' _)
  · funext y; exact(by kernel_rfl:cloFn qh5 [.sl .str] cT1 [.sel (.int .i64) (6:Int) 0,.sel (.fnc 170) () 0] y=(qbP y.1 6 ()).bind fun z=>some z).trans (bind_some' _)
  · funext y; exact(by kernel_rfl:cloFn qh6 [.sl .str] cT1 [.sel (.int .i64) (5:Int) 0,.sel (.clo 171 cT0) x 0] y=(qbQ y.1 5 x).bind fun z=>some z).trans (bind_some' _)
  · funext y; exact(by kernel_rfl:cloFn qhB [.sl .str] cT1 [] y=(qbA y.1).bind fun z=>some z).trans (bind_some' _)
  · funext y; exact(by kernel_rfl:cloFn qhC [.sl .str] cT1 [] y=(qbB y.1).bind fun z=>some z).trans (bind_some' _)
  rintro en w' ⟨L,rfl,hL,hC⟩
  refine⟨_,fun b=>F b\/(w.heap.size<=b/\b<w'.heap.size),rfl,hC.fr,fun g h=>.inl h,fun g h=>h.imp id And.left,fun g h=>h.elim (fun h=>zw1 (hb g h) hC.fr.size) And.right,?_⟩
  have:=hC.den (U:=fun _=>none)
  rw[hL] at this;exact this
end Go.Proofs.YtmdijohmddokhaaGreatDoor
