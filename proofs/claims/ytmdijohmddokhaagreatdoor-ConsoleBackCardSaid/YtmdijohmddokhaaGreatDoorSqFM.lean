/- The second engine, part FM: a map of functions that compute is made. No condition. -/
import Derived.Test.YtmdijohmddokhaaGreatDoorSqLB
namespace Go.Sq
open Go Go.RowKit Go.MapKept
section
variable {P:Program} {ops:Array Oper} {Q:Exit->Act->World->Prop}
/-! ### Operations in order -/
/-! ### What is known of the map -/
def NewF(F:Nat->Prop)(w0 w:World)(m:Nat)(b:Nat):Prop:=F b\/(w0.heap.size<=b/\b<w.heap.size/\b≠m)
structure CmdW(P:Program)(F:Nat->Prop)(w0:World)(m B:Nat)(O:Obj)(ps:List Ty)(r:Ty)(G:HL (.str::ps)->Option r.den)(L:List (List UInt8×Value))(w:World):Prop where
 fr:Fr w0 (fun _=>False) w
 h0:w0.heap.size<=m
 h1:m<w.heap.size
 hB:w0.heap.size<=B/\B≠m
 bx:w.heap[B]? = some O
 mp:∃es clock,w.heap[m]? = some (.map es clock)/\Stamped es clock/\(es.toList.map fun e=>(e.key,e.val)).Perm (L.map fun q=>((.string ⟨⟨q.1⟩⟩:Value),q.2))
 fn:∀q∈L,FnVal P (NewF F w0 w m) w ps r (fun x=>G (q.1,x)) q.2
variable {F:Nat->Prop} {w0 w:World} {m B:Nat} {O:Obj} {ps:List Ty} {r:Ty} {G:HL (.str::ps)->Option r.den} {L:List (List UInt8×Value)}
theorem CmdW.alloc(hF:∀b,F b->b<w0.heap.size)(h:CmdW P F w0 m B O ps r G L w)(o:Obj):CmdW P F w0 m B O ps r G L (w.alloc o):=by
 have hs:(w.alloc o).heap.size=w.heap.size+1:=by simp
 obtain⟨es,clock,m1,m2,m3⟩:=h.mp;refine⟨h.fr.trans (qd8 w o) (fun _ hh _=>hh),h.h0,by have:=h.h1; omega,h.hB,(zB1 w o B (zT.1 h.bx).1).trans h.bx,⟨es,clock,(zB1 w o m h.h1).trans m1,m2,m3⟩,fun q hq=>(h.fn q hq).mono (fun b hb=>hb.imp (fun h=>h) fun hb=>⟨hb.1,by omega,hb.2.2⟩) fun b hb=>zB1 w o b ?_⟩
 rcases hb with hb | hb
 ·have:=hF b hb; have:=h.fr.size; omega
 ·exact hb.2.1
theorem qrQ{w:World}{b m:Nat}(hne:b≠m)(o:Obj):(w.heap.setIfInBounds m o)[b]? = w.heap[b]?:=by
 rw[zR1,if_neg (fun e=>hne e.symm)]
theorem CmdW.ins(hF:∀b,F b->b<w0.heap.size)(h:CmdW P F w0 m B O ps r G L w){Γ:List TI}(hΓ:Tys P Γ){kj:TI}{et tm:TypeId}(hj:kj.ok P)(hj2:keyOk Γ kj=true)(hj3:kj.τ=.str)(hm:P.underlying tm=some (.map kj.t et))
  {k:List UInt8} {v:Value} (hk:∀q∈L,q.1≠k) (hv:FnVal P (NewF F w0 w m) w ps r (fun x=>G (k,x)) v):∃w',(Instr.mapUpdate tm (.map (some m)) (.string ⟨⟨k⟩⟩) v).run P w=.ok () w'/\CmdW P F w0 m B O ps r G ((k,v)::L) w':=by
 obtain⟨es,clock,m1,m2,m3⟩:=h.mp;obtain⟨kt,kd,ks,kb,kz,kτ,ke⟩:=kj;simp only at hj3; subst hj3;have hkey:∀ {y:List UInt8},RdV (fun _=>False) w .str y (.string ⟨⟨y⟩⟩):=⟨_,rfl,rfl⟩
 have hks:∀e∈es.toList,∃q∈L,e.key=.string ⟨⟨q.1⟩⟩:=by
  intro e he;obtain⟨q,hq,h5⟩:=zS.1 (m3.mem_iff.1 (zS.2 ⟨e,he,rfl⟩));injection h5 with h5 _
  exact⟨q,hq,h5.symm⟩
 have huk:=qvr hΓ hj hj2 (hkey (y:=k));rcases qlz hΓ hj hj2 (hkey (y:=k)) es.toList (fun e he=>by obtain⟨q,_,hq⟩:=hks e he; exact⟨_,_,rfl,hq⟩) with⟨f1,f2⟩ | ⟨j2,e,f1,f2,f3⟩
 ·have hrun:=(qj9 (z:=v) hm m1 huk).1 f1;refine⟨_,hrun,?_⟩
  have hsz:∀o:Obj,(w.heap.setIfInBounds m o).size=w.heap.size:=fun o=>Array.size_setIfInBounds ..
  have hfm:∀ {g:HL ps->Option r.den} {v':Value},FnVal P (NewF F w0 w m) w ps r g v'->FnVal P (NewF F w0 { w with heap:=w.heap.setIfInBounds m (.map (es.push { key:=.string ⟨⟨k⟩⟩,val:=v,born:=clock }) (clock+1)) } m) { w with heap:=w.heap.setIfInBounds m (.map (es.push { key:=.string ⟨⟨k⟩⟩,val:=v,born:=clock }) (clock+1)) } ps r g v':=by
   intro g v' hh;refine hh.mono (fun b hb=>hb.imp (fun h=>h) fun hb=>⟨hb.1,by rw[hsz]; exact hb.2.1,hb.2.2⟩) fun b hb=>qrQ ?_ _
   rcases hb with hb | hb
   ·have:=hF b hb; have:=h.h0; omega
   ·exact hb.2.2
  refine⟨⟨h.fr.os,h.fr.tape,h.fr.output,by rw[hsz]; exact h.fr.size,fun g hg hn=>(qrQ (by have:=h.h0; omega) _).trans (h.fr.blk g hg hn)⟩,h.h0,by rw[hsz]; exact h.h1,h.hB,(qrQ h.hB.2 _).trans h.bx,⟨_,_,?_,stamped_push (val:=v) m2 f2,?_⟩,fun q hq=>?_⟩
  ·show(w.heap.setIfInBounds m _)[m]? = _;rw[zR1,if_pos rfl,if_pos h.h1]
  ·rw[Array.toList_push,zH1];exact(zI2 _ _).trans (m3.cons _)
  ·rcases zw.1 hq with rfl | hq
   ·exact hfm hv
   ·exact hfm (h.fn q hq)
 ·exfalso;obtain⟨q,hq,h5⟩:=hks e (zF f2);rw[f3] at h5;injection h5 with h5; injection h5 with h5; injection h5 with h5
  exact hk q hq h5.symm
def CloV(P:Program)(F:Nat->Prop)(w0:World)(B:Nat)(O:Obj)(ps:List Ty)(r:Ty)(G:HL (.str::ps)->Option r.den)(fc tk tf:Nat)(key:List UInt8)(k:Int)(fv:Value):Prop:=
 ∀(F':Nat->Prop) (W:World) (b1 b2:Nat),(∀b,F b->F' b)->(∀b,F b->W.heap[b]? = w0.heap[b]?)->F' B->W.heap[B]? = some O->F' b1->F' b2->W.heap[b1]? = some (.cells #[.int .i64 k] tk)->W.heap[b2]? = some (.cells #[fv] tf)->
  FnVal P F' W ps r (fun x=>G (key,x)) (.func (.func fc) #[] #[.pointer (some ⟨b1,0,none⟩),.pointer (some ⟨b2,0,none⟩)])
theorem CmdW.quad(hF:∀b,F b->b<w0.heap.size)(h:CmdW P F w0 m B O ps r G L w){Γ:List TI}(hΓ:Tys P Γ){kj:TI}{et tm:TypeId}(hj:kj.ok P)(hj2:keyOk Γ kj=true)(hj3:kj.τ=.str)(hm:P.underlying tm=some (.map kj.t et))
  {fc tk tf:Nat} {key:List UInt8} {k:Int} {fv:Value} (hk:∀q∈L,q.1≠key) (hv:CloV P F w0 B O ps r G fc tk tf key k fv):
  ∃w',(Instr.mapUpdate tm (.map (some m)) (.string ⟨⟨key⟩⟩) (.func (.func fc) #[] #[.pointer (some ⟨w.heap.size,0,none⟩),.pointer (some ⟨w.heap.size+1,0,none⟩)])).run P ((w.alloc (.cells #[.int .i64 k] tk)).alloc (.cells #[fv] tf))=.ok () w'∧
   CmdW P F w0 m B O ps r G ((key,.func (.func fc) #[] #[.pointer (some ⟨w.heap.size,0,none⟩),.pointer (some ⟨w.heap.size+1,0,none⟩)])::L) w':=by
 have hC:=(h.alloc hF (.cells #[.int .i64 k] tk)).alloc hF (.cells #[fv] tf);have hs1:(w.alloc (.cells #[.int .i64 k] tk)).heap.size=w.heap.size+1:=by simp
 have hs2:((w.alloc (.cells #[.int .i64 k] tk)).alloc (.cells #[fv] tf)).heap.size=w.heap.size+2:=by simp
 have hm1:=h.h1; have h0:=h.fr.size; have hB:=h.hB; have hBs:=(zT.1 h.bx).1;refine hC.ins hF hΓ hj hj2 hj3 hm hk (hv _ _ _ _ (fun b hb=>.inl hb) (fun b hb=>hC.fr.blk b (hF b hb) id) (.inr ⟨hB.1,by omega,hB.2⟩) hC.bx (.inr ⟨h0,by omega,by omega⟩) (.inr ⟨by omega,by omega,by omega⟩) ?_ ?_)
 ·rw[zB1 _ _ _ (by omega)]; exact(heap_alloc w _).1
 ·rw[<-hs1]; exact(heap_alloc _ _).1
theorem CmdW.den(h:CmdW P F w0 m B O ps r G L w){ρ:Env}:Den P (fun b=>F b\/(w0.heap.size<=b/\b<w.heap.size)) w ρ (.fmap ps r (L.map (·.1)) G) (.map (some m)):=by
 obtain⟨es,clock,m1,m2,m3⟩:=h.mp;refine .fmap (vs:=L.map (·.2)) (.inr ⟨h.h0,h.h1⟩) m1 m2 (by simp) ?_ fun i k v hk hv=>?_
 ·refine m3.trans ?_
  rw[List.map_map,<-List.zip_map',];exact List.Perm.refl _
 ·obtain⟨q,hq,rfl⟩:=zL .. ▸ hk |> zc1.1;rw[zL,hq] at hv;injection hv with hv
  subst hv;exact(h.fn q (zF hq)).mono (fun b hb=>hb.imp (fun h=>h) fun hb=>⟨hb.1,hb.2.1⟩) fun b hb=>rfl
/-! ### What closures over these variables compute -/
theorem qxN{w:World}{b:Nat}{cs:Array Value}{t:TypeId}(h:w.heap[b]? = some (.cells cs t))(j:Nat)(u:Value)(hj:cs.toList[j]? = some u):w.cell? ((⟨b,0,none⟩:Addr).add j)=some u:=by
 rw[zi1,zY];unfold World.cell?;rw[h];simpa using hj
theorem qC7{w:World}{b:Nat}{cs:List Value}{t:TypeId}{τ:Ty}{x:τ.den}{ρ:Env}(hF:F b)(h:w.heap[b]? = some (.cells cs.toArray t))(hx:RdC F w τ x cs):Den P F w ρ (.sel τ x 0) (.pointer (some ⟨b,0,none⟩)):=
 .sel (ad:=⟨b,0,none⟩) (o:=0) hF hx fun j u hj=>qxN h j u (by simpa using hj)
theorem qED{w:World}{b:Nat}{cs:List Value}{t:TypeId}{f:Nat}{e:Ty}{x:e.den}(hF:F b)(h:w.heap[b]? = some (.cells cs.toArray t))(hx:RdC F w e x cs):RdC F w (.clo f e) x [.func (.func f) #[] #[.pointer (some ⟨b,0,none⟩)]]:=
 ⟨⟨b,0,none⟩,cs,rfl,hF,hx,fun j u hj=>qxN h j u (by simpa using hj)⟩
theorem qpX(hgl:qgM F w0){e:Fun}(c:FunOk P e){tk tf:TypeId}{key:List UInt8}{k:Int}{fv:Value}{τ:Ty}{x:τ.den}
  (hx:∀(F':Nat->Prop) (W:World),(∀b,F b->F' b)->(∀b,F b->W.heap[b]? = w0.heap[b]?)->F' B->W.heap[B]? = some O->RdC F' W τ x [fv])
  (hG:cloFn e ps r [.sel (.int .i64) k 0,.sel τ x 0]=fun y=>G (key,y)):CloV P F w0 B O ps r G e.f tk tf key k fv:=by
 intro F' W b1 b2 hF hw hB hO h1 h2 hc1 hc2;rw[<-hG];refine qt6 (caps:=[.pointer (some ⟨b1,0,none⟩),.pointer (some ⟨b2,0,none⟩)]) (ρ:=Env.none) (hgl.mono hF hw) c rfl rfl fun i s u hs hu=>?_
 match i with
 | 0=>simp at hs hu; subst hs hu; exact qC7 (cs:=[.int .i64 k]) h1 hc1 rfl
 | 1=>simp at hs hu; subst hs hu; exact qC7 (cs:=[fv]) h2 hc2 (hx F' W hF hw hB hO)
 | j+2=>simp at hs
theorem qC8(hgl:qgM F w0){e:Fun}(c:FunOk P e){key:List UInt8}(hG:cloFn e ps r []=fun y=>G (key,y)):
  ∀(F':Nat->Prop) (W:World),(∀b,F b->F' b)->(∀b,F b->W.heap[b]? = w0.heap[b]?)->FnVal P F' W ps r (fun y=>G (key,y)) (.func (.func e.f) #[] #[]):=by
 intro F' W hF hw;rw[<-hG];exact qt6 (caps:=[]) (ρ:=Env.none) (hgl.mono hF hw) c rfl rfl fun i s u hs=>by simp at hs
theorem bind_some'{α:Type}(o:Option α):(o.bind fun y=>some y)=o:=by cases o <;> rfl
theorem FunOk.libF{P:Program}{e:Fun}(hok:FnOk P e.f)(hv:e.ji.vars=[])(ha:e.ji.arrs=[])(hv2:e.jo.vars=[])(ha2:e.jo.arrs=[])
  (h:∀x y,e.tw x=some y->∀(F:Nat->Prop) (w:World) (ρ:Env) (vs:List Value),vs.length=e.np->(∀g,F g->g<w.heap.size)->qgM F w->(∀i u,vs[i]? = some u->Den P F w ρ ((e.ji.put0 x).r i) u)->
   Calls P e.f vs.toArray w fun en w'=>∃r F',en=.returned r/\Fr w (fun _=>False) w'/\(∀g,F g->F' g)/\(∀g,F' g->F g\/w.heap.size<=g)/\(∀g,F' g->g<w'.heap.size)/\Den P F' w' (fun _=>none) (resSV e.nr (e.jo.put0 y)) r):FunOk P e:=by
 refine⟨hok,fun x y hxy F w ρ vs hl hm hd=>?_⟩
 have hn:e.ji.names=[]:=by unfold J.names; rw[hv,ha]; rfl
 have hn2:e.jo.names=[]:=by unfold J.names; rw[hv2,ha2]; rfl
 refine(h x y hxy F w ρ vs hl hm.fb hm.glob hd).mono ?_
 rintro en w' ⟨r,F',rfl,hf,k1,k2,k3,hr⟩
 have hw:∀g,F g->w'.heap[g]? = w.heap[g]?:=fun g hg=>hf.blk g (hm.fb g hg) id
 refine⟨r,F',fun _=>none,rfl,⟨hf.os,hf.tape,hf.output,hf.size,fun g hg _=>hf.blk g hg id⟩,k1,fun g h=>(k2 g h).imp id .inr,⟨fun _ _=>rfl,?_,?_,?_,?_,k3,?_,hm.glob.mono k1 hw⟩,?_,?_,hr⟩
 ·intro b ty k hx; rw[qC5 hv2] at hx; cases hx
 ·intro b A hx; rw[qC6 ha2] at hx; cases hx
 ·intro b b' v v' g _ _ hx; cases hx
 ·intro b v g _ hx; cases hx
 ·intro b v hx; cases hx
 ·intro b v hb; rw[hn] at hb; cases hb
 ·intro b v g _ hx; cases hx
end
end Go.Sq
