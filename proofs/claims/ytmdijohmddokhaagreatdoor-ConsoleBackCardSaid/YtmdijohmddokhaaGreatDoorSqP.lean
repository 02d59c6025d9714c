/- The second engine, part P: contracts of functions, and calls. No condition. -/
import Derived.Test.YtmdijohmddokhaaGreatDoorSqO
namespace Go.Sq
open Go Go.RowKit
structure Fun where
 f:FuncId
 np:Nat
 nr:Nat
 ji:J
 jo:J
 tw:CT ji.ct->Option (CT jo.ct)
def κ0:St:=mkSt [] [] [] []
def J.put0(j:J)(x:CT j.ct):St:=κ0.sub (j.put (fun _=>.any) (fun _ _=>.any) x)
def resSV(n:Nat)(st:St):SV:=bif Nat.beq n 1 then st.r 0 else .tup ((List.range n).map st.r)
def InBlk(ρ:Env)(names:List Nat)(g:Nat):Prop:=∃b v,b∈names/\ρ b=some v/\blkOf v=some g
def FnOk(P:Program)(f:FuncId):Prop:=∃fn,P.funcs[f]? = some fn/\(fn.name == "runtime.NumGoroutine")=false/\fn.body.isNone=false
theorem qgb{P:Program}{f:FuncId}(h:FnOk P f)(args:Array Value)(w:World):(callFunc f args).run P w=.ok (.enter f args) w:=by
 obtain⟨fn,h1,h2,h3⟩:=h;have h2':¬fn.name = "runtime.NumGoroutine" :=by simpa using h2
 have h3':fn.body≠none:=by intro e; rw[e] at h3; cases h3
 simp[callFunc,h1,h2',h3']
structure FunOk(P:Program)(e:Fun):Prop where
 ok:FnOk P e.f
 run:∀x y,e.tw x=some y->∀(F:Nat->Prop) (w:World) (ρ:Env) (vs:List Value),vs.length=e.np->MemOk P F w ρ (e.ji.put0 x)->(∀i u,vs[i]? = some u->Den P F w ρ ((e.ji.put0 x).r i) u)->
  Calls P e.f vs.toArray w fun en w'=>∃r F' ρ',en=.returned r/\Fr w (InBlk ρ e.ji.names) w'/\(∀g,F g->F' g)/\(∀g,F' g->F g\/InBlk ρ e.ji.names g\/w.heap.size<=g)/\MemOk P F' w' ρ' (e.jo.put0 y)∧
   (∀b v,b∈e.ji.names->b∈e.jo.names->ρ b=some v->ρ' b=some v)/\(∀b v g,(e.jo.put0 y).present b->ρ' b=some v->blkOf v=some g->InBlk ρ e.ji.names g\/w.heap.size<=g)/\Den P F' w' ρ' (resSV e.nr (e.jo.put0 y)) r
/-! ### Names are changed -/
def SV.ren1(σ:Nat->Nat):SV->SV
 | .ptr b o=>.ptr (σ b) o
 | .nptr b o=>.nptr (σ b) o
 | .own b=>.own (σ b)
 | .ael b k i o=>.ael (σ b) k i o
 | .v τ x=>.v τ x
 | .raw u=>.raw u
 | .sel τ x o=>.sel τ x o
 | .fn ps r g=>.fn ps r g
 | .fmap ps r ks g=>.fmap ps r ks g
 | _=>.any
def SV.ren2(σ:Nat->Nat):SV->SV
 | .agg cs=>.agg (cs.map (SV.ren1 σ))
 | s=>s.ren1 σ
def SV.ren(σ:Nat->Nat):SV->SV
 | .tup cs=>.tup (cs.map (SV.ren2 σ))
 | s=>s.ren2 σ
section
variable {P:Program} {F:Nat->Prop} {w:World} {ρ ρ2:Env} {σ:Nat->Nat}
theorem Den.ren1(hρ:∀b v,ρ b=some v->ρ2 (σ b)=some v){s:SV}{u:Value}(h:Den P F w ρ s u):Den P F w ρ2 (s.ren1 σ) u:=by
 cases h with
 | v h=>exact .v h
 | raw=>exact .raw _
 | nptr h=>exact .nptr (h.imp (fun h=>h) fun⟨g,h1,h2⟩=>⟨g,hρ _ _ h1,h2⟩)
 | ptr h=>exact .ptr (hρ _ _ h)
 | ael h hi=>exact .ael (hρ _ _ h) hi
 | own h=>exact .own (hρ _ _ h)
 | sel a b c=>exact .sel a b c
 | fn h=>exact .fn h
 | fmap a b c d e f=>exact .fmap a b c d e f
 | _=>exact .any _
theorem Den.ren2(hρ:∀b v,ρ b=some v->ρ2 (σ b)=some v){s:SV}{u:Value}(h:Den P F w ρ s u):Den P F w ρ2 (s.ren2 σ) u:=by
 cases h with
 | agg hl hi h1=>
  refine .agg (by simpa using hl) (fun i s u hs hu=>?_) h1
  rw[zL] at hs;obtain⟨s0,hs0,rfl⟩:=zc1.1 hs;exact(hi i s0 u hs0 hu).ren1 hρ
 | v h=>exact .v h
 | raw=>exact .raw _
 | nptr h=>exact .nptr (h.imp (fun h=>h) fun⟨g,h1,h2⟩=>⟨g,hρ _ _ h1,h2⟩)
 | ptr h=>exact .ptr (hρ _ _ h)
 | ael h hi=>exact .ael (hρ _ _ h) hi
 | own h=>exact .own (hρ _ _ h)
 | sel a b c=>exact .sel a b c
 | fn h=>exact .fn h
 | fmap a b c d e f=>exact .fmap a b c d e f
 | _=>exact .any _
theorem Den.ren(hρ:∀b v,ρ b=some v->ρ2 (σ b)=some v){s:SV}{u:Value}(h:Den P F w ρ s u):Den P F w ρ2 (s.ren σ) u:=by
 cases h with
 | tup hl hi=>
  refine .tup (by simpa using hl) (fun i s u hs hu=>?_)
  rw[zL] at hs;obtain⟨s0,hs0,rfl⟩:=zc1.1 hs;exact(hi i s0 u hs0 hu).ren2 hρ
 | agg hl hi h1=>exact(Den.agg hl hi h1).ren2 hρ
 | v h=>exact .v h
 | raw=>exact .raw _
 | nptr h=>exact .nptr (h.imp (fun h=>h) fun⟨g,h1,h2⟩=>⟨g,hρ _ _ h1,h2⟩)
 | ptr h=>exact .ptr (hρ _ _ h)
 | ael h hi=>exact .ael (hρ _ _ h) hi
 | own h=>exact .own (hρ _ _ h)
 | sel a b c=>exact .sel a b c
 | fn h=>exact .fn h
 | fmap a b c d e f=>exact .fmap a b c d e f
 | _=>exact .any _
def Ty.flat:Ty->Bool
 | .sl _=>false
 | .map _ _=>false
 | .clo _ _=>false
 | .pair a b=>a.flat&&b.flat
 | .arr _ e=>e.flat
 | _=>true
theorem RdC.flat{F F':Nat->Prop}{w w':World}:∀ {τ:Ty} {x:τ.den} {cs:List Value},τ.flat=true->RdC F w τ x cs->RdC F' w' τ x cs
 | .unit,_,_,_,h=>h
 | .int _,_,_,_,h=>h
 | .bool,_,_,_,h=>h
 | .str,_,_,_,h=>h
 | .sl _,_,_,hf,_=>by cases hf
 | .map _ _,_,_,hf,_=>by cases hf
 | .clo _ _,_,_,hf,_=>by cases hf
 | .pair a b,_,_,hf,h=>by
  simp only[Ty.flat,z8] at hf;obtain⟨c1,c2,rfl,h1,h2⟩:=h;exact⟨c1,c2,rfl,h1.flat hf.1,h2.flat hf.2⟩
 | .err,_,_,_,h=>h
 | .fnc _,_,_,_,h=>h
 | .fnl _,_,_,_,h=>h
 | .arr n e,x,cs,hf,h=>RdAr.mono (fun x c hc=>RdC.flat (τ:=e) hf hc) h
def SV.free1:SV->Bool
 | .v τ _=>τ.flat
 | .any | .ptr _ _ | .own _=>true
 | _=>false
def SV.free2:SV->Bool
 | .agg cs=>cs.all SV.free1
 | s=>s.free1
def SV.free3:SV->Bool
 | .tup cs=>cs.all SV.free2
 | s=>s.free2
theorem Den.free1{F':Nat->Prop}{w':World}{s:SV}{u:Value}(h:Den P F w ρ s u)(hf:s.free1=true):Den P F' w' ρ s u:=by
 cases h with
 | v h=>obtain⟨cs,a,b⟩:=h; exact .v ⟨cs,a.flat hf,b⟩
 | any=>exact .any _
 | ptr h=>exact .ptr h
 | own h=>exact .own h
 | _=>cases hf
theorem Den.free2{F':Nat->Prop}{w':World}{s:SV}{u:Value}(h:Den P F w ρ s u)(hf:s.free2=true):Den P F' w' ρ s u:=by
 cases h with
 | agg hl hi h1=>
  simp only[SV.free2,zm] at hf;exact .agg hl (fun i s u hs hu=>(hi i s u hs hu).free1 (hf s (zF hs))) h1
 | v h=>exact(Den.v h).free1 hf
 | any=>exact .any _
 | ptr h=>exact .ptr h
 | own h=>exact .own h
 | _=>cases hf
theorem Den.free3{F':Nat->Prop}{w':World}{s:SV}{u:Value}(h:Den P F w ρ s u)(hf:s.free3=true):Den P F' w' ρ s u:=by
 cases h with
 | tup hl hi=>
  simp only[SV.free3,zm] at hf;exact .tup hl (fun i s u hs hu=>(hi i s u hs hu).free2 (hf s (zF hs)))
 | agg hl hi h1=>exact(Den.agg hl hi h1).free2 hf
 | v h=>exact(Den.v h).free1 hf
 | any=>exact .any _
 | ptr h=>exact .ptr h
 | own h=>exact .own h
 | _=>cases hf
def Ob.free:Ob->Bool
 | .arr _ e _=>e.flat
 | .map _ _ k v _=>k.flat&&v.flat
 | .iter _ _ _ _=>false
theorem ObOk.free{F':Nat->Prop}{A:Ob}{u:Value}(h:ObOk F w A u)(hf:A.free=true):ObOk F' w A u:=by
 cases A with
 | arr ty e l=>obtain⟨xs,h1,h2⟩:=h; exact⟨xs,h1,fun i x hx=>(h2 i x hx).flat hf⟩
 | map nn ty k v l=>
  simp only[Ob.free,z8] at hf;rcases h with h | ⟨r,es,cl,h1,h2,h3,Z,h4,h5,h6⟩
  ·exact .inl h
  refine .inr ⟨r,es,cl,h1,h2,h3,Z,h4,h5,fun z hz=>?_⟩
  obtain⟨⟨c1,a1,a2⟩,⟨c2,b1,b2⟩⟩:=h6 z hz;exact⟨⟨c1,a1.flat hf.1,a2⟩,⟨c2,b1.flat hf.2,b2⟩⟩
 | iter=>cases hf
end
section
variable {P:Program} {w0:World} {M:Mod} {N:Nat} {F0:Nat->Prop} {ops:Array Oper}
variable {F:Nat->Prop} {ρ:Env} {st:St} {a:Act} {w:World}
/-! ### Many objects go, many come -/
def qgQ(l:List Nat):List Wr:=l.flatMap fun b=>[.v b none,.a b none]
theorem Rel'.dropAll:∀(l:List Nat) {st:St},Rel' P w0 M N F ρ st a w->Rel' P w0 M N F ρ (st.app (qgQ l)) a w
 | [],_,h=>h
 | b::l,st,h=>Rel'.dropAll l ((h.dropV b).dropA b)
theorem qvx:∀(l:List Nat) (st:St),(st.app (qgQ l)).r=st.r/\(st.app (qgQ l)).c=st.c/\(st.app (qgQ l)).d=st.d∧
  (∀b,(st.app (qgQ l)).v b=if b∈l then none else st.v b)/\(∀b,(st.app (qgQ l)).a b=if b∈l then none else st.a b)
 | [],st=>⟨rfl,rfl,rfl,fun b=>by simp[qgQ,St.app],fun b=>by simp[qgQ,St.app]⟩
 | b0::l,st=>by
  obtain⟨h1,h2,h3,h4,h5⟩:=qvx l ((st.put (.v b0 none)).put (.a b0 none));refine⟨h1,h2,h3,fun b=>(h4 b).trans ?_,fun b=>(h5 b).trans ?_⟩
  ·by_cases e:b∈l
   ·rw[if_pos e,if_pos (by simp[e])]
   ·rw[if_neg e];show(bif Nat.beq b b0 then none else st.v b)=_;by_cases e2:b=b0
    ·subst e2; simp
    ·rw[bq e2,if_neg (by simp[e,e2])]; rfl
  ·by_cases e:b∈l
   ·rw[if_pos e,if_pos (by simp[e])]
   ·rw[if_neg e];show(bif Nat.beq b b0 then none else st.a b)=_;by_cases e2:b=b0
    ·subst e2; simp
    ·rw[bq e2,if_neg (by simp[e,e2])]; rfl
def Env.sets(ρ:Env):List (Nat×Value)->Env
 | []=>ρ
 | (b,u)::l=>Env.sets (ρ.set b u) l
theorem Rel'.nameAll:∀(l:List (Nat×Value)) {st:St} {ρ:Env},Rel' P w0 M N F ρ st a w->noDup (l.map (·.1))=true->(∀p∈l,st.d p.1=false/\p.2.oneCell'=true)->
  Rel' P w0 M N F (ρ.sets l) (st.app (l.map fun p=>.d p.1)) a w/\(∀b v,ρ b=some v->(ρ.sets l) b=some v)/\(∀p∈l,(ρ.sets l) p.1=some p.2)/\(∀b v,(ρ.sets l) b=some v->b∉l.map (·.1)->ρ b=some v)∧
   (st.app (l.map fun p=>.d p.1)).r=st.r/\(st.app (l.map fun p=>.d p.1)).c=st.c/\(st.app (l.map fun p=>.d p.1)).v=st.v/\(st.app (l.map fun p=>.d p.1)).a=st.a
 | [],st,ρ,h,_,_=>⟨h,(fun _ _ h=>h),(fun p hp=>by cases hp),(fun _ _ h _=>h),rfl,rfl,rfl,rfl⟩
 | (b0,u0)::l,st,ρ,h,hd,hp=>by
  simp only[zh1,noDup,z8,zq] at hd;have h0:=hp (b0,u0) (by simp)
  have hρ0:=h.mem.dom b0 h0.1;have h1:=h.name (b:=b0) (u:=u0) h0.1 h0.2;have hne:∀p∈l,p.1≠b0:=fun p hpl e=>by
   have:memN (l.map (·.1)) b0=true:=qaU.2 (by rw[<-e]; exact zm1 hpl)
   rw[hd.1] at this; cases this
  obtain⟨a1,a2,a3,a4,a5,a6,a7,a8⟩:=Rel'.nameAll l h1 hd.2 (fun p hpl=>⟨by
   show(bif Nat.beq p.1 b0 then true else st.d p.1)=false;rw[bq (hne p hpl)]; exact(hp p (by simp[hpl])).1,(hp p (by simp[hpl])).2⟩)
  have hset:∀b v,ρ b=some v->(ρ.set b0 u0) b=some v:=fun b v hb=>by
   unfold Env.set; rw[if_neg (fun e=>by subst e; rw[hρ0] at hb; cases hb)]; exact hb
  refine⟨a1,fun b v hb=>a2 b v (hset b v hb),fun p hpm=>?_,fun b v hb hn=>?_,a5,a6,a7,a8⟩
  ·rcases zw.1 hpm with rfl | hpl
   ·exact a2 _ _ (by unfold Env.set; rw[if_pos rfl])
   ·exact a3 p hpl
  ·simp only[zh1,zw,not_or] at hn;have:=a4 b v hb hn.2;unfold Env.set at this;rwa[if_neg hn.1] at this
def qkP(σ:Nat->Nat)(sc:St):List (Nat×TypeId×List Sh1)->List Wr
 | []=>[]
 | (b,ty,l)::r=>(.v (σ b) (some (ty,((qbq sc b 0 l.length).map (SV.ren1 σ)).length))::qcB (σ b) 0 ((qbq sc b 0 l.length).map (SV.ren1 σ)))++qkP σ sc r
def qkQ(σ:Nat->Nat)(sc:St):List (Nat×ObSh)->List Wr
 | []=>[]
 | (b,_)::r=>.a (σ b) (sc.a b)::qkQ σ sc r
structure Come(P:Program)(w0:World)(M:Mod)(F:Nat->Prop)(w:World)(σ:Nat->Nat)(names:List Nat)(sc:St)(ρc ρ:Env)(old:Nat->Prop)(st:St):Prop where
 inj:∀b b',b∈names->b'∈names->σ b=σ b'->b=b'
 env:∀b v,ρc b=some v->ρ (σ b)=some v
 sep:∀b b' v v' g,sc.present b->sc.present b'->ρc b=some v->ρc b'=some v'->blkOf v=some g->blkOf v'=some g->b=b'
 named:∀b,sc.present b->b∈names/\∃v,ρc b=some v
 notF:∀b v g,sc.present b->ρc b=some v->blkOf v=some g->¬F g
 lo:∀b v g,sc.present b->ρc b=some v->blkOf v=some g->M.blk g\/w0.heap.size<=g
 apart:∀b v g b' v',sc.present b->ρc b=some v->blkOf v=some g->old b'->ρ b'=some v'->blkOf v'≠some g
 pres:∀b,st.present b->old b\/∃b0,b=σ b0/\sc.present b0
 notold:∀b,b∈names->¬old (σ b)
theorem Come.vars{σ:Nat->Nat}{names:List Nat}{sc:St}{ρc ρ:Env}{old:Nat->Prop}
  (hvar:∀b ty k,sc.v b=some (ty,k)->∃g arr,ρc b=some (.pointer (some ⟨g,0,none⟩))/\w.heap[g]? = some (.cells arr ty (0,0))/\arr.size=k/\∀j x,arr[j]? = some x->Den P F w ρ ((sc.c b j).ren1 σ) x/\x.oneCell'=true):
  ∀(vs:List (Nat×TypeId×List Sh1)) {st:St},Rel' P w0 M N F ρ st a w->Come P w0 M F w σ names sc ρc ρ old st->(∀p∈vs,p.1∈names/\sc.v p.1=some (p.2.1,p.2.2.length)/\st.a (σ p.1)=none)->
   Rel' P w0 M N F ρ (st.app (qkP σ sc vs)) a w/\Come P w0 M F w σ names sc ρc ρ old (st.app (qkP σ sc vs))/\(st.app (qkP σ sc vs)).r=st.r/\(st.app (qkP σ sc vs)).a=st.a/\(st.app (qkP σ sc vs)).d=st.d∧
    (∀b,b∉vs.map (fun p=>σ p.1)->(st.app (qkP σ sc vs)).v b=st.v b)
 | [],st,h,hc,_=>⟨h,hc,rfl,rfl,rfl,fun _ _=>rfl⟩
 | (b,ty,l)::vs,st,h,hc,hp=>by
  obtain⟨p1,p2,p3⟩:=hp (b,ty,l) (by simp)
  simp only at p1 p2 p3;obtain⟨g,arr,v1,v2,v3,v4⟩:=hvar b ty l.length p2;have hscp:sc.present b:=.inl (by rw[p2]; simp)
  have hlen:((qbq sc b 0 l.length).map (SV.ren1 σ)).length=l.length:=by rw[z71,qdN]
  have h1:=h.addV (b:=σ b) (ty:=ty) (cs:=(qbq sc b 0 l.length).map (SV.ren1 σ)) (arr:=arr) (hc.env _ _ v1) p3 v2 (by rw[hlen,v3]) (fun j s x hs hx=>by
   rw[zL] at hs;obtain⟨s0,hs0,rfl⟩:=zc1.1 hs;have hj:j<l.length:=by have:=(zr.1 hs0).1; rwa[qdN] at this
   rw[qfc hj,zY] at hs0; injection hs0 with hs0; subst hs0
   exact v4 j x hx) (fun b' v hne hpb hv' hg=>by
   rcases hc.pres b' hpb with ho | ⟨b0,rfl,hb0⟩
   ·exact hc.apart b _ g b' v hscp v1 rfl ho hv' hg
   ·obtain⟨hb0n,v0,hv0⟩:=hc.named b0 hb0;have:=hc.env b0 v0 hv0;rw[hv'] at this; injection this with this; subst this
    exact hne (by rw[hc.sep b0 b _ _ g hb0 hscp hv0 v1 hg rfl])) (hc.notF b _ g hscp v1 rfl) (hc.lo b _ g hscp v1 rfl)
  obtain⟨e1,e2,e3,e4,e5,e6,e7⟩:=qjv (σ b) ((qbq sc b 0 l.length).map (SV.ren1 σ)) 0 (st.put (.v (σ b) (some (ty,((qbq sc b 0 l.length).map (SV.ren1 σ)).length))));have hV:∀b',(st.app (.v (σ b) (some (ty,((qbq sc b 0 l.length).map (SV.ren1 σ)).length))::qcB (σ b) 0 ((qbq sc b 0 l.length).map (SV.ren1 σ)))).v b'=if b'=σ b then some (ty,((qbq sc b 0 l.length).map (SV.ren1 σ)).length) else st.v b':=by
   intro b';show(St.app _ (qcB (σ b) 0 _)).v b'=_;rw[e2];show(bif Nat.beq b' (σ b) then _ else st.v b')=_;by_cases e:b'=σ b
   ·subst e; simp
   ·simp[bq e,e]
  have hA:(st.app (.v (σ b) (some (ty,((qbq sc b 0 l.length).map (SV.ren1 σ)).length))::qcB (σ b) 0 ((qbq sc b 0 l.length).map (SV.ren1 σ)))).a=st.a:=e3;have hc1:Come P w0 M F w σ names sc ρc ρ old (st.app (.v (σ b) (some (ty,((qbq sc b 0 l.length).map (SV.ren1 σ)).length))::qcB (σ b) 0 ((qbq sc b 0 l.length).map (SV.ren1 σ)))):=
   ⟨hc.inj,hc.env,hc.sep,hc.named,hc.notF,hc.lo,hc.apart,fun b' hpb=>by
    by_cases e:b'=σ b
    ·exact .inr ⟨b,e,hscp⟩
    ·refine hc.pres b' ?_
     unfold St.present at hpb ⊢;rw[hV,hA,if_neg e] at hpb; exact hpb,hc.notold⟩
  obtain⟨r1,r2,r3,r4,r5,r6⟩:=Come.vars hvar vs h1 hc1 (fun p hpm=>by
   obtain⟨q1,q2,q3⟩:=hp p (by simp[hpm])
   exact⟨q1,q2,by rw[hA]; exact q3⟩)
  simp only[qkP];rw[qcm];refine⟨r1,r2,r3.trans e1,r4.trans hA,r5.trans e4,fun b' hb'=>?_⟩
  simp only[zh1,zw,not_or] at hb';rw[r6 b' hb'.2,hV,if_neg hb'.1]
theorem Come.arrs{σ:Nat->Nat}{names:List Nat}{sc:St}{ρc ρ:Env}{old:Nat->Prop}
  (harr:∀b A,sc.a b=some A->∃u,ρc b=some u/\ObOk F w A u):
  ∀(vs:List (Nat×ObSh)) {st:St},Rel' P w0 M N F ρ st a w->Come P w0 M F w σ names sc ρc ρ old st->(∀p∈vs,p.1∈names/\st.v (σ p.1)=none)->
   Rel' P w0 M N F ρ (st.app (qkQ σ sc vs)) a w/\(st.app (qkQ σ sc vs)).r=st.r/\(st.app (qkQ σ sc vs)).d=st.d
 | [],st,h,hc,_=>⟨h,rfl,rfl⟩
 | (b,s)::vs,st,h,hc,hp=>by
  obtain⟨p1,p2⟩:=hp (b,s) (by simp)
  simp only at p1 p2;have step:Rel' P w0 M N F ρ (st.put (.a (σ b) (sc.a b))) a w/\Come P w0 M F w σ names sc ρc ρ old (st.put (.a (σ b) (sc.a b))):=by
   cases hA:sc.a b with
   | none=>
    refine⟨h.dropA (σ b),hc.inj,hc.env,hc.sep,hc.named,hc.notF,hc.lo,hc.apart,fun b' hpb=>hc.pres b' ?_,hc.notold⟩
    rcases hpb with hpb | hpb
    ·exact .inl hpb
    ·refine .inr ?_
     have hpb':(bif Nat.beq b' (σ b) then none else st.a b')≠none:=hpb;cases e:Nat.beq b' (σ b) with
     | true=>rw[e] at hpb'; exact absurd rfl hpb'
     | false=>rw[e] at hpb'; exact hpb'
   | some A=>
    have hscp:sc.present b:=.inr (by rw[hA]; simp)
    obtain⟨u,u1,u2⟩:=harr b A hA;refine⟨h.addA (b:=σ b) (A:=A) (hc.env _ _ u1) p2 u2 (fun g hg=>⟨fun b' v hne hpb hv' hg'=>?_,hc.notF b u g hscp u1 hg,hc.lo b u g hscp u1 hg⟩),
     hc.inj,hc.env,hc.sep,hc.named,hc.notF,hc.lo,hc.apart,fun b' hpb=>?_,hc.notold⟩
    ·rcases hc.pres b' hpb with ho | ⟨b0,rfl,hb0⟩
     ·exact hc.apart b _ g b' v hscp u1 hg ho hv' hg'
     ·obtain⟨hb0n,v0,hv0⟩:=hc.named b0 hb0;have:=hc.env b0 v0 hv0;rw[hv'] at this; injection this with this; subst this
      exact hne (by rw[hc.sep b0 b _ _ g hb0 hscp hv0 u1 hg' hg])
    ·by_cases e:b'=σ b
     ·exact .inr ⟨b,e,hscp⟩
     ·refine hc.pres b' ?_
      rcases hpb with hpb | hpb
      ·exact .inl hpb
      ·refine .inr ?_
       have hpb':(bif Nat.beq b' (σ b) then some A else st.a b')≠none:=hpb;rw[bq e] at hpb'; exact hpb'
  obtain⟨r1,r2,r3⟩:=Come.arrs harr vs step.1 step.2 (fun p hpm=>by
   obtain⟨q1,q2⟩:=hp p (by simp[hpm]); exact⟨q1,q2⟩)
  exact⟨r1,r2,r3⟩
end
end Go.Sq
