/- The second engine, part T: what an evaluation says of a run; functions. No condition. -/
import Derived.Test.YtmdijohmddokhaaGreatDoorSqS
namespace Go.Sq
open Go Go.RowKit
section
variable {P:Program} {w0:World} {M:Mod} {F0:Nat->Prop} {C:Cx} {pins:List Nat}
def Wk(P:Program)(w0:World)(M:Mod)(N:Nat)(F0:Nat->Prop)(κ st:St)(c:Code)(Q:Ex->St->Prop):Prop:=
 ∀a w,Rel P w0 M N F0 (κ.sub st) a w->c.wp P (fun e a' w'=>∃x su,e=Ex.to x/\Q x su/\Rel P w0 M N F0 (κ.sub su) a' w') a w
theorem Wk.mono{N:Nat}{κ st:St}{c:Code}{Q Q':Ex->St->Prop}(h:Wk P w0 M N F0 κ st c Q)(hq:∀x su,Q x su->Q' x su):Wk P w0 M N F0 κ st c Q':=
 fun a w hr=>zK1 (fun _ _ _ ⟨x,su,h1,h2,h3⟩=>⟨x,su,h1,hq x su h2,h3⟩) (h a w hr)
def Sound(P:Program)(w0:World)(M:Mod)(N:Nat)(F0:Nat->Prop)(E:Ev)(c:Code):Prop:=
 ∀(A:Type) (κ st:St) (k:Ex->St->Option A) (v:A),E A κ st k=some v->Wk P w0 M N F0 κ st c (fun x su=>k x su=some v)
theorem qn6{N:Nat}{κ st:St}{A:Type}(hpins:∀b v,M.pin b=some v->b∈pins){k:Ex->St->Option A}{v:A}{a:Act}{w:World}:∀ {alts:List Alt} {e:Ex} {su:St} {ans:AT alts},qkd pins (κ.sub st) alts e su=some ans->qoL st alts ans k=some v->
  Rel P w0 M N F0 ((κ.sub st).sub su) a w->∃su',k e su'=some v/\Rel P w0 M N F0 (κ.sub su') a w
 | [],_,_,ans,_,_,_=>nomatch ans
 | [x],e,su,ans,h,h2,hr=>by
  have h':(bif x.e.eqb e then x.j.packC pins (κ.sub st) su else none)=some ans:=h;clear h;cases he:x.e.eqb e with
  | false=>rw[he] at h'; cases h'
  | true=>
   rw[he] at h'; simp only[za] at h';have:=Ex.eqb_eq he;subst this;exact⟨_,h2,qoK hpins h' (fun _=>rfl) (fun _ _=>rfl) hr⟩
 | x::y::r,e,su,ans,h,h2,hr=>by
  simp only[qkd] at h;cases he:x.e.eqb e with
  | false=>
   rw[he] at h; simp only[zb] at h;split at h
   ·rename_i z hz;injection h with h; subst h
    exact qn6 hpins hz h2 hr
   ·cases h
  | true=>
   rw[he] at h; simp only[za] at h;have:=Ex.eqb_eq he;subst this;split at h
   ·rename_i z hz;injection h with h; subst h
    exact⟨_,h2,qoK hpins hz (fun _=>rfl) (fun _ _=>rfl) hr⟩
   ·cases h
theorem qxI{N:Nat}{κ st:St}{js:List J}{a:Act}{w:World}(h:Rel P w0 M N F0 (κ.sub st) a w):Rel P w0 M N F0 ((κ.sub st).sub (hide js (κ.sub st))) a w:=by
 obtain⟨F,ρ,h,hF⟩:=h;generalize κ.sub st=s at h ⊢;refine⟨F,ρ,⟨h.fr,⟨h.mem.dom,?_,h.mem.arr,h.mem.sep,h.mem.own,h.mem.fb,h.mem.one,h.mem.glob⟩,h.lo,fun t=>?_,h.sz,h.df,h.pin⟩,hF⟩
 ·intro b ty k hv;obtain⟨g,arr,q1,q2,q3,q4⟩:=h.mem.var b ty k hv;refine⟨g,arr,q1,q2,q3,fun j x hj=>⟨?_,(q4 j x hj).2⟩⟩
  show Den P F w ρ ((bif js.any (fun q=>keptV q.vars b j) then SV.kc b j else s.c b j).res s) x
  cases js.any (fun q=>keptV q.vars b j) with
  | true=>exact(q4 j x hj).1
  | false=>simp only[zb]; rw[(q4 j x hj).1.res]; exact(q4 j x hj).1
 ·show Den P F w ρ ((bif js.any (fun q=>keptR q.regs t) then SV.kr t else s.r t).res s) _
  cases js.any (fun q=>keptR q.regs t) with
  | true=>exact h.regs t
  | false=>simp only[zb]; rw[(h.regs t).res]; exact h.regs t
theorem qAc{N:Nat}{alts:List Alt}{body:Ev}{c:Code}(hpins:∀b v,M.pin b=some v->b∈pins)(h:Sound P w0 M N F0 body c):Sound P w0 M N F0 (qAb pins alts body) c:=by
 intro A κ st k v hv a w hr;unfold qAb at hv;cases hb:body (AT alts) (κ.sub st) (hide (alts.map (·.j)) (κ.sub st)) (fun e su=>qkd pins (κ.sub st) alts e su) with
 | none=>rw[hb] at hv; cases hv
 | some ans=>
  rw[hb] at hv;refine zK1 ?_ (h _ _ _ _ _ hb a w (qxI hr))
  rintro e a' w' ⟨x,su,rfl,h2,h3⟩
  obtain⟨su',q1,q2⟩:=qn6 hpins h2 hv h3;exact⟨x,su',rfl,q1,q2⟩
theorem qDC{N:Nat}{ts:List Nat}{body:Ev}{c:Code}(h:Sound P w0 M N F0 body c):Sound P w0 M N F0 (fzEv ts body) c:=
 fun A κ st k v hv a w hr=>h A κ _ k v hv a w (LeS.freezeL _ a w hr)
theorem qDD{N:Nat}{ts:List (Nat×Ty)}{body:Ev}{c:Code}(h:Sound P w0 M N F0 body c):Sound P w0 M N F0 (fvEv ts body) c:=
 fun A κ st k v hv a w hr=>h A κ _ k v hv a w (LeS.freezeVs _ a w hr)
theorem qcp{N:Nat}{c:Code}(hpins:∀b v,M.pin b=some v->b∈pins):∀(ws:List Wrap) {body:Ev},Sound P w0 M N F0 body c->Sound P w0 M N F0 (qgS pins ws body) c
 | [],_,h=>h
 | .fz ts::r,_,h=>qDC (qcp hpins r h)
 | .fv ts::r,_,h=>qDD (qcp hpins r h)
 | .join alts::r,_,h=>qAc hpins (qcp hpins r h)
theorem qvE{N:Nat}{j:J}{alts:List Alt}{body:Ev}{c:Code}(hpins:∀b v,M.pin b=some v->b∈pins)(h:Sound P w0 M N F0 body c):Sound P w0 M N F0 (qvD pins j alts body) (.loop c):=by
 intro A κ st k v hv a w hr;unfold qvD at hv;split at hv
 ·cases hv
 ·rename_i x0 hx0;cases hi:iter (fun x=>body (CT j.ct⊕AT alts) (κ.sub st) (j.put .kr .kc x) (loopK pins (κ.sub st) j alts)) x0 with
  | none=>rw[hi] at hv; cases hv
  | some ans=>
   rw[hi] at hv;have hit:=qrN hi;have hr0:Rel P w0 M N F0 ((κ.sub st).sub (j.put .kr .kc x0)) a w:=qoK (kr:=.kr) (kc:=.kc) hpins hx0 (fun _=>rfl) (fun _ _=>rfl) (qxI hr)
   intro b kk cs;have key:∀x ans,Iter (fun x=>body (CT j.ct⊕AT alts) (κ.sub st) (j.put .kr .kc x) (loopK pins (κ.sub st) j alts)) x ans->qoL st alts ans k=some v->∀a w,Rel P w0 M N F0 ((κ.sub st).sub (j.put .kr .kc x)) a w->
     ∃e a' w',(∃x su,e=Ex.to x/\k x su=some v/\Rel P w0 M N F0 (κ.sub su) a' w')/\Arrives P (lone (b.at a (.code c::.inLoop c::kk)) cs w) b kk cs e a' w':=by
    intro x ans' hit;induction hit with
    | @done x0' e0 h1=>
     intro hv' a w hrel;obtain⟨e,a₁,w₁,⟨x,su,rfl,hq,hr'⟩,harr⟩:=h _ _ _ _ _ h1 a w hrel b (.inLoop c::kk) cs;have hp:x≠.n/\qkd pins (κ.sub st) alts x su=some e0:=by
      unfold loopK at hq;split at hq
      ·split at hq
       ·injection hq with hq; cases hq
       ·cases hq
      ·rename_i hne;split at hq
       ·rename_i z hz;injection hq with hq; injection hq with hq; subst hq
        exact⟨fun e=>hne e,hz⟩
       ·cases hq
     obtain⟨su',q1,q2⟩:=qn6 hpins hp.2 hv' hr';cases x with
     | n=>exact absurd rfl hp.1
     | x id=>exact⟨_,a₁,w₁,⟨.x id,su',rfl,q1,q2⟩,.pass (x:=.inLoop c) rfl (fun _ _=>.inl (by simp[Ex.to])) harr⟩
     | r=>exact⟨_,a₁,w₁,⟨.r,su',rfl,q1,q2⟩,.pass (x:=.inLoop c) rfl (fun _ _=>.inl (by simp[Ex.to])) harr⟩
    | @next x1 y1 e1 h1 _ ih=>
     intro hv' a w hrel;obtain⟨e,a₁,w₁,⟨x,su,rfl,hq,hr'⟩,harr⟩:=h _ _ _ _ _ h1 a w hrel b (.inLoop c::kk) cs;have hp:x=.n/\j.packC pins (κ.sub st) su=some y1:=by
      unfold loopK at hq;split at hq
      ·split at hq
       ·rename_i z hz;injection hq with hq; injection hq with hq; subst hq
        exact⟨rfl,hz⟩
       ·cases hq
      ·split at hq
       ·injection hq with hq; cases hq
       ·cases hq
     obtain⟨rfl,hp2⟩:=hp;obtain⟨e₂,a₂,w₂,hq₂,harr₂⟩:=ih hv' a₁ w₁ (qoK (kr:=.kr) (kc:=.kc) hpins hp2 (fun _=>rfl) (fun _ _=>rfl) hr')
     exact⟨e₂,a₂,w₂,hq₂,.of_steps (Steps.trans harr (.one step_inLoop)) harr₂⟩
   obtain⟨e,a',w',hq,harr⟩:=key x0 ans hit hv a w hr0;exact⟨e,a',w',hq,.of_steps (.one step_loop) harr⟩
structure SubR(κ su sr:St):Prop where
 r:∀t,su.r t=sr.r t\/(su.r t).res κ=sr.r t
 c:∀b o,su.c b o=sr.c b o\/(su.c b o).res κ=sr.c b o
 v:su.v=sr.v
 a:su.a=sr.a
 d:su.d=sr.d
theorem SubR.put{κ su sr:St}(h:SubR κ su sr)(x:Wr):SubR κ (su.put x) (sr.put x):=by
 cases x with
 | r t s=>
  refine⟨fun t'=>?_,h.c,h.v,h.a,h.d⟩
  show(bif Nat.beq t' t then s else su.r t')=(bif Nat.beq t' t then s else sr.r t')\/SV.res κ (bif Nat.beq t' t then s else su.r t')=(bif Nat.beq t' t then s else sr.r t');cases Nat.beq t' t with
  | true=>exact .inl rfl
  | false=>exact h.r t'
 | c b o s=>
  refine⟨h.r,fun b' o'=>?_,h.v,h.a,h.d⟩
  show(bif Nat.beq b' b&&Nat.beq o' o then s else su.c b' o')=(bif Nat.beq b' b&&Nat.beq o' o then s else sr.c b' o')\/SV.res κ (bif Nat.beq b' b&&Nat.beq o' o then s else su.c b' o')=(bif Nat.beq b' b&&Nat.beq o' o then s else sr.c b' o');cases(Nat.beq b' b&&Nat.beq o' o) with
  | true=>exact .inl rfl
  | false=>exact h.c b' o'
 | v b i=>exact⟨h.r,h.c,by simp only[St.put,h.v],h.a,h.d⟩
 | a b i=>exact⟨h.r,h.c,h.v,by simp only[St.put,h.a],h.d⟩
 | d b=>exact⟨h.r,h.c,h.v,h.a,by simp only[St.put,h.d]⟩
 | e b k y=>exact⟨h.r,h.c,h.v,by simp only[St.put,h.a],h.d⟩
theorem SubR.rel{N:Nat}{κ su sr:St}(hs:SubR κ su sr){a:Act}{w:World}(h:Rel P w0 M N F0 sr a w):Rel P w0 M N F0 (κ.sub su) a w:=by
 obtain⟨F,ρ,h,hF⟩:=h;have hp:∀b,(κ.sub su).present b↔sr.present b:=fun b=>by show(su.v b≠none\/su.a b≠none)↔_; rw[hs.v,hs.a]; exact Iff.rfl
 refine⟨F,ρ,⟨h.fr,⟨fun b hb=>h.mem.dom b (by rw[<-hs.d]; exact hb),?_,fun b A hA=>h.mem.arr b A (by rw[<-hs.a]; exact hA),fun b b' v v' g p p'=>h.mem.sep b b' v v' g ((hp b).1 p) ((hp b').1 p'),fun b v g p=>h.mem.own b v g ((hp b).1 p),h.mem.fb,h.mem.one,h.mem.glob⟩,fun b v g p=>h.lo b v g ((hp b).1 p),fun t=>?_,h.sz,h.df,h.pin⟩,hF⟩
 ·intro b ty k hv;obtain⟨g,arr,q1,q2,q3,q4⟩:=h.mem.var b ty k (by rw[<-hs.v]; exact hv)
  refine⟨g,arr,q1,q2,q3,fun j x hj=>⟨?_,(q4 j x hj).2⟩⟩
  show Den P F w ρ ((su.c b j).res κ) x;rcases hs.c b j with e | e
  ·rw[e,(q4 j x hj).1.res]; exact(q4 j x hj).1
  ·rw[e]; exact(q4 j x hj).1
 ·show Den P F w ρ ((su.r t).res κ) _;rcases hs.r t with e | e
  ·rw[e,(h.regs t).res]; exact h.regs t
  ·rw[e]; exact h.regs t
theorem qdp(hpins:∀b v,M.pin b=some v->b∈pins){b:Code}{p:Plan}(hb:∀q,Sound P w0 M C.N F0 (ev C pins b q) b)
  (he:ev C pins (.loop b) p=qgS pins p.ws (match p.lp with | some (j,alts)=>qvD pins j alts (ev C pins b p.l) | none=>fun _ _ _ _=>none)):Sound P w0 M C.N F0 (ev C pins (.loop b) p) (.loop b):=by
 rw[he];refine qcp hpins _ ?_
 cases hp:p.lp with
 | none=>intro A κ st k v hv; cases hv
 | some q=>obtain⟨j,alts⟩:=q; exact qvE hpins (hb p.l)
theorem ev_ok(hΓ:Tys P C.Γ)(hfs:CxOk P C)(hm:P.follows .mixedOrders=true)(hpins:∀b v,M.pin b=some v->b∈pins):∀(c:Code) (p:Plan),Sound P w0 M C.N F0 (ev C pins c p) c
 | .skip,p=>qcp hpins _ fun A κ st k v hv a w hr=>wp_skip ⟨.n,st,rfl,hv,hr⟩
 | .ret,p=>qcp hpins _ fun A κ st k v hv a w hr=>wp_ret ⟨.r,st,rfl,hv,hr⟩
 | .exit id,p=>qcp hpins _ fun A κ st k v hv a w hr=>wp_exit ⟨.x id,st,rfl,hv,hr⟩
 | .region id ⟨ops⟩ draw,p=>qcp hpins _ fun A κ st k v hv=>by
  have hg:=qoJ (P:=P) (w0:=w0) (M:=M) (F0:=F0) (st0:=κ.sub st) hΓ hfs (ops:=ops.toArray) rfl (R:=SubR κ) (fun su sr x h=>h.put x) ops [] st (κ.sub st) ⟨fun t=>.inr rfl,fun b o=>.inr rfl,rfl,rfl,rfl⟩ hv
  have hw:W P w0 M C.N F0 (.region id ops.toArray draw) (κ.sub st) (fun e sr=>e=.normal/\∃su',SubR κ su' sr/\k .n su'=some v):=by
   have hg':G P w0 M C.N F0 draw ops.toArray (κ.sub st) [] ops (κ.sub st) ((fun e sr=>e=Exit.normal/\∃su',SubR κ su' sr/\k .n su'=some v) .normal):=by
    intro L h1 h2 h3 h4 a w h5;have:=hg L h1 h2 h3 h4 a w h5;have hmono:∀(e:Exit) (a:Act) (w:World),QK P w0 M C.N F0 (fun sr'=>∃su',SubR κ su' sr'/\k .n su'=some v) e a w->QK P w0 M C.N F0 (fun sr=>Exit.normal=Exit.normal/\∃su',SubR κ su' sr/\k .n su'=some v) e a w:=by
     intro e a w hq;cases e <;> first | exact hq.elim | (obtain⟨st',h1,h2⟩:=hq; exact⟨st',⟨rfl,h1⟩,h2⟩)
    have hq:QK P w0 M C.N F0 (fun sr'=>∃su',SubR κ su' sr'/\k .n su'=some v)=QK P w0 M C.N F0 (fun sr=>Exit.normal=Exit.normal/\∃su',SubR κ su' sr/\k .n su'=some v):=by
     congr 1; funext sr; simp
    rw[<-hq]; exact this
   cases draw with
   | false=>exact W.region hg'
   | true=>exact W.drawn hm hg'
  intro a w hr;refine zK1 ?_ (hw a w hr)
  rintro e a' w' ⟨sr,⟨rfl,su,h1,h2⟩,h3⟩
  exact⟨.n,su,rfl,h2,h1.rel h3⟩
 | .seq x y,p=>qcp hpins _ fun A κ st k v hv a w hr=>by
  refine wp_seq (zK1 ?_ (ev_ok hΓ hfs hm hpins x p.l A κ st _ v hv a w hr))
  rintro e a' w' ⟨x',su,rfl,h1,h2⟩
  cases x' with
  | n=>exact ev_ok hΓ hfs hm hpins y p.r A κ su k v h1 a' w' h2
  | x id=>exact⟨.x id,su,rfl,h1,h2⟩
  | r=>exact⟨.r,su,rfl,h1,h2⟩
 | .cond c x y,p=>qcp hpins _ fun A κ st k v hv a w hr=>by
  split at hv
  ·rename_i n hc;obtain⟨F,ρ,h,hF⟩:=id hr;have hd:=h.evx (st0:=κ.sub st) (rd:=qac c) (fun κ' _=>agree.refl _ κ') (fun _ h=>h) (x:=c)
   rw[hc] at hd;generalize hu:a.eval c=u at hd;cases hd with
   | nilq hb0=>
    rename_i b;cases hn:Nat.beq n 0 with
    | true=>
     rw[hn] at hv;obtain⟨v1,v2⟩:=qyK hv;refine wp_cond_split hu (fun e=>?_) (fun e=>?_)
     ·exact ev_ok hΓ hfs hm hpins x p.l A κ st k v v1 a w hr
     ·exact ev_ok hΓ hfs hm hpins y p.r A κ st k v v2 a w hr
    | false=>
     rw[hn] at hv;refine wp_cond_split hu (fun e=>?_) (fun e=>?_)
     ·rw[hb0 e] at hn; cases hn
     ·exact ev_ok hΓ hfs hm hpins y p.r A κ st k v hv a w hr
  rename_i s _;split at hv
  ·rename_i t ht;obtain⟨F,ρ,h,hF⟩:=id hr;have hb:a.eval c=.bool t:=(h.evx (st0:=κ.sub st) (rd:=qac c) (fun κ' _=>agree.refl _ κ') (fun _ h=>h)).bool ht
   refine wp_cond_split hb (fun e=>?_) (fun e=>?_)
   ·subst e; exact ev_ok hΓ hfs hm hpins x p.l A κ st k v hv a w hr
   ·subst e; exact ev_ok hΓ hfs hm hpins y p.r A κ st k v hv a w hr
  ·cases hv
 | .block id b,p=>qcp hpins _ fun A κ st k v hv a w hr=>by
  refine wp_block (zK1 ?_ (ev_ok hΓ hfs hm hpins b p.l A κ st _ v hv a w hr))
  rintro e a' w' ⟨x,su,rfl,h1,h2⟩
  cases x with
  | n=>exact⟨.n,su,rfl,h1,h2⟩
  | r=>exact⟨.r,su,rfl,h1,h2⟩
  | x id'=>
   simp only[qCZ] at h1;by_cases e:id'=id
   ·subst e;simp only[zO2,za] at h1;simp only[Ex.to,Exit.inBlock,if_true];exact⟨.n,su,rfl,h1,h2⟩
   ·rw[bq e] at h1; simp only[zb] at h1;simp only[Ex.to,Exit.inBlock,if_neg e];exact⟨.x id',su,rfl,h1,h2⟩
 | .scope b,p=>qcp hpins _ fun A κ st k v hv a w hr=>by
  refine wp_scope_straight (zK1 ?_ (ev_ok hΓ hfs hm hpins b p.l A κ st _ v hv a w hr))
  rintro e a' w' ⟨x,su,rfl,h1,h2⟩
  cases x <;> exact⟨_,su,rfl,h1,h2⟩
 | .loop (.seq x y),p=>qcp hpins _ (by
  cases hp:p.lp with
  | none=>intro A κ st k v hv; cases hv
  | some q=>
   obtain⟨j,alts⟩:=q;refine qvE hpins (qcp hpins _ fun A κ st k v hv a w hr=>?_)
   refine wp_seq (zK1 ?_ (ev_ok hΓ hfs hm hpins x p.l.l A κ st _ v hv a w hr))
   rintro e a' w' ⟨x',su,rfl,h1,h2⟩
   cases x' with
   | n=>exact ev_ok hΓ hfs hm hpins y p.l.r A κ su k v h1 a' w' h2
   | x id=>exact⟨.x id,su,rfl,h1,h2⟩
   | r=>exact⟨.r,su,rfl,h1,h2⟩)
 | .loop .skip,p=>qdp hpins (fun q=>ev_ok hΓ hfs hm hpins .skip q) rfl
 | .loop .ret,p=>qdp hpins (fun q=>ev_ok hΓ hfs hm hpins .ret q) rfl
 | .loop (.exit i),p=>qdp hpins (fun q=>ev_ok hΓ hfs hm hpins (.exit i) q) rfl
 | .loop (.region i o d),p=>qdp hpins (fun q=>ev_ok hΓ hfs hm hpins (.region i o d) q) rfl
 | .loop (.cond c x y),p=>qdp hpins (fun q=>ev_ok hΓ hfs hm hpins (.cond c x y) q) rfl
 | .loop (.block i x),p=>qdp hpins (fun q=>ev_ok hΓ hfs hm hpins (.block i x) q) rfl
 | .loop (.scope x),p=>qdp hpins (fun q=>ev_ok hΓ hfs hm hpins (.scope x) q) rfl
 | .loop (.loop x),p=>qdp hpins (fun q=>ev_ok hΓ hfs hm hpins (.loop x) q) rfl
 | .loop (.rangeFunc f ps x y),p=>qdp hpins (fun q=>ev_ok hΓ hfs hm hpins (.rangeFunc f ps x y) q) rfl
 | .loop (.label l),p=>qdp hpins (fun q=>ev_ok hΓ hfs hm hpins (.label l) q) rfl
 | .loop (.goto l),p=>qdp hpins (fun q=>ev_ok hΓ hfs hm hpins (.goto l) q) rfl
 | .loop (.refuse w),p=>qdp hpins (fun q=>ev_ok hΓ hfs hm hpins (.refuse w) q) rfl
 | .rangeFunc ..,_=>fun A κ st k v hv=>by cases hv
 | .label _,p=>qcp hpins _ fun A κ st k v hv a w hr=>wp_label ⟨.n,st,rfl,hv,hr⟩
 | .goto _,_=>fun A κ st k v hv=>by cases hv
 | .refuse _,_=>fun A κ st k v hv=>by cases hv
end
end Go.Sq
