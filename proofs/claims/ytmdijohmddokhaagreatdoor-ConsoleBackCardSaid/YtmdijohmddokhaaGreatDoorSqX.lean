/- The second engine, part X: a variable that is only read from now on. No condition. -/
import Derived.Test.YtmdijohmddokhaaGreatDoorSqR
namespace Go.Sq
open Go Go.RowKit
def SV.fv1(b:Nat)(τ:Ty)(x:τ.den):SV->SV
 | .ptr b' o=>bif Nat.beq b' b then .sel τ x o else .ptr b' o
 | s=>s
def SV.fv(b:Nat)(τ:Ty)(x:τ.den):SV->SV
 | .agg cs=>.agg (cs.map (SV.fv1 b τ x))
 | .clo f cs=>.clo f (cs.map (SV.fv1 b τ x))
 | s=>s.fv1 b τ x
def qxF(st:St)(b k:Nat)(τ:Ty):Option τ.den:=bif τ.agg then SV.dat τ (.agg (qbq st b 0 k)) else bif Nat.beq k 1 then SV.dat τ (st.c b 0) else none
def St.freezeV(st κ:St)(b:Nat)(τ:Ty):St:=
 match st.v b with
 | some (_,k)=>match qxF (κ.sub st) b k τ with
  | some x=>{ st with r:=fun t=>(st.r t).fv b τ x,c:=fun b' o=>(st.c b' o).fv b τ x,v:=fun y=>bif Nat.beq y b then none else st.v y }
  | none=>st
 | none=>st
section
variable {P:Program} {w0:World} {M:Mod} {N:Nat} {F0:Nat->Prop}
variable {F:Nat->Prop} {ρ:Env} {st:St} {a:Act} {w:World}
theorem Den.fv1{b:Nat}{τ:Ty}{x:τ.den}{u:Value}{F':Nat->Prop}(hF:∀g,F g->F' g)(hrd:∀g,ρ b=some (.pointer (some ⟨g,0,none⟩))->F' g/\∃es,RdC F' w τ x es/\∀j u,es[j]? = some u->w.cell? ⟨g,j,none⟩=some u){s:SV}(hd:Den P F w ρ s u):Den P F' w ρ (s.fv1 b τ x) u:=by
 have up:∀ {s u},Den P F w ρ s u->Den P F' w ρ s u:=fun hd=>hd.mono hF (fun _ _=>rfl) _ (fun _ _ h=>h)
 cases hd with
 | ptr hρ=>
  rename_i b' o g;show Den P F' w ρ (bif Nat.beq b' b then SV.sel τ x o else .ptr b' o) _;cases hb:Nat.beq b' b with
  | false=>exact up (.ptr hρ)
  | true=>
   have:=zc hb; subst this;obtain⟨h1,es,h2,h3⟩:=hrd g hρ;have e:(.pointer (some ⟨g,o,none⟩):Value)=.pointer (some ((⟨g,0,none⟩:Addr).add o)):=by simp[Addr.add]
   rw[e];exact .sel (ad:=⟨g,0,none⟩) h1 h2 (fun j u hj=>by
    have e:(⟨g,0,none⟩:Addr).add j=⟨g,j,none⟩:=by simp[Addr.add]; try omega
    rw[e]; exact h3 j u hj)
 | v h=>exact up (.v h)
 | nptr h=>exact up (.nptr h)
 | raw=>exact up (.raw _)
 | any=>exact up (.any _)
 | own h=>exact up (.own h)
 | ael h hi=>exact up (.ael h hi)
 | aix h hi hm=>exact up (.aix h hi hm)
 | pre h hi=>exact up (.pre h hi)
 | pel h hi=>exact up (.pel h hi)
 | rest h h1 h2=>exact up (.rest h h1 h2)
 | agg a b c=>exact up (.agg a b c)
 | sel a b c=>exact up (.sel a b c)
 | tup a b=>exact up (.tup a b)
 | when a b=>exact up (.when a b)
 | clo a b=>exact up (.clo a b)
 | fn h=>exact up (.fn h)
 | fmap a b c d e f=>exact up (.fmap a b c d e f)
 | cut h=>exact up (.cut h)
 | nilq h=>exact up (.nilq h)
 | fzd h1 h2=>exact up (.fzd h1 h2)
theorem Den.fv{b:Nat}{τ:Ty}{x:τ.den}{u:Value}{F':Nat->Prop}(hF:∀g,F g->F' g)(hrd:∀g,ρ b=some (.pointer (some ⟨g,0,none⟩))->F' g/\∃es,RdC F' w τ x es/\∀j u,es[j]? = some u->w.cell? ⟨g,j,none⟩=some u){s:SV}(hd:Den P F w ρ s u):Den P F' w ρ (s.fv b τ x) u:=by
 have mp:∀ {ss:List SV} {vs:List Value},(∀(i:Nat) (s:SV) (u:Value),ss[i]? = some s->vs[i]? = some u->Den P F w ρ s u)->∀(i:Nat) (s:SV) (u:Value),(ss.map (SV.fv1 b τ x))[i]? = some s->vs[i]? = some u->Den P F' w ρ s u:=by
  intro ss vs h i s u hs hu;rw[zL] at hs;obtain⟨s0,hs0,rfl⟩:=zc1.1 hs;exact(h i s0 u hs0 hu).fv1 hF hrd
 cases hd with
 | agg a1 a2 a3=>exact .agg (by simpa using a1) (mp a2) a3
 | clo a1 a2=>exact .clo (by simpa using a1) (mp a2)
 | v h=>exact Den.fv1 hF hrd (.v h)
 | nptr h=>exact Den.fv1 hF hrd (.nptr h)
 | raw=>exact Den.fv1 hF hrd (.raw _)
 | any=>exact Den.fv1 hF hrd (.any _)
 | ptr h=>exact Den.fv1 hF hrd (.ptr h)
 | own h=>exact Den.fv1 hF hrd (.own h)
 | ael h hi=>exact Den.fv1 hF hrd (.ael h hi)
 | aix h hi hm=>exact Den.fv1 hF hrd (.aix h hi hm)
 | pre h hi=>exact Den.fv1 hF hrd (.pre h hi)
 | pel h hi=>exact Den.fv1 hF hrd (.pel h hi)
 | rest h h1 h2=>exact Den.fv1 hF hrd (.rest h h1 h2)
 | sel a b c=>exact Den.fv1 hF hrd (.sel a b c)
 | tup a b=>exact Den.fv1 hF hrd (.tup a b)
 | when a b=>exact Den.fv1 hF hrd (.when a b)
 | fn h=>exact Den.fv1 hF hrd (.fn h)
 | fmap a b c d e f=>exact Den.fv1 hF hrd (.fmap a b c d e f)
 | cut h=>exact Den.fv1 hF hrd (.cut h)
 | nilq h=>exact Den.fv1 hF hrd (.nilq h)
 | fzd h1 h2=>exact Den.fv1 hF hrd (.fzd h1 h2)
theorem qz7{b k g:Nat}{ty:TypeId}{τ:Ty}{x:τ.den}{arr:Array Value}(hx:qxF st b k τ=some x)(hk:arr.size=k)(hc:∀j u,arr[j]? = some u->Den P F w ρ (st.c b j) u/\u.oneCell'=true):RdC F w τ x arr.toList:=by
 unfold qxF at hx;cases ha:τ.agg with
 | true=>
  rw[ha] at hx; simp only[za] at hx;have hd:Den P F w ρ (.agg (qbq st b 0 k)) (.agg arr.toList.toArray):=by
   refine .agg (by simp[qdN,hk]) (fun i s u hs hu=>?_) (fun u hu=>?_)
   ·have hu':arr[i]? = some u:=by simpa using hu
    have hi:i<k:=by rw[<-hk]; exact(zT.1 hu').1
    have:s=st.c b i:=by
     rw[qfc hi,zY] at hs;injection hs with hs; exact hs.symm
    rw[this]; exact(hc i u hu').1
   ·obtain⟨i,hi,rfl⟩:=List.mem_iff_getElem.1 hu;exact(hc i _ (by simp at hi ⊢)).2
  obtain⟨cs,h1,h2⟩:=qcR hx hd;have h3:cs=arr.toList:=by
   simp only[mkV,ha,za] at h2;injection h2 with h2
   have:=congrArg Array.toList h2;simpa using this.symm
  rw[<-h3]; exact h1
 | false=>
  rw[ha] at hx; simp only[zb] at hx;cases hb:Nat.beq k 1 with
  | false=>rw[hb] at hx; cases hx
  | true=>
   rw[hb] at hx; simp only[za] at hx;have hk1:=zc hb;obtain⟨u,hu⟩:∃u,arr=#[u]:=by
    have:arr.size=1:=by omega
    refine⟨arr[0],Array.ext (by simp[this]) (fun i h1 h2=>?_)⟩
    obtain rfl:i=0:=by omega
    rfl
   subst hu;obtain⟨cs,h1,h2⟩:=qcR hx (hc 0 u rfl).1;have hs:=h1.size;have hs1:τ.size=1:=by revert ha; cases τ <;> intro ha <;> first | rfl | cases ha
   rw[hs1] at hs;obtain⟨c0,rfl⟩:=zo1.1 hs;have:u=c0:=by simpa[mkV,ha] using h2
   subst this; exact h1
theorem Rel'.freezeV{b k:Nat}{ty:TypeId}{τ:Ty}{x:τ.den}{st':St}(h:Rel' P w0 M N F ρ st a w)(hv:st.v b=some (ty,k))(hx:qxF st b k τ=some x)
  (e1:∀t,st'.r t=st.r t\/st'.r t=(st.r t).fv b τ x) (e2:∀b' o,st'.c b' o=st.c b' o\/st'.c b' o=(st.c b' o).fv b τ x) (e3:st'.v=fun y=>bif Nat.beq y b then none else st.v y) (e4:st'.d=st.d) (e5:st'.a=st.a):
  ∃F',Rel' P w0 M N F' ρ st' a w/\(∀g,F g->F' g)/\∀g,F' g->F g\/M.blk g\/w0.heap.size<=g:=by
 obtain⟨g,arr,h1,h2,h3,h4⟩:=h.mem.var b ty k hv;have hp0:st.present b:=.inl (by rw[hv]; simp)
 have hrd0:=qz7 (ty:=ty) (g:=g) hx h3 h4;have ha0:st.a b=none:=by
  cases hxa:st.a b with
  | none=>rfl
  | some A=>
   obtain⟨u',q2,q3⟩:=h.mem.arr b _ hxa;rw[h1] at q2; injection q2 with q2; subst q2
   exact(q3.novar rfl h2).elim
 have hF:∀g',F g'->F g'\/g'=g:=fun _ h=>.inl h
 have hrd:∀g',ρ b=some (.pointer (some ⟨g',0,none⟩))->(F g'\/g'=g)/\∃es,RdC (fun g'=>F g'\/g'=g) w τ x es/\∀j u,es[j]? = some u->w.cell? ⟨g',j,none⟩=some u:=by
  intro g' hg;rw[h1] at hg; injection hg with hg; injection hg with hg; injection hg with hg; injection hg with hg; subst hg
  refine⟨.inr rfl,arr.toList,hrd0.mono hF (fun _ _=>rfl),fun j u hj=>?_⟩
  rw[cell_of_row w g j arr ty (0,0) h2];simpa using hj
 have up:∀ {s u},Den P F w ρ s u->Den P (fun g'=>F g'\/g'=g) w ρ s u:=fun hd=>hd.mono hF (fun _ _=>rfl) _ (fun _ _ h=>h)
 have hpr:∀b',st'.present b'->b'≠b/\st.present b':=by
  intro b' hp;by_cases e:b'=b
  ·subst e; exfalso;rcases hp with hp | hp
   ·rw[e3] at hp; exact hp (by simp)
   ·rw[e5] at hp; exact hp ha0
  ·refine⟨e,?_⟩
   rcases hp with hp | hp
   ·rw[e3] at hp; simp only[bq e,zb] at hp; exact .inl hp
   ·rw[e5] at hp; exact .inr hp
 refine⟨fun g'=>F g'\/g'=g,⟨h.fr,⟨fun b' hb=>h.mem.dom b' (by rw[<-e4]; exact hb),?_,?_,?_,?_,?_,h.mem.one,h.mem.glob.mono hF (fun _ _=>rfl)⟩,?_,fun t=>(e1 t).elim (fun e=>by rw[e]; exact up (h.regs t)) (fun e=>by rw[e]; exact(h.regs t).fv hF hrd),h.sz,h.df,h.pin⟩,hF,fun g' hg=>?_⟩
 ·intro b' ty' k' hv';rw[e3] at hv';simp only at hv';cases hb:Nat.beq b' b with
  | true=>rw[hb] at hv'; cases hv'
  | false=>
   rw[hb] at hv';obtain⟨g',arr',a1,a2,a3,a4⟩:=h.mem.var b' ty' k' hv';exact⟨g',arr',a1,a2,a3,fun j u hj=>⟨(e2 b' j).elim (fun e=>by rw[e]; exact up (a4 j u hj).1) (fun e=>by rw[e]; exact(a4 j u hj).1.fv hF hrd),(a4 j u hj).2⟩⟩
 ·intro b' A hA';rw[e5] at hA';obtain⟨v,a1,a2⟩:=h.mem.arr b' A hA';exact⟨v,a1,a2.keep hF (fun _ _=>rfl) (fun _ _=>rfl)⟩
 ·intro b1 b2 v1 v2 g p1 p2; exact h.mem.sep b1 b2 v1 v2 g (hpr b1 p1).2 (hpr b2 p2).2
 ·intro b' v g' p r hg hF';rcases hF' with hF' | hF'
  ·exact h.mem.own b' v g' (hpr b' p).2 r hg hF'
  ·subst hF'; exact(hpr b' p).1 (h.mem.sep b' b v _ g' (hpr b' p).2 hp0 r h1 hg rfl)
 ·intro g' hg;rcases hg with hg | rfl
  ·exact h.mem.fb g' hg
  ·exact h.mem.lt hp0 h1 rfl
 ·intro b' v g' p; exact h.lo b' v g' (hpr b' p).2
 ·rcases hg with hg | rfl
  ·exact .inl hg
  ·exact .inr (h.lo b _ g' hp0 h1 rfl)
end
end Go.Sq
