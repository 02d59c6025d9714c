/- The second engine, part S: content is taken, whatever form it has; code is evaluated. No condition. -/
import Derived.Test.YtmdijohmddokhaaGreatDoorSqX
namespace Go.Sq
open Go Go.RowKit
/-! ### Arrays that are only read from now on; nil slices that become arrays -/
def owns1:SV->List Nat
 | .own b=>[b]
 | _=>[]
def qxG:SV->List Nat
 | .own b=>[b]
 | .agg cs=>cs.flatMap owns1
 | _=>[]
def qxH(st:St)(t:Nat):List Nat:=
 match st.r t with
 | .ptr b _=>match st.v b with
  | some (_,k)=>(qbq st b 0 k).flatMap qxG
  | none=>[]
 | s=>qxG s
def St.freezeL(st:St):List Nat->St
 | []=>st
 | b::l=>(st.freeze b).freezeL l
def frzL:List Sh1->List SV->List Nat
 | .data _::r,s::l=>qxG s++frzL r l
 | _::r,_::l=>frzL r l
 | _,_=>[]
def frzSh:Sh->SV->List Nat
 | .one (.data _),s=>qxG s
 | .agg l,.agg cs=>frzL l cs
 | _,_=>[]
def J.frz(j:J)(st:St):List Nat:=
 (j.regs.flatMap fun p=>frzSh p.2 (st.r p.1))++(j.vars.flatMap fun p=>frzL p.2.2 (qbq st (j.ren st p.1) 0 p.2.2.length))
def qgd:Ob->SV->Bool
 | .arr _ _ _,.raw (.slice none 0 0)=>true
 | .map _ _ _ _ _,.raw (.map none)=>true
 | _,_=>false
def Ob.empty:Ob->Bool
 | .arr _ _ l=>l.isEmpty
 | .map nn _ _ _ l=>!nn&&l.isEmpty
 | .iter _ _ _ _=>false
def nilV:Ob->Value
 | .arr _ _ _=>.slice none 0 0
 | .map _ _ _ _ _=>.map none
 | .iter _ _ _ _=>.map none
def ObSh.none:ObSh->Ob
 | .arr ty e=>.arr ty e []
 | .one ty e=>.arr ty e [e.dflt]
 | .map nn ty k v=>.map nn ty k v []
 | .iter on k v=>.iter on k v []
def obOf:List (Nat×ObSh)->Nat->Option Ob
 | [],_=>none
 | (x,s)::r,b=>bif Nat.beq b x then some s.none else obOf r b
def St.nilR(st:St)(t n:Nat)(A:Ob):St:=bif !st.d n&&(qgd A (st.r t)&&A.empty) then((st.put (.d n)).put (.a n (some A))).put (.r t (.own n)) else st
def St.nilC(st:St)(b o n:Nat)(A:Ob):St:=bif !st.d n&&(qgd A (st.c b o)&&A.empty) then((st.put (.d n)).put (.a n (some A))).put (.c b o (.own n)) else st
def St.nilG(st:St)(t i n:Nat)(A:Ob):St:=match st.r t with
 | .agg cs=>bif !st.d n&&(qgd A (nthS cs i)&&A.empty) then((st.put (.d n)).put (.a n (some A))).put (.r t (.agg (cs.set i (.own n)))) else st
 | _=>st
def nilG1(arrs:List (Nat×ObSh))(t:Nat):Nat->List Sh1->St->St
 | _,[],st=>st
 | i,s::r,st=>nilG1 arrs t (i+1) r (match s with
  | .own b=>match obOf arrs b with
   | some A=>st.nilG t i (fresh st t 15 0) A
   | none=>st
  | _=>st)
def nilR1(arrs:List (Nat×ObSh))(t:Nat)(s:Sh)(st:St):St:=
 match s with
 | .agg l=>nilG1 arrs t 0 l st
 | .one (.own b)=>match obOf arrs b with
  | some A=>bif qgd A (st.r t) then st.nilR t (fresh st t 3 12) A else st
  | none=>st
 | _=>st
def nilRegs(arrs:List (Nat×ObSh)):List (Nat×Sh)->St->St
 | [],st=>st
 | (t,s)::r,st=>nilRegs arrs r (nilR1 arrs t s st)
def nilC1(arrs:List (Nat×ObSh))(b' o:Nat)(s:Sh1)(st:St):St:=
 match s with
 | .own b=>match obOf arrs b with
  | some A=>bif qgd A (st.c b' o) then st.nilC b' o (fresh st (b'+o) 7 8) A else st
  | none=>st
 | _=>st
def nilCells(arrs:List (Nat×ObSh))(b':Nat):Nat->List Sh1->St->St
 | _,[],st=>st
 | o,s::r,st=>nilCells arrs b' (o+1) r (nilC1 arrs b' o s st)
def nilVars(arrs:List (Nat×ObSh))(π:Nat->Nat):List (Nat×TypeId×List Sh1)->St->St
 | [],st=>st
 | (b,_,l)::r,st=>nilVars arrs π r (nilCells arrs (π b) 0 l st)
def St.weak(st:St)(b:Nat):St:=match st.a b with
 | some (.map true ty k v l)=>st.put (.a b (some (.map false ty k v l)))
 | some (.iter true k v l)=>st.put (.a b (some (.iter false k v l)))
 | _=>st
def weakA(π:Nat->Nat):List (Nat×ObSh)->St->St
 | [],st=>st
 | (b,.map false _ _ _)::r,st=>weakA π r (st.weak (π b))
 | (b,.iter false _ _)::r,st=>weakA π r (st.weak (π b))
 | _::r,st=>weakA π r st
def J.coerce(j:J)(st:St):St:=
 let st1:=st.freezeL (j.frz st)
 let st2:=nilVars j.arrs (j.ren st1) j.vars (nilRegs j.arrs j.regs st1)
 weakA (j.ren st2) j.arrs st2
def qz8(pins:List Nat)(κ:St)(j:J)(π:Nat->Nat):Bool:=j.ok&&noDup (j.names.map π)&&j.keepOk κ&&pins.all fun b=>memN j.names b&&Nat.beq (π b) b
def J.packC(j:J)(pins:List Nat)(κ st:St):Option (CT j.ct):=
 let st2:=j.coerce st
 bif qz8 pins κ j (j.ren st2) then j.pack (j.ren st2) st2 else none
section
variable {P:Program} {w0:World} {M:Mod} {N:Nat} {F0:Nat->Prop}
variable {F:Nat->Prop} {ρ:Env} {st:St} {a:Act} {w:World}
def LeS(P:Program)(w0:World)(M:Mod)(N:Nat)(F0:Nat->Prop)(κ st st':St):Prop:=∀a w,Rel P w0 M N F0 (κ.sub st) a w->Rel P w0 M N F0 (κ.sub st') a w
theorem LeS.refl{κ:St}:LeS P w0 M N F0 κ st st:=fun _ _ h=>h
theorem LeS.trans{κ st st' st'':St}(h:LeS P w0 M N F0 κ st st')(h':LeS P w0 M N F0 κ st' st''):LeS P w0 M N F0 κ st st'':=fun a w hr=>h' a w (h a w hr)
theorem LeS.freezeT{κ:St}{b:Nat}{A:Ob}{τ:Ty}{x:τ.den}(hA:st.a b=some A)(hi:A.Is τ x):LeS P w0 M N F0 κ st (st.freezeT b τ x):=by
 intro a w hr;obtain⟨F,ρ,h,hF⟩:=hr;obtain⟨u,hu,_⟩:=h.mem.arr b _ (show(κ.sub st).a b=_ from hA)
 have hrd:∀v,ρ b=some v->RdV (fun g=>F g\/blkOf u=some g) w τ x v:=by
  intro v hv; rw[hu] at hv; injection hv with hv; subst hv; exact is_rd h.mem (show(κ.sub st).a b=_ from hA) hi hu
 have key:∀(s:SV) (v:Value),Den P F w ρ (s.res κ) v->Den P (fun g=>F g\/blkOf u=some g) w ρ ((s.fz b τ x).res κ) v:=by
  intro s v hd;have hfz:s.res κ=s->Den P (fun g=>F g\/blkOf u=some g) w ρ ((s.fz b τ x).res κ) v:=fun h=>by
   rw[h] at hd;have h2:=Den.fz (b:=b) (e:=τ) (l:=x) (fun g hg=>Or.inl hg) hrd hd
   rw[h2.res]; exact h2
  cases s with
  | kr t=>exact hd.mono (fun _ h=>.inl h) (fun _ _=>rfl) _ (fun _ _ h=>h)
  | kc b' o=>exact hd.mono (fun _ h=>.inl h) (fun _ _=>rfl) _ (fun _ _ h=>h)
  | _=>exact hfz rfl
 obtain⟨h1,h2⟩:=h.freeze (st':=κ.sub (st.freezeT b τ x)) (show(κ.sub st).a b=_ from hA) hu
  (fun t v hd=>key _ v hd) (fun b' o v hd=>key _ v hd) rfl rfl rfl
 exact⟨_,ρ,h1,fun g hg=>.inl (hF.1 g hg),fun g hg=>hg.elim (hF.2 g) fun hg=>.inr (h2 g hg)⟩
theorem LeS.freeze{κ:St}(b:Nat):LeS P w0 M N F0 κ st (st.freeze b):=by
 unfold St.freeze;split
 ·rename_i hA; exact LeS.freezeT hA .arr
 ·rename_i hA; exact LeS.freezeT hA .map
 ·exact .refl
theorem LeS.freezeL{κ:St}:∀(l:List Nat) {st:St},LeS P w0 M N F0 κ st (st.freezeL l)
 | [],_=>.refl
 | b::l,_=>(LeS.freeze b).trans (LeS.freezeL l)
theorem LeS.freezeV{κ:St}(b:Nat)(τ:Ty):LeS P w0 M N F0 κ st (st.freezeV κ b τ):=by
 intro a w hr;unfold St.freezeV;split
 ·rename_i ty k hv;split
  ·rename_i x hx;obtain⟨F,ρ,h,hF⟩:=hr;have key:∀s:SV,(s.fv b τ x).res κ=s.res κ\/(s.fv b τ x).res κ=(s.res κ).fv b τ x:=by
    intro s;cases s with
    | kr t=>exact .inl rfl
    | kc b' o=>exact .inl rfl
    | ptr b' o=>
     refine .inr ?_
     show(bif Nat.beq b' b then SV.sel τ x o else .ptr b' o).res κ=(bif Nat.beq b' b then SV.sel τ x o else .ptr b' o);cases Nat.beq b' b <;> rfl
    | _=>exact .inr rfl
   obtain⟨F',h1,h2,h3⟩:=h.freezeV (b:=b) (τ:=τ) (x:=x) (st':=κ.sub { st with r:=fun t=>(st.r t).fv b τ x,c:=fun b' o=>(st.c b' o).fv b τ x,v:=fun y=>bif Nat.beq y b then none else st.v y }) (show(κ.sub st).v b=_ from hv) hx
    (fun t=>key _) (fun b' o=>key _) rfl rfl rfl
   exact⟨F',ρ,h1,fun g hg=>h2 g (hF.1 g hg),fun g hg=>(h3 g hg).elim (hF.2 g) .inr⟩
  ·exact hr
 ·exact hr
def St.freezeVs(κ:St):List (Nat×Ty)->St->St
 | [],st=>st
 | (t,τ)::l,st=>match st.r t with
  | .ptr b _=>St.freezeVs κ l ((st.freezeL (qxH st t)).freezeV κ b τ)
  | _=>St.freezeVs κ l st
theorem LeS.freezeVs{κ:St}:∀(l:List (Nat×Ty)) {st:St},LeS P w0 M N F0 κ st (St.freezeVs κ l st)
 | [],_=>.refl
 | (t,τ)::l,st=>by
  unfold St.freezeVs;split
  ·exact(LeS.freezeL _).trans ((LeS.freezeV _ _).trans (LeS.freezeVs l))
  ·exact LeS.freezeVs l
theorem qwP{A:Ob}{s:SV}{u:Value}(h:qgd A s=true)(hd:Den P F w ρ s u):u=nilV A/\∀κ,s.res κ=s:=by
 unfold qgd at h;split at h
 ·cases hd; exact⟨rfl,fun _=>rfl⟩
 ·cases hd; exact⟨rfl,fun _=>rfl⟩
 ·cases h
theorem qz9{A:Ob}{s:SV}(h:qgd A s=true)(κ:St):s.res κ=s:=by
 cases s <;> first | rfl | (cases A <;> cases h)
theorem qAa(A:Ob):blkOf (nilV A)=none/\(nilV A).oneCell'=true:=by cases A <;> exact⟨rfl,rfl⟩
theorem Ob.empty_ok{A:Ob}(h:A.empty=true):ObOk F w A (nilV A):=by
 cases A with
 | arr ty e l=>
  cases l with
  | nil=>exact⟨[],OwnR.nil w ty e.size none,fun i x hx=>by simp at hx⟩
  | cons=>cases h
 | map nn ty k v l=>
  simp only[Ob.empty,z8,zq] at h;cases l with
  | nil=>exact .inl ⟨h.1,rfl,rfl⟩
  | cons=>cases h.2
 | iter=>cases h
theorem qwQ(h:Rel' P w0 M N F ρ st a w){n:Nat}(hn:st.d n=false){A:Ob}(hA:A.empty=true):Rel' P w0 M N F (ρ.set n (nilV A)) ((st.put (.d n)).put (.a n (some A))) a w:=by
 obtain⟨hv,_,_⟩:=h.mem.absent hn;have h1:=h.name (b:=n) (u:=nilV A) hn (qAa A).2;exact h1.addA (A:=A) (by unfold Env.set; rw[if_pos rfl]) hv (Ob.empty_ok hA) (fun g hg=>by rw[(qAa A).1] at hg; cases hg)
theorem LeS.nilR{κ:St}(t n:Nat)(A:Ob):LeS P w0 M N F0 κ st (st.nilR t n A):=by
 intro a w hr;unfold St.nilR;cases hc:(!st.d n&&(qgd A (st.r t)&&A.empty)) with
 | false=>exact hr
 | true=>
  rw[z8,z8,zq] at hc;obtain⟨F,ρ,h,hF⟩:=hr;have h1:=qwQ h (n:=n) hc.1 hc.2.2;refine⟨F,ρ.set n (nilV A),⟨h1.fr,h1.mem.congr rfl rfl rfl rfl,h1.lo,fun t'=>?_,h1.sz,h1.df,h1.pin⟩,hF⟩
  show Den P F w _ ((bif Nat.beq t' t then SV.own n else st.r t').res κ) _;cases hb:Nat.beq t' t with
  | true=>
   have:=zc hb; subst this;have h2:=h.regs t';have h3:(κ.sub st).r t'=st.r t':=qz9 hc.2.1 κ;rw[h3] at h2;obtain⟨h4,_⟩:=qwP hc.2.1 h2;rw[h4];exact .own (by unfold Env.set; rw[if_pos rfl])
  | false=>exact h1.regs t'
theorem LeS.nilG{κ:St}(t i n:Nat)(A:Ob):LeS P w0 M N F0 κ st (st.nilG t i n A):=by
 intro a w hr;unfold St.nilG;split
 ·rename_i cs hcs;cases hc:(!st.d n&&(qgd A (nthS cs i)&&A.empty)) with
  | false=>exact hr
  | true=>
   rw[z8,z8,zq] at hc;obtain⟨F,ρ,h,hF⟩:=hr;have h1:=qwQ h (n:=n) hc.1 hc.2.2;refine⟨F,ρ.set n (nilV A),⟨h1.fr,h1.mem.congr rfl rfl rfl rfl,h1.lo,fun t'=>?_,h1.sz,h1.df,h1.pin⟩,hF⟩
   show Den P F w _ ((bif Nat.beq t' t then SV.agg (cs.set i (.own n)) else st.r t').res κ) _;cases hb:Nat.beq t' t with
   | true=>
    have:=zc hb; subst this;have h2:Den P F w (ρ.set n (nilV A)) ((st.r t').res κ) _:=h1.regs t';rw[hcs] at h2;generalize a.tmps.getD t' undef=u at h2;show Den P F w _ (SV.agg (cs.set i (.own n))) u;have h3:Den P F w (ρ.set n (nilV A)) (SV.agg cs) u:=h2;cases h3 with
    | agg hl hi ho=>
     rename_i vs;refine .agg (by simpa using hl) (fun j s u hs hu=>?_) ho
     by_cases hj:j=i
     ·subst hj;have hjl:j<cs.length:=by
       have:=(zr.1 hs).1; simpa using this
      rw[z92 hjl] at hs;injection hs with hs; subst hs
      have hg:cs[j]? = some (nthS cs j):=by rw[qt5 (zk hjl)]; exact zk hjl
      obtain⟨h4,_⟩:=qwP hc.2.1 (hi j _ u hg hu);rw[h4];exact .own (by unfold Env.set; rw[if_pos rfl])
     ·rw[zk2 (Ne.symm hj)] at hs;exact hi j s u hs hu
   | false=>exact h1.regs t'
 ·exact hr
theorem LeS.nilG1{κ:St}(arrs:List (Nat×ObSh))(t:Nat):∀(l:List Sh1) (i:Nat) {st:St},LeS P w0 M N F0 κ st (nilG1 arrs t i l st)
 | [],_,_=>.refl
 | s::r,i,st=>by
  unfold Sq.nilG1;refine LeS.trans ?_ (LeS.nilG1 arrs t r (i+1))
  split
  ·split
   ·exact LeS.nilG _ _ _ _
   ·exact .refl
  ·exact .refl
theorem LeS.nilC{κ:St}(b o n:Nat)(A:Ob):LeS P w0 M N F0 κ st (st.nilC b o n A):=by
 intro a w hr;unfold St.nilC;cases hc:(!st.d n&&(qgd A (st.c b o)&&A.empty)) with
 | false=>exact hr
 | true=>
  rw[z8,z8,zq] at hc;obtain⟨F,ρ,h,hF⟩:=hr;have h1:=qwQ h (n:=n) hc.1 hc.2.2;refine⟨F,ρ.set n (nilV A),⟨h1.fr,⟨h1.mem.dom,?_,h1.mem.arr,h1.mem.sep,h1.mem.own,h1.mem.fb,h1.mem.one,h1.mem.glob⟩,h1.lo,h1.regs,h1.sz,h1.df,h1.pin⟩,hF⟩
  intro b' ty' k hv;obtain⟨g,arr,q1,q2,q3,q4⟩:=h1.mem.var b' ty' k hv;refine⟨g,arr,q1,q2,q3,fun j x hj=>⟨?_,(q4 j x hj).2⟩⟩
  show Den P F w _ ((bif Nat.beq b' b&&Nat.beq j o then SV.own n else st.c b' j).res κ) _;cases hb:(Nat.beq b' b&&Nat.beq j o) with
  | true=>
   rw[z8] at hb;have e1:=zc hb.1;have e2:=zc hb.2;subst e1 e2;have h2:Den P F w _ ((st.c b' j).res κ) x:=(q4 j x hj).1;have h3:(st.c b' j).res κ=st.c b' j:=qz9 hc.2.1 κ;rw[h3] at h2;obtain⟨h4,_⟩:=qwP hc.2.1 h2;rw[h4];exact .own (by unfold Env.set; rw[if_pos rfl])
  | false=>exact(q4 j x hj).1
theorem LeS.weakO{κ:St}{b:Nat}{A A':Ob}(hA:st.a b=some A)(hA':∀F w u,ObOk F w A u->ObOk F w A' u):LeS P w0 M N F0 κ st (st.put (.a b (some A'))):=by
 intro a w hr;obtain⟨F,ρ,h,hF⟩:=hr;have ha:∀x,(κ.sub (st.put (.a b (some A')))).a x=if x=b then some A' else st.a x:=by
  intro x;show(bif Nat.beq x b then _ else st.a x)=_;by_cases e:x=b
  ·subst e; simp
  ·rw[bq e,if_neg e]; rfl
 have hp:∀x,(κ.sub (st.put (.a b (some A')))).present x->(κ.sub st).present x:=by
  rintro x (hx | hx)
  ·exact .inl hx
  ·rw[ha] at hx;by_cases e:x=b
   ·subst e;refine .inr ?_
    rw[show(κ.sub st).a x=st.a x from rfl,hA]; simp
   ·rw[if_neg e] at hx; exact .inr hx
 refine⟨F,ρ,⟨h.fr,⟨h.mem.dom,h.mem.var,fun x B hx=>?_,fun b1 b2 v1 v2 g p1 p2=>h.mem.sep b1 b2 v1 v2 g (hp _ p1) (hp _ p2),fun b1 v1 g p1=>h.mem.own b1 v1 g (hp _ p1),h.mem.fb,h.mem.one,h.mem.glob⟩,fun b1 v1 g p1=>h.lo b1 v1 g (hp _ p1),h.regs,h.sz,h.df,h.pin⟩,hF⟩
 rw[ha] at hx;by_cases e:x=b
 ·subst e;rw[if_pos rfl] at hx; injection hx with hx; subst hx
  obtain⟨u,q1,q2⟩:=h.mem.arr x _ (show(κ.sub st).a x=_ from hA)
  exact⟨u,q1,hA' F w u q2⟩
 ·rw[if_neg e] at hx;exact h.mem.arr x B hx
theorem LeS.weak{κ:St}(b:Nat):LeS P w0 M N F0 κ st (st.weak b):=by
 unfold St.weak;split
 ·rename_i hA;refine LeS.weakO hA fun F w u h=>?_
  rcases h with⟨h,_⟩ | h
  ·cases h
  ·exact .inr h
 ·rename_i hA;refine LeS.weakO hA fun F w u h=>?_
  obtain⟨it,mo,since,seen,last,e,h1,h2,_⟩:=h;exact⟨it,mo,since,seen,last,e,h1,h2,fun h=>by cases h⟩
 ·exact .refl
theorem LeS.weakA{κ:St}(π:Nat->Nat):∀(l:List (Nat×ObSh)) {st:St},LeS P w0 M N F0 κ st (weakA π l st)
 | [],_=>.refl
 | (b,.map false _ _ _)::r,st=>(LeS.weak (π b)).trans (LeS.weakA π r)
 | (b,.map true _ _ _)::r,st=>LeS.weakA π r
 | (b,.arr _ _)::r,st=>LeS.weakA π r
 | (b,.one _ _)::r,st=>LeS.weakA π r
 | (b,.iter true _ _)::r,st=>LeS.weakA π r
 | (b,.iter false _ _)::r,st=>(LeS.weak (π b)).trans (LeS.weakA π r)
theorem LeS.nilRegs{κ:St}(arrs:List (Nat×ObSh)):∀(l:List (Nat×Sh)) {st:St},LeS P w0 M N F0 κ st (nilRegs arrs l st)
 | [],_=>.refl
 | (t,s)::r,st=>by
  refine LeS.trans (st':=nilR1 arrs t s st) ?_ (LeS.nilRegs arrs r)
  unfold nilR1;split
  ·exact LeS.nilG1 _ _ _ _
  ·split
   ·cases qgd _ (st.r t) with
    | true=>exact LeS.nilR _ _ _
    | false=>exact .refl
   ·exact .refl
  ·exact .refl
theorem LeS.nilCells{κ:St}(arrs:List (Nat×ObSh))(b':Nat):∀(l:List Sh1) (o:Nat) {st:St},LeS P w0 M N F0 κ st (nilCells arrs b' o l st)
 | [],_,_=>.refl
 | s::r,o,st=>by
  refine LeS.trans (st':=nilC1 arrs b' o s st) ?_ (LeS.nilCells arrs b' r (o+1))
  unfold nilC1;split
  ·split
   ·cases qgd _ (st.c b' o) with
    | true=>exact LeS.nilC _ _ _ _
    | false=>exact .refl
   ·exact .refl
  ·exact .refl
theorem LeS.nilVars{κ:St}(arrs:List (Nat×ObSh))(π:Nat->Nat):∀(l:List (Nat×TypeId×List Sh1)) {st:St},LeS P w0 M N F0 κ st (nilVars arrs π l st)
 | [],_=>.refl
 | (b,ty,cs)::r,st=>(LeS.nilCells arrs (π b) cs 0).trans (LeS.nilVars arrs π r)
theorem qoK{pins:List Nat}{κ:St}{j:J}{st:St}{x:CT j.ct}(hpins:∀b v,M.pin b=some v->b∈pins)(h:j.packC pins κ st=some x){κ':St}{kr:Nat->SV}{kc:Nat->Nat->SV}(hkr:∀t,(kr t).res κ'=κ.r t)(hkc:∀b o,(kc b o).res κ'=κ.c b o)
  {a:Act} {w:World} (hr:Rel P w0 M N F0 (κ.sub st) a w):Rel P w0 M N F0 (κ'.sub (j.put kr kc x)) a w:=by
 unfold J.packC at h;simp only at h;generalize hst2:j.coerce st=st2 at h;have hle:LeS P w0 M N F0 κ st st2:=by
  rw[<-hst2];unfold J.coerce;exact(LeS.freezeL _).trans ((LeS.nilRegs _ _).trans ((LeS.nilVars _ _ _).trans (LeS.weakA _ _)))
 cases hok:qz8 pins κ j (j.ren st2) with
 | false=>rw[hok] at h; cases h
 | true=>
  rw[hok] at h; simp only[za] at h;unfold qz8 at hok;simp only[z8] at hok;obtain⟨⟨⟨k1,k2⟩,k3⟩,k4⟩:=hok;obtain⟨l,hl,hput⟩:=qxr h;obtain⟨F,ρ,hr2,hF⟩:=hle a w hr;refine⟨F,ρ.ren (j.ren st2) j.names,?_,hF⟩
  rw[hput];refine hr2.repack hl k1 k2 (fun b g hp=>?_) k3 hkr hkc
  have hb:=hpins b g hp;rw[zm] at k4;have:=k4 b hb;rw[z8] at this;exact⟨qaU.1 this.1,zc this.2⟩
end
/-! ### Code -/
inductive Ex where
 | n | x (id:Nat) | r
def Ex.to:Ex->Exit
 | .n=>.normal
 | .x id=>.exit id
 | .r=>.ret
def Ex.eqb:Ex->Ex->Bool
 | .n,.n=>true
 | .x i,.x j=>Nat.beq i j
 | .r,.r=>true
 | _,_=>false
theorem Ex.eqb_eq{e e':Ex}(h:e.eqb e'=true):e=e':=by
 cases e <;> cases e' <;> first | rfl | (simp only[Ex.eqb] at h; rw[zc h]) | cases h
structure Alt where
 e:Ex
 j:J
inductive Wrap where
 | fz (ts:List Nat)
 | fv (ts:List (Nat×Ty))
 | join (alts:List Alt)
inductive Plan where
 | nil
 | mk (ws:List Wrap) (lp:Option (J×List Alt)) (l r:Plan)
def Plan.ws:Plan->List Wrap
 | .nil=>[]
 | .mk ws _ _ _=>ws
def Plan.lp:Plan->Option (J×List Alt)
 | .nil=>none
 | .mk _ lp _ _=>lp
def Plan.l:Plan->Plan
 | .nil=>.nil
 | .mk _ _ l _=>l
def Plan.r:Plan->Plan
 | .nil=>.nil
 | .mk _ _ _ r=>r
def AT:List Alt->Type
 | []=>Empty
 | [a]=>CT a.j.ct
 | a::b::r=>CT a.j.ct⊕AT (b::r)
def qkd(pins:List Nat)(κ:St):(l:List Alt)->Ex->St->Option (AT l)
 | [],_,_=>none
 | [a],e,st=>bif a.e.eqb e then a.j.packC pins κ st else none
 | a::b::r,e,st=>bif a.e.eqb e then(match a.j.packC pins κ st with
   | some x=>some (.inl x)
   | none=>none) else(match qkd pins κ (b::r) e st with
   | some x=>some (.inr x)
   | none=>none)
def qoL{A:Type}(st:St):(l:List Alt)->AT l->(Ex->St->Option A)->Option A
 | [],x,_=>nomatch x
 | [a],x,k=>k a.e (a.j.put st.r st.c x)
 | a::b::r,x,k=>match x with
  | .inl y=>k a.e (a.j.put st.r st.c y)
  | .inr y=>qoL st (b::r) y k
def keptR:List (Nat×Sh)->Nat->Bool
 | [],_=>false
 | (t',.one .keep)::r,t=>Nat.beq t t' || keptR r t
 | _::r,t=>keptR r t
def keptL:Nat->List Sh1->Nat->Bool
 | _,[],_=>false
 | o',.keep::r,o=>Nat.beq o o' || keptL (o'+1) r o
 | o',_::r,o=>keptL (o'+1) r o
def keptV:List (Nat×TypeId×List Sh1)->Nat->Nat->Bool
 | [],_,_=>false
 | (b',_,l)::r,b,o=>(Nat.beq b b'&&keptL 0 l o) || keptV r b o
def hide(js:List J)(s:St):St:={ s with r:=fun t=>bif js.any (fun j=>keptR j.regs t) then .kr t else s.r t,c:=fun b o=>bif js.any (fun j=>keptV j.vars b o) then .kc b o else s.c b o }
inductive Iter {σ ε:Type} (step:σ->Option (σ⊕ε)):σ->ε->Prop where
 | done {x:σ} {e:ε}:step x=some (.inr e)->Iter step x e
 | next {x y:σ} {e:ε}:step x=some (.inl y)->Iter step y e->Iter step x e
noncomputable def iterR{σ ε:Type}(n:Nat)(step:σ->Option (σ⊕ε))(x:σ):Option ε:=
 Nat.rec (motive:=fun _=>σ->Option ε) (fun _=>none) (fun _ ih x=>match step x with
  | some (.inl y)=>ih y
  | some (.inr e)=>some e
  | none=>none) n x
theorem qt8{σ ε:Type}{step:σ->Option (σ⊕ε)}:∀ {n:Nat} {x:σ} {e:ε},iterR n step x=some e->Iter step x e
 | 0,x,e,h=>by cases h
 | n+1,x,e,h=>by
  have h:(match step x with
   | some (.inl y)=>iterR n step y
   | some (.inr e)=>some e
   | none=>none)=some e:=h
  split at h
  ·rename_i y hy; exact .next hy (qt8 h)
  ·rename_i e' he; injection h with h; subst h; exact .done he
  ·cases h
open Classical in
noncomputable def iter{σ ε:Type}(step:σ->Option (σ⊕ε))(x:σ):Option ε:=match iterR 18446744073709551616 step x with
 | some e=>some e
 | none=>if h:∃e,Iter step x e then some h.choose else none
theorem qrN{σ ε:Type}{step:σ->Option (σ⊕ε)}{x:σ}{e:ε}(h:iter step x=some e):Iter step x e:=by
 unfold iter at h;split at h
 ·rename_i e' he; injection h with h; subst h; exact qt8 he
 ·split at h
  ·rename_i h1;injection h with h; subst h; exact h1.choose_spec
  ·cases h
theorem Iter.det{σ ε:Type}{step:σ->Option (σ⊕ε)}{x:σ}{e e':ε}(h:Iter step x e)(h':Iter step x e'):e=e':=by
 induction h with
 | done h1=>
  cases h' with
  | done h2=>rw[h1] at h2; injection h2 with h2; injection h2
  | next h2 _=>rw[h1] at h2; injection h2 with h2; cases h2
 | next h1 _ ih=>
  cases h' with
  | done h2=>rw[h1] at h2; injection h2 with h2; cases h2
  | next h2 h3=>rw[h1] at h2; injection h2 with h2; injection h2 with h2; subst h2; exact ih h3
theorem qwR{σ ε:Type}{step:σ->Option (σ⊕ε)}{x:σ}{e:ε}(h:Iter step x e):iter step x=some e:=by
 have hx:∃e,Iter step x e:=⟨e,h⟩;unfold iter;split
 ·rename_i e' he; rw[(qt8 he).det h]
 ·rw[dif_pos hx,hx.choose_spec.det h]
theorem qbp{σ ε:Type}{step:σ->Option (σ⊕ε)}{x y:σ}(h:step x=some (.inl y)):iter step x=iter step y:=by
 cases hy:iter step y with
 | some e=>exact qwR (.next h (qrN hy))
 | none=>
  cases hx:iter step x with
  | none=>rfl
  | some e=>
   cases qrN hx with
   | done h1=>rw[h] at h1; injection h1 with h1; cases h1
   | next h1 h2=>rw[h] at h1; injection h1 with h1; injection h1 with h1; subst h1; rw[qwR h2] at hy; cases hy
theorem qaV{σ ε:Type}{step:σ->Option (σ⊕ε)}{x:σ}{e:ε}(h:step x=some (.inr e)):iter step x=some e:=qwR (.done h)
abbrev Ev:=(A:Type)->St->St->(Ex->St->Option A)->Option A
def qAb(pins:List Nat)(alts:List Alt)(body:Ev):Ev:=fun _ κ st k=>
 (body (AT alts) (κ.sub st) (hide (alts.map (·.j)) (κ.sub st)) (fun e su=>qkd pins (κ.sub st) alts e su)).bind fun ans=>qoL st alts ans k
def fzEv(ts:List Nat)(body:Ev):Ev:=fun A κ st k=>body A κ (st.freezeL (ts.flatMap (qxH st))) k
def fvEv(ts:List (Nat×Ty))(body:Ev):Ev:=fun A κ st k=>body A κ (St.freezeVs κ ts st) k
def qgS(pins:List Nat):List Wrap->Ev->Ev
 | [],body=>body
 | .fz ts::r,body=>fzEv ts (qgS pins r body)
 | .fv ts::r,body=>fvEv ts (qgS pins r body)
 | .join alts::r,body=>qAb pins alts (qgS pins r body)
def loopK(pins:List Nat)(κ1:St)(j:J)(alts:List Alt):Ex->St->Option (CT j.ct⊕AT alts)
 | .n,su=>match j.packC pins κ1 su with
  | some x=>some (.inl x)
  | none=>none
 | e,su=>match qkd pins κ1 alts e su with
  | some x=>some (.inr x)
  | none=>none
noncomputable def qvD(pins:List Nat)(j:J)(alts:List Alt)(body:Ev):Ev:=fun _ κ st k=>
 match j.packC pins (κ.sub st) (hide [j] (κ.sub st)) with
 | none=>none
 | some x0=>(iter (fun x=>body (CT j.ct⊕AT alts) (κ.sub st) (j.put .kr .kc x) (loopK pins (κ.sub st) j alts)) x0).bind fun ans=>qoL st alts ans k
def seqK{A:Type}(k2:St->Option A)(k:Ex->St->Option A):Ex->St->Option A
 | .n,su=>k2 su
 | e,su=>k e su
def qCZ{A:Type}(id:Nat)(k:Ex->St->Option A):Ex->St->Option A
 | .x id',su=>bif Nat.beq id' id then k .n su else k (.x id') su
 | e,su=>k e su
open Classical in
noncomputable def bothO{A:Type}(a b:Option A):Option A:=if a=b then a else none
theorem qyK{A:Type}{a b:Option A}{v:A}(h:bothO a b=some v):a=some v/\b=some v:=by
 unfold bothO at h;split at h
 ·rename_i e; subst e; exact⟨h,h⟩
 ·cases h
noncomputable def ev(C:Cx)(pins:List Nat):Code->Plan->Ev
 | .skip,p=>qgS pins p.ws fun _ _ st k=>k .n st
 | .label _,p=>qgS pins p.ws fun _ _ st k=>k .n st
 | .ret,p=>qgS pins p.ws fun _ _ st k=>k .r st
 | .exit id,p=>qgS pins p.ws fun _ _ st k=>k (.x id) st
 | .region _ ⟨ops⟩ draw,p=>qgS pins p.ws fun _ κ st k=>evOps C draw ops ops [] st (κ.sub st) (k .n)
 | .seq a b,p=>qgS pins p.ws fun A κ st k=>ev C pins a p.l A κ st (seqK (fun su=>ev C pins b p.r A κ su k) k)
 | .cond c a b,p=>qgS pins p.ws fun A κ st k=>match(κ.sub st).ev c with
  | .nilq n=>bif Nat.beq n 0 then bothO (ev C pins a p.l A κ st k) (ev C pins b p.r A κ st k) else ev C pins b p.r A κ st k
  | s=>match s.bool? with
   | some t=>bif t then ev C pins a p.l A κ st k else ev C pins b p.r A κ st k
   | none=>none
 | .block id b,p=>qgS pins p.ws fun A κ st k=>ev C pins b p.l A κ st (qCZ id k)
 | .scope b,p=>qgS pins p.ws fun A κ st k=>ev C pins b p.l A κ st k
 | .loop (.seq x y),p=>qgS pins p.ws (match p.lp with
  | some (j,alts)=>qvD pins j alts (qgS pins p.l.ws fun A κ st k=>ev C pins x p.l.l A κ st (seqK (fun su=>ev C pins y p.l.r A κ su k) k))
  | none=>fun _ _ _ _=>none)
 | .loop b,p=>qgS pins p.ws (match p.lp with
  | some (j,alts)=>qvD pins j alts (ev C pins b p.l)
  | none=>fun _ _ _ _=>none)
 | _,_=>fun _ _ _ _=>none
end Go.Sq
