/- The second engine, part O: a state is written out anew; arrays that are only read from now on; nil slices that become arrays. No condition. -/
import Derived.Test.YtmdijohmddokhaaGreatDoorSqN
namespace Go.Sq
open Go Go.RowKit
def keepR(κ:St):List (Nat×Sh)->Bool
 | []=>true
 | (t,.one .keep)::r=>qh2 (κ.r t)&&keepR κ r
 | _::r=>keepR κ r
def keepC(κ:St)(b:Nat):Nat->List Sh1->Bool
 | _,[]=>true
 | o,.keep::r=>qh2 (κ.c b o)&&keepC κ b (o+1) r
 | o,_::r=>keepC κ b (o+1) r
def keepV(κ:St):List (Nat×TypeId×List Sh1)->Bool
 | []=>true
 | (b,_,l)::r=>keepC κ b 0 l&&keepV κ r
def J.keepOk(j:J)(κ:St):Bool:=keepR κ j.regs&&keepV κ j.vars
def PinOk(M:Mod)(π:Nat->Nat)(names:List Nat):Prop:=∀b g,M.pin b=some g->b∈names/\π b=b
section
variable {P:Program} {w0:World} {M:Mod} {N:Nat} {F0:Nat->Prop}
variable {F:Nat->Prop} {w:World} {ρ:Env} {π:Nat->Nat} {names:List Nat} {st:St} {a:Act}
theorem qyF{κ κ':St}{k k' s:SV}{h:Sh}{cs rest:List SV}{u:Value}(ht:qzW π k s h=some cs)(hn:h.namesOk names=true)(hd:Den P F w ρ (s.res κ) u)
  (hk:h=.one .keep->s=k->Den P F w (ρ.ren π names) (k'.res κ') u):Den P F w (ρ.ren π names) ((putSh k' (cs++rest) h).1.res κ') u/\(putSh k' (cs++rest) h).2=rest:=by
 cases h with
 | one h1=>exact qrF ht hn hd (fun e=>hk (by rw[e]))
 | agg l=>
  simp only[qzW] at ht;split at ht
  ·rename_i ss;have hd':Den P F w ρ (.agg ss) u:=hd;cases hd' with
   | agg hl hi h1=>
    obtain⟨a1,a2,a3⟩:=qvw (names:=names) (rest:=rest) ht hn hl hi;exact⟨.agg a1 a2 h1,a3⟩
  ·cases ht
theorem qqo{κ κ':St}{kr:Nat->SV}{f:Nat->Value}(hkr:∀t,(kr t).res κ'=κ.r t)(hf:∀t,Den P F w ρ ((st.r t).res κ) (f t)):∀ {regs:List (Nat×Sh)} {cs:List SV},qiN π st regs=some cs->regs.all (fun p=>p.2.namesOk names)=true->
  keepR κ regs=true->∀rest,(qka kr regs (cs++rest)).2=rest/\∀t,Den P F w (ρ.ren π names) ((lookR (qka kr regs (cs++rest)).1 t).res κ') (f t)
 | [],cs,h,_,_,rest=>by
  simp only[qiN] at h; injection h with h; subst h
  exact⟨rfl,fun t=>.any _⟩
 | (t0,s)::regs,cs,h,hn,hkp,rest=>by
  simp only[qiN] at h;split at h
  ·rename_i x hx;split at h
   ·rename_i y hy;injection h with h; subst h
    simp only[z11,z8] at hn;have hkp':keepR κ regs=true/\(s=.one .keep->qh2 (κ.r t0)=true):=by
     unfold keepR at hkp;split at hkp
     ·rename_i e; cases e
     ·rename_i e;injection e with e1 e2; injection e1 with e1 e3; subst e1 e2 e3
      rw[z8] at hkp; exact⟨hkp.2,fun _=>hkp.1⟩
     ·rename_i hno e;injection e with e1 e2; subst e1 e2
      exact⟨hkp,fun e=>(hno t0 (by rw[e])).elim⟩
    obtain⟨a1,a2⟩:=qyF (κ:=κ) (κ':=κ') (k':=kr t0) (rest:=y++rest) hx hn.1 (hf t0) (fun e1 e2=>by
     have:=hf t0;rw[e2] at this;rw[hkr t0];exact Den.closed this (hkp'.2 e1))
    obtain⟨b1,b2⟩:=qqo hkr hf hy hn.2 hkp'.1 rest;rw[zu];simp only[qka];rw[a2];refine⟨b1,fun t=>?_⟩
    show Den P F w _ (SV.res κ' (bif Nat.beq t t0 then _ else lookR _ t)) (f t);cases hb:Nat.beq t t0 with
    | true=>have:=zc hb; subst this; exact a1
    | false=>exact b2 t
   ·cases h
  ·cases h
theorem qoD{κ κ':St}{kc:Nat->Nat->SV}{b b':Nat}(hkc:∀o,(kc b o).res κ'=κ.c b o):∀ {l:List Sh1} {o:Nat} {cs:List SV},qgP π st b b' o l=some cs->l.all (Sh1.namesOk names)=true->keepC κ b o l=true->∀rest,
  (qd9 kc b o l (cs++rest)).2=rest/\(qd9 kc b o l (cs++rest)).1.length=l.length/\∀j u,j<l.length->Den P F w ρ ((st.c b' (o+j)).res κ) u->Den P F w (ρ.ren π names) ((nthS (qd9 kc b o l (cs++rest)).1 j).res κ') u
 | [],o,cs,h,_,_,rest=>by
  simp only[qgP] at h; injection h with h; subst h
  exact⟨rfl,rfl,fun j u hj=>by simp at hj⟩
 | s::l,o,cs,h,hn,hkp,rest=>by
  simp only[qgP] at h;split at h
  ·rename_i x hx;split at h
   ·rename_i y hy;injection h with h; subst h
    simp only[z11,z8] at hn;have hkp':keepC κ b (o+1) l=true/\(s=.keep->qh2 (κ.c b o)=true):=by
     cases s <;> simp only[keepC,z8] at hkp <;> first | exact⟨hkp.2,fun _=>hkp.1⟩ | exact⟨hkp,fun e=>by cases e⟩
    obtain⟨b1,b2,b3⟩:=qoD (kc:=kc) (κ':=κ') hkc hy hn.2 hkp'.1 rest;have key:∀u,Den P F w ρ ((st.c b' o).res κ) u->Den P F w (ρ.ren π names) ((put1 (kc b o) (x++(y++rest)) s).1.res κ') u:=fun u hu=>
     (qrF (κ:=κ) (κ':=κ') (k':=kc b o) (rest:=y++rest) hx hn.1 hu (fun e1 e2=>by
      rw[e2] at hu;rw[hkc o];exact Den.closed hu (hkp'.2 e1))).1
    have hrest:(put1 (kc b o) (x++(y++rest)) s).2=y++rest:=put1_rest hx;rw[zu];simp only[qd9];rw[hrest];refine⟨b1,by simp[b2],fun j u hj hu=>?_⟩
    cases j with
    | zero=>exact key u hu
    | succ j=>exact b3 j u (by simpa using hj) (by rw[show o+1+j=o+(j+1) by omega]; exact hu)
   ·cases h
  ·cases h
where
 put1_rest {π:Nat->Nat} {k k' s:SV} {h:Sh1} {cs rest:List SV} (ht:take1 π k s h=some cs):(put1 k' (cs++rest) h).2=rest:=by
  cases h with
  | data τ=>
   simp only[take1] at ht;split at ht
   ·injection ht with ht; subst ht; rfl
   ·cases ht
  | fn ps r=>
   simp only[take1] at ht;split at ht
   ·injection ht with ht; subst ht; rfl
   ·cases ht
  | keep=>
   simp only[take1] at ht;split at ht
   ·rename_i t t';cases hb:Nat.beq t t' with
    | false=>rw[hb] at ht; cases ht
    | true=>rw[hb] at ht; injection ht with ht; subst ht; rfl
   ·rename_i b o b' o';cases hb:(Nat.beq b b'&&Nat.beq o o') with
    | false=>rw[hb] at ht; cases ht
    | true=>rw[hb] at ht; injection ht with ht; subst ht; rfl
   ·cases ht
  | ptr b o=>
   simp only[take1] at ht;split at ht
   ·rename_i b' o';cases hb:(Nat.beq b' (π b)&&Nat.beq o o') with
    | false=>rw[hb] at ht; cases ht
    | true=>rw[hb] at ht; injection ht with ht; subst ht; rfl
   ·cases ht
  | own b=>
   simp only[take1] at ht;split at ht
   ·rename_i b';cases hb:Nat.beq b' (π b) with
    | false=>rw[hb] at ht; cases ht
    | true=>rw[hb] at ht; injection ht with ht; subst ht; rfl
   ·cases ht
  | any=>simp only[take1] at ht; injection ht with ht; subst ht; rfl
  | fmap=>simp only[take1] at ht; cases ht
  | clp f b o=>
   simp only[take1] at ht;split at ht
   ·rename_i f' b' o';cases hb:(Nat.beq f f'&&(Nat.beq b' (π b)&&Nat.beq o o')) with
    | false=>rw[hb] at ht; cases ht
    | true=>rw[hb] at ht; injection ht with ht; subst ht; rfl
   ·cases ht
  | nptr b o=>
   simp only[take1] at ht;split at ht
   ·rename_i b' o';cases hb:(Nat.beq b' (π b)&&Nat.beq o o') with
    | false=>rw[hb] at ht; cases ht
    | true=>rw[hb] at ht; injection ht with ht; subst ht; rfl
   ·rename_i b' o';cases hb:(Nat.beq b' (π b)&&Nat.beq o o') with
    | false=>rw[hb] at ht; cases ht
    | true=>rw[hb] at ht; injection ht with ht; subst ht; rfl
   ·injection ht with ht; subst ht; rfl
   ·cases ht
  | nil=>
   simp only[take1] at ht;split at ht
   ·injection ht with ht; subst ht; rfl
   ·cases ht
  | ael b k=>
   simp only[take1] at ht;split at ht
   ·rename_i b' k';cases hb:(Nat.beq b' (π b)&&Nat.beq k k') with
    | false=>rw[hb] at ht; cases ht
    | true=>rw[hb] at ht; injection ht with ht; subst ht; rfl
   ·cases ht
  | sel τ=>
   simp only[take1] at ht;split at ht
   ·rename_i τ' y o;cases hb:Nat.beq o 0 with
    | false=>rw[hb] at ht; cases ht
    | true=>
     rw[hb] at ht; simp only[za] at ht;split at ht
     ·injection ht with ht; subst ht; rfl
     ·cases ht
   ·cases ht
theorem qqp{κ κ':St}{kc:Nat->Nat->SV}(hkc:∀b o,(kc b o).res κ'=κ.c b o):∀ {vars:List (Nat×TypeId×List Sh1)} {cs:List SV},qgs π st vars=some cs->vars.all (fun p=>p.2.2.all (Sh1.namesOk names))=true->keepV κ vars=true->∀rest,
  (qfd kc vars (cs++rest)).2=rest/\∀b ty k,lookV (qfd kc vars (cs++rest)).1 b=some (ty,k)->b∈vars.map (·.1)/\st.v (π b)=some (ty,k)∧
   ∀j u,j<k->Den P F w ρ ((st.c (π b) j).res κ) u->Den P F w (ρ.ren π names) ((lookC (qfd kc vars (cs++rest)).1 b j).res κ') u
 | [],cs,h,_,_,rest=>by
  simp only[qgs] at h; injection h with h; subst h
  exact⟨rfl,fun b ty k h=>by cases h⟩
 | (b0,ty0,l)::vars,cs,h,hn,hkp,rest=>by
  simp only[qgs] at h;split at h
  ·rename_i ty' k0 hv;cases hb:(Nat.beq ty' ty0&&Nat.beq k0 l.length) with
   | false=>rw[hb] at h; cases h
   | true=>
    rw[hb] at h; simp only[za] at h;rw[z8] at hb;have e1:=zc hb.1;have e2:=zc hb.2;subst e1 e2;split at h
    ·rename_i x hx;split at h
     ·rename_i y hy;injection h with h; subst h
      simp only[z11,z8] at hn;simp only[keepV,z8] at hkp;obtain⟨a1,a2,a3⟩:=qoD (P:=P) (F:=F) (w:=w) (ρ:=ρ) (κ':=κ') (hkc b0) hx hn.1 hkp.1 (y++rest);obtain⟨b1,b2⟩:=qqp (κ':=κ') hkc hy hn.2 hkp.2 rest;rw[zu];simp only[qfd];rw[a1];refine⟨b1,fun b ty k hlk=>?_⟩
      have hlk':(bif Nat.beq b b0 then some (ty',(qd9 kc b0 0 l (x++(y++rest))).1.length) else lookV (qfd kc vars (y++rest)).1 b)=some (ty,k):=hlk;have hcl:∀j,lookC ((b0,ty',(qd9 kc b0 0 l (x++(y++rest))).1)::(qfd kc vars (y++rest)).1) b j=bif Nat.beq b b0 then nthS (qd9 kc b0 0 l (x++(y++rest))).1 j else lookC (qfd kc vars (y++rest)).1 b j:=fun _=>rfl
      cases hbb:Nat.beq b b0 with
      | true=>
       have:=zc hbb; subst this;rw[hbb] at hlk'; injection hlk' with hlk'; injection hlk' with q1 q2; subst q1 q2
       refine⟨by simp,by rw[a2]; exact hv,fun j u hj hu=>?_⟩
       rw[hcl,hbb];exact a3 j u (by rw[<-a2]; exact hj) (by rw[zY]; exact hu)
      | false=>
       rw[hbb] at hlk';obtain⟨c1,c2,c3⟩:=b2 b ty k hlk';refine⟨by simp[c1],c2,fun j u hj hu=>?_⟩
       rw[hcl,hbb]; exact c3 j u hj hu
     ·cases h
    ·cases h
  ·cases h
theorem Ob.take_put{A:Ob}{s:ObSh}{x:SV}(h:A.take s=some x):s.put x=some A:=by
 cases A with
 | arr ty e l=>
  cases s with
  | arr ty' e'=>
   simp only[Ob.take] at h;cases hb:(Nat.beq ty ty'&&decide (e=e')) with
   | false=>rw[hb] at h; cases h
   | true=>
    rw[hb] at h; injection h with h; subst h
    rw[z8] at hb;have e1:=zc hb.1;have e2:=zi hb.2;subst e1 e2;simp only[ObSh.put,SV.asCt,dite_true]
  | one ty' e'=>
   cases l with
   | nil=>cases h
   | cons x0 l=>
    cases l with
    | cons _ _=>cases h
    | nil=>
     simp only[Ob.take] at h;cases hb:(Nat.beq ty ty'&&decide (e=e')) with
     | false=>rw[hb] at h; cases h
     | true=>
      rw[hb] at h; injection h with h; subst h
      rw[z8] at hb;have e1:=zc hb.1;have e2:=zi hb.2;subst e1 e2;simp only[ObSh.put,SV.asCt,dite_true]
  | map=>cases h
  | iter=>cases h
 | map nn ty k v l=>
  cases s with
  | arr=>cases h
  | one=>cases h
  | iter=>cases h
  | map nn' ty' k' v'=>
   simp only[Ob.take] at h;cases hb:((nn==nn')&&Nat.beq ty ty'&&decide (k=k')&&decide (v=v')) with
   | false=>rw[hb] at h; cases h
   | true=>
    rw[hb] at h; injection h with h; subst h
    rw[z8,z8,z8] at hb;have e0:=eq_of_beq hb.1.1.1;have e1:=zc hb.1.1.2;have e2:=zi hb.1.2;have e3:=zi hb.2;subst e0 e1 e2 e3;simp only[ObSh.put,SV.asCt,dite_true]
 | iter on k v l=>
  cases s with
  | arr=>cases h
  | one=>cases h
  | map=>cases h
  | iter on' k' v'=>
   simp only[Ob.take] at h;cases hb:((on==on')&&decide (k=k')&&decide (v=v')) with
   | false=>rw[hb] at h; cases h
   | true=>
    rw[hb] at h; injection h with h; subst h
    rw[z8,z8] at hb;have e1:=eq_of_beq hb.1.1;have e2:=zi hb.1.2;have e3:=zi hb.2;subst e1 e2 e3;simp only[ObSh.put,SV.asCt,dite_true]
theorem qoE:∀ {arrs:List (Nat×ObSh)} {cs:List SV},qgt π st arrs=some cs->∀rest b A,lookA (qkb arrs (cs++rest)) b=some A->b∈arrs.map (·.1)/\st.a (π b)=some A
 | [],cs,h,rest,b,A,hl=>by
  simp only[qgt] at h; injection h with h; subst h
  cases rest <;> cases hl
 | (b0,s)::arrs,cs,h,rest,b,A,hl=>by
  simp only[qgt] at h;split at h
  ·rename_i A0 hA;split at h
   ·rename_i x hx;split at h
    ·rename_i y hy;injection h with h; subst h
     have hl':(bif Nat.beq b b0 then s.put x else lookA (qkb arrs (y++rest)) b)=some A:=hl;cases hb:Nat.beq b b0 with
     | true=>
      have:=zc hb; subst this;rw[hb] at hl'; simp only[za] at hl';rw[Ob.take_put hx] at hl'; injection hl' with hl'; subst hl'
      exact⟨by simp,hA⟩
     | false=>
      rw[hb] at hl';obtain⟨c1,c2⟩:=qoE hy rest b A hl';exact⟨by simp[c1],c2⟩
    ·cases h
   ·cases h
  ·cases h
theorem Rel'.repack{κ κ':St}{j:J}{kr:Nat->SV}{kc:Nat->Nat->SV}{l:List SV}(h:Rel' P w0 M N F ρ (κ.sub st) a w)(ht:j.take π st=some l)(hok:j.ok=true)(hdup:noDup (j.names.map π)=true)(hpin:PinOk M π j.names)
  (hkp:j.keepOk κ=true) (hkr:∀t,(kr t).res κ'=κ.r t) (hkc:∀b o,(kc b o).res κ'=κ.c b o):Rel' P w0 M N F (ρ.ren π j.names) (κ'.sub (j.putL kr kc l)) a w:=by
 unfold J.take at ht;split at ht
 ·rename_i x y z hx hy hz;injection ht with ht; subst ht
  unfold J.ok at hok;simp only[z8] at hok;unfold J.keepOk at hkp;rw[z8] at hkp;obtain⟨r1,r2⟩:=qqo (κ:=κ) (κ':=κ') (kr:=kr) (names:=j.names) hkr (fun t=>h.regs t) hx hok.1.1 hkp.1 (y++z)
  obtain⟨v1,v2⟩:=qqp (P:=P) (F:=F) (w:=w) (ρ:=ρ) (κ:=κ) (κ':=κ') (kc:=kc) (names:=j.names) hkc hy hok.1.2 hkp.2 z;have hst:κ'.sub (j.putL kr kc (x++(y++z)))=κ'.sub (mkSt j.names (qka kr j.regs (x++(y++z))).1 (qfd kc j.vars (y++z)).1 (qkb j.arrs z)):=by
   unfold J.putL;simp only[r1,v1]
  rw[hst];have ha:∀b A,lookA (qkb j.arrs z) b=some A->b∈j.arrs.map (·.1)/\st.a (π b)=some A:=fun b A hl=>qoE hz [] b A (by rw[zM]; exact hl)
  have hpres:∀b,(κ'.sub (mkSt j.names (qka kr j.regs (x++(y++z))).1 (qfd kc j.vars (y++z)).1 (qkb j.arrs z))).present b->b∈j.names/\(κ.sub st).present (π b):=by
   rintro b (hp | hp)
   ·obtain⟨q,hq⟩:=zs1.1 hp;obtain⟨a1,a2,_⟩:=v2 b q.1 q.2 hq;exact⟨zD.2 (.inl a1),.inl (by show st.v (π b)≠none; rw[a2]; simp)⟩
   ·obtain⟨A,hA⟩:=zs1.1 hp;obtain⟨a1,a2⟩:=ha b A hA;exact⟨zD.2 (.inr a1),.inr (by show st.a (π b)≠none; rw[a2]; simp)⟩
  have hren:∀b,b∈j.names->(ρ.ren π j.names) b=ρ (π b):=fun b hb=>by unfold Env.ren; rw[if_pos hb]
  refine⟨h.fr,⟨?_,?_,?_,?_,?_,h.mem.fb,?_,h.mem.glob⟩,?_,r2,h.sz,h.df,fun b g hp=>?_⟩
  ·intro b hb;have:b∉j.names:=fun hm=>by have h2:memN j.names b=true:=qaU.2 hm; rw[show memN j.names b=false from hb] at h2; cases h2
   unfold Env.ren; rw[if_neg this]
  ·intro b ty k hvb;obtain⟨a1,a2,a3⟩:=v2 b ty k hvb;obtain⟨g,arr,b1,b2,b3,b4⟩:=h.mem.var (π b) ty k a2;refine⟨g,arr,by rw[hren b (zD.2 (.inl a1))]; exact b1,b2,b3,fun q u hq=>⟨?_,(b4 q u hq).2⟩⟩
   exact a3 q u (by rw[<-b3]; exact(zT.1 hq).1) (b4 q u hq).1
  ·intro b A hA;obtain⟨a1,a2⟩:=ha b A hA;obtain⟨u,b1,b2⟩:=h.mem.arr (π b) A a2;exact⟨u,by rw[hren b (zD.2 (.inr a1))]; exact b1,b2⟩
  ·intro b b' v v' g hp hp' hv1 hv2 hg hg';obtain⟨m1,q1⟩:=hpres b hp;obtain⟨m2,q2⟩:=hpres b' hp';rw[hren b m1] at hv1;rw[hren b' m2] at hv2;exact qvv hdup b b' m1 m2 (h.mem.sep _ _ v v' g q1 q2 hv1 hv2 hg hg')
  ·intro b v g hp hv1 hg;obtain⟨m1,q1⟩:=hpres b hp;rw[hren b m1] at hv1;exact h.mem.own _ v g q1 hv1 hg
  ·intro b v hv1;unfold Env.ren at hv1;split at hv1
   ·exact h.mem.one _ v hv1
   ·cases hv1
  ·intro b v g hp hv1 hg;obtain⟨m1,q1⟩:=hpres b hp;rw[hren b m1] at hv1;exact h.lo _ v g q1 hv1 hg
  ·obtain⟨q1,q2⟩:=hpin b g hp;rw[hren b q1,q2]; exact h.pin b g hp
 ·cases ht
/-! ### An array that is only read from now on -/
def SV.fz(b:Nat)(τ:Ty)(l:τ.den):SV->SV
 | .own b'=>bif Nat.beq b' b then .v τ l else .own b'
 | .agg cs=>.agg (cs.map fun s=>match s with
  | .own b'=>bif Nat.beq b' b then .v τ l else .own b'
  | s=>s)
 | s=>s
def St.freezeT(st:St)(b:Nat)(τ:Ty)(l:τ.den):St:={ st with r:=fun t=>(st.r t).fz b τ l,c:=fun b' o=>(st.c b' o).fz b τ l,a:=fun x=>bif Nat.beq x b then none else st.a x }
def St.freeze(st:St)(b:Nat):St:=
 match st.a b with
 | some (.arr _ e l)=>st.freezeT b (.sl e) l
 | some (.map _ _ k v l)=>st.freezeT b (.map k v) l
 | _=>st
inductive Ob.Is:Ob->(τ:Ty)->τ.den->Prop
 | arr {ty e l}:Ob.Is (.arr ty e l) (.sl e) l
 | map {nn ty k v l}:Ob.Is (.map nn ty k v l) (.map k v) l
theorem qCU{b:Nat}{ty:TypeId}{e:Ty}{l:List e.den}{u:Value}(h:MemOk P F w ρ st)(hA:st.a b=some (.arr ty e l))(hρ:ρ b=some u):RdV (fun g=>F g\/blkOf u=some g) w (.sl e) l u:=by
 rcases qq1 h hA hρ with⟨c,rfl,rfl⟩ | ⟨ad,c,news,rfl,h2,h3,h4⟩
 ·exact⟨[.slice none 0 c],⟨none,c,rfl,rfl⟩,rfl⟩
 ·obtain⟨u',a1,xs,a2,a3⟩:=h.arr b _ hA;rw[hρ] at a1; injection a1 with a1; subst a1
  rcases a2.2 with⟨ad',a2,hl0⟩ | ⟨g,cap,cur,a2,_,a4,a5,_⟩
  ·have hn0:=za1 hl0;subst hn0;injection a2 with e1 e2 e3; subst e3
   exact⟨[.slice (some ad) 0 0],⟨some ad,0,rfl,fun h=>by omega,z61 _,zu1 _,fun i x hx=>by simp at hx⟩,rfl⟩
  ·injection a2 with e1 e2 e3; injection e1 with e1; subst e1 e3
   have up:∀ {τ:Ty} {x:τ.den} {cs:List Value},RdC F w τ x cs->RdC (fun g'=>F g'\/blkOf (.slice (some ⟨g,0,none⟩) l.length (cap+1))=some g') w τ x cs:=fun hh=>hh.mono (fun _ h=>.inl h) (fun _ _=>rfl)
   refine⟨[.slice (some ⟨g,0,none⟩) l.length (cap+1)],⟨some ⟨g,0,none⟩,cap+1,rfl,fun _=>.inr rfl,a4,a5,fun i x hx=>⟨_,up (h4 i x hx),fun j v hj=>?_⟩⟩,rfl⟩
   rw[zp] at hj;split at hj
   ·rw[zB] at hj; exact(h3 _ _ hj).1
   ·cases hj
theorem qEy{b:Nat}{nn:Bool}{ty:TypeId}{k v:Ty}{l:List (k.den×v.den)}{u:Value}(h:MemOk P F w ρ st)(hA:st.a b=some (.map nn ty k v l))(hρ:ρ b=some u):RdV (fun g=>F g\/blkOf u=some g) w (.map k v) l u:=by
 obtain⟨u',a1,a2⟩:=h.arr b _ hA;rw[hρ] at a1; injection a1 with a1; subst a1
 rcases a2 with⟨_,rfl,rfl⟩ | ⟨r,es,clock,rfl,h2,h3,Z,h4,h5,h6⟩
 ·exact⟨[.map none],.inl ⟨rfl,rfl⟩,rfl⟩
 ·refine⟨[.map (some r)],.inr ⟨r,es,clock,rfl,.inr rfl,h2,h3,Z,h4,h5.1,fun z hz=>?_⟩,rfl⟩
  obtain⟨⟨c1,p1,p2⟩,⟨c2,q1,q2⟩⟩:=h6 z hz;exact⟨⟨c1,p1.mono (fun _ h=>.inl h) (fun _ _=>rfl),p2⟩,⟨c2,q1.mono (fun _ h=>.inl h) (fun _ _=>rfl),q2⟩⟩
theorem is_rd{b:Nat}{A:Ob}{τ:Ty}{x:τ.den}{u:Value}(h:MemOk P F w ρ st)(hA:st.a b=some A)(hi:A.Is τ x)(hρ:ρ b=some u):RdV (fun g=>F g\/blkOf u=some g) w τ x u:=by
 cases hi with
 | arr=>exact qCU h hA hρ
 | map=>exact qEy h hA hρ
theorem Den.fz{b:Nat}{e:Ty}{l:e.den}{u:Value}{F':Nat->Prop}(hF:∀g,F g->F' g)(hrd:∀v,ρ b=some v->RdV F' w e l v):∀ {s:SV},Den P F w ρ s u->Den P F' w ρ (s.fz b e l) u:=by
 intro s hd;have up:∀ {s u},Den P F w ρ s u->Den P F' w ρ s u:=fun hd=>hd.mono hF (fun _ _=>rfl) _ (fun _ _ h=>h)
 have h1:∀ {b':Nat} {v:Value},ρ b'=some v->Den P F' w ρ (bif Nat.beq b' b then SV.v e l else .own b') v:=by
  intro b' v hv;cases hb:Nat.beq b' b with
  | true=>have:=zc hb; subst this; exact .v (hrd v hv)
  | false=>exact .own hv
 cases hd with
 | own hρ=>exact h1 hρ
 | agg hl hi ho=>
  rename_i ss vs;refine .agg (by simpa using hl) (fun i s u hs hu=>?_) ho
  rw[zL] at hs;cases hx:ss[i]? with
  | none=>rw[hx] at hs; cases hs
  | some s0=>
   rw[hx] at hs;simp only[zf1,zn1] at hs;have hd0:=hi i s0 u hx hu;cases s0 with
   | own b'=>subst hs; cases hd0 with | own hρ=>exact h1 hρ
   | _=>subst hs; exact up hd0
 | v h=>exact up (.v h)
 | raw=>exact up (.raw _)
 | any=>exact up (.any _)
 | ptr h=>exact up (.ptr h)
 | ael h hi=>exact up (.ael h hi)
 | aix h hi hm=>exact up (.aix h hi hm)
 | pre h hi=>exact up (.pre h hi)
 | pel h hi=>exact up (.pel h hi)
 | nptr h=>exact up (.nptr h)
 | rest h h1 h2=>exact up (.rest h h1 h2)
 | sel a b c=>exact up (.sel a b c)
 | tup a b=>exact up (.tup a b)
 | when a b=>exact up (.when a b)
 | clo a b=>exact up (.clo a b)
 | fn h=>exact up (.fn h)
 | fmap a b c d e f=>exact up (.fmap a b c d e f)
 | cut h=>exact up (.cut h)
 | nilq h=>exact up (.nilq h)
 | fzd h1 h2=>exact up (.fzd h1 h2)
theorem Rel'.freeze{b:Nat}{A:Ob}{st':St}(h:Rel' P w0 M N F ρ st a w)(hA:st.a b=some A){u:Value}(hρ:ρ b=some u)
  (e1:∀t v,Den P F w ρ (st.r t) v->Den P (fun g=>F g\/blkOf u=some g) w ρ (st'.r t) v) (e2:∀b' o v,Den P F w ρ (st.c b' o) v->Den P (fun g=>F g\/blkOf u=some g) w ρ (st'.c b' o) v)
  (e3:st'.v=st.v) (e4:st'.d=st.d) (e5:st'.a=fun x=>bif Nat.beq x b then none else st.a x):Rel' P w0 M N (fun g=>F g\/blkOf u=some g) ρ st' a w/\∀g,blkOf u=some g->M.blk g\/w0.heap.size<=g:=by
 have hp0:st.present b:=.inr (by rw[hA]; simp)
 have hv0:st.v b=none:=by
  cases hxv:st.v b with
  | none=>rfl
  | some x=>
   obtain⟨g2,arr,q1,q1b,_⟩:=h.mem.var b x.1 x.2 hxv;obtain⟨u',q2,q3⟩:=h.mem.arr b _ hA;rw[q1] at q2; injection q2 with q2; subst q2
   exact(q3.novar rfl q1b).elim
 have hpr:∀b',st'.present b'->b'≠b/\st.present b':=by
  intro b' hp;by_cases e:b'=b
  ·subst e; exfalso;rcases hp with hp | hp
   ·rw[e3] at hp; exact hp hv0
   ·rw[e5] at hp; exact hp (by simp)
  ·refine⟨e,?_⟩
   rcases hp with hp | hp
   ·rw[e3] at hp; exact .inl hp
   ·rw[e5] at hp; simp only[bq e,zb] at hp; exact .inr hp
 refine⟨⟨h.fr,⟨fun b' hb=>h.mem.dom b' (by rw[<-e4]; exact hb),?_,?_,?_,?_,?_,h.mem.one,h.mem.glob.mono (fun _ h=>.inl h) (fun _ _=>rfl)⟩,?_,fun t=>e1 t _ (h.regs t),h.sz,h.df,h.pin⟩,fun g hg=>h.lo b u g hp0 hρ hg⟩
 ·intro b' ty' k hv;rw[e3] at hv;obtain⟨g,arr,a1,a2,a3,a4⟩:=h.mem.var b' ty' k hv;exact⟨g,arr,a1,a2,a3,fun j x hj=>⟨e2 b' j x (a4 j x hj).1,(a4 j x hj).2⟩⟩
 ·intro b' A hA';rw[e5] at hA';simp only at hA';cases hb:Nat.beq b' b with
  | true=>rw[hb] at hA'; cases hA'
  | false=>
   rw[hb] at hA';obtain⟨v,a1,a2⟩:=h.mem.arr b' A hA';exact⟨v,a1,a2.keep (fun _ h=>.inl h) (fun _ _=>rfl) (fun _ _=>rfl)⟩
 ·intro b1 b2 v1 v2 g p1 p2; exact h.mem.sep b1 b2 v1 v2 g (hpr b1 p1).2 (hpr b2 p2).2
 ·intro b' v g p r hg hF;rcases hF with hF | hF
  ·exact h.mem.own b' v g (hpr b' p).2 r hg hF
  ·exact(hpr b' p).1 (h.mem.sep b' b v u g (hpr b' p).2 hp0 r hρ hg hF)
 ·intro g hg;rcases hg with hg | hg
  ·exact h.mem.fb g hg
  ·exact h.mem.lt hp0 hρ hg
 ·intro b' v g p; exact h.lo b' v g (hpr b' p).2
/-! ### What an operation makes is frozen on the spot -/
def Ob.dat?:Ob->Option ((τ:Ty)×τ.den)
 | .arr _ e l=>some ⟨.sl e,l⟩
 | .map _ _ k v l=>some ⟨.map k v,l⟩
 | _=>none
theorem Ob.dat?_is{A:Ob}{τ:Ty}{x:τ.den}(h:A.dat? = some ⟨τ,x⟩):A.Is τ x:=by
 cases A with
 | arr=>injection h with h; cases h; exact .arr
 | map=>injection h with h; cases h; exact .map
 | iter=>cases h
def frzW(wr:List Wr):Option (List Wr):=
 match wr.reverse with
 | .r d (.own n)::.a n' (some A)::_=>bif Nat.beq n n' then(match A.dat? with
   | some ⟨τ,x⟩=>some (wr++[.a n none,.r d (.v τ x)])
   | none=>none) else none
 | _=>none
theorem qxs{wr wr':List Wr}(h:frzW wr=some wr'){a:Act}{w:World}(hr:Rel P w0 M N F0 (st.app wr) a w):Rel P w0 M N F0 (st.app wr') a w:=by
 unfold frzW at h;split at h
 ·rename_i d n n' A rest hrev;cases hb:Nat.beq n n' with
  | false=>rw[hb] at h; cases h
  | true=>
   rw[hb] at h; simp only[za] at h;have:=zc hb;subst this;split at h
   ·rename_i τ x hd;injection h with h; subst h
    have hwr:wr=rest.reverse++[.a n (some A),.r d (.own n)]:=by
     have:=congrArg List.reverse hrev;rw[List.reverse_reverse] at this;rw[this]; simp
    rw[qcm];have hSa:(st.app wr).a n=some A:=by
     rw[hwr,qcm];show(bif Nat.beq n n then some A else _)=some A;simp
    have hSr:(st.app wr).r d=.own n:=by
     rw[hwr,qcm];show(bif Nat.beq d d then SV.own n else _)=.own n;simp
    generalize st.app wr=S at hr hSa hSr;obtain⟨F,ρ,h,hF⟩:=hr;obtain⟨u,hu,_⟩:=h.mem.arr n A hSa;have hrd:=is_rd h.mem hSa (Ob.dat?_is hd) hu
    obtain⟨h1,h2⟩:=h.freeze (st':=(S.put (.a n none)).put (.r d (.v τ x))) hSa hu (fun t v hv=>by
     show Den P _ w ρ (bif Nat.beq t d then SV.v τ x else S.r t) v;cases ht:Nat.beq t d with
     | true=>
      have:=zc ht;subst this;rw[hSr] at hv;cases hv with
      | own hv=>rw[hu] at hv; injection hv with hv; subst hv; exact .v hrd
     | false=>exact hv.mono (fun _ h=>.inl h) (fun _ _=>rfl) _ (fun _ _ h=>h)) (fun b' o v hv=>hv.mono (fun _ h=>.inl h) (fun _ _=>rfl) _ (fun _ _ h=>h)) rfl rfl rfl
    exact⟨_,ρ,h1,fun g hg=>.inl (hF.1 g hg),fun g hg=>hg.elim (hF.2 g) fun hg=>.inr (h2 g hg)⟩
   ·cases h
 ·cases h
theorem RT.frz{ops:Array Oper}{o:Oper}{rd:List Key}{wr wr':List Wr}(h:RT P w0 M N F0 ops o st rd wr)(hf:frzW wr=some wr'):RT P w0 M N F0 ops o st rd wr':=by
 intro st' hag a w hr;have h1:=h st' hag a w hr;split
 ·rename_i hw;rw[if_pos hw] at h1;exact Oper.wp_mono (fun a' w' hr'=>qxs hf hr') h1
 ·rename_i hw;rw[if_neg hw] at h1;exact qxs hf h1
end
end Go.Sq
