/- The second engine, part N: states that are written out, and their content as tuples of data. No condition. -/
import Derived.Test.YtmdijohmddokhaaGreatDoorSqMB
namespace Go.Sq
open Go Go.RowKit
/-! ### What is kept -/
def SV.res(κ:St):SV->SV
 | .kr t=>κ.r t
 | .kc b o=>κ.c b o
 | s=>s
def St.sub(κ st:St):St:={ st with r:=fun t=>(st.r t).res κ,c:=fun b o=>(st.c b o).res κ }
def qh2:SV->Bool
 | .v _ _ | .raw _ | .any | .sel _ _ _ | .fn _ _ _=>true
 | _=>false
theorem Den.closed{P:Program}{F:Nat->Prop}{w:World}{ρ ρ':Env}{s:SV}{u:Value}(h:Den P F w ρ s u)(hc:qh2 s=true):Den P F w ρ' s u:=by
 cases h with
 | v h=>exact .v h
 | raw=>exact .raw _
 | any=>exact .any _
 | sel a b c=>exact .sel a b c
 | fn h=>exact .fn h
 | _=>cases hc
def closedA:SV->Bool
 | .agg cs=>cs.all qh2
 | s=>qh2 s
theorem Den.closedA{P:Program}{F:Nat->Prop}{w:World}{ρ ρ':Env}{s:SV}{u:Value}(h:Den P F w ρ s u)(hc:Sq.closedA s=true):Den P F w ρ' s u:=by
 cases s with
 | agg cs=>
  cases h with
  | agg hl hi h1=>
   simp only[Sq.closedA,zm] at hc;exact .agg hl (fun i s u hs hu=>(hi i s u hs hu).closed (hc s (zF hs))) h1
 | _=>exact h.closed hc
/-! ### Shapes -/
inductive Sh1 where
 | data (τ:Ty) | fn (ps:List Ty) (r:Ty) | keep | ptr (b o:Nat) | own (b:Nat) | any | sel (τ:Ty) | nptr (b o:Nat) | nil | ael (b k:Nat) | clp (f b o:Nat) | fmap (ps:List Ty) (r:Ty) (ks:List (List UInt8))
inductive Sh where
 | one (s:Sh1) | agg (l:List Sh1)
inductive ObSh where
 | arr (ty:TypeId) (e:Ty) | one (ty:TypeId) (e:Ty) | map (nn:Bool) (ty:TypeId) (k v:Ty) | iter (on:Bool) (k v:Ty)
structure J where
 regs:List (Nat×Sh)
 vars:List (Nat×TypeId×List Sh1)
 arrs:List (Nat×ObSh)
inductive Ct where
 | d (τ:Ty) | f (ps:List Ty) (r:Ty)
 deriving DecidableEq
def Ct.den:Ct->Type
 | .d τ=>τ.den
 | .f ps r=>HL ps->Option r.den
def CL:List Ct->Type
 | []=>Unit
 | c::r=>c.den×CL r
def Ct.sv:(c:Ct)->c.den->SV
 | .d τ,x=>.v τ x
 | .f ps r,g=>.fn ps r g
def SV.asCt(c:Ct):SV->Option c.den
 | .v τ x=>if h:Ct.d τ=c then some (h ▸ x) else none
 | .fn ps r g=>if h:Ct.f ps r=c then some (h ▸ g) else none
 | _=>none
def toCL:(l:List Ct)->List SV->Option (CL l)
 | [],[]=>some ()
 | c::l,s::r=>match s.asCt c with
  | some x=>match toCL l r with
   | some y=>some (x,y)
   | none=>none
  | none=>none
 | _,_=>none
def ofCL:(l:List Ct)->CL l->List SV
 | [],_=>[]
 | c::l,x=>c.sv x.1::ofCL l x.2
def CT:List Ct->Type
 | []=>Unit
 | [c]=>c.den
 | c::d::r=>c.den×CT (d::r)
def toT:(l:List Ct)->CL l->CT l
 | [],_=>()
 | [_],x=>x.1
 | _::d::r,x=>(x.1,toT (d::r) x.2)
def ofT:(l:List Ct)->CT l->CL l
 | [],_=>()
 | [_],x=>(x,())
 | _::d::r,x=>(x.1,ofT (d::r) x.2)
theorem qrE{c:Ct}{s:SV}{x:c.den}(h:s.asCt c=some x):c.sv x=s:=by
 cases s with
 | v τ y=>
  simp only[SV.asCt] at h;split at h
  ·rename_i e; subst e; injection h with h; subst h; rfl
  ·cases h
 | fn ps r g=>
  simp only[SV.asCt] at h;split at h
  ·rename_i e; subst e; injection h with h; subst h; rfl
  ·cases h
 | _=>simp only[SV.asCt] at h; cases h
theorem qvu:∀ {l:List Ct} {r:List SV} {x:CL l},toCL l r=some x->ofCL l x=r
 | [],[],_,_=>rfl
 | [],_::_,_,h=>by cases h
 | _::_,[],_,h=>by cases h
 | c::l,s::r,x,h=>by
  simp only[toCL] at h;split at h
  ·rename_i y hy;split at h
   ·rename_i z hz;injection h with h; subst h
    simp only[ofCL,qrE hy,qvu hz]
   ·cases h
  ·cases h
theorem qzV:∀ {l:List Ct} {x:CL l},ofT l (toT l x)=x
 | [],_=>rfl
 | [_],_=>rfl
 | _::d::r,x=>by simp only[toT,ofT,qzV]; rfl
def Sh1.ct:Sh1->List Ct
 | .data τ=>[.d τ]
 | .fn ps r=>[.f ps r]
 | .sel τ=>[.d τ]
 | .fmap ps r _=>[.f (.str::ps) r]
 | _=>[]
def ctL:List Sh1->List Ct
 | []=>[]
 | s::r=>s.ct++ctL r
def Sh.ct:Sh->List Ct
 | .one s=>s.ct
 | .agg l=>ctL l
def qCR:List (Nat×Sh)->List Ct
 | []=>[]
 | (_,s)::r=>s.ct++qCR r
def qCS:List (Nat×TypeId×List Sh1)->List Ct
 | []=>[]
 | (_,_,l)::r=>ctL l++qCS r
def ObSh.ct:ObSh->Ct
 | .arr _ e=>.d (.sl e)
 | .one _ e=>.d e
 | .map _ _ k v=>.d (.sl (.pair k v))
 | .iter _ k v=>.d (.sl (.pair k v))
def qCT:List (Nat×ObSh)->List Ct
 | []=>[]
 | (_,s)::r=>s.ct::qCT r
def J.ct(j:J):List Ct:=qCR j.regs++(qCS j.vars++qCT j.arrs)
def J.names(j:J):List Nat:=j.vars.map (·.1)++j.arrs.map (·.1)
/-! ### Content is taken out of a state; and a state is made of content -/
def take1(π:Nat->Nat)(k:SV)(s:SV):Sh1->Option (List SV)
 | .data τ=>match s.dat τ with
  | some x=>some [.v τ x]
  | none=>none
 | .fn ps r=>match s.asCt (.f ps r) with
  | some g=>some [.fn ps r g]
  | none=>none
 | .keep=>match s,k with
  | .kr t,.kr t'=>bif Nat.beq t t' then some [] else none
  | .kc b o,.kc b' o'=>bif Nat.beq b b'&&Nat.beq o o' then some [] else none
  | _,_=>none
 | .ptr b o=>match s with
  | .ptr b' o'=>bif Nat.beq b' (π b)&&Nat.beq o o' then some [] else none
  | _=>none
 | .own b=>match s with
  | .own b'=>bif Nat.beq b' (π b) then some [] else none
  | _=>none
 | .any=>some []
 | .nptr b o=>match s with
  | .nptr b' o'=>bif Nat.beq b' (π b)&&Nat.beq o o' then some [] else none
  | .ptr b' o'=>bif Nat.beq b' (π b)&&Nat.beq o o' then some [] else none
  | .raw (.pointer none)=>some []
  | _=>none
 | .nil=>match s with
  | .raw (.slice none 0 0)=>some []
  | _=>none
 | .clp f b o=>match s with
  | .clo f' [.ptr b' o']=>bif Nat.beq f f'&&(Nat.beq b' (π b)&&Nat.beq o o') then some [] else none
  | _=>none
 | .ael b k=>match s with
  | .ael b' k' 0 0=>bif Nat.beq b' (π b)&&Nat.beq k k' then some [] else none
  | _=>none
 | .fmap _ _ _=>none
 | .sel τ=>match s with
  | .sel τ' x o=>bif Nat.beq o 0 then match(SV.v τ' x).asCt (.d τ) with
    | some y=>some [.v τ y]
    | none=>none
   else none
  | _=>none
def takeL(π:Nat->Nat):List SV->List Sh1->Option (List SV)
 | [],[]=>some []
 | s::l,h::r=>match take1 π .any s h with
  | some x=>match takeL π l r with
   | some y=>some (x++y)
   | none=>none
  | none=>none
 | _,_=>none
def qzW(π:Nat->Nat)(k:SV)(s:SV):Sh->Option (List SV)
 | .one h=>take1 π k s h
 | .agg l=>match s with
  | .agg cs=>takeL π cs l
  | _=>none
def qiN(π:Nat->Nat)(st:St):List (Nat×Sh)->Option (List SV)
 | []=>some []
 | (t,s)::r=>match qzW π (.kr t) (st.r t) s with
  | some x=>match qiN π st r with
   | some y=>some (x++y)
   | none=>none
  | none=>none
def qgP(π:Nat->Nat)(st:St)(b b':Nat):Nat->List Sh1->Option (List SV)
 | _,[]=>some []
 | o,s::r=>match take1 π (.kc b o) (st.c b' o) s with
  | some x=>match qgP π st b b' (o+1) r with
   | some y=>some (x++y)
   | none=>none
  | none=>none
def qgs(π:Nat->Nat)(st:St):List (Nat×TypeId×List Sh1)->Option (List SV)
 | []=>some []
 | (b,ty,l)::r=>match st.v (π b) with
  | some (ty',k)=>bif Nat.beq ty' ty&&Nat.beq k l.length then match qgP π st b (π b) 0 l with
    | some x=>match qgs π st r with
     | some y=>some (x++y)
     | none=>none
    | none=>none
   else none
  | none=>none
def Ob.take:Ob->ObSh->Option SV
 | .arr ty e l,.arr ty' e'=>bif Nat.beq ty ty'&&decide (e=e') then some (.v (.sl e) l) else none
 | .arr ty e [x],.one ty' e'=>bif Nat.beq ty ty'&&decide (e=e') then some (.v e x) else none
 | .map nn ty k v l,.map nn' ty' k' v'=>bif (nn==nn')&&Nat.beq ty ty'&&decide (k=k')&&decide (v=v') then some (.v (.sl (.pair k v)) l) else none
 | .iter on k v l,.iter on' k' v'=>bif (on==on')&&decide (k=k')&&decide (v=v') then some (.v (.sl (.pair k v)) l) else none
 | _,_=>none
def qgt(π:Nat->Nat)(st:St):List (Nat×ObSh)->Option (List SV)
 | []=>some []
 | (b,s)::r=>match st.a (π b) with
  | some A=>match A.take s with
   | some x=>match qgt π st r with
    | some y=>some (x::y)
    | none=>none
   | none=>none
  | none=>none
def SV.toSel:SV->SV
 | .v τ x=>.sel τ x 0
 | _=>.any
def SV.toFmap(ks:List (List UInt8)):SV->SV
 | .fn (.str::ps) r g=>.fmap ps r ks g
 | _=>.any
def put1(k:SV)(cs:List SV):Sh1->SV×List SV
 | .data _=>match cs with
  | s::r=>(s,r)
  | []=>(.any,[])
 | .fn _ _=>match cs with
  | s::r=>(s,r)
  | []=>(.any,[])
 | .keep=>(k,cs)
 | .ptr b o=>(.ptr b o,cs)
 | .own b=>(.own b,cs)
 | .any=>(.any,cs)
 | .nptr b o=>(.nptr b o,cs)
 | .nil=>(.raw (.slice none 0 0),cs)
 | .clp f b o=>(.clo f [.ptr b o],cs)
 | .ael b k=>(.ael b k 0 0,cs)
 | .sel _=>match cs with
  | s::r=>(s.toSel,r)
  | []=>(.any,[])
 | .fmap _ _ ks=>match cs with
  | s::r=>(s.toFmap ks,r)
  | []=>(.any,[])
def putL:List Sh1->List SV->List SV×List SV
 | [],cs=>([],cs)
 | h::r,cs=>let p:=put1 .any cs h; let q:=putL r p.2; (p.1::q.1,q.2)
def putSh(k:SV)(cs:List SV):Sh->SV×List SV
 | .one h=>put1 k cs h
 | .agg l=>let p:=putL l cs; (.agg p.1,p.2)
def qka(kr:Nat->SV):List (Nat×Sh)->List SV->List (Nat×SV)×List SV
 | [],cs=>([],cs)
 | (t,s)::r,cs=>let p:=putSh (kr t) cs s; let q:=qka kr r p.2; ((t,p.1)::q.1,q.2)
def qd9(kc:Nat->Nat->SV)(b:Nat):Nat->List Sh1->List SV->List SV×List SV
 | _,[],cs=>([],cs)
 | o,s::r,cs=>let p:=put1 (kc b o) cs s; let q:=qd9 kc b (o+1) r p.2; (p.1::q.1,q.2)
def qfd(kc:Nat->Nat->SV):List (Nat×TypeId×List Sh1)->List SV->List (Nat×TypeId×List SV)×List SV
 | [],cs=>([],cs)
 | (b,ty,l)::r,cs=>let p:=qd9 kc b 0 l cs; let q:=qfd kc r p.2; ((b,ty,p.1)::q.1,q.2)
def ObSh.put:ObSh->SV->Option Ob
 | .arr ty e,s=>match s.asCt (.d (.sl e)) with
  | some l=>some (.arr ty e l)
  | none=>none
 | .one ty e,s=>match s.asCt (.d e) with
  | some x=>some (.arr ty e [x])
  | none=>none
 | .map nn ty k v,s=>match s.asCt (.d (.sl (.pair k v))) with
  | some l=>some (.map nn ty k v l)
  | none=>none
 | .iter on k v,s=>match s.asCt (.d (.sl (.pair k v))) with
  | some l=>some (.iter on k v l)
  | none=>none
def qkb:List (Nat×ObSh)->List SV->List (Nat×Option Ob)
 | (b,s)::r,c::cs=>(b,s.put c)::qkb r cs
 | _,_=>[]
def nthS:List SV->Nat->SV
 | [],_=>.any
 | s::_,0=>s
 | _::r,n+1=>nthS r n
def lookR:List (Nat×SV)->Nat->SV
 | [],_=>.any
 | (x,s)::l,t=>bif Nat.beq t x then s else lookR l t
def lookC:List (Nat×TypeId×List SV)->Nat->Nat->SV
 | [],_,_=>.any
 | (x,_,cs)::l,b,o=>bif Nat.beq b x then nthS cs o else lookC l b o
def lookV:List (Nat×TypeId×List SV)->Nat->Option (TypeId×Nat)
 | [],_=>none
 | (x,ty,cs)::l,b=>bif Nat.beq b x then some (ty,cs.length) else lookV l b
def lookA:List (Nat×Option Ob)->Nat->Option Ob
 | [],_=>none
 | (x,A)::l,b=>bif Nat.beq b x then A else lookA l b
def mkSt(names:List Nat)(regs:List (Nat×SV))(vars:List (Nat×TypeId×List SV))(arrs:List (Nat×Option Ob)):St:=
 { r:=lookR regs,c:=lookC vars,v:=lookV vars,a:=lookA arrs,d:=memN names }
def J.take(j:J)(π:Nat->Nat)(st:St):Option (List SV):=
 match qiN π st j.regs,qgs π st j.vars,qgt π st j.arrs with
 | some x,some y,some z=>some (x++(y++z))
 | _,_,_=>none
def J.putL(j:J)(kr:Nat->SV)(kc:Nat->Nat->SV)(cs:List SV):St:=
 let p:=qka kr j.regs cs
 let q:=qfd kc j.vars p.2
 mkSt j.names p.1 q.1 (qkb j.arrs q.2)
def J.pack(j:J)(π:Nat->Nat)(st:St):Option (CT j.ct):=
 match j.take π st with
 | some l=>match toCL j.ct l with
  | some x=>some (toT j.ct x)
  | none=>none
 | none=>none
def J.put(j:J)(kr:Nat->SV)(kc:Nat->Nat->SV)(x:CT j.ct):St:=j.putL kr kc (ofCL j.ct (ofT j.ct x))
theorem qxr{j:J}{π:Nat->Nat}{st:St}{x:CT j.ct}(h:j.pack π st=some x):∃l,j.take π st=some l/\∀kr kc,j.put kr kc x=j.putL kr kc l:=by
 unfold J.pack at h;split at h
 ·rename_i l hl;split at h
  ·rename_i y hy;injection h with h; subst h
   exact⟨l,hl,fun kr kc=>by unfold J.put; rw[qzV,qvu hy]⟩
  ·cases h
 ·cases h
/-! ### The state that is made says no more than the one that it was taken from -/
def noDup:List Nat->Bool
 | []=>true
 | x::l=>!memN l x&&noDup l
theorem qvv{l:List Nat}{π:Nat->Nat}(h:noDup (l.map π)=true):∀x y,x∈l->y∈l->π x=π y->x=y:=by
 induction l with
 | nil=>intro x y hx; cases hx
 | cons a l ih=>
  simp only[zh1,noDup,z8,zq] at h;have hn:∀z,z∈l->π z≠π a:=fun z hz e=>by
   have:memN (l.map π) (π a)=true:=qaU.2 (by rw[<-e]; exact zm1 hz)
   rw[h.1] at this; cases this
  intro x y hx hy e;rcases zw.1 hx with e1 | hx' <;> rcases zw.1 hy with e2 | hy'
  ·rw[e1,e2]
  ·subst e1; exact absurd e.symm (hn y hy')
  ·subst e2; exact absurd e (hn x hx')
  ·exact ih h.2 x y hx' hy' e
def Env.ren(ρ:Env)(π:Nat->Nat)(names:List Nat):Env:=fun b=>if b∈names then ρ (π b) else Option.none
section
variable {P:Program} {F:Nat->Prop} {w:World} {ρ:Env} {π:Nat->Nat} {names:List Nat}
def Sh1.namesOk(names:List Nat):Sh1->Bool
 | .ptr b _=>memN names b
 | .own b=>memN names b
 | .nptr b _=>memN names b
 | .clp _ b _=>memN names b
 | .ael b _=>memN names b
 | _=>true
def Sh.namesOk(names:List Nat):Sh->Bool
 | .one s=>s.namesOk names
 | .agg l=>l.all (Sh1.namesOk names)
def J.ok(j:J):Bool:=j.regs.all (fun p=>p.2.namesOk j.names)&&j.vars.all (fun p=>p.2.2.all (Sh1.namesOk j.names))&&noDup j.names
theorem qrF{κ κ':St}{k k' s:SV}{h:Sh1}{cs rest:List SV}{u:Value}(ht:take1 π k s h=some cs)(hn:h.namesOk names=true)(hd:Den P F w ρ (s.res κ) u)
  (hk:h=.keep->s=k->Den P F w (ρ.ren π names) (k'.res κ') u):Den P F w (ρ.ren π names) ((put1 k' (cs++rest) h).1.res κ') u/\(put1 k' (cs++rest) h).2=rest:=by
 cases h with
 | data τ=>
  simp only[take1] at ht;split at ht
  ·rename_i x hx;injection ht with ht; subst ht
   have hs:s.res κ=s:=by cases s <;> first | rfl | (simp only[SV.dat,SV.as] at hx; cases hx)
   rw[hs] at hd;exact⟨.v (qcR hx hd),rfl⟩
  ·cases ht
 | fn ps r=>
  simp only[take1] at ht;split at ht
  ·rename_i g hg;injection ht with ht; subst ht
   have:=qrE hg;simp only[Ct.sv] at this;subst this;exact⟨hd.closed rfl,rfl⟩
  ·cases ht
 | keep=>
  have hsk:s=k/\cs=[]:=by
   simp only[take1] at ht;split at ht
   ·rename_i t t';cases hb:Nat.beq t t' with
    | false=>rw[hb] at ht; cases ht
    | true=>rw[hb] at ht; injection ht with ht; exact⟨by rw[zc hb],ht.symm⟩
   ·rename_i b o b' o';cases hb:(Nat.beq b b'&&Nat.beq o o') with
    | false=>rw[hb] at ht; cases ht
    | true=>
     rw[hb] at ht; injection ht with ht
     rw[z8] at hb;exact⟨by rw[zc hb.1,zc hb.2],ht.symm⟩
   ·cases ht
  obtain⟨h1,rfl⟩:=hsk;exact⟨hk rfl h1,rfl⟩
 | ptr b o=>
  simp only[take1] at ht;split at ht
  ·rename_i b' o';cases hb:(Nat.beq b' (π b)&&Nat.beq o o') with
   | false=>rw[hb] at ht; cases ht
   | true=>
    rw[hb] at ht; injection ht with ht; subst ht
    rw[z8] at hb;have e1:=zc hb.1;have e2:=zc hb.2;subst e1 e2;cases hd with
    | ptr hρ=>exact⟨.ptr (by unfold Env.ren; rw[if_pos (qaU.1 hn)]; exact hρ),rfl⟩
  ·cases ht
 | own b=>
  simp only[take1] at ht;split at ht
  ·rename_i b';cases hb:Nat.beq b' (π b) with
   | false=>rw[hb] at ht; cases ht
   | true=>
    rw[hb] at ht; injection ht with ht; subst ht
    have e1:=zc hb;subst e1;cases hd with
    | own hρ=>exact⟨.own (by unfold Env.ren; rw[if_pos (qaU.1 hn)]; exact hρ),rfl⟩
  ·cases ht
 | fmap=>simp only[take1] at ht; cases ht
 | clp f b o=>
  simp only[take1] at ht;split at ht
  ·rename_i f' b' o';cases hb:(Nat.beq f f'&&(Nat.beq b' (π b)&&Nat.beq o o')) with
   | false=>rw[hb] at ht; cases ht
   | true=>
    rw[hb] at ht; injection ht with ht; subst ht
    rw[z8,z8] at hb;have e0:=zc hb.1;have e1:=zc hb.2.1;have e2:=zc hb.2.2;subst e0 e1 e2;cases hd with
    | clo hl hd2=>
     refine⟨.clo hl (fun i s u hs hu=>?_),rfl⟩
     cases i with
     | succ i=>cases hs
     | zero=>
      injection hs with hs; subst hs
      cases hd2 0 _ u rfl hu with
      | ptr hρ=>exact .ptr (by unfold Env.ren; rw[if_pos (qaU.1 hn)]; exact hρ)
  ·cases ht
 | any=>
  simp only[take1] at ht;injection ht with ht; subst ht
  exact⟨.any _,rfl⟩
 | nptr b o=>
  simp only[take1] at ht;split at ht
  ·rename_i b' o';cases hb:(Nat.beq b' (π b)&&Nat.beq o o') with
   | false=>rw[hb] at ht; cases ht
   | true=>
    rw[hb] at ht; injection ht with ht; subst ht
    rw[z8] at hb;have e1:=zc hb.1;have e2:=zc hb.2;subst e1 e2;cases hd with
    | nptr hρ=>exact⟨.nptr (hρ.imp (fun h=>h) fun⟨g,h1,h2⟩=>⟨g,by unfold Env.ren; rw[if_pos (qaU.1 hn)]; exact h1,h2⟩),rfl⟩
  ·rename_i b' o';cases hb:(Nat.beq b' (π b)&&Nat.beq o o') with
   | false=>rw[hb] at ht; cases ht
   | true=>
    rw[hb] at ht; injection ht with ht; subst ht
    rw[z8] at hb;have e1:=zc hb.1;have e2:=zc hb.2;subst e1 e2;cases hd with
    | ptr hρ=>exact⟨.nptr (.inr ⟨_,by unfold Env.ren; rw[if_pos (qaU.1 hn)]; exact hρ,rfl⟩),rfl⟩
  ·injection ht with ht; subst ht
   cases hd with
   | raw=>exact⟨.nptr (.inl rfl),rfl⟩
  ·cases ht
 | nil=>
  simp only[take1] at ht;split at ht
  ·injection ht with ht; subst ht
   cases hd with
   | raw=>exact⟨.raw _,rfl⟩
  ·cases ht
 | ael b k=>
  simp only[take1] at ht;split at ht
  ·rename_i b' k';cases hb:(Nat.beq b' (π b)&&Nat.beq k k') with
   | false=>rw[hb] at ht; cases ht
   | true=>
    rw[hb] at ht; injection ht with ht; subst ht
    rw[z8] at hb;have e1:=zc hb.1;have e2:=zc hb.2;subst e1 e2;cases hd with
    | ael hρ hi=>exact⟨.ael (by unfold Env.ren; rw[if_pos (qaU.1 hn)]; exact hρ) hi,rfl⟩
  ·cases ht
 | sel τ=>
  simp only[take1] at ht;split at ht
  ·rename_i τ' x o;cases hb:Nat.beq o 0 with
   | false=>rw[hb] at ht; cases ht
   | true=>
    rw[hb] at ht; simp only[za] at ht;have e0:=zc hb; subst e0;split at ht
    ·rename_i y hy;injection ht with ht; subst ht
     have:=qrE hy;simp only[Ct.sv] at this;injection this with e1 e2
     subst e1;have e2:=eq_of_heq e2; subst e2;exact⟨hd.closed rfl,rfl⟩
    ·cases ht
  ·cases ht
theorem selNo{k k' s q:SV}{τ:Ty}{x rest:List SV}(hx:take1 π k s (.sel τ)=some x)(hq:(put1 k' (x++rest) (.sel τ)).1=q){C:Prop}(hc:∀τ x,q=.sel τ x 0->C):C:=by
 simp only[take1] at hx;split at hx
 ·rename_i τ' y o;cases hb:Nat.beq o 0 with
  | false=>rw[hb] at hx; cases hx
  | true=>
   rw[hb] at hx; simp only[za] at hx;split at hx
   ·injection hx with hx; subst hx; exact hc _ _ hq.symm
   ·cases hx
 ·cases hx
theorem qvw:∀ {ss:List SV} {l:List Sh1} {cs rest:List SV} {vs:List Value},takeL π ss l=some cs->l.all (Sh1.namesOk names)=true->ss.length=vs.length->
  (∀(i:Nat) (s:SV) (u:Value),ss[i]? = some s->vs[i]? = some u->Den P F w ρ s u)->
  (putL l (cs++rest)).1.length=vs.length/\(∀(i:Nat) (s:SV) (u:Value),(putL l (cs++rest)).1[i]? = some s->vs[i]? = some u->Den P F w (ρ.ren π names) s u)/\(putL l (cs++rest)).2=rest
 | [],[],cs,rest,vs,h,_,hl,_=>by
  simp only[takeL] at h; injection h with h; subst h
  exact⟨by simpa[putL] using hl,fun i s u hs=>by simp[putL] at hs,rfl⟩
 | [],_::_,_,_,_,h,_,_,_=>by cases h
 | _::_,[],_,_,_,h,_,_,_=>by cases h
 | s::ss,h::l,cs,rest,vs,ht,hn,hl,hd=>by
  simp only[takeL] at ht;split at ht
  ·rename_i x hx;split at ht
   ·rename_i y hy;injection ht with ht; subst ht
    simp only[z11,z8] at hn;cases vs with
    | nil=>simp at hl
    | cons v vs=>
     have hd0:=hd 0 s v rfl rfl;have hnk:h≠.keep:=by
      rintro rfl
      cases s <;> cases hx
     -- a state in which nothing is kept
     have hres:∀q:SV,Den P F w ρ q v->q.res (mkSt [] [] [] [])=q:=by
      intro q hq;cases q <;> first | rfl | cases hq
     obtain⟨a1,a2⟩:=qrF (κ:=mkSt [] [] [] []) (κ':=mkSt [] [] [] []) (k':=.any) (rest:=y++rest) hx hn.1 (by rw[hres s hd0]; exact hd0) (fun e=>absurd e hnk)
     obtain⟨b1,b2,b3⟩:=qvw (rest:=rest) hy hn.2 (by simpa using hl) (fun i s u hs hu=>hd (i+1) s u (by simpa using hs) (by simpa using hu))
     rw[zu];simp only[putL];rw[a2];refine⟨by simp[b1],fun i s' u hs hu=>?_,b3⟩
     cases i with
     | zero=>
      simp at hs hu; subst hs hu;have hnr:(put1 SV.any (x++(y++rest)) h).1.res (mkSt [] [] [] [])=(put1 SV.any (x++(y++rest)) h).1:=by
       generalize hq:(put1 SV.any (x++(y++rest)) h).1=q at a1 ⊢;cases q with
       | kr t=>
        exfalso;cases h with
        | data τ=>
         simp only[take1] at hx;split at hx
         ·injection hx with hx; subst hx; cases hq
         ·cases hx
        | fn ps r=>
         simp only[take1] at hx;split at hx
         ·injection hx with hx; subst hx; cases hq
         ·cases hx
        | keep=>exact hnk rfl
        | ptr b o=>cases hq
        | own b=>cases hq
        | any=>cases hq
        | nptr b o=>cases hq
        | clp f b o=>cases hq
        | nil=>cases hq
        | ael b k=>cases hq
        | sel τ=>exact selNo hx hq (fun _ _ e=>by cases e)
        | fmap=>simp only[take1] at hx; cases hx
       | kc b o=>
        exfalso;cases h with
        | data τ=>
         simp only[take1] at hx;split at hx
         ·injection hx with hx; subst hx; cases hq
         ·cases hx
        | fn ps r=>
         simp only[take1] at hx;split at hx
         ·injection hx with hx; subst hx; cases hq
         ·cases hx
        | keep=>exact hnk rfl
        | ptr b o=>cases hq
        | own b=>cases hq
        | any=>cases hq
        | nptr b o=>cases hq
        | clp f b o=>cases hq
        | nil=>cases hq
        | ael b k=>cases hq
        | sel τ=>exact selNo hx hq (fun _ _ e=>by cases e)
        | fmap=>simp only[take1] at hx; cases hx
       | _=>rfl
      rw[hnr] at a1; exact a1
     | succ i=>exact b2 i s' u (by simpa using hs) (by simpa using hu)
   ·cases ht
  ·cases ht
end
end Go.Sq
