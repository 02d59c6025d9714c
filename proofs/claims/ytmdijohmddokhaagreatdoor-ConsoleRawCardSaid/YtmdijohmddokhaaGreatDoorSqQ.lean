/- Lemmas. No condition. -/
import Derived.Test.YtmdijohmddokhaaGreatDoorSqMB
namespace Go.Sq
open Go Go.RowKit
/-! ### What is kept -/
def SV.res(κ:St):SV->SV
 | .kr t=>κ.r t
 | .kc b o=>κ.c b o
 | s=>s
def St.sub(κ st:St):St:={ st with r:=fun t=>(st.r t).res κ,c:=fun b o=>(st.c b o).res κ }
def qit:SV->Bool
 | .v _ _ | .raw _ | .any | .sel _ _ _ | .fn _ _ _ | .cut _ _=>true
 | _=>false
theorem Den.closed{P:Program}{F:Nat->Prop}{w:World}{U U':Env}{s:SV}{u:Value}(h:Den P F w U s u)(hc:qit s=true):Den P F w U' s u:=by
 cases h with
 | v h=>exact .v h
 | raw=>exact .raw _
 | any=>exact .any _
 | sel a b c=>exact .sel a b c
 | fn h=>exact .fn h
 | cut h=>exact .cut h
 | _=>cases hc
def closedA:SV->Bool
 | .agg cs=>cs.all qit
 | s=>qit s
theorem Den.closedA{P:Program}{F:Nat->Prop}{w:World}{U U':Env}{s:SV}{u:Value}(h:Den P F w U s u)(hc:Sq.closedA s=true):Den P F w U' s u:=by
 cases s with
 | agg cs=>
  cases h with
  | agg hl hi h1=>
   simp only[Sq.closedA,zq] at hc;exact .agg hl (fun i s u hs hu=>(hi i s u hs hu).closed (hc s (zK hs))) h1
 | _=>exact h.closed hc
/-! ### Shapes -/
inductive Sh1 where
 | data (T:Ty) | fn (ps:List Ty) (r:Ty) | keep | ptr (b o:Nat) | own (b:Nat) | any | sel (T:Ty) | nptr (b o:Nat) | nil | ael (b k:Nat) | clp (f b o:Nat) | fmap (ps:List Ty) (r:Ty) (ks:List (List UInt8)) | cut (T:Ty)
inductive Sh where
 | one (s:Sh1) | agg (l:List Sh1)
inductive ObSh where
 | arr (ty:TypeId) (e:Ty) | one (ty:TypeId) (e:Ty) | map (nn:Bool) (ty:TypeId) (k v:Ty) | iter (on:Bool) (k v:Ty)
structure J where
 regs:List (Nat×Sh)
 vars:List (Nat×TypeId×List Sh1)
 arrs:List (Nat×ObSh)
inductive Ct where
 | d (T:Ty) | f (ps:List Ty) (r:Ty)
 deriving DecidableEq
def Ct.den:Ct->Type
 | .d T=>T.den
 | .f ps r=>HL ps->Option r.den
def CL:List Ct->Type
 | []=>Unit
 | c::r=>c.den×CL r
def Ct.sv:(c:Ct)->c.den->SV
 | .d T,x=>.v T x
 | .f ps r,g=>.fn ps r g
def SV.asCt(c:Ct):SV->Option c.den
 | .v T x=>if h:Ct.d T=c then some (h ▸ x) else none
 | .fn ps r g=>if h:Ct.f ps r=c then some (h ▸ g) else none
 | _=>none
def toCL:(l:List Ct)->List SV->Option (CL l)
 | [],[]=>some ()
 | c::l,s::r=>match s.asCt c with
  | some x=>match toCL l r with
   | some y=>some (x,y)
   | none=>none
  | none=>none
 | _,_=>none
def ofCL:(l:List Ct)->CL l->List SV
 | [],_=>[]
 | c::l,x=>c.sv x.1::ofCL l x.2
def CT:List Ct->Type
 | []=>Unit
 | [c]=>c.den
 | c::d::r=>c.den×CT (d::r)
def toT:(l:List Ct)->CL l->CT l
 | [],_=>()
 | [_],x=>x.1
 | _::d::r,x=>(x.1,toT (d::r) x.2)
def ofT:(l:List Ct)->CT l->CL l
 | [],_=>()
 | [_],x=>(x,())
 | _::d::r,x=>(x.1,ofT (d::r) x.2)
theorem qr2{c:Ct}{s:SV}{x:c.den}(h:s.asCt c=some x):c.sv x=s:=by
 cases s with
 | v T y=>
  simp only[SV.asCt] at h;split at h
  ·rename_i e; subst e; cases h; rfl
  ·cases h
 | fn ps r g=>
  simp only[SV.asCt] at h;split at h
  ·rename_i e; subst e; cases h; rfl
  ·cases h
 | _=>simp only[SV.asCt] at h; cases h
theorem qvT:∀ {l:List Ct} {r:List SV} {x:CL l},toCL l r=some x->ofCL l x=r
 | [],[],_,_=>rfl
 | [],_::_,_,h=>by cases h
 | _::_,[],_,h=>by cases h
 | c::l,s::r,x,h=>by
  simp only[toCL] at h;split at h
  ·rename_i y hy;split at h
   ·rename_i z hz;cases h
    simp only[ofCL,qr2 hy,qvT hz]
   ·cases h
  ·cases h
theorem qAu:∀ {l:List Ct} {x:CL l},ofT l (toT l x)=x
 | [],_=>rfl
 | [_],_=>rfl
 | _::d::r,x=>by simp only[toT,ofT,qAu]; rfl
def Sh1.ct:Sh1->List Ct
 | .data T=>[.d T]
 | .fn ps r=>[.f ps r]
 | .sel T=>[.d T]
 | .fmap ps r _=>[.f (.str::ps) r]
 | .cut T=>[.d (.sl T)]
 | _=>[]
def ctL:List Sh1->List Ct
 | []=>[]
 | s::r=>s.ct++ctL r
def Sh.ct:Sh->List Ct
 | .one s=>s.ct
 | .agg l=>ctL l
def qDE:List (Nat×Sh)->List Ct
 | []=>[]
 | (_,s)::r=>s.ct++qDE r
def qDF:List (Nat×TypeId×List Sh1)->List Ct
 | []=>[]
 | (_,_,l)::r=>ctL l++qDF r
def ObSh.ct:ObSh->Ct
 | .arr _ e=>.d (.sl e)
 | .one _ e=>.d e
 | .map _ _ k v=>.d (.sl (.pair k v))
 | .iter _ k v=>.d (.sl (.pair k v))
def qDG:List (Nat×ObSh)->List Ct
 | []=>[]
 | (_,s)::r=>s.ct::qDG r
def J.ct(j:J):List Ct:=qDE j.regs++(qDF j.vars++qDG j.arrs)
def J.names(j:J):List Nat:=j.vars.map (·.1)++j.arrs.map (·.1)
/-! ### Content is taken out of a state; and a state is made of content -/
def take1(π:Nat->Nat)(k:SV)(s:SV):Sh1->Option (List SV)
 | .data T=>match s.dat T with
  | some x=>some [.v T x]
  | none=>none
 | .fn ps r=>match s.asCt (.f ps r) with
  | some g=>some [.fn ps r g]
  | none=>none
 | .keep=>match s,k with
  | .kr t,.kr t'=>bif Nat.beq t t' then some [] else none
  | .kc b o,.kc b' o'=>bif Nat.beq b b'&&Nat.beq o o' then some [] else none
  | _,_=>none
 | .ptr b o=>match s with
  | .ptr b' o'=>bif Nat.beq b' (π b)&&Nat.beq o o' then some [] else none
  | _=>none
 | .own b=>match s with
  | .own b'=>bif Nat.beq b' (π b) then some [] else none
  | _=>none
 | .any=>some []
 | .nptr b o=>match s with
  | .nptr b' o'=>bif Nat.beq b' (π b)&&Nat.beq o o' then some [] else none
  | .ptr b' o'=>bif Nat.beq b' (π b)&&Nat.beq o o' then some [] else none
  | .raw (.pointer none)=>some []
  | _=>none
 | .nil=>match s with
  | .raw (.slice none 0 0)=>some []
  | _=>none
 | .clp f b o=>match s with
  | .clo f' [.ptr b' o']=>bif Nat.beq f f'&&(Nat.beq b' (π b)&&Nat.beq o o') then some [] else none
  | _=>none
 | .ael b k=>match s with
  | .ael b' k' 0 0=>bif Nat.beq b' (π b)&&Nat.beq k k' then some [] else none
  | _=>none
 | .fmap _ _ _=>none
 | .cut _=>none
 | .sel T=>match s with
  | .sel T' x o=>bif Nat.beq o 0 then match(SV.v T' x).asCt (.d T) with
    | some y=>some [.v T y]
    | none=>none
   else none
  | _=>none
def takeL(π:Nat->Nat):List SV->List Sh1->Option (List SV)
 | [],[]=>some []
 | s::l,h::r=>match take1 π .any s h with
  | some x=>match takeL π l r with
   | some y=>some (x++y)
   | none=>none
  | none=>none
 | _,_=>none
def qAv(π:Nat->Nat)(k:SV)(s:SV):Sh->Option (List SV)
 | .one h=>take1 π k s h
 | .agg l=>match s with
  | .agg cs=>takeL π cs l
  | _=>none
def qjd(π:Nat->Nat)(st:St):List (Nat×Sh)->Option (List SV)
 | []=>some []
 | (t,s)::r=>match qAv π (.kr t) (st.r t) s with
  | some x=>match qjd π st r with
   | some y=>some (x++y)
   | none=>none
  | none=>none
def qhr(π:Nat->Nat)(st:St)(b b':Nat):Nat->List Sh1->Option (List SV)
 | _,[]=>some []
 | o,s::r=>match take1 π (.kc b o) (st.c b' o) s with
  | some x=>match qhr π st b b' (o+1) r with
   | some y=>some (x++y)
   | none=>none
  | none=>none
def qg4(π:Nat->Nat)(st:St):List (Nat×TypeId×List Sh1)->Option (List SV)
 | []=>some []
 | (b,ty,l)::r=>match st.v (π b) with
  | some (ty',k)=>bif Nat.beq ty' ty&&Nat.beq k l.length then match qhr π st b (π b) 0 l with
    | some x=>match qg4 π st r with
     | some y=>some (x++y)
     | none=>none
    | none=>none
   else none
  | none=>none
def Ob.take:Ob->ObSh->Option SV
 | .arr ty e l,.arr ty' e'=>bif Nat.beq ty ty'&&decide (e=e') then some (.v (.sl e) l) else none
 | .arr ty e [x],.one ty' e'=>bif Nat.beq ty ty'&&decide (e=e') then some (.v e x) else none
 | .map nn ty k v l,.map nn' ty' k' v'=>bif (nn==nn')&&Nat.beq ty ty'&&decide (k=k')&&decide (v=v') then some (.v (.sl (.pair k v)) l) else none
 | .iter on k v l,.iter on' k' v'=>bif (on==on')&&decide (k=k')&&decide (v=v') then some (.v (.sl (.pair k v)) l) else none
 | _,_=>none
def qg5(π:Nat->Nat)(st:St):List (Nat×ObSh)->Option (List SV)
 | []=>some []
 | (b,s)::r=>match st.a (π b) with
  | some A=>match A.take s with
   | some x=>match qg5 π st r with
    | some y=>some (x::y)
    | none=>none
   | none=>none
  | none=>none
def SV.toSel:SV->SV
 | .v T x=>.sel T x 0
 | _=>.any
def SV.toFmap(ks:List (List UInt8)):SV->SV
 | .fn (.str::ps) r g=>.fmap ps r ks g
 | _=>.any
def SV.toCut:SV->SV
 | .v (.sl e) l=>.cut e l
 | _=>.any
def put1(k:SV)(cs:List SV):Sh1->SV×List SV
 | .data _=>match cs with
  | s::r=>(s,r)
  | []=>(.any,[])
 | .fn _ _=>match cs with
  | s::r=>(s,r)
  | []=>(.any,[])
 | .keep=>(k,cs)
 | .ptr b o=>(.ptr b o,cs)
 | .own b=>(.own b,cs)
 | .any=>(.any,cs)
 | .nptr b o=>(.nptr b o,cs)
 | .nil=>(.raw (.slice none 0 0),cs)
 | .clp f b o=>(.clo f [.ptr b o],cs)
 | .ael b k=>(.ael b k 0 0,cs)
 | .sel _=>match cs with
  | s::r=>(s.toSel,r)
  | []=>(.any,[])
 | .fmap _ _ ks=>match cs with
  | s::r=>(s.toFmap ks,r)
  | []=>(.any,[])
 | .cut _=>match cs with
  | s::r=>(s.toCut,r)
  | []=>(.any,[])
def putL:List Sh1->List SV->List SV×List SV
 | [],cs=>([],cs)
 | h::r,cs=>let p:=put1 .any cs h; let q:=putL r p.2; (p.1::q.1,q.2)
def putSh(k:SV)(cs:List SV):Sh->SV×List SV
 | .one h=>put1 k cs h
 | .agg l=>let p:=putL l cs; (.agg p.1,p.2)
def qkB(kr:Nat->SV):List (Nat×Sh)->List SV->List (Nat×SV)×List SV
 | [],cs=>([],cs)
 | (t,s)::r,cs=>let p:=putSh (kr t) cs s; let q:=qkB kr r p.2; ((t,p.1)::q.1,q.2)
def qeO(kc:Nat->Nat->SV)(b:Nat):Nat->List Sh1->List SV->List SV×List SV
 | _,[],cs=>([],cs)
 | o,s::r,cs=>let p:=put1 (kc b o) cs s; let q:=qeO kc b (o+1) r p.2; (p.1::q.1,q.2)
def qfJ(kc:Nat->Nat->SV):List (Nat×TypeId×List Sh1)->List SV->List (Nat×TypeId×List SV)×List SV
 | [],cs=>([],cs)
 | (b,ty,l)::r,cs=>let p:=qeO kc b 0 l cs; let q:=qfJ kc r p.2; ((b,ty,p.1)::q.1,q.2)
def ObSh.put:ObSh->SV->Option Ob
 | .arr ty e,s=>match s.asCt (.d (.sl e)) with
  | some l=>some (.arr ty e l)
  | none=>none
 | .one ty e,s=>match s.asCt (.d e) with
  | some x=>some (.arr ty e [x])
  | none=>none
 | .map nn ty k v,s=>match s.asCt (.d (.sl (.pair k v))) with
  | some l=>some (.map nn ty k v l)
  | none=>none
 | .iter on k v,s=>match s.asCt (.d (.sl (.pair k v))) with
  | some l=>some (.iter on k v l)
  | none=>none
def qkC:List (Nat×ObSh)->List SV->List (Nat×Option Ob)
 | (b,s)::r,c::cs=>(b,s.put c)::qkC r cs
 | _,_=>[]
def nthS:List SV->Nat->SV
 | [],_=>.any
 | s::_,0=>s
 | _::r,n+1=>nthS r n
def lookR:List (Nat×SV)->Nat->SV
 | [],_=>.any
 | (x,s)::l,t=>bif Nat.beq t x then s else lookR l t
def lookC:List (Nat×TypeId×List SV)->Nat->Nat->SV
 | [],_,_=>.any
 | (x,_,cs)::l,b,o=>bif Nat.beq b x then nthS cs o else lookC l b o
def lookV:List (Nat×TypeId×List SV)->Nat->Option (TypeId×Nat)
 | [],_=>none
 | (x,ty,cs)::l,b=>bif Nat.beq b x then some (ty,cs.length) else lookV l b
def lookA:List (Nat×Option Ob)->Nat->Option Ob
 | [],_=>none
 | (x,A)::l,b=>bif Nat.beq b x then A else lookA l b
def mkSt(names:List Nat)(regs:List (Nat×SV))(vars:List (Nat×TypeId×List SV))(arrs:List (Nat×Option Ob)):St:=
 { r:=lookR regs,c:=lookC vars,v:=lookV vars,a:=lookA arrs,d:=memN names }
def J.take(j:J)(π:Nat->Nat)(st:St):Option (List SV):=
 match qjd π st j.regs,qg4 π st j.vars,qg5 π st j.arrs with
 | some x,some y,some z=>some (x++(y++z))
 | _,_,_=>none
def J.putL(j:J)(kr:Nat->SV)(kc:Nat->Nat->SV)(cs:List SV):St:=
 let p:=qkB kr j.regs cs
 let q:=qfJ kc j.vars p.2
 mkSt j.names p.1 q.1 (qkC j.arrs q.2)
def J.pack(j:J)(π:Nat->Nat)(st:St):Option (CT j.ct):=
 match j.take π st with
 | some l=>match toCL j.ct l with
  | some x=>some (toT j.ct x)
  | none=>none
 | none=>none
def J.put(j:J)(kr:Nat->SV)(kc:Nat->Nat->SV)(x:CT j.ct):St:=j.putL kr kc (ofCL j.ct (ofT j.ct x))
theorem qxW{j:J}{π:Nat->Nat}{st:St}{x:CT j.ct}(h:j.pack π st=some x):∃l,j.take π st=some l/\∀kr kc,j.put kr kc x=j.putL kr kc l:=by
 unfold J.pack at h;split at h
 ·rename_i l hl;split at h
  ·rename_i y hy;cases h
   exact⟨l,hl,fun kr kc=>by unfold J.put; rw[qAu,qvT hy]⟩
  ·cases h
 ·cases h
/-! ### The state that is made says no more than the one that it was taken from -/
def noDup:List Nat->Bool
 | []=>true
 | x::l=>!memN l x&&noDup l
theorem qvU{l:List Nat}{π:Nat->Nat}(h:noDup (l.map π)=true):∀x y,x∈l->y∈l->π x=π y->x=y:=by
 induction l with
 | nil=>intro x y hx; cases hx
 | cons a l ih=>
  simp only[z81,noDup,z8,zt] at h;have hn:∀z,z∈l->π z≠π a:=fun z hz e=>by
   have:memN (l.map π) (π a)=true:=qaU.2 (by rw[<-e]; exact zz1 hz)
   rw[h.1] at this; cases this
  intro x y hx hy e;rcases zy.1 hx with e1 | hx' <;> rcases zy.1 hy with e2 | hy'
  ·rw[e1,e2]
  ·subst e1; exact absurd e.symm (hn y hy')
  ·subst e2; exact absurd e (hn x hx')
  ·exact ih h.2 x y hx' hy' e
def Env.ren(U:Env)(π:Nat->Nat)(names:List Nat):Env:=fun b=>if b∈names then U (π b) else Option.none
section
variable {P:Program} {F:Nat->Prop} {w:World} {U:Env} {π:Nat->Nat} {names:List Nat}
def Sh1.namesOk(names:List Nat):Sh1->Bool
 | .ptr b _=>memN names b
 | .own b=>memN names b
 | .nptr b _=>memN names b
 | .clp _ b _=>memN names b
 | .ael b _=>memN names b
 | _=>true
def Sh.namesOk(names:List Nat):Sh->Bool
 | .one s=>s.namesOk names
 | .agg l=>l.all (Sh1.namesOk names)
def J.ok(j:J):Bool:=j.regs.all (fun p=>p.2.namesOk j.names)&&j.vars.all (fun p=>p.2.2.all (Sh1.namesOk j.names))&&noDup j.names
theorem qr3{κ κ':St}{k k' s:SV}{h:Sh1}{cs rest:List SV}{u:Value}(ht:take1 π k s h=some cs)(hn:h.namesOk names=true)(hd:Den P F w U (s.res κ) u)
  (hk:h=.keep->s=k->Den P F w (U.ren π names) (k'.res κ') u):Den P F w (U.ren π names) ((put1 k' (cs++rest) h).1.res κ') u/\(put1 k' (cs++rest) h).2=rest:=by
 cases h with
 | data T=>
  simp only[take1] at ht;split at ht
  ·rename_i x hx;cases ht
   have hs:s.res κ=s:=by cases s <;> first | rfl | (simp only[SV.dat,SV.as] at hx; cases hx)
   rw[hs] at hd;exact⟨.v (qda hx hd),rfl⟩
  ·cases ht
 | fn ps r=>
  simp only[take1] at ht;split at ht
  ·rename_i g hg;cases ht
   have:=qr2 hg;simp only[Ct.sv] at this;subst this;exact⟨hd.closed rfl,rfl⟩
  ·cases ht
 | keep=>
  have hsk:s=k/\cs=[]:=by
   simp only[take1] at ht;split at ht
   ·rename_i t t';cases hb:Nat.beq t t' with
    | false=>rw[hb] at ht; cases ht
    | true=>rw[hb] at ht; injection ht with ht; exact⟨by rw[zd hb],ht.symm⟩
   ·rename_i b o b' o';cases hb:(Nat.beq b b'&&Nat.beq o o') with
    | false=>rw[hb] at ht; cases ht
    | true=>
     rw[hb] at ht; injection ht with ht
     rw[z8] at hb;exact⟨by rw[zd hb.1,zd hb.2],ht.symm⟩
   ·cases ht
  obtain⟨h1,rfl⟩:=hsk;exact⟨hk rfl h1,rfl⟩
 | ptr b o=>
  simp only[take1] at ht;split at ht
  ·rename_i b' o';cases hb:(Nat.beq b' (π b)&&Nat.beq o o') with
   | false=>rw[hb] at ht; cases ht
   | true=>
    rw[hb] at ht; cases ht
    rw[z8] at hb;have e1:=zd hb.1;have e2:=zd hb.2;subst e1 e2;cases hd with
    | ptr hρ=>exact⟨.ptr (by unfold Env.ren; rw[if_pos (qaU.1 hn)]; exact hρ),rfl⟩
  ·cases ht
 | own b=>
  simp only[take1] at ht;split at ht
  ·rename_i b';cases hb:Nat.beq b' (π b) with
   | false=>rw[hb] at ht; cases ht
   | true=>
    rw[hb] at ht; cases ht
    have e1:=zd hb;subst e1;cases hd with
    | own hρ=>exact⟨.own (by unfold Env.ren; rw[if_pos (qaU.1 hn)]; exact hρ),rfl⟩
  ·cases ht
 | fmap=>simp only[take1] at ht; cases ht
 | cut=>simp only[take1] at ht; cases ht
 | clp f b o=>
  simp only[take1] at ht;split at ht
  ·rename_i f' b' o';cases hb:(Nat.beq f f'&&(Nat.beq b' (π b)&&Nat.beq o o')) with
   | false=>rw[hb] at ht; cases ht
   | true=>
    rw[hb] at ht; cases ht
    rw[z8,z8] at hb;have e0:=zd hb.1;have e1:=zd hb.2.1;have e2:=zd hb.2.2;subst e0 e1 e2;cases hd with
    | clo hl hd2=>
     refine⟨.clo hl (fun i s u hs hu=>?_),rfl⟩
     cases i with
     | succ i=>cases hs
     | zero=>
      cases hs
      cases hd2 0 _ u rfl hu with
      | ptr hρ=>exact .ptr (by unfold Env.ren; rw[if_pos (qaU.1 hn)]; exact hρ)
  ·cases ht
 | any=>
  simp only[take1] at ht;cases ht
  exact⟨.any _,rfl⟩
 | nptr b o=>
  simp only[take1] at ht;split at ht
  ·rename_i b' o';cases hb:(Nat.beq b' (π b)&&Nat.beq o o') with
   | false=>rw[hb] at ht; cases ht
   | true=>
    rw[hb] at ht; cases ht
    rw[z8] at hb;have e1:=zd hb.1;have e2:=zd hb.2;subst e1 e2;cases hd with
    | nptr hρ=>exact⟨.nptr (hρ.imp (fun h=>h) fun⟨g,h1,h2⟩=>⟨g,by unfold Env.ren; rw[if_pos (qaU.1 hn)]; exact h1,h2⟩),rfl⟩
  ·rename_i b' o';cases hb:(Nat.beq b' (π b)&&Nat.beq o o') with
   | false=>rw[hb] at ht; cases ht
   | true=>
    rw[hb] at ht; cases ht
    rw[z8] at hb;have e1:=zd hb.1;have e2:=zd hb.2;subst e1 e2;cases hd with
    | ptr hρ=>exact⟨.nptr (.inr ⟨_,by unfold Env.ren; rw[if_pos (qaU.1 hn)]; exact hρ,rfl⟩),rfl⟩
  ·cases ht
   cases hd with
   | raw=>exact⟨.nptr (.inl rfl),rfl⟩
  ·cases ht
 | nil=>
  simp only[take1] at ht;split at ht
  ·cases ht
   cases hd with
   | raw=>exact⟨.raw _,rfl⟩
  ·cases ht
 | ael b k=>
  simp only[take1] at ht;split at ht
  ·rename_i b' k';cases hb:(Nat.beq b' (π b)&&Nat.beq k k') with
   | false=>rw[hb] at ht; cases ht
   | true=>
    rw[hb] at ht; cases ht
    rw[z8] at hb;have e1:=zd hb.1;have e2:=zd hb.2;subst e1 e2;cases hd with
    | ael hρ hi=>exact⟨.ael (by unfold Env.ren; rw[if_pos (qaU.1 hn)]; exact hρ) hi,rfl⟩
  ·cases ht
 | sel T=>
  simp only[take1] at ht;split at ht
  ·rename_i T' x o;cases hb:Nat.beq o 0 with
   | false=>rw[hb] at ht; cases ht
   | true=>
    rw[hb] at ht; simp only[zb] at ht;have e0:=zd hb; subst e0;split at ht
    ·rename_i y hy;cases ht
     have:=qr2 hy;simp only[Ct.sv] at this;injection this with e1 e2
     subst e1;have e2:=eq_of_heq e2; subst e2;exact⟨hd.closed rfl,rfl⟩
    ·cases ht
  ·cases ht
theorem selNo{k k' s q:SV}{T:Ty}{x rest:List SV}(hx:take1 π k s (.sel T)=some x)(hq:(put1 k' (x++rest) (.sel T)).1=q){C:Prop}(hc:∀T x,q=.sel T x 0->C):C:=by
 simp only[take1] at hx;split at hx
 ·rename_i T' y o;cases hb:Nat.beq o 0 with
  | false=>rw[hb] at hx; cases hx
  | true=>
   rw[hb] at hx; simp only[zb] at hx;split at hx
   ·cases hx; exact hc _ _ hq.symm
   ·cases hx
 ·cases hx
theorem qvV:∀ {ss:List SV} {l:List Sh1} {cs rest:List SV} {vs:List Value},takeL π ss l=some cs->l.all (Sh1.namesOk names)=true->ss.length=vs.length->
  (∀(i:Nat) (s:SV) (u:Value),ss[i]? = some s->vs[i]? = some u->Den P F w U s u)->
  (putL l (cs++rest)).1.length=vs.length/\(∀(i:Nat) (s:SV) (u:Value),(putL l (cs++rest)).1[i]? = some s->vs[i]? = some u->Den P F w (U.ren π names) s u)/\(putL l (cs++rest)).2=rest
 | [],[],cs,rest,vs,h,_,hl,_=>by
  simp only[takeL] at h; cases h
  exact⟨by simpa[putL] using hl,fun i s u hs=>by simp[putL] at hs,rfl⟩
 | [],_::_,_,_,_,h,_,_,_=>by cases h
 | _::_,[],_,_,_,h,_,_,_=>by cases h
 | s::ss,h::l,cs,rest,vs,ht,hn,hl,hd=>by
  simp only[takeL] at ht;split at ht
  ·rename_i x hx;split at ht
   ·rename_i y hy;cases ht
    simp only[z41,z8] at hn;cases vs with
    | nil=>simp at hl
    | cons v vs=>
     have hd0:=hd 0 s v rfl rfl;have hnk:h≠.keep:=by
      rintro rfl
      cases s <;> cases hx
     -- a state in which nothing is kept
     have hres:∀q:SV,Den P F w U q v->q.res (mkSt [] [] [] [])=q:=by
      intro q hq;cases q <;> first | rfl | cases hq
     obtain⟨a1,a2⟩:=qr3 (κ:=mkSt [] [] [] []) (κ':=mkSt [] [] [] []) (k':=.any) (rest:=y++rest) hx hn.1 (by rw[hres s hd0]; exact hd0) (fun e=>absurd e hnk)
     obtain⟨b1,b2,b3⟩:=qvV (rest:=rest) hy hn.2 (by simpa using hl) (fun i s u hs hu=>hd (i+1) s u (by simpa using hs) (by simpa using hu))
     rw[zw];simp only[putL];rw[a2];refine⟨by simp[b1],fun i s' u hs hu=>?_,b3⟩
     cases i with
     | zero=>
      simp at hs hu; subst hs hu;have hnr:(put1 SV.any (x++(y++rest)) h).1.res (mkSt [] [] [] [])=(put1 SV.any (x++(y++rest)) h).1:=by
       generalize hq:(put1 SV.any (x++(y++rest)) h).1=q at a1 ⊢;cases q with
       | kr t=>
        exfalso;cases h with
        | data T=>
         simp only[take1] at hx;split at hx
         ·cases hx; cases hq
         ·cases hx
        | fn ps r=>
         simp only[take1] at hx;split at hx
         ·cases hx; cases hq
         ·cases hx
        | keep=>exact hnk rfl
        | ptr b o=>cases hq
        | own b=>cases hq
        | any=>cases hq
        | nptr b o=>cases hq
        | clp f b o=>cases hq
        | nil=>cases hq
        | ael b k=>cases hq
        | sel T=>exact selNo hx hq (fun _ _ e=>by cases e)
        | fmap=>simp only[take1] at hx; cases hx
        | cut=>simp only[take1] at hx; cases hx
       | kc b o=>
        exfalso;cases h with
        | data T=>
         simp only[take1] at hx;split at hx
         ·cases hx; cases hq
         ·cases hx
        | fn ps r=>
         simp only[take1] at hx;split at hx
         ·cases hx; cases hq
         ·cases hx
        | keep=>exact hnk rfl
        | ptr b o=>cases hq
        | own b=>cases hq
        | any=>cases hq
        | nptr b o=>cases hq
        | clp f b o=>cases hq
        | nil=>cases hq
        | ael b k=>cases hq
        | sel T=>exact selNo hx hq (fun _ _ e=>by cases e)
        | fmap=>simp only[take1] at hx; cases hx
        | cut=>simp only[take1] at hx; cases hx
       | _=>rfl
      rw[hnr] at a1; exact a1
     | succ i=>exact b2 i s' u (by simpa using hs) (by simpa using hu)
   ·cases ht
  ·cases ht
end
def keepR(κ:St):List (Nat×Sh)->Bool
 | []=>true
 | (t,.one .keep)::r=>qit (κ.r t)&&keepR κ r
 | _::r=>keepR κ r
def keepC(κ:St)(b:Nat):Nat->List Sh1->Bool
 | _,[]=>true
 | o,.keep::r=>qit (κ.c b o)&&keepC κ b (o+1) r
 | o,_::r=>keepC κ b (o+1) r
def keepV(κ:St):List (Nat×TypeId×List Sh1)->Bool
 | []=>true
 | (b,_,l)::r=>keepC κ b 0 l&&keepV κ r
def J.keepOk(j:J)(κ:St):Bool:=keepR κ j.regs&&keepV κ j.vars
def PinOk(M:Mod)(π:Nat->Nat)(names:List Nat):Prop:=∀b g,M.pin b=some g->b∈names/\π b=b
section
variable {P:Program} {w0:World} {M:Mod} {N:Nat} {F0:Nat->Prop}
variable {F:Nat->Prop} {w:World} {U:Env} {π:Nat->Nat} {names:List Nat} {st:St} {a:Act}
theorem qzc{κ κ':St}{k k' s:SV}{h:Sh}{cs rest:List SV}{u:Value}(ht:qAv π k s h=some cs)(hn:h.namesOk names=true)(hd:Den P F w U (s.res κ) u)
  (hk:h=.one .keep->s=k->Den P F w (U.ren π names) (k'.res κ') u):Den P F w (U.ren π names) ((putSh k' (cs++rest) h).1.res κ') u/\(putSh k' (cs++rest) h).2=rest:=by
 cases h with
 | one h1=>exact qr3 ht hn hd (fun e=>hk (by rw[e]))
 | agg l=>
  simp only[qAv] at ht;split at ht
  ·rename_i ss;have hd':Den P F w U (.agg ss) u:=hd;cases hd' with
   | agg hl hi h1=>
    obtain⟨a1,a2,a3⟩:=qvV (names:=names) (rest:=rest) ht hn hl hi;exact⟨.agg a1 a2 h1,a3⟩
  ·cases ht
theorem qqL{κ κ':St}{kr:Nat->SV}{f:Nat->Value}(hkr:∀t,(kr t).res κ'=κ.r t)(hf:∀t,Den P F w U ((st.r t).res κ) (f t)):∀ {regs:List (Nat×Sh)} {cs:List SV},qjd π st regs=some cs->regs.all (fun p=>p.2.namesOk names)=true->
  keepR κ regs=true->∀rest,(qkB kr regs (cs++rest)).2=rest/\∀t,Den P F w (U.ren π names) ((lookR (qkB kr regs (cs++rest)).1 t).res κ') (f t)
 | [],cs,h,_,_,rest=>by
  simp only[qjd] at h; cases h
  exact⟨rfl,fun t=>.any _⟩
 | (t0,s)::regs,cs,h,hn,hkp,rest=>by
  simp only[qjd] at h;split at h
  ·rename_i x hx;split at h
   ·rename_i y hy;cases h
    simp only[z41,z8] at hn;have hkp':keepR κ regs=true/\(s=.one .keep->qit (κ.r t0)=true):=by
     unfold keepR at hkp;split at hkp
     ·rename_i e; cases e
     ·rename_i e;injection e with e1 e2; injection e1 with e1 e3; subst e1 e2 e3
      rw[z8] at hkp; exact⟨hkp.2,fun _=>hkp.1⟩
     ·rename_i hno e;injection e with e1 e2; subst e1 e2
      exact⟨hkp,fun e=>(hno t0 (by rw[e])).elim⟩
    obtain⟨a1,a2⟩:=qzc (κ:=κ) (κ':=κ') (k':=kr t0) (rest:=y++rest) hx hn.1 (hf t0) (fun e1 e2=>by
     have:=hf t0;rw[e2] at this;rw[hkr t0];exact Den.closed this (hkp'.2 e1))
    obtain⟨b1,b2⟩:=qqL hkr hf hy hn.2 hkp'.1 rest;rw[zw];simp only[qkB];rw[a2];refine⟨b1,fun t=>?_⟩
    show Den P F w _ (SV.res κ' (bif Nat.beq t t0 then _ else lookR _ t)) (f t);cases hb:Nat.beq t t0 with
    | true=>have:=zd hb; subst this; exact a1
    | false=>exact b2 t
   ·cases h
  ·cases h
theorem qoV{κ κ':St}{kc:Nat->Nat->SV}{b b':Nat}(hkc:∀o,(kc b o).res κ'=κ.c b o):∀ {l:List Sh1} {o:Nat} {cs:List SV},qhr π st b b' o l=some cs->l.all (Sh1.namesOk names)=true->keepC κ b o l=true->∀rest,
  (qeO kc b o l (cs++rest)).2=rest/\(qeO kc b o l (cs++rest)).1.length=l.length/\∀j u,j<l.length->Den P F w U ((st.c b' (o+j)).res κ) u->Den P F w (U.ren π names) ((nthS (qeO kc b o l (cs++rest)).1 j).res κ') u
 | [],o,cs,h,_,_,rest=>by
  simp only[qhr] at h; cases h
  exact⟨rfl,rfl,fun j u hj=>by simp at hj⟩
 | s::l,o,cs,h,hn,hkp,rest=>by
  simp only[qhr] at h;split at h
  ·rename_i x hx;split at h
   ·rename_i y hy;cases h
    simp only[z41,z8] at hn;have hkp':keepC κ b (o+1) l=true/\(s=.keep->qit (κ.c b o)=true):=by
     cases s <;> simp only[keepC,z8] at hkp <;> first | exact⟨hkp.2,fun _=>hkp.1⟩ | exact⟨hkp,fun e=>by cases e⟩
    obtain⟨b1,b2,b3⟩:=qoV (kc:=kc) (κ':=κ') hkc hy hn.2 hkp'.1 rest;have key:∀u,Den P F w U ((st.c b' o).res κ) u->Den P F w (U.ren π names) ((put1 (kc b o) (x++(y++rest)) s).1.res κ') u:=fun u hu=>
     (qr3 (κ:=κ) (κ':=κ') (k':=kc b o) (rest:=y++rest) hx hn.1 hu (fun e1 e2=>by
      rw[e2] at hu;rw[hkc o];exact Den.closed hu (hkp'.2 e1))).1
    have hrest:(put1 (kc b o) (x++(y++rest)) s).2=y++rest:=put1_rest hx;rw[zw];simp only[qeO];rw[hrest];refine⟨b1,by simp[b2],fun j u hj hu=>?_⟩
    cases j with
    | zero=>exact key u hu
    | succ j=>exact b3 j u (by simpa using hj) (by rw[show o+1+j=o+(j+1) by omega]; exact hu)
   ·cases h
  ·cases h
where
 put1_rest {π:Nat->Nat} {k k' s:SV} {h:Sh1} {cs rest:List SV} (ht:take1 π k s h=some cs):(put1 k' (cs++rest) h).2=rest:=by
  cases h with
  | data T=>
   simp only[take1] at ht;split at ht
   ·cases ht; rfl
   ·cases ht
  | fn ps r=>
   simp only[take1] at ht;split at ht
   ·cases ht; rfl
   ·cases ht
  | keep=>
   simp only[take1] at ht;split at ht
   ·rename_i t t';cases hb:Nat.beq t t' with
    | false=>rw[hb] at ht; cases ht
    | true=>rw[hb] at ht; cases ht; rfl
   ·rename_i b o b' o';cases hb:(Nat.beq b b'&&Nat.beq o o') with
    | false=>rw[hb] at ht; cases ht
    | true=>rw[hb] at ht; cases ht; rfl
   ·cases ht
  | ptr b o=>
   simp only[take1] at ht;split at ht
   ·rename_i b' o';cases hb:(Nat.beq b' (π b)&&Nat.beq o o') with
    | false=>rw[hb] at ht; cases ht
    | true=>rw[hb] at ht; cases ht; rfl
   ·cases ht
  | own b=>
   simp only[take1] at ht;split at ht
   ·rename_i b';cases hb:Nat.beq b' (π b) with
    | false=>rw[hb] at ht; cases ht
    | true=>rw[hb] at ht; cases ht; rfl
   ·cases ht
  | any=>simp only[take1] at ht; cases ht; rfl
  | fmap=>simp only[take1] at ht; cases ht
  | cut=>simp only[take1] at ht; cases ht
  | clp f b o=>
   simp only[take1] at ht;split at ht
   ·rename_i f' b' o';cases hb:(Nat.beq f f'&&(Nat.beq b' (π b)&&Nat.beq o o')) with
    | false=>rw[hb] at ht; cases ht
    | true=>rw[hb] at ht; cases ht; rfl
   ·cases ht
  | nptr b o=>
   simp only[take1] at ht;split at ht
   ·rename_i b' o';cases hb:(Nat.beq b' (π b)&&Nat.beq o o') with
    | false=>rw[hb] at ht; cases ht
    | true=>rw[hb] at ht; cases ht; rfl
   ·rename_i b' o';cases hb:(Nat.beq b' (π b)&&Nat.beq o o') with
    | false=>rw[hb] at ht; cases ht
    | true=>rw[hb] at ht; cases ht; rfl
   ·cases ht; rfl
   ·cases ht
  | nil=>
   simp only[take1] at ht;split at ht
   ·cases ht; rfl
   ·cases ht
  | ael b k=>
   simp only[take1] at ht;split at ht
   ·rename_i b' k';cases hb:(Nat.beq b' (π b)&&Nat.beq k k') with
    | false=>rw[hb] at ht; cases ht
    | true=>rw[hb] at ht; cases ht; rfl
   ·cases ht
  | sel T=>
   simp only[take1] at ht;split at ht
   ·rename_i T' y o;cases hb:Nat.beq o 0 with
    | false=>rw[hb] at ht; cases ht
    | true=>
     rw[hb] at ht; simp only[zb] at ht;split at ht
     ·cases ht; rfl
     ·cases ht
   ·cases ht
theorem qqM{κ κ':St}{kc:Nat->Nat->SV}(hkc:∀b o,(kc b o).res κ'=κ.c b o):∀ {vars:List (Nat×TypeId×List Sh1)} {cs:List SV},qg4 π st vars=some cs->vars.all (fun p=>p.2.2.all (Sh1.namesOk names))=true->keepV κ vars=true->∀rest,
  (qfJ kc vars (cs++rest)).2=rest/\∀b ty k,lookV (qfJ kc vars (cs++rest)).1 b=some (ty,k)->b∈vars.map (·.1)/\st.v (π b)=some (ty,k)∧
   ∀j u,j<k->Den P F w U ((st.c (π b) j).res κ) u->Den P F w (U.ren π names) ((lookC (qfJ kc vars (cs++rest)).1 b j).res κ') u
 | [],cs,h,_,_,rest=>by
  simp only[qg4] at h; cases h
  exact⟨rfl,fun b ty k h=>by cases h⟩
 | (b0,ty0,l)::vars,cs,h,hn,hkp,rest=>by
  simp only[qg4] at h;split at h
  ·rename_i ty' k0 hv;cases hb:(Nat.beq ty' ty0&&Nat.beq k0 l.length) with
   | false=>rw[hb] at h; cases h
   | true=>
    rw[hb] at h; simp only[zb] at h;rw[z8] at hb;have e1:=zd hb.1;have e2:=zd hb.2;subst e1 e2;split at h
    ·rename_i x hx;split at h
     ·rename_i y hy;cases h
      simp only[z41,z8] at hn;simp only[keepV,z8] at hkp;obtain⟨a1,a2,a3⟩:=qoV (P:=P) (F:=F) (w:=w) (U:=U) (κ':=κ') (hkc b0) hx hn.1 hkp.1 (y++rest);obtain⟨b1,b2⟩:=qqM (κ':=κ') hkc hy hn.2 hkp.2 rest;rw[zw];simp only[qfJ];rw[a1];refine⟨b1,fun b ty k hlk=>?_⟩
      have hlk':(bif Nat.beq b b0 then some (ty',(qeO kc b0 0 l (x++(y++rest))).1.length) else lookV (qfJ kc vars (y++rest)).1 b)=some (ty,k):=hlk;have hcl:∀j,lookC ((b0,ty',(qeO kc b0 0 l (x++(y++rest))).1)::(qfJ kc vars (y++rest)).1) b j=bif Nat.beq b b0 then nthS (qeO kc b0 0 l (x++(y++rest))).1 j else lookC (qfJ kc vars (y++rest)).1 b j:=fun _=>rfl
      cases hbb:Nat.beq b b0 with
      | true=>
       have:=zd hbb; subst this;rw[hbb] at hlk'; injection hlk' with hlk'; injection hlk' with q1 q2; subst q1 q2
       refine⟨by simp,by rw[a2]; exact hv,fun j u hj hu=>?_⟩
       rw[hcl,hbb];exact a3 j u (by rw[<-a2]; exact hj) (by rw[z11]; exact hu)
      | false=>
       rw[hbb] at hlk';obtain⟨c1,c2,c3⟩:=b2 b ty k hlk';refine⟨by simp[c1],c2,fun j u hj hu=>?_⟩
       rw[hcl,hbb]; exact c3 j u hj hu
     ·cases h
    ·cases h
  ·cases h
theorem Ob.take_put{A:Ob}{s:ObSh}{x:SV}(h:A.take s=some x):s.put x=some A:=by
 cases A with
 | arr ty e l=>
  cases s with
  | arr ty' e'=>
   simp only[Ob.take] at h;cases hb:(Nat.beq ty ty'&&decide (e=e')) with
   | false=>rw[hb] at h; cases h
   | true=>
    rw[hb] at h; cases h
    rw[z8] at hb;have e1:=zd hb.1;have e2:=zx hb.2;subst e1 e2;simp only[ObSh.put,SV.asCt,dite_true]
  | one ty' e'=>
   cases l with
   | nil=>cases h
   | cons x0 l=>
    cases l with
    | cons _ _=>cases h
    | nil=>
     simp only[Ob.take] at h;cases hb:(Nat.beq ty ty'&&decide (e=e')) with
     | false=>rw[hb] at h; cases h
     | true=>
      rw[hb] at h; cases h
      rw[z8] at hb;have e1:=zd hb.1;have e2:=zx hb.2;subst e1 e2;simp only[ObSh.put,SV.asCt,dite_true]
  | map=>cases h
  | iter=>cases h
 | map nn ty k v l=>
  cases s with
  | arr=>cases h
  | one=>cases h
  | iter=>cases h
  | map nn' ty' k' v'=>
   simp only[Ob.take] at h;cases hb:((nn==nn')&&Nat.beq ty ty'&&decide (k=k')&&decide (v=v')) with
   | false=>rw[hb] at h; cases h
   | true=>
    rw[hb] at h; cases h
    rw[z8,z8,z8] at hb;have e0:=eq_of_beq hb.1.1.1;have e1:=zd hb.1.1.2;have e2:=zx hb.1.2;have e3:=zx hb.2;subst e0 e1 e2 e3;simp only[ObSh.put,SV.asCt,dite_true]
 | iter on k v l=>
  cases s with
  | arr=>cases h
  | one=>cases h
  | map=>cases h
  | iter on' k' v'=>
   simp only[Ob.take] at h;cases hb:((on==on')&&decide (k=k')&&decide (v=v')) with
   | false=>rw[hb] at h; cases h
   | true=>
    rw[hb] at h; cases h
    rw[z8,z8] at hb;have e1:=eq_of_beq hb.1.1;have e2:=zx hb.1.2;have e3:=zx hb.2;subst e1 e2 e3;simp only[ObSh.put,SV.asCt,dite_true]
theorem qoW:∀ {arrs:List (Nat×ObSh)} {cs:List SV},qg5 π st arrs=some cs->∀rest b A,lookA (qkC arrs (cs++rest)) b=some A->b∈arrs.map (·.1)/\st.a (π b)=some A
 | [],cs,h,rest,b,A,hl=>by
  simp only[qg5] at h; cases h
  cases rest <;> cases hl
 | (b0,s)::arrs,cs,h,rest,b,A,hl=>by
  simp only[qg5] at h;split at h
  ·rename_i A0 hA;split at h
   ·rename_i x hx;split at h
    ·rename_i y hy;cases h
     have hl':(bif Nat.beq b b0 then s.put x else lookA (qkC arrs (y++rest)) b)=some A:=hl;cases hb:Nat.beq b b0 with
     | true=>
      have:=zd hb; subst this;rw[hb] at hl'; simp only[zb] at hl';rw[Ob.take_put hx] at hl'; injection hl' with hl'; subst hl'
      exact⟨by simp,hA⟩
     | false=>
      rw[hb] at hl';obtain⟨c1,c2⟩:=qoW hy rest b A hl';exact⟨by simp[c1],c2⟩
    ·cases h
   ·cases h
  ·cases h
theorem Rel'.repack{κ κ':St}{j:J}{kr:Nat->SV}{kc:Nat->Nat->SV}{l:List SV}(h:Rel' P w0 M N F U (κ.sub st) a w)(ht:j.take π st=some l)(hok:j.ok=true)(hdup:noDup (j.names.map π)=true)(hpin:PinOk M π j.names)
  (hkp:j.keepOk κ=true) (hkr:∀t,(kr t).res κ'=κ.r t) (hkc:∀b o,(kc b o).res κ'=κ.c b o):Rel' P w0 M N F (U.ren π j.names) (κ'.sub (j.putL kr kc l)) a w:=by
 unfold J.take at ht;split at ht
 ·rename_i x y z hx hy hz;cases ht
  unfold J.ok at hok;simp only[z8] at hok;unfold J.keepOk at hkp;rw[z8] at hkp;obtain⟨r1,r2⟩:=qqL (κ:=κ) (κ':=κ') (kr:=kr) (names:=j.names) hkr (fun t=>h.regs t) hx hok.1.1 hkp.1 (y++z)
  obtain⟨v1,v2⟩:=qqM (P:=P) (F:=F) (w:=w) (U:=U) (κ:=κ) (κ':=κ') (kc:=kc) (names:=j.names) hkc hy hok.1.2 hkp.2 z;have hst:κ'.sub (j.putL kr kc (x++(y++z)))=κ'.sub (mkSt j.names (qkB kr j.regs (x++(y++z))).1 (qfJ kc j.vars (y++z)).1 (qkC j.arrs z)):=by
   unfold J.putL;simp only[r1,v1]
  rw[hst];have ha:∀b A,lookA (qkC j.arrs z) b=some A->b∈j.arrs.map (·.1)/\st.a (π b)=some A:=fun b A hl=>qoW hz [] b A (by rw[zG]; exact hl)
  have hpres:∀b,(κ'.sub (mkSt j.names (qkB kr j.regs (x++(y++z))).1 (qfJ kc j.vars (y++z)).1 (qkC j.arrs z))).present b->b∈j.names/\(κ.sub st).present (π b):=by
   rintro b (hp | hp)
   ·obtain⟨q,hq⟩:=zE1.1 hp;obtain⟨a1,a2,_⟩:=v2 b q.1 q.2 hq;exact⟨zI.2 (.inl a1),.inl (by show st.v (π b)≠none; rw[a2]; simp)⟩
   ·obtain⟨A,hA⟩:=zE1.1 hp;obtain⟨a1,a2⟩:=ha b A hA;exact⟨zI.2 (.inr a1),.inr (by show st.a (π b)≠none; rw[a2]; simp)⟩
  have hren:∀b,b∈j.names->(U.ren π j.names) b=U (π b):=fun b hb=>by unfold Env.ren; rw[if_pos hb]
  refine⟨h.fr,⟨?_,?_,?_,?_,?_,h.mem.fb,?_,h.mem.glob⟩,?_,r2,h.sz,h.df,fun b g hp=>?_⟩
  ·intro b hb;have:b∉j.names:=fun hm=>by have h2:memN j.names b=true:=qaU.2 hm; rw[show memN j.names b=false from hb] at h2; cases h2
   unfold Env.ren; rw[if_neg this]
  ·intro b ty k hvb;obtain⟨a1,a2,a3⟩:=v2 b ty k hvb;obtain⟨g,arr,b1,b2,b3,b4⟩:=h.mem.var (π b) ty k a2;refine⟨g,arr,by rw[hren b (zI.2 (.inl a1))]; exact b1,b2,b3,fun q u hq=>⟨?_,(b4 q u hq).2⟩⟩
   exact a3 q u (by rw[<-b3]; exact(z01.1 hq).1) (b4 q u hq).1
  ·intro b A hA;obtain⟨a1,a2⟩:=ha b A hA;obtain⟨u,b1,b2⟩:=h.mem.arr (π b) A a2;exact⟨u,by rw[hren b (zI.2 (.inr a1))]; exact b1,b2⟩
  ·intro b b' v v' g hp hp' hv1 hv2 hg hg';obtain⟨m1,q1⟩:=hpres b hp;obtain⟨m2,q2⟩:=hpres b' hp';rw[hren b m1] at hv1;rw[hren b' m2] at hv2;exact qvU hdup b b' m1 m2 (h.mem.sep _ _ v v' g q1 q2 hv1 hv2 hg hg')
  ·intro b v g hp hv1 hg;obtain⟨m1,q1⟩:=hpres b hp;rw[hren b m1] at hv1;exact h.mem.own _ v g q1 hv1 hg
  ·intro b v hv1;unfold Env.ren at hv1;split at hv1
   ·exact h.mem.one _ v hv1
   ·cases hv1
  ·intro b v g hp hv1 hg;obtain⟨m1,q1⟩:=hpres b hp;rw[hren b m1] at hv1;exact h.lo _ v g q1 hv1 hg
  ·obtain⟨q1,q2⟩:=hpin b g hp;rw[hren b q1,q2]; exact h.pin b g hp
 ·cases ht
/-! ### An array that is only read from now on -/
def SV.fz(b:Nat)(T:Ty)(l:T.den):SV->SV
 | .own b'=>bif Nat.beq b' b then .v T l else .own b'
 | .agg cs=>.agg (cs.map fun s=>match s with
  | .own b'=>bif Nat.beq b' b then .v T l else .own b'
  | s=>s)
 | s=>s
def St.freezeT(st:St)(b:Nat)(T:Ty)(l:T.den):St:={ st with r:=fun t=>(st.r t).fz b T l,c:=fun b' o=>(st.c b' o).fz b T l,a:=fun x=>bif Nat.beq x b then none else st.a x }
def St.freeze(st:St)(b:Nat):St:=
 match st.a b with
 | some (.arr _ e l)=>st.freezeT b (.sl e) l
 | some (.map _ _ k v l)=>st.freezeT b (.map k v) l
 | _=>st
inductive Ob.Is:Ob->(T:Ty)->T.den->Prop
 | arr {ty e l}:Ob.Is (.arr ty e l) (.sl e) l
 | map {nn ty k v l}:Ob.Is (.map nn ty k v l) (.map k v) l
theorem qDH{b:Nat}{ty:TypeId}{e:Ty}{l:List e.den}{u:Value}(h:MemOk P F w U st)(hA:st.a b=some (.arr ty e l))(hρ:U b=some u):RdV (fun g=>F g\/blkOf u=some g) w (.sl e) l u:=by
 rcases qrq h hA hρ with⟨c,rfl,rfl⟩ | ⟨ad,c,news,rfl,h2,h3,h4⟩
 ·exact⟨[.slice none 0 c],⟨none,c,rfl,rfl⟩,rfl⟩
 ·obtain⟨u',a1,xs,a2,a3⟩:=h.arr b _ hA;rw[hρ] at a1; cases a1
  rcases a2.2 with⟨ad',a2,hl0⟩ | ⟨g,cap,cur,a2,_,a4,a5,_⟩
  ·have hn0:=zk1 hl0;subst hn0;injection a2 with e1 e2 e3; subst e3
   exact⟨[.slice (some ad) 0 0],⟨some ad,0,rfl,fun h=>by omega,zP _,zN _,fun i x hx=>by simp at hx⟩,rfl⟩
  ·injection a2 with e1 e2 e3; injection e1 with e1; subst e1 e3
   have up:∀ {T:Ty} {x:T.den} {cs:List Value},RdC F w T x cs->RdC (fun g'=>F g'\/blkOf (.slice (some ⟨g,0,none⟩) l.length (cap+1))=some g') w T x cs:=fun hh=>hh.mono (fun _ h=>.inl h) (fun _ _=>rfl)
   refine⟨[.slice (some ⟨g,0,none⟩) l.length (cap+1)],⟨some ⟨g,0,none⟩,cap+1,rfl,fun _=>.inr rfl,a4,a5,fun i x hx=>⟨_,up (h4 i x hx),fun j v hj=>?_⟩⟩,rfl⟩
   rw[zr] at hj;split at hj
   ·rw[zE] at hj; exact(h3 _ _ hj).1
   ·cases hj
theorem qFr{b:Nat}{nn:Bool}{ty:TypeId}{k v:Ty}{l:List (k.den×v.den)}{u:Value}(h:MemOk P F w U st)(hA:st.a b=some (.map nn ty k v l))(hρ:U b=some u):RdV (fun g=>F g\/blkOf u=some g) w (.map k v) l u:=by
 obtain⟨u',a1,a2⟩:=h.arr b _ hA;rw[hρ] at a1; cases a1
 rcases a2 with⟨_,rfl,rfl⟩ | ⟨r,es,clock,rfl,h2,h3,Z,h4,h5,h6⟩
 ·exact⟨[.map none],.inl ⟨rfl,rfl⟩,rfl⟩
 ·refine⟨[.map (some r)],.inr ⟨r,es,clock,rfl,.inr rfl,h2,h3,Z,h4,h5.1,fun z hz=>?_⟩,rfl⟩
  obtain⟨⟨c1,p1,p2⟩,⟨c2,q1,q2⟩⟩:=h6 z hz;exact⟨⟨c1,p1.mono (fun _ h=>.inl h) (fun _ _=>rfl),p2⟩,⟨c2,q1.mono (fun _ h=>.inl h) (fun _ _=>rfl),q2⟩⟩
theorem is_rd{b:Nat}{A:Ob}{T:Ty}{x:T.den}{u:Value}(h:MemOk P F w U st)(hA:st.a b=some A)(hi:A.Is T x)(hρ:U b=some u):RdV (fun g=>F g\/blkOf u=some g) w T x u:=by
 cases hi with
 | arr=>exact qDH h hA hρ
 | map=>exact qFr h hA hρ
theorem Den.fz{b:Nat}{e:Ty}{l:e.den}{u:Value}{F':Nat->Prop}(hF:∀g,F g->F' g)(hrd:∀v,U b=some v->RdV F' w e l v):∀ {s:SV},Den P F w U s u->Den P F' w U (s.fz b e l) u:=by
 intro s hd;have up:∀ {s u},Den P F w U s u->Den P F' w U s u:=fun hd=>hd.mono hF (fun _ _=>rfl) _ (fun _ _ h=>h)
 have h1:∀ {b':Nat} {v:Value},U b'=some v->Den P F' w U (bif Nat.beq b' b then SV.v e l else .own b') v:=by
  intro b' v hv;cases hb:Nat.beq b' b with
  | true=>have:=zd hb; subst this; exact .v (hrd v hv)
  | false=>exact .own hv
 cases hd with
 | own hρ=>exact h1 hρ
 | agg hl hi ho=>
  rename_i ss vs;refine .agg (by simpa using hl) (fun i s u hs hu=>?_) ho
  rw[zH] at hs;cases hx:ss[i]? with
  | none=>rw[hx] at hs; cases hs
  | some s0=>
   rw[hx] at hs;simp only[zf1,zt1] at hs;have hd0:=hi i s0 u hx hu;cases s0 with
   | own b'=>subst hs; cases hd0 with | own hρ=>exact h1 hρ
   | _=>subst hs; exact up hd0
 | v h=>exact up (.v h)
 | raw=>exact up (.raw _)
 | any=>exact up (.any _)
 | ptr h=>exact up (.ptr h)
 | ael h hi=>exact up (.ael h hi)
 | aix h hi hm=>exact up (.aix h hi hm)
 | pre h hi=>exact up (.pre h hi)
 | pel h hi=>exact up (.pel h hi)
 | nptr h=>exact up (.nptr h)
 | rest h h1 h2=>exact up (.rest h h1 h2)
 | sel a b c=>exact up (.sel a b c)
 | tup a b=>exact up (.tup a b)
 | when a b=>exact up (.when a b)
 | clo a b=>exact up (.clo a b)
 | fn h=>exact up (.fn h)
 | fmap a b c d e f=>exact up (.fmap a b c d e f)
 | cut h=>exact up (.cut h)
 | nilq h=>exact up (.nilq h)
 | fzd h1 h2=>exact up (.fzd h1 h2)
theorem Rel'.freeze{b:Nat}{A:Ob}{st':St}(h:Rel' P w0 M N F U st a w)(hA:st.a b=some A){u:Value}(hρ:U b=some u)
  (e1:∀t v,Den P F w U (st.r t) v->Den P (fun g=>F g\/blkOf u=some g) w U (st'.r t) v) (e2:∀b' o v,Den P F w U (st.c b' o) v->Den P (fun g=>F g\/blkOf u=some g) w U (st'.c b' o) v)
  (e3:st'.v=st.v) (e4:st'.d=st.d) (e5:st'.a=fun x=>bif Nat.beq x b then none else st.a x):Rel' P w0 M N (fun g=>F g\/blkOf u=some g) U st' a w/\∀g,blkOf u=some g->M.blk g\/w0.heap.size<=g:=by
 have hp0:st.present b:=.inr (by rw[hA]; simp)
 have hv0:st.v b=none:=by
  cases hxv:st.v b with
  | none=>rfl
  | some x=>
   obtain⟨g2,arr,q1,q1b,_⟩:=h.mem.var b x.1 x.2 hxv;obtain⟨u',q2,q3⟩:=h.mem.arr b _ hA;rw[q1] at q2; cases q2
   exact(q3.novar rfl q1b).elim
 have hpr:∀b',st'.present b'->b'≠b/\st.present b':=by
  intro b' hp;by_cases e:b'=b
  ·subst e; exfalso;rcases hp with hp | hp
   ·rw[e3] at hp; exact hp hv0
   ·rw[e5] at hp; exact hp (by simp)
  ·refine⟨e,?_⟩
   rcases hp with hp | hp
   ·rw[e3] at hp; exact .inl hp
   ·rw[e5] at hp; simp only[bq e,zc] at hp; exact .inr hp
 refine⟨⟨h.fr,⟨fun b' hb=>h.mem.dom b' (by rw[<-e4]; exact hb),?_,?_,?_,?_,?_,h.mem.one,h.mem.glob.mono (fun _ h=>.inl h) (fun _ _=>rfl)⟩,?_,fun t=>e1 t _ (h.regs t),h.sz,h.df,h.pin⟩,fun g hg=>h.lo b u g hp0 hρ hg⟩
 ·intro b' ty' k hv;rw[e3] at hv;obtain⟨g,arr,a1,a2,a3,a4⟩:=h.mem.var b' ty' k hv;exact⟨g,arr,a1,a2,a3,fun j x hj=>⟨e2 b' j x (a4 j x hj).1,(a4 j x hj).2⟩⟩
 ·intro b' A hA';rw[e5] at hA';simp only at hA';cases hb:Nat.beq b' b with
  | true=>rw[hb] at hA'; cases hA'
  | false=>
   rw[hb] at hA';obtain⟨v,a1,a2⟩:=h.mem.arr b' A hA';exact⟨v,a1,a2.keep (fun _ h=>.inl h) (fun _ _=>rfl) (fun _ _=>rfl)⟩
 ·intro b1 b2 v1 v2 g p1 p2; exact h.mem.sep b1 b2 v1 v2 g (hpr b1 p1).2 (hpr b2 p2).2
 ·intro b' v g p r hg hF;rcases hF with hF | hF
  ·exact h.mem.own b' v g (hpr b' p).2 r hg hF
  ·exact(hpr b' p).1 (h.mem.sep b' b v u g (hpr b' p).2 hp0 r hρ hg hF)
 ·intro g hg;rcases hg with hg | hg
  ·exact h.mem.fb g hg
  ·exact h.mem.lt hp0 hρ hg
 ·intro b' v g p; exact h.lo b' v g (hpr b' p).2
/-! ### What an operation makes is frozen on the spot -/
def Ob.dat?:Ob->Option ((T:Ty)×T.den)
 | .arr _ e l=>some ⟨.sl e,l⟩
 | .map _ _ k v l=>some ⟨.map k v,l⟩
 | _=>none
theorem Ob.dat?_is{A:Ob}{T:Ty}{x:T.den}(h:A.dat? = some ⟨T,x⟩):A.Is T x:=by
 cases A with
 | arr=>injection h with h; cases h; exact .arr
 | map=>injection h with h; cases h; exact .map
 | iter=>cases h
def frzW(wr:List Wr):Option (List Wr):=
 match wr.reverse with
 | .r d (.own n)::.a n' (some A)::_=>bif Nat.beq n n' then(match A.dat? with
   | some ⟨T,x⟩=>some (wr++[.a n none,.r d (.v T x)])
   | none=>none) else none
 | _=>none
theorem qxX{wr wr':List Wr}(h:frzW wr=some wr'){a:Act}{w:World}(hr:Rel P w0 M N F0 (st.app wr) a w):Rel P w0 M N F0 (st.app wr') a w:=by
 unfold frzW at h;split at h
 ·rename_i d n n' A rest hrev;cases hb:Nat.beq n n' with
  | false=>rw[hb] at h; cases h
  | true=>
   rw[hb] at h; simp only[zb] at h;have:=zd hb;subst this;split at h
   ·rename_i T x hd;cases h
    have hwr:wr=rest.reverse++[.a n (some A),.r d (.own n)]:=by
     have:=congrArg List.reverse hrev;rw[List.reverse_reverse] at this;rw[this]; simp
    rw[qcy];have hSa:(st.app wr).a n=some A:=by
     rw[hwr,qcy];show(bif Nat.beq n n then some A else _)=some A;simp
    have hSr:(st.app wr).r d=.own n:=by
     rw[hwr,qcy];show(bif Nat.beq d d then SV.own n else _)=.own n;simp
    generalize st.app wr=S at hr hSa hSr;obtain⟨F,U,h,hF⟩:=hr;obtain⟨u,hu,_⟩:=h.mem.arr n A hSa;have hrd:=is_rd h.mem hSa (Ob.dat?_is hd) hu
    obtain⟨h1,h2⟩:=h.freeze (st':=(S.put (.a n none)).put (.r d (.v T x))) hSa hu (fun t v hv=>by
     show Den P _ w U (bif Nat.beq t d then SV.v T x else S.r t) v;cases ht:Nat.beq t d with
     | true=>
      have:=zd ht;subst this;rw[hSr] at hv;cases hv with
      | own hv=>rw[hu] at hv; cases hv; exact .v hrd
     | false=>exact hv.mono (fun _ h=>.inl h) (fun _ _=>rfl) _ (fun _ _ h=>h)) (fun b' o v hv=>hv.mono (fun _ h=>.inl h) (fun _ _=>rfl) _ (fun _ _ h=>h)) rfl rfl rfl
    exact⟨_,U,h1,fun g hg=>.inl (hF.1 g hg),fun g hg=>hg.elim (hF.2 g) fun hg=>.inr (h2 g hg)⟩
   ·cases h
 ·cases h
theorem RT.frz{ops:Array Oper}{o:Oper}{rd:List Key}{wr wr':List Wr}(h:RT P w0 M N F0 ops o st rd wr)(hf:frzW wr=some wr'):RT P w0 M N F0 ops o st rd wr':=by
 intro st' hag a w hr;have h1:=h st' hag a w hr;split
 ·rename_i hw;rw[if_pos hw] at h1;exact Oper.wp_mono (fun a' w' hr'=>qxX hf hr') h1
 ·rename_i hw;rw[if_neg hw] at h1;exact qxX hf h1
end
structure Fun where
 f:FuncId
 np:Nat
 nr:Nat
 ji:J
 jo:J
 tw:CT ji.ct->Option (CT jo.ct)
def κ0:St:=mkSt [] [] [] []
def J.put0(j:J)(x:CT j.ct):St:=κ0.sub (j.put (fun _=>.any) (fun _ _=>.any) x)
def resSV(n:Nat)(st:St):SV:=bif Nat.beq n 1 then st.r 0 else .tup ((List.range n).map st.r)
def InBlk(U:Env)(names:List Nat)(g:Nat):Prop:=∃b v,b∈names/\U b=some v/\blkOf v=some g
def FnOk(P:Program)(f:FuncId):Prop:=∃fn,P.funcs[f]? = some fn/\(fn.name == "runtime.NumGoroutine")=false/\fn.body.isNone=false
theorem qgL{P:Program}{f:FuncId}(h:FnOk P f)(args:Array Value)(w:World):(callFunc f args).run P w=.ok (.enter f args) w:=by
 obtain⟨fn,h1,h2,h3⟩:=h;have h2':¬fn.name = "runtime.NumGoroutine" :=by simpa using h2
 have h3':fn.body≠none:=by intro e; rw[e] at h3; cases h3
 simp[callFunc,h1,h2',h3']
structure FunOk(P:Program)(e:Fun):Prop where
 ok:FnOk P e.f
 run:∀x y,e.tw x=some y->∀(F:Nat->Prop) (w:World) (U:Env) (vs:List Value),vs.length=e.np->MemOk P F w U (e.ji.put0 x)->(∀i u,vs[i]? = some u->Den P F w U ((e.ji.put0 x).r i) u)->
  Calls P e.f vs.toArray w fun en w'=>∃r F' U',en=.returned r/\Fr w (InBlk U e.ji.names) w'/\(∀g,F g->F' g)/\(∀g,F' g->F g\/InBlk U e.ji.names g\/w.heap.size<=g)/\MemOk P F' w' U' (e.jo.put0 y)∧
   (∀b v,b∈e.ji.names->b∈e.jo.names->U b=some v->U' b=some v)/\(∀b v g,(e.jo.put0 y).present b->U' b=some v->blkOf v=some g->InBlk U e.ji.names g\/w.heap.size<=g)/\Den P F' w' U' (resSV e.nr (e.jo.put0 y)) r
/-! ### Names are changed -/
def SV.ren1(σ:Nat->Nat):SV->SV
 | .ptr b o=>.ptr (σ b) o
 | .nptr b o=>.nptr (σ b) o
 | .own b=>.own (σ b)
 | .ael b k i o=>.ael (σ b) k i o
 | .v T x=>.v T x
 | .raw u=>.raw u
 | .sel T x o=>.sel T x o
 | .fn ps r g=>.fn ps r g
 | .fmap ps r ks g=>.fmap ps r ks g
 | .cut e l=>.cut e l
 | _=>.any
def SV.ren2(σ:Nat->Nat):SV->SV
 | .agg cs=>.agg (cs.map (SV.ren1 σ))
 | s=>s.ren1 σ
def SV.ren(σ:Nat->Nat):SV->SV
 | .tup cs=>.tup (cs.map (SV.ren2 σ))
 | s=>s.ren2 σ
section
variable {P:Program} {F:Nat->Prop} {w:World} {U V2:Env} {σ:Nat->Nat}
theorem Den.ren1(hρ:∀b v,U b=some v->V2 (σ b)=some v){s:SV}{u:Value}(h:Den P F w U s u):Den P F w V2 (s.ren1 σ) u:=by
 cases h with
 | v h=>exact .v h
 | raw=>exact .raw _
 | nptr h=>exact .nptr (h.imp (fun h=>h) fun⟨g,h1,h2⟩=>⟨g,hρ _ _ h1,h2⟩)
 | ptr h=>exact .ptr (hρ _ _ h)
 | ael h hi=>exact .ael (hρ _ _ h) hi
 | own h=>exact .own (hρ _ _ h)
 | sel a b c=>exact .sel a b c
 | fn h=>exact .fn h
 | fmap a b c d e f=>exact .fmap a b c d e f
 | cut h=>exact .cut h
 | _=>exact .any _
theorem Den.ren2(hρ:∀b v,U b=some v->V2 (σ b)=some v){s:SV}{u:Value}(h:Den P F w U s u):Den P F w V2 (s.ren2 σ) u:=by
 cases h with
 | agg hl hi h1=>
  refine .agg (by simpa using hl) (fun i s u hs hu=>?_) h1
  rw[zH] at hs;obtain⟨s0,hs0,rfl⟩:=zg1.1 hs;exact(hi i s0 u hs0 hu).ren1 hρ
 | v h=>exact .v h
 | raw=>exact .raw _
 | nptr h=>exact .nptr (h.imp (fun h=>h) fun⟨g,h1,h2⟩=>⟨g,hρ _ _ h1,h2⟩)
 | ptr h=>exact .ptr (hρ _ _ h)
 | ael h hi=>exact .ael (hρ _ _ h) hi
 | own h=>exact .own (hρ _ _ h)
 | sel a b c=>exact .sel a b c
 | fn h=>exact .fn h
 | fmap a b c d e f=>exact .fmap a b c d e f
 | cut h=>exact .cut h
 | _=>exact .any _
theorem Den.ren(hρ:∀b v,U b=some v->V2 (σ b)=some v){s:SV}{u:Value}(h:Den P F w U s u):Den P F w V2 (s.ren σ) u:=by
 cases h with
 | tup hl hi=>
  refine .tup (by simpa using hl) (fun i s u hs hu=>?_)
  rw[zH] at hs;obtain⟨s0,hs0,rfl⟩:=zg1.1 hs;exact(hi i s0 u hs0 hu).ren2 hρ
 | agg hl hi h1=>exact(Den.agg hl hi h1).ren2 hρ
 | v h=>exact .v h
 | raw=>exact .raw _
 | nptr h=>exact .nptr (h.imp (fun h=>h) fun⟨g,h1,h2⟩=>⟨g,hρ _ _ h1,h2⟩)
 | ptr h=>exact .ptr (hρ _ _ h)
 | ael h hi=>exact .ael (hρ _ _ h) hi
 | own h=>exact .own (hρ _ _ h)
 | sel a b c=>exact .sel a b c
 | fn h=>exact .fn h
 | fmap a b c d e f=>exact .fmap a b c d e f
 | cut h=>exact .cut h
 | _=>exact .any _
def Ty.flat:Ty->Bool
 | .sl _=>false
 | .map _ _=>false
 | .clo _ _=>false
 | .pair a b=>a.flat&&b.flat
 | .arr _ e=>e.flat
 | _=>true
theorem RdC.flat{F F':Nat->Prop}{w w':World}:∀ {T:Ty} {x:T.den} {cs:List Value},T.flat=true->RdC F w T x cs->RdC F' w' T x cs
 | .unit,_,_,_,h=>h
 | .int _,_,_,_,h=>h
 | .bool,_,_,_,h=>h
 | .str,_,_,_,h=>h
 | .sl _,_,_,hf,_=>by cases hf
 | .map _ _,_,_,hf,_=>by cases hf
 | .clo _ _,_,_,hf,_=>by cases hf
 | .pair a b,_,_,hf,h=>by
  simp only[Ty.flat,z8] at hf;obtain⟨c1,c2,rfl,h1,h2⟩:=h;exact⟨c1,c2,rfl,h1.flat hf.1,h2.flat hf.2⟩
 | .err,_,_,_,h=>h
 | .fnc _,_,_,_,h=>h
 | .fnl _,_,_,_,h=>h
 | .arr n e,x,cs,hf,h=>RdAr.mono (fun x c hc=>RdC.flat (T:=e) hf hc) h
def SV.free1:SV->Bool
 | .v T _=>T.flat
 | .any | .ptr _ _ | .own _=>true
 | _=>false
def SV.free2:SV->Bool
 | .agg cs=>cs.all SV.free1
 | s=>s.free1
def SV.free3:SV->Bool
 | .tup cs=>cs.all SV.free2
 | s=>s.free2
theorem Den.free1{F':Nat->Prop}{w':World}{s:SV}{u:Value}(h:Den P F w U s u)(hf:s.free1=true):Den P F' w' U s u:=by
 cases h with
 | v h=>obtain⟨cs,a,b⟩:=h; exact .v ⟨cs,a.flat hf,b⟩
 | any=>exact .any _
 | ptr h=>exact .ptr h
 | own h=>exact .own h
 | _=>cases hf
theorem Den.free2{F':Nat->Prop}{w':World}{s:SV}{u:Value}(h:Den P F w U s u)(hf:s.free2=true):Den P F' w' U s u:=by
 cases h with
 | agg hl hi h1=>
  simp only[SV.free2,zq] at hf;exact .agg hl (fun i s u hs hu=>(hi i s u hs hu).free1 (hf s (zK hs))) h1
 | v h=>exact(Den.v h).free1 hf
 | any=>exact .any _
 | ptr h=>exact .ptr h
 | own h=>exact .own h
 | _=>cases hf
theorem Den.free3{F':Nat->Prop}{w':World}{s:SV}{u:Value}(h:Den P F w U s u)(hf:s.free3=true):Den P F' w' U s u:=by
 cases h with
 | tup hl hi=>
  simp only[SV.free3,zq] at hf;exact .tup hl (fun i s u hs hu=>(hi i s u hs hu).free2 (hf s (zK hs)))
 | agg hl hi h1=>exact(Den.agg hl hi h1).free2 hf
 | v h=>exact(Den.v h).free1 hf
 | any=>exact .any _
 | ptr h=>exact .ptr h
 | own h=>exact .own h
 | _=>cases hf
def Ob.free:Ob->Bool
 | .arr _ e _=>e.flat
 | .map _ _ k v _=>k.flat&&v.flat
 | .iter _ _ _ _=>false
theorem ObOk.free{F':Nat->Prop}{A:Ob}{u:Value}(h:ObOk F w A u)(hf:A.free=true):ObOk F' w A u:=by
 cases A with
 | arr ty e l=>obtain⟨xs,h1,h2⟩:=h; exact⟨xs,h1,fun i x hx=>(h2 i x hx).flat hf⟩
 | map nn ty k v l=>
  simp only[Ob.free,z8] at hf;rcases h with h | ⟨r,es,cl,h1,h2,h3,Z,h4,h5,h6⟩
  ·exact .inl h
  refine .inr ⟨r,es,cl,h1,h2,h3,Z,h4,h5,fun z hz=>?_⟩
  obtain⟨⟨c1,a1,a2⟩,⟨c2,b1,b2⟩⟩:=h6 z hz;exact⟨⟨c1,a1.flat hf.1,a2⟩,⟨c2,b1.flat hf.2,b2⟩⟩
 | iter=>cases hf
end
section
variable {P:Program} {w0:World} {M:Mod} {N:Nat} {F0:Nat->Prop} {ops:Array Oper}
variable {F:Nat->Prop} {U:Env} {st:St} {a:Act} {w:World}
/-! ### Many objects go, many come -/
def qhs(l:List Nat):List Wr:=l.flatMap fun b=>[.v b none,.a b none]
theorem Rel'.dropAll:∀(l:List Nat) {st:St},Rel' P w0 M N F U st a w->Rel' P w0 M N F U (st.app (qhs l)) a w
 | [],_,h=>h
 | b::l,st,h=>Rel'.dropAll l ((h.dropV b).dropA b)
theorem qvW:∀(l:List Nat) (st:St),(st.app (qhs l)).r=st.r/\(st.app (qhs l)).c=st.c/\(st.app (qhs l)).d=st.d∧
  (∀b,(st.app (qhs l)).v b=if b∈l then none else st.v b)/\(∀b,(st.app (qhs l)).a b=if b∈l then none else st.a b)
 | [],st=>⟨rfl,rfl,rfl,fun b=>by simp[qhs,St.app],fun b=>by simp[qhs,St.app]⟩
 | b0::l,st=>by
  obtain⟨h1,h2,h3,h4,h5⟩:=qvW l ((st.put (.v b0 none)).put (.a b0 none));refine⟨h1,h2,h3,fun b=>(h4 b).trans ?_,fun b=>(h5 b).trans ?_⟩
  ·by_cases e:b∈l
   ·rw[if_pos e,if_pos (by simp[e])]
   ·rw[if_neg e];show(bif Nat.beq b b0 then none else st.v b)=_;by_cases e2:b=b0
    ·subst e2; simp
    ·rw[bq e2,if_neg (by simp[e,e2])]; rfl
  ·by_cases e:b∈l
   ·rw[if_pos e,if_pos (by simp[e])]
   ·rw[if_neg e];show(bif Nat.beq b b0 then none else st.a b)=_;by_cases e2:b=b0
    ·subst e2; simp
    ·rw[bq e2,if_neg (by simp[e,e2])]; rfl
def Env.sets(U:Env):List (Nat×Value)->Env
 | []=>U
 | (b,u)::l=>Env.sets (U.set b u) l
theorem Rel'.nameAll:∀(l:List (Nat×Value)) {st:St} {U:Env},Rel' P w0 M N F U st a w->noDup (l.map (·.1))=true->(∀p∈l,st.d p.1=false/\p.2.oneCell'=true)->
  Rel' P w0 M N F (U.sets l) (st.app (l.map fun p=>.d p.1)) a w/\(∀b v,U b=some v->(U.sets l) b=some v)/\(∀p∈l,(U.sets l) p.1=some p.2)/\(∀b v,(U.sets l) b=some v->b∉l.map (·.1)->U b=some v)∧
   (st.app (l.map fun p=>.d p.1)).r=st.r/\(st.app (l.map fun p=>.d p.1)).c=st.c/\(st.app (l.map fun p=>.d p.1)).v=st.v/\(st.app (l.map fun p=>.d p.1)).a=st.a
 | [],st,U,h,_,_=>⟨h,(fun _ _ h=>h),(fun p hp=>by cases hp),(fun _ _ h _=>h),rfl,rfl,rfl,rfl⟩
 | (b0,u0)::l,st,U,h,hd,hp=>by
  simp only[z81,noDup,z8,zt] at hd;have h0:=hp (b0,u0) (by simp)
  have hρ0:=h.mem.dom b0 h0.1;have h1:=h.name (b:=b0) (u:=u0) h0.1 h0.2;have hne:∀p∈l,p.1≠b0:=fun p hpl e=>by
   have:memN (l.map (·.1)) b0=true:=qaU.2 (by rw[<-e]; exact zz1 hpl)
   rw[hd.1] at this; cases this
  obtain⟨a1,a2,a3,a4,a5,a6,a7,a8⟩:=Rel'.nameAll l h1 hd.2 (fun p hpl=>⟨by
   show(bif Nat.beq p.1 b0 then true else st.d p.1)=false;rw[bq (hne p hpl)]; exact(hp p (by simp[hpl])).1,(hp p (by simp[hpl])).2⟩)
  have hset:∀b v,U b=some v->(U.set b0 u0) b=some v:=fun b v hb=>by
   unfold Env.set; rw[if_neg (fun e=>by subst e; rw[hρ0] at hb; cases hb)]; exact hb
  refine⟨a1,fun b v hb=>a2 b v (hset b v hb),fun p hpm=>?_,fun b v hb hn=>?_,a5,a6,a7,a8⟩
  ·rcases zy.1 hpm with rfl | hpl
   ·exact a2 _ _ (by unfold Env.set; rw[if_pos rfl])
   ·exact a3 p hpl
  ·simp only[z81,zy,not_or] at hn;have:=a4 b v hb hn.2;unfold Env.set at this;rwa[if_neg hn.1] at this
def qlc(σ:Nat->Nat)(sc:St):List (Nat×TypeId×List Sh1)->List Wr
 | []=>[]
 | (b,ty,l)::r=>(.v (σ b) (some (ty,((qbw sc b 0 l.length).map (SV.ren1 σ)).length))::qcU (σ b) 0 ((qbw sc b 0 l.length).map (SV.ren1 σ)))++qlc σ sc r
def qld(σ:Nat->Nat)(sc:St):List (Nat×ObSh)->List Wr
 | []=>[]
 | (b,_)::r=>.a (σ b) (sc.a b)::qld σ sc r
structure Come(P:Program)(w0:World)(M:Mod)(F:Nat->Prop)(w:World)(σ:Nat->Nat)(names:List Nat)(sc:St)(Uc U:Env)(old:Nat->Prop)(st:St):Prop where
 inj:∀b b',b∈names->b'∈names->σ b=σ b'->b=b'
 env:∀b v,Uc b=some v->U (σ b)=some v
 sep:∀b b' v v' g,sc.present b->sc.present b'->Uc b=some v->Uc b'=some v'->blkOf v=some g->blkOf v'=some g->b=b'
 named:∀b,sc.present b->b∈names/\∃v,Uc b=some v
 notF:∀b v g,sc.present b->Uc b=some v->blkOf v=some g->¬F g
 lo:∀b v g,sc.present b->Uc b=some v->blkOf v=some g->M.blk g\/w0.heap.size<=g
 apart:∀b v g b' v',sc.present b->Uc b=some v->blkOf v=some g->old b'->U b'=some v'->blkOf v'≠some g
 pres:∀b,st.present b->old b\/∃b0,b=σ b0/\sc.present b0
 notold:∀b,b∈names->¬old (σ b)
theorem Come.vars{σ:Nat->Nat}{names:List Nat}{sc:St}{Uc U:Env}{old:Nat->Prop}
  (hvar:∀b ty k,sc.v b=some (ty,k)->∃g arr,Uc b=some (.pointer (some ⟨g,0,none⟩))/\w.heap[g]? = some (.cells arr ty (0,0))/\arr.size=k/\∀j x,arr[j]? = some x->Den P F w U ((sc.c b j).ren1 σ) x/\x.oneCell'=true):
  ∀(vs:List (Nat×TypeId×List Sh1)) {st:St},Rel' P w0 M N F U st a w->Come P w0 M F w σ names sc Uc U old st->(∀p∈vs,p.1∈names/\sc.v p.1=some (p.2.1,p.2.2.length)/\st.a (σ p.1)=none)->
   Rel' P w0 M N F U (st.app (qlc σ sc vs)) a w/\Come P w0 M F w σ names sc Uc U old (st.app (qlc σ sc vs))/\(st.app (qlc σ sc vs)).r=st.r/\(st.app (qlc σ sc vs)).a=st.a/\(st.app (qlc σ sc vs)).d=st.d∧
    (∀b,b∉vs.map (fun p=>σ p.1)->(st.app (qlc σ sc vs)).v b=st.v b)
 | [],st,h,hc,_=>⟨h,hc,rfl,rfl,rfl,fun _ _=>rfl⟩
 | (b,ty,l)::vs,st,h,hc,hp=>by
  obtain⟨p1,p2,p3⟩:=hp (b,ty,l) (by simp)
  simp only at p1 p2 p3;obtain⟨g,arr,v1,v2,v3,v4⟩:=hvar b ty l.length p2;have hscp:sc.present b:=.inl (by rw[p2]; simp)
  have hlen:((qbw sc b 0 l.length).map (SV.ren1 σ)).length=l.length:=by rw[zQ,qel]
  have h1:=h.addV (b:=σ b) (ty:=ty) (cs:=(qbw sc b 0 l.length).map (SV.ren1 σ)) (arr:=arr) (hc.env _ _ v1) p3 v2 (by rw[hlen,v3]) (fun j s x hs hx=>by
   rw[zH] at hs;obtain⟨s0,hs0,rfl⟩:=zg1.1 hs;have hj:j<l.length:=by have:=(zp.1 hs0).1; rwa[qel] at this
   rw[qfI hj,z11] at hs0; cases hs0
   exact v4 j x hx) (fun b' v hne hpb hv' hg=>by
   rcases hc.pres b' hpb with ho | ⟨b0,rfl,hb0⟩
   ·exact hc.apart b _ g b' v hscp v1 rfl ho hv' hg
   ·obtain⟨hb0n,v0,hv0⟩:=hc.named b0 hb0;have:=hc.env b0 v0 hv0;rw[hv'] at this; cases this
    exact hne (by rw[hc.sep b0 b _ _ g hb0 hscp hv0 v1 hg rfl])) (hc.notF b _ g hscp v1 rfl) (hc.lo b _ g hscp v1 rfl)
  obtain⟨e1,e2,e3,e4,e5,e6,e7⟩:=qjV (σ b) ((qbw sc b 0 l.length).map (SV.ren1 σ)) 0 (st.put (.v (σ b) (some (ty,((qbw sc b 0 l.length).map (SV.ren1 σ)).length))));have hV:∀b',(st.app (.v (σ b) (some (ty,((qbw sc b 0 l.length).map (SV.ren1 σ)).length))::qcU (σ b) 0 ((qbw sc b 0 l.length).map (SV.ren1 σ)))).v b'=if b'=σ b then some (ty,((qbw sc b 0 l.length).map (SV.ren1 σ)).length) else st.v b':=by
   intro b';show(St.app _ (qcU (σ b) 0 _)).v b'=_;rw[e2];show(bif Nat.beq b' (σ b) then _ else st.v b')=_;by_cases e:b'=σ b
   ·subst e; simp
   ·simp[bq e,e]
  have hA:(st.app (.v (σ b) (some (ty,((qbw sc b 0 l.length).map (SV.ren1 σ)).length))::qcU (σ b) 0 ((qbw sc b 0 l.length).map (SV.ren1 σ)))).a=st.a:=e3;have hc1:Come P w0 M F w σ names sc Uc U old (st.app (.v (σ b) (some (ty,((qbw sc b 0 l.length).map (SV.ren1 σ)).length))::qcU (σ b) 0 ((qbw sc b 0 l.length).map (SV.ren1 σ)))):=
   ⟨hc.inj,hc.env,hc.sep,hc.named,hc.notF,hc.lo,hc.apart,fun b' hpb=>by
    by_cases e:b'=σ b
    ·exact .inr ⟨b,e,hscp⟩
    ·refine hc.pres b' ?_
     unfold St.present at hpb ⊢;rw[hV,hA,if_neg e] at hpb; exact hpb,hc.notold⟩
  obtain⟨r1,r2,r3,r4,r5,r6⟩:=Come.vars hvar vs h1 hc1 (fun p hpm=>by
   obtain⟨q1,q2,q3⟩:=hp p (by simp[hpm])
   exact⟨q1,q2,by rw[hA]; exact q3⟩)
  simp only[qlc];rw[qcy];refine⟨r1,r2,r3.trans e1,r4.trans hA,r5.trans e4,fun b' hb'=>?_⟩
  simp only[z81,zy,not_or] at hb';rw[r6 b' hb'.2,hV,if_neg hb'.1]
theorem Come.arrs{σ:Nat->Nat}{names:List Nat}{sc:St}{Uc U:Env}{old:Nat->Prop}
  (harr:∀b A,sc.a b=some A->∃u,Uc b=some u/\ObOk F w A u):
  ∀(vs:List (Nat×ObSh)) {st:St},Rel' P w0 M N F U st a w->Come P w0 M F w σ names sc Uc U old st->(∀p∈vs,p.1∈names/\st.v (σ p.1)=none)->
   Rel' P w0 M N F U (st.app (qld σ sc vs)) a w/\(st.app (qld σ sc vs)).r=st.r/\(st.app (qld σ sc vs)).d=st.d
 | [],st,h,hc,_=>⟨h,rfl,rfl⟩
 | (b,s)::vs,st,h,hc,hp=>by
  obtain⟨p1,p2⟩:=hp (b,s) (by simp)
  simp only at p1 p2;have step:Rel' P w0 M N F U (st.put (.a (σ b) (sc.a b))) a w/\Come P w0 M F w σ names sc Uc U old (st.put (.a (σ b) (sc.a b))):=by
   cases hA:sc.a b with
   | none=>
    refine⟨h.dropA (σ b),hc.inj,hc.env,hc.sep,hc.named,hc.notF,hc.lo,hc.apart,fun b' hpb=>hc.pres b' ?_,hc.notold⟩
    rcases hpb with hpb | hpb
    ·exact .inl hpb
    ·refine .inr ?_
     have hpb':(bif Nat.beq b' (σ b) then none else st.a b')≠none:=hpb;cases e:Nat.beq b' (σ b) with
     | true=>rw[e] at hpb'; exact absurd rfl hpb'
     | false=>rw[e] at hpb'; exact hpb'
   | some A=>
    have hscp:sc.present b:=.inr (by rw[hA]; simp)
    obtain⟨u,u1,u2⟩:=harr b A hA;refine⟨h.addA (b:=σ b) (A:=A) (hc.env _ _ u1) p2 u2 (fun g hg=>⟨fun b' v hne hpb hv' hg'=>?_,hc.notF b u g hscp u1 hg,hc.lo b u g hscp u1 hg⟩),
     hc.inj,hc.env,hc.sep,hc.named,hc.notF,hc.lo,hc.apart,fun b' hpb=>?_,hc.notold⟩
    ·rcases hc.pres b' hpb with ho | ⟨b0,rfl,hb0⟩
     ·exact hc.apart b _ g b' v hscp u1 hg ho hv' hg'
     ·obtain⟨hb0n,v0,hv0⟩:=hc.named b0 hb0;have:=hc.env b0 v0 hv0;rw[hv'] at this; cases this
      exact hne (by rw[hc.sep b0 b _ _ g hb0 hscp hv0 u1 hg' hg])
    ·by_cases e:b'=σ b
     ·exact .inr ⟨b,e,hscp⟩
     ·refine hc.pres b' ?_
      rcases hpb with hpb | hpb
      ·exact .inl hpb
      ·refine .inr ?_
       have hpb':(bif Nat.beq b' (σ b) then some A else st.a b')≠none:=hpb;rw[bq e] at hpb'; exact hpb'
  obtain⟨r1,r2,r3⟩:=Come.arrs harr vs step.1 step.2 (fun p hpm=>by
   obtain⟨q1,q2⟩:=hp p (by simp[hpm]); exact⟨q1,q2⟩)
  exact⟨r1,r2,r3⟩
end
/-! ### What stands for the names of a shape -/
def pair1:Sh1->SV->List (Nat×Nat)
 | .ptr b _,.ptr b' _=>[(b,b')]
 | .own b,.own b'=>[(b,b')]
 | .ael b _,.ael b' _ _ _=>[(b,b')]
 | _,_=>[]
def pairL:List Sh1->List SV->List (Nat×Nat)
 | h::r,s::l=>pair1 h s++pairL r l
 | _,_=>[]
def qFs:Sh->SV->List (Nat×Nat)
 | .one h,s=>pair1 h s
 | .agg l,.agg cs=>pairL l cs
 | _,_=>[]
def qxY(st:St):List (Nat×Sh)->List (Nat×Nat)
 | []=>[]
 | (t,s)::r=>qFs s (st.r t)++qxY st r
def lookN:List (Nat×Nat)->Nat->Nat
 | [],b=>b
 | (x,y)::r,b=>bif Nat.beq b x then y else lookN r b
def qxZ(st:St):List (Nat×TypeId×List Sh1)->List (Nat×Nat)->List (Nat×Nat)
 | [],ps=>ps
 | (b,_,l)::r,ps=>qxZ st r (ps++pairL l (qbw st (lookN ps b) 0 l.length))
def J.pairs(j:J)(st:St):List (Nat×Nat):=qxZ st j.vars (qxY st j.regs)
def J.ren(j:J)(st:St):Nat->Nat:=lookN (j.pairs st)
def qul:Sh1->Bool
 | .keep=>false
 | _=>true
def qum:List (Nat×Sh)->Bool
 | []=>true
 | (_,.one .keep)::_=>false
 | _::r=>qum r
def J.noKeep(j:J):Bool:=qum j.regs&&j.vars.all (fun p=>p.2.2.all qul)
theorem qAw{j:J}{κ:St}(h:j.noKeep=true):j.keepOk κ=true:=by
 unfold J.noKeep at h;rw[z8] at h;unfold J.keepOk;rw[z8];refine⟨?_,?_⟩
 ·have:∀l:List (Nat×Sh),qum l=true->keepR κ l=true:=by
   intro l;induction l with
   | nil=>intro _; rfl
   | cons p l ih=>
    obtain⟨t,s⟩:=p;intro hl;unfold qum at hl;split at hl
    ·rename_i e; cases e
    ·cases hl
    ·rename_i hno e;injection e with e1 e2; subst e1 e2
     unfold keepR;split
     ·rename_i e; cases e
     ·rename_i e; injection e with e1 e2; injection e1 with e1 e3; exact(hno _ (by rw[e3])).elim
     ·rename_i e; injection e with e1 e2; subst e2; exact ih hl
  exact this _ h.1
 ·have hc:∀(b:Nat) (l:List Sh1) (o:Nat),l.all qul=true->keepC κ b o l=true:=by
   intro b l;induction l with
   | nil=>intro o _; rfl
   | cons s l ih=>
    intro o hl;simp only[z41,z8] at hl;cases s <;> first | exact ih _ hl.2 | (simp[qul] at hl)
  have hv:∀l:List (Nat×TypeId×List Sh1),l.all (fun p=>p.2.2.all qul)=true->keepV κ l=true:=by
   intro l;induction l with
   | nil=>intro _; rfl
   | cons p l ih=>
    obtain⟨b,ty,cs⟩:=p;intro hl;simp only[z41,z8] at hl;simp only[keepV,z8];exact⟨hc b cs 0 hl.1,ih hl.2⟩
  exact hv _ h.2
/-! ### Taking from states that agree -/
theorem qlR{π:Nat->Nat}{st st':St}{b b':Nat}:∀ {l:List Sh1} {o:Nat},(∀j,j<l.length->st.c b' (o+j)=st'.c b' (o+j))->qhr π st b b' o l=qhr π st' b b' o l
 | [],_,_=>rfl
 | s::l,o,h=>by
  have h0:=h 0 (by simp)
  rw[zC1] at h0;simp only[qhr,h0];have ih:=qlR (π:=π) (st:=st) (st':=st') (b:=b) (b':=b') (l:=l) (o:=o+1) (fun j hj=>by
   have h1:=h (j+1) (by simpa using hj)
   have e:o+(j+1)=o+1+j:=by omega
   rw[e] at h1; exact h1)
  rw[ih]
theorem qnF{π:Nat->Nat}{st st':St}:∀ {l:List (Nat×TypeId×List Sh1)},(∀p∈l,st.v (π p.1)=st'.v (π p.1)/\∀j,j<p.2.2.length->st.c (π p.1) j=st'.c (π p.1) j)->qg4 π st l=qg4 π st' l
 | [],_=>rfl
 | (b,ty,cs)::l,h=>by
  obtain⟨h1,h2⟩:=h (b,ty,cs) (by simp)
  simp only[qg4];rw[h1,qlR (st:=st) (st':=st') (l:=cs) (o:=0) (fun j hj=>by rw[z11]; exact h2 j hj),qnF (l:=l) (fun p hp=>h p (by simp[hp]))]
theorem qnG{π:Nat->Nat}{st st':St}:∀ {l:List (Nat×ObSh)},(∀p∈l,st.a (π p.1)=st'.a (π p.1))->qg5 π st l=qg5 π st' l
 | [],_=>rfl
 | (b,s)::l,h=>by
  simp only[qg5];rw[h (b,s) (by simp),qnG (l:=l) (fun p hp=>h p (by simp[hp]))]
theorem qnH{π:Nat->Nat}{st st':St}(h:st.r=st'.r):∀ {l:List (Nat×Sh)},qjd π st l=qjd π st' l
 | []=>rfl
 | (t,s)::l=>by simp only[qjd,h,qnH h (l:=l)]
theorem qoX{π:Nat->Nat}{st:St}:∀ {l:List (Nat×TypeId×List Sh1)} {cs:List SV},qg4 π st l=some cs->∀b∈l.map (·.1),st.v (π b)≠none
 | [],_,_,b,hb=>by simp at hb
 | (b0,ty,sh)::l,cs,h,b,hb=>by
  simp only[qg4] at h;split at h
  ·rename_i ty' k hv;generalize (Nat.beq ty' ty&&Nat.beq k sh.length)=c at h;cases c with
   | false=>cases h
   | true=>
    simp only[zb] at h;split at h
    ·split at h
     ·rename_i y hy;rcases zy.1 (by simpa using hb:b∈b0::l.map (·.1)) with rfl | hb
      ·rw[hv]; simp
      ·exact qoX hy b hb
     ·cases h
    ·cases h
  ·cases h
theorem qoY{π:Nat->Nat}{st:St}:∀ {l:List (Nat×ObSh)} {cs:List SV},qg5 π st l=some cs->∀b∈l.map (·.1),st.a (π b)≠none
 | [],_,_,b,hb=>by simp at hb
 | (b0,s)::l,cs,h,b,hb=>by
  simp only[qg5] at h;split at h
  ·rename_i A hA;split at h
   ·split at h
    ·rename_i y hy;rcases zy.1 (by simpa using hb:b∈b0::l.map (·.1)) with rfl | hb
     ·rw[hA]; simp
     ·exact qoY hy b hb
    ·cases h
   ·cases h
  ·cases h
theorem qAx{j:J}{π:Nat->Nat}{st:St}{cs:List SV}(h:j.take π st=some cs):∀b∈j.names,st.present (π b):=by
 unfold J.take at h;split at h
 ·rename_i x y z hx hy hz;intro b hb;rcases zI.1 hb with hb | hb
  ·exact .inl (qoX hy b hb)
  ·exact .inr (qoY hz b hb)
 ·cases h
theorem qqN{kc:Nat->Nat->SV}{b:Nat}:∀ {l:List Sh1} {o:Nat} {cs:List SV},(qeO kc b o l cs).1.length=l.length
 | [],_,_=>rfl
 | s::l,o,cs=>by simp only[qeO,zf,qqN]
theorem qqO{kc:Nat->Nat->SV}:∀ {l:List (Nat×TypeId×List Sh1)} {cs:List SV},noDup (l.map (·.1))=true->∀p∈l,lookV (qfJ kc l cs).1 p.1=some (p.2.1,p.2.2.length)
 | (b,ty,sh)::l,cs,hd,p,hp=>by
  simp only[z81,noDup,z8,zt] at hd;show(bif Nat.beq p.1 b then some (ty,(qeO kc b 0 sh cs).1.length) else lookV (qfJ kc l (qeO kc b 0 sh cs).2).1 p.1)=_;rcases zy.1 hp with rfl | hp
  ·rw[qqN]; simp
  ·have hne:p.1≠b:=fun e=>by
    have:memN (l.map (·.1)) b=true:=qaU.2 (by rw[<-e]; exact zz1 hp)
    rw[hd.1] at this; cases this
   rw[bq hne]; exact qqO hd.2 p hp
theorem qvX{l l':List Nat}(h:noDup (l++l')=true):noDup l=true/\noDup l'=true/\∀b,b∈l->b∉l':=by
 induction l with
 | nil=>exact⟨rfl,h,fun b hb=>by cases hb⟩
 | cons x l ih=>
  simp only[zp1,noDup,z8,zt] at h;obtain⟨a1,a2,a3⟩:=ih h.2;have hx:x∉l++l':=fun hm=>by have:=qaU.2 hm; rw[h.1] at this; cases this
  simp only[zI,not_or] at hx;refine⟨by simp only[noDup,z8,zt]; exact⟨zM.2 (fun e=>hx.1 (qaU.1 e)),a1⟩,a2,fun b hb=>?_⟩
  rcases zy.1 hb with rfl | hb
  ·exact hx.2
  ·exact a3 b hb
def qDI(π:Nat->Nat)(j:J):List Key:=(j.vars.flatMap fun p=>.v (π p.1)::qh7 (π p.1) 0 p.2.2.length)++j.arrs.map fun p=>.a (π p.1)
def qnI:List Operand->List Key
 | []=>[]
 | x::r=>qaa x++qnI r
theorem qtz:∀ {l:List Operand} {x:Operand},x∈l->∀κ∈qaa x,κ∈qnI l
 | y::l,x,h,κ,hκ=>by
  rcases zy.1 h with rfl | h
  ·exact mem_l hκ
  ·exact mem_r (qtz h κ hκ)
def qb7(e:Fun):List Nat:=e.jo.names.filter fun b=>!memN e.ji.names b
def numb(d:Nat):Nat->List Nat->List (Nat×Nat)
 | _,[]=>[]
 | i,b::r=>(b,nm d i)::numb d (i+1) r
structure CR(e:Fun) where
 x:CT e.ji.ct
 rd:List Key
 wr:CT e.jo.ct->List Wr
def sigma(e:Fun)(π:Nat->Nat)(d:Nat):Nat->Nat:=fun b=>bif memN e.ji.names b then π b else lookN (numb d 0 (qb7 e)) b
def qr4(e:Fun)(π:Nat->Nat)(d:Nat)(y:CT e.jo.ct):List Wr:=
 qhs (e.ji.names.map π)++(((qb7 e).map fun b=>.d (sigma e π d b))++(qlc (sigma e π d) (e.jo.put0 y) e.jo.vars++(qld (sigma e π d) (e.jo.put0 y) e.jo.arrs++[.r d ((resSV e.nr (e.jo.put0 y)).ren (sigma e π d))])))
def qjY(st:St)(ss:List SV):St:={ st with r:=nthS ss }
def qx0(e:Fun)(st:St)(N d n:Nat)(π:Nat->Nat):Bool:=
 Nat.blt d N&&Nat.beq n e.np&&e.ji.ok&&e.jo.ok&&e.ji.noKeep&&noDup (e.ji.names.map π)&&noDup (e.jo.names.map (sigma e π d))&&(qb7 e).all (fun b=>!st.d (sigma e π d b))
def qop(e:Fun)(st:St)(N d:Nat)(ss:List SV):Option (CR e):=
 match e.ji.pack (e.ji.ren (qjY st ss)) (qjY st ss) with
 | some x=>bif qx0 e st N d ss.length (e.ji.ren (qjY st ss)) then
   some ⟨x,qDI (e.ji.ren (qjY st ss)) e.ji++(qb7 e).map fun b=>.d (sigma e (e.ji.ren (qjY st ss)) d b),qr4 e (e.ji.ren (qjY st ss)) d⟩ else none
 | none=>none
def used1:SV->List Nat
 | .own b=>[b]
 | _=>[]
def qoZ:Sh->SV->List Nat
 | .one (.data _),.own b=>[b]
 | .one (.data _),.agg cs=>cs.flatMap used1
 | _,_=>[]
def used:List (Nat×Sh)->List SV->List Nat
 | (_,h)::r,s::l=>qoZ h s++used r l
 | _,_=>[]
def read1(st:St):SV->SV
 | .own b=>match st.a b with
  | some (.arr _ e l)=>.v (.sl e) l
  | _=>.own b
 | s=>s
def qx1(st:St):Sh->SV->SV
 | .one (.data _),.own b=>read1 st (.own b)
 | .one (.data _),.agg cs=>.agg (cs.map (read1 st))
 | _,s=>s
def readL(st:St):List (Nat×Sh)->List SV->List SV
 | (_,h)::r,s::l=>qx1 st h s::readL st r l
 | _,l=>l
def dropA(l:List Nat):List Wr:=l.map fun b=>.a b none
def isArr:Option Ob->Bool
 | some (.arr _ _ _)=>true
 | _=>false
def scalT:Ty->Bool
 | .sl _=>false
 | .map _ _=>false
 | .clo _ _=>false
 | .pair a b=>scalT a&&scalT b
 | .arr _ e=>scalT e
 | _=>true
def scal1:SV->Bool
 | .v T _=>scalT T
 | _=>false
def scalS:SV->Bool
 | .tup cs=>cs.all scal1
 | s=>scal1 s
def scal(s:SV):SV:=bif scalS s then s else .any
def borrow(e:Fun):Bool:=e.ji.vars.isEmpty&&e.ji.arrs.isEmpty&&e.jo.vars.isEmpty&&e.jo.arrs.isEmpty&&e.jo.regs.all fun p=>match p.2 with
 | .one (.data T)=>scalT T
 | _=>false
def qun(e:Fun)(st:St)(N d:Nat)(ks:List Key)(ss:List SV):Option (CR e):=
 match qop e κ0 1 0 (readL st e.ji.regs ss) with
 | some r=>bif (readL st e.ji.regs ss).all closedA&&Nat.blt d N then some ⟨r.x,ks++(used e.ji.regs ss).map fun b=>.a b,fun y=>[.r d (scal ((κ0.app (r.wr y)).r 0))]⟩ else none
 | none=>none
def freeA:Option Ob->Option Ob
 | some A=>bif A.free then some A else none
 | none=>none
def SV.fr1(s:SV):SV:=bif s.free1 then s else .any
def SV.fr2:SV->SV
 | .agg cs=>.agg (cs.map SV.fr1)
 | s=>s.fr1
def SV.fr3:SV->SV
 | .tup cs=>.tup (cs.map SV.fr2)
 | s=>s.fr2
def lend1:Sh1->Bool
 | .data T=>scalT T
 | .own _=>true
 | _=>false
def lend(e:Fun):Bool:=e.ji.vars.isEmpty&&e.ji.arrs.isEmpty&&e.jo.vars.isEmpty&&(e.jo.arrs.all fun p=>match p.2 with
 | .arr _ T=>T.flat
 | _=>false)&&e.jo.regs.all fun p=>match p.2 with
 | .one s=>lend1 s
 | .agg l=>l.all lend1
def qdN(e:Fun):List Nat:=(qb7 e).map fun b=>lookN (numb 0 0 (qb7 e)) b
def qvY(nn:List Nat)(d:Nat)(s2:St):List Wr:=(nn.map fun b=>.d (b+d*16))++((nn.map fun b=>.a (b+d*16) (freeA (s2.a b)))++[.r d ((s2.r 0).fr3.ren (· + d*16))])
def qup(e:Fun)(st:St)(N d:Nat)(ks:List Key)(ss:List SV):Option (CR e):=
 match qop e κ0 1 0 (readL st e.ji.regs ss) with
 | some r=>bif (readL st e.ji.regs ss).all closedA&&Nat.blt d N&&noDup (qdN e)&&(qdN e).all (fun b=>!st.d (b+d*16)) then
   some ⟨r.x,ks++(((used e.ji.regs ss).map fun b=>.a b)++(qdN e).map fun b=>.d (b+d*16)),fun y=>qvY (qdN e) d (κ0.app (r.wr y))⟩ else none
 | none=>none
def qr5(e:Fun)(st:St)(N d:Nat)(ks:List Key)(ss:List SV):Option (CR e):=
 bif (used e.ji.regs ss).all (fun b=>isArr (st.a b)) then
  bif borrow e&&!(used e.ji.regs ss).isEmpty then qun e st N d ks ss else bif lend e&&!(used e.ji.regs ss).isEmpty then qup e st N d ks ss else match qop e (st.app (dropA (used e.ji.regs ss))) N d (readL st e.ji.regs ss) with
  | some r=>some ⟨r.x,ks++(((used e.ji.regs ss).map fun b=>.a b)++r.rd),fun y=>dropA (used e.ji.regs ss)++r.wr y⟩
  | none=>none
 else none
section
variable {P:Program} {w0:World} {M:Mod} {N:Nat} {F0:Nat->Prop} {ops:Array Oper}
variable {F:Nat->Prop} {U:Env} {st:St} {a:Act} {w:World} {rty:TypeId}
theorem Den.res{κ:St}{s:SV}{u:Value}(h:Den P F w U s u):s.res κ=s:=by cases h <;> rfl
theorem Rel'.subs(κ:St)(h:Rel' P w0 M N F U st a w):Rel' P w0 M N F U (κ.sub st) a w:=by
 refine⟨h.fr,⟨h.mem.dom,?_,h.mem.arr,h.mem.sep,h.mem.own,h.mem.fb,h.mem.one,h.mem.glob⟩,h.lo,fun t=>?_,h.sz,h.df,h.pin⟩
 ·intro b ty k hv;obtain⟨g,arr,h1,h2,h3,h4⟩:=h.mem.var b ty k hv;exact⟨g,arr,h1,h2,h3,fun j x hj=>⟨by show Den P F w U ((st.c b j).res κ) x; rw[(h4 j x hj).1.res]; exact(h4 j x hj).1,(h4 j x hj).2⟩⟩
 ·show Den P F w U ((st.r t).res κ) _;rw[(h.regs t).res]; exact h.regs t
theorem quq{l:List SV}{i:Nat}{s:SV}(h:l[i]? = some s):nthS l i=s:=by
 induction l generalizing i with
 | nil=>simp at h
 | cons x l ih=>
  cases i with
  | zero=>simpa[nthS] using h
  | succ i=>exact ih (by simpa using h)
theorem qvZ{l:List SV}{i:Nat}(h:l.length<=i):nthS l i=.any:=by
 induction l generalizing i with
 | nil=>rfl
 | cons x l ih=>
  cases i with
  | zero=>simp at h
  | succ i=>exact ih (by simpa using h)
theorem qzd{st':St}{ss:List SV}{vs:List Value}(hr:Rel' P w0 M N F U st' a w)(hl:ss.length=vs.length)(hd:∀(i:Nat) (s:SV) (u:Value),ss[i]? = some s->vs[i]? = some u->Den P F w U s u):
  Rel' P w0 ⟨M.blk,fun _=>none⟩ vs.length F U { st' with r:=nthS ss } { tmps:=vs.toArray,defers:=[] } w:=by
 refine⟨hr.fr,hr.mem.congr rfl rfl rfl rfl,hr.lo,fun t=>?_,by simp,rfl,fun b v h=>by cases h⟩
 show Den P F w U (nthS ss t) _;by_cases ht:t<ss.length
 ·rw[quq (zj ht)];have h2:vs.toArray.getD t undef=vs[t]'(by omega):=by simp[z91,show t<vs.length by omega]
  rw[h2];exact hd t _ _ (zj ht) (zj (by omega))
 ·rw[qvZ (by omega)]; exact .any _
theorem qrr{e:Fun}(c:FunOk P e){d:Nat}{ss:List SV}{vs:List Value}{r:CR e}{y:CT e.jo.ct}(h:qop e st N d ss=some r)(hy:e.tw r.x=some y){st':St}(hag:∀κ∈r.rd,agree st st' κ)
  (hr:Rel' P w0 M N F U st' a w) (hF:(∀g,F0 g->F g)/\∀g,F g->F0 g\/M.blk g\/w0.heap.size<=g) (hlen:ss.length=vs.length) (hden:∀(i:Nat) (s:SV) (u:Value),ss[i]? = some s->vs[i]? = some u->Den P F w U s u):
  Calls P e.f vs.toArray w fun en w'=>∃rv,en=.returned rv/\Rel P w0 M N F0 (st'.app (r.wr y)) (a.put (some d) rv) w':=by
 unfold qop at h;split at h
 ·rename_i x hx;generalize hπ:e.ji.ren (qjY st ss)=π at h hx;cases hok:qx0 e st N d ss.length π with
  | false=>rw[hok] at h; cases h
  | true=>
   rw[hok] at h; cases h
   unfold qx0 at hok;simp only[z8] at hok;obtain⟨⟨⟨⟨⟨⟨⟨k1,k2⟩,k3⟩,k4⟩,k5⟩,k6⟩,k7⟩,k8⟩:=hok;rw[zS] at k1;have k2:=zd k2;obtain⟨l,hl,hput⟩:=qxW hx
   -- the callee's frame
   have hfr:=qzd hr hlen hden;have htake:e.ji.take π { st' with r:=nthS ss }=some l:=by
    have hv:∀p∈e.ji.vars,(qjY st ss).v (π p.1)=st'.v (π p.1)/\∀j,j<p.2.2.length->(qjY st ss).c (π p.1) j=st'.c (π p.1) j:=by
     intro p hp;have hk:∀κ∈(.v (π p.1)::qh7 (π p.1) 0 p.2.2.length:List Key),κ∈qDI π e.ji:=fun κ hκ=>mem_l (zp2.2 ⟨p,hp,hκ⟩)
     refine⟨hag (.v (π p.1)) (mem_l (hk _ (by simp))),fun j hj=>?_⟩
     have:=hag (.c (π p.1) (0+j)) (mem_l (hk _ (zV _ (qhp hj))));rwa[z11] at this
    have ha:∀p∈e.ji.arrs,(qjY st ss).a (π p.1)=st'.a (π p.1):=fun p hp=>hag (.a (π p.1)) (mem_l (mem_r (zW.2 ⟨p,hp,rfl⟩)))
    unfold J.take at hl ⊢;rw[qnH (st:={ st' with r:=nthS ss }) (st':=qjY st ss) rfl,<-qnF (st:=qjY st ss) (st':={ st' with r:=nthS ss }) hv,<-qnG (st:=qjY st ss) (st':={ st' with r:=nthS ss }) ha]
    exact hl
   have hrep:=(hfr.subs κ0).repack (κ:=κ0) (κ':=κ0) (kr:=fun _=>.any) (kc:=fun _ _=>.any) htake k3 k6 (fun b g hp=>by cases hp) (qAw k5) (fun t=>rfl) (fun b o=>rfl)
   rw[<-hput (fun _=>.any) (fun _ _=>.any)] at hrep
   have hpresπ:∀b∈e.ji.names,st'.present (π b):=fun b hb=>qAx htake b hb
   have hren:∀b,b∈e.ji.names->(U.ren π e.ji.names) b=U (π b):=fun b hb=>by unfold Env.ren; rw[if_pos hb]
   refine(c.run x y hy F w (U.ren π e.ji.names) vs (by rw[<-hlen]; exact k2) hrep.mem (fun i u hu=>?_)).mono ?_
   ·have:=hrep.regs i;have h2:vs.toArray.getD i undef=u:=by simp[z91,hu]
    rw[<-h2]; exact this
   rintro en w' ⟨rv,F',U',rfl,g1,g2,g3,g4,g5,g6,g7⟩
   -- in the caller
   have hin:∀g,InBlk (U.ren π e.ji.names) e.ji.names g->∃b v,b∈e.ji.names/\st'.present (π b)/\U (π b)=some v/\blkOf v=some g:=by
    rintro g ⟨b,v,hb,hv,hg⟩
    rw[hren b hb] at hv;exact⟨b,v,hb,hpresπ b hb,hv,hg⟩
   have hXlo:∀g,InBlk (U.ren π e.ji.names) e.ji.names g->M.blk g\/w0.heap.size<=g:=fun g hg=>by
    obtain⟨b,v,_,hp,hv,hbk⟩:=hin g hg; exact hr.lo _ v g hp hv hbk
   have hXF:∀g,F g->¬InBlk (U.ren π e.ji.names) e.ji.names g:=fun g hFg hg=>by
    obtain⟨b,v,_,hp,hv,hbk⟩:=hin g hg; exact hr.mem.own _ v g hp hv hbk hFg
   obtain⟨d1,d2,d3,d4,d5⟩:=qvW (e.ji.names.map π) st';have hdp:∀b,(st'.app (qhs (e.ji.names.map π))).present b->b∉e.ji.names.map π/\st'.present b:=by
    intro b hp;unfold St.present at hp ⊢;rw[d4,d5] at hp;by_cases hb:b∈e.ji.names.map π
    ·rw[if_pos hb,if_pos hb] at hp; simp at hp
    ·rw[if_neg hb,if_neg hb] at hp; exact⟨hb,hp⟩
   have hXd:∀b v g,(st'.app (qhs (e.ji.names.map π))).present b->U b=some v->blkOf v=some g->¬InBlk (U.ren π e.ji.names) e.ji.names g:=by
    intro b v g hp hv hg hX;obtain⟨b1,v1,m1,p1,r1,q1⟩:=hin g hX;obtain⟨hnb,hpb⟩:=hdp b hp;exact hnb (by rw[hr.mem.sep b (π b1) v v1 g hpb p1 hv r1 hg q1]; exact zz1 m1)
   have hmv:=(hr.dropAll (e.ji.names.map π)).move (F':=F') g1 hXd hXF g2 g3 g4.fb (fun g hg hlt=>(hXlo g hg).resolve_right (by omega))
   -- the names of what is new
   have hnew:∀b,b∈qb7 e->b∈e.jo.names/\b∉e.ji.names:=by
    intro b hb;simp only[qb7,zC2,zt] at hb;exact⟨hb.1,fun hm=>by have:=qaU.2 hm; rw[hb.2] at this; cases this⟩
   have hinj:∀b b',b∈e.jo.names->b'∈e.jo.names->sigma e π d b=sigma e π d b'->b=b':=fun b b' hb hb' he=>qvU k7 b b' hb hb' he
   have hndj:noDup e.jo.names=true:=by unfold J.ok at k4; simp only[z8] at k4; exact k4.2
   have hndn:noDup ((qb7 e).map (sigma e π d))=true:=by
    have key:∀l:List Nat,(∀b∈l,b∈e.jo.names)->noDup l=true->noDup (l.map (sigma e π d))=true:=by
     intro l;induction l with
     | nil=>intro _ _; rfl
     | cons b l ih=>
      intro hm hd;simp only[noDup,z8,zt] at hd;simp only[z81,noDup,z8,zt];refine⟨zM.2 fun hh=>?_,ih (fun b' hb'=>hm b' (by simp[hb'])) hd.2⟩
      obtain⟨b',hb',he⟩:=zW.1 (qaU.1 hh);have:=hinj b' b (hm b' (by simp[hb'])) (hm b (by simp)) he
      subst this;have:=qaU.2 hb';rw[hd.1] at this; cases this
    have hdf:∀l:List Nat,noDup l=true->noDup (l.filter fun b=>!memN e.ji.names b)=true:=by
     intro l;induction l with
     | nil=>intro _; rfl
     | cons b l ih=>
      intro hd;simp only[noDup,z8,zt] at hd;rw[List.filter_cons];split
      ·simp only[noDup,z8,zt];refine⟨zM.2 fun hh=>?_,ih hd.2⟩
       have:=qaU.2 (zC2.1 (qaU.1 hh)).1;rw[hd.1] at this; cases this
      ·exact ih hd.2
    exact key _ (fun b hb=>(hnew b hb).1) (hdf _ hndj)
   have hfresh:∀b∈qb7 e,st'.d (sigma e π d b)=false:=by
    intro b hb;have h1:st.d (sigma e π d b)=false:=by
     rw[zq] at k8;have:=k8 b hb; simpa using this
    rw[<-h1];exact(hag (.d _) (mem_r (zW.2 ⟨b,hb,rfl⟩))).symm
   let nv:List (Nat×Value):=(qb7 e).map fun b=>(sigma e π d b,(U' b).getD (.int .i64 0))
   have hnv1:nv.map (·.1)=(qb7 e).map (sigma e π d):=by simp[nv]
   have hnvd:(nv.map fun p=>Wr.d p.1)=(qb7 e).map fun b=>.d (sigma e π d b):=by simp[nv]
   obtain⟨n1,n2,n3,n4,n5,n6,n7,n8⟩:=hmv.nameAll nv (by rw[hnv1]; exact hndn) (by
    intro p hp;obtain⟨b,hb,rfl⟩:=zW.1 hp;refine⟨by rw[d3]; exact hfresh b hb,?_⟩
    show((U' b).getD (.int .i64 0)).oneCell'=true;cases hρb:U' b with
    | none=>rfl
    | some v=>exact g4.one b v hρb)
   rw[hnvd] at n1 n5 n6 n7 n8;generalize hst3:(st'.app (qhs (e.ji.names.map π))).app ((qb7 e).map fun b=>.d (sigma e π d b))=st3 at n1 n5 n6 n7 n8
   have hp3:∀b,st3.present b↔(st'.app (qhs (e.ji.names.map π))).present b:=fun b=>by unfold St.present; rw[n7,n8]
   have hjn:∀b v,U' b=some v->b∈e.jo.names:=by
    intro b v hv;by_cases hb:b∈e.jo.names
    ·exact hb
    ·have hd0:(e.jo.put0 y).d b=false:=zM.2 fun hh=>hb (qaU.1 (show memN e.jo.names b=true from hh))
     rw[g4.dom b hd0] at hv; cases hv
   have henv:∀b v,U' b=some v->(U.sets nv) (sigma e π d b)=some v:=by
    intro b v hv;by_cases hb:b∈e.ji.names
    ·obtain⟨v1,hv1⟩:=hr.mem.named (hpresπ b hb);have h1:=g5 b v1 hb (hjn b v hv) (by rw[hren b hb]; exact hv1)
     rw[hv] at h1; cases h1
     have hσ:sigma e π d b=π b:=by unfold sigma; rw[qaU.2 hb]; rfl
     rw[hσ]; exact n2 _ _ hv1
    ·have hbn:b∈qb7 e:=zC2.2 ⟨hjn b v hv,by rw[zt]; exact zM.2 fun hh=>hb (qaU.1 hh)⟩
     have:=n3 (sigma e π d b,(U' b).getD (.int .i64 0)) (zW.2 ⟨b,hbn,rfl⟩);simp only[hv,zn2] at this;exact this
   have hold:∀b,(st'.app (qhs (e.ji.names.map π))).present b->∃v,U b=some v/\∀g,blkOf v=some g->g<w.heap.size/\¬InBlk (U.ren π e.ji.names) e.ji.names g:=by
    intro b hp;obtain⟨v,hv⟩:=hr.mem.named (hdp b hp).2;exact⟨v,hv,fun g hg=>⟨hr.mem.lt (hdp b hp).2 hv hg,hXd b v g hp hv hg⟩⟩
   have hcome:Come P w0 M F' w' (sigma e π d) e.jo.names (e.jo.put0 y) U' (U.sets nv) (fun b=>(st'.app (qhs (e.ji.names.map π))).present b) st3:=by
    refine⟨hinj,henv,g4.sep,fun b hp=>?_,g4.own,fun b v g hp hv hg=>?_,fun b v g b' v' hp hv hg ho hv' he=>?_,fun b hp=>.inl ((hp3 b).1 hp),fun b hb ho=>?_⟩
    ·obtain⟨v,hv⟩:=g4.named hp; exact⟨hjn b v hv,v,hv⟩
    ·rcases g6 b v g hp hv hg with h1 | h1
     ·exact hXlo g h1
     ·exact .inr (zA hr.fr.size h1)
    ·obtain⟨v0,hv0,hg0⟩:=hold b' ho;have:=n2 b' v0 hv0;rw[hv'] at this; cases this
     obtain⟨q1,q2⟩:=hg0 g he;rcases g6 b v g hp hv hg with h1 | h1
     ·exact q2 h1
     ·omega
    ·by_cases hbj:b∈e.ji.names
     ·have hσ:sigma e π d b=π b:=by unfold sigma; rw[qaU.2 hbj]; rfl
      rw[hσ] at ho;exact(hdp _ ho).1 (zz1 hbj)
     ·have hbn:b∈qb7 e:=zC2.2 ⟨hb,by rw[zt]; exact zM.2 fun hh=>hbj (qaU.1 hh)⟩
      exact(hr.mem.absent (hfresh b hbn)).2.2 (hdp _ ho).2
   have hnone:∀b∈e.jo.names,st3.v (sigma e π d b)=none/\st3.a (sigma e π d b)=none:=by
    intro b hb;rw[n7,n8,d4,d5];by_cases hbj:b∈e.ji.names
    ·have hσ:sigma e π d b=π b:=by unfold sigma; rw[qaU.2 hbj]; rfl
     rw[hσ,if_pos (zz1 hbj),if_pos (zz1 hbj)]; exact⟨rfl,rfl⟩
    ·have hbn:b∈qb7 e:=zC2.2 ⟨hb,by rw[zt]; exact zM.2 fun hh=>hbj (qaU.1 hh)⟩
     obtain⟨a1,a2,_⟩:=hr.mem.absent (hfresh b hbn);constructor
     ·split
      ·rfl
      ·exact a1
     ·split
      ·rfl
      ·exact a2
   have hndvs:=qvX (l:=e.jo.vars.map (fun p=>p.1)) (l':=e.jo.arrs.map (fun p=>p.1)) (by exact hndj)
   obtain⟨v1,v2,v3,v4,v5,v6⟩:=Come.vars (P:=P) (σ:=sigma e π d) (names:=e.jo.names) (sc:=e.jo.put0 y) (Uc:=U') (old:=fun b=>(st'.app (qhs (e.ji.names.map π))).present b) (by
     intro b ty k hv;obtain⟨g,arr,q1,q2,q3,q4⟩:=g4.var b ty k hv;exact⟨g,arr,q1,q2,q3,fun j x hj=>⟨(q4 j x hj).1.ren1 henv,(q4 j x hj).2⟩⟩) e.jo.vars n1 hcome (by
     intro p hp;have hpn:p.1∈e.jo.names:=zI.2 (.inl (zz1 hp));exact⟨hpn,qqO hndvs.1 p hp,(hnone p.1 hpn).2⟩)
   obtain⟨r1,r2,r3⟩:=Come.arrs (P:=P) (σ:=sigma e π d) (names:=e.jo.names) (sc:=e.jo.put0 y) (Uc:=U') (old:=fun b=>(st'.app (qhs (e.ji.names.map π))).present b) g4.arr e.jo.arrs v1 v2 (by
     intro p hp;have hpn:p.1∈e.jo.names:=zI.2 (.inr (zz1 hp));refine⟨hpn,?_⟩
     rw[v6 _ (fun hm=>?_)]
     ·exact(hnone p.1 hpn).1
     ·obtain⟨q,hq,he⟩:=zW.1 hm;have h1:q.1∈e.jo.vars.map (·.1):=zz1 hq;have:=hinj q.1 p.1 (zI.2 (.inl h1)) hpn he;rw[this] at h1;exact hndvs.2.2 p.1 h1 (zz1 hp))
   have hfin:=r1.setR (d:=d) (s:=(resSV e.nr (e.jo.put0 y)).ren (sigma e π d)) (u:=rv) k1 (g7.ren henv);refine⟨rv,rfl,F',U.sets nv,?_,fun g hg=>g2 g (hF.1 g hg),fun g hg=>?_⟩
   ·have heq:st'.app (qr4 e π d y)=((st3.app (qlc (sigma e π d) (e.jo.put0 y) e.jo.vars)).app (qld (sigma e π d) (e.jo.put0 y) e.jo.arrs)).put (.r d ((resSV e.nr (e.jo.put0 y)).ren (sigma e π d))):=by
     unfold qr4;rw[qcy,qcy,qcy,qcy,hst3]; rfl
    show Rel' P w0 M N F' (U.sets nv) (st'.app (qr4 e π d y)) (a.put (some d) rv) w';rw[heq]; exact hfin
   ·rcases g3 g hg with h1 | h1 | h1
    ·exact hF.2 g h1
    ·exact .inr (hXlo g h1)
    ·exact .inr (.inr (zA hr.fr.size h1))
 ·cases h
theorem qo0(h:MemOk P F w U st):∀ {l:List (Nat×Sh)} {ss:List SV} {vs:List Value},ss.length=vs.length->(∀(i:Nat) (s:SV) (u:Value),ss[i]? = some s->vs[i]? = some u->Den P F w U s u)->
  (readL st l ss).length=vs.length/\∀(F':Nat->Prop),(∀g,F g->F' g)->(∀b u,b∈used l ss->U b=some u->∀g,blkOf u=some g->F' g)->∀(i:Nat) (s:SV) (u:Value),(readL st l ss)[i]? = some s->vs[i]? = some u->Den P F' w U s u
 | [],ss,vs,hl,hd=>⟨by simpa[readL] using hl,fun F' hF _ i s u hs hu=>(hd i s u (by simpa[readL] using hs) hu).mono hF (fun _ _=>rfl) _ (fun _ _ h=>h)⟩
 | _::_,[],vs,hl,hd=>⟨by simpa[readL] using hl,fun F' hF _ i s u hs hu=>by simp[readL] at hs⟩
 | (t,sh)::l,s::ss,[],hl,hd=>by simp at hl
 | (t,sh)::l,s::ss,v::vs,hl,hd=>by
  obtain⟨h1,h2⟩:=qo0 h (l:=l) (ss:=ss) (vs:=vs) (by simpa using hl) (fun i s u hs hu=>hd (i+1) s u (by simpa using hs) (by simpa using hu))
  refine⟨by simp[readL,h1],fun F' hF hb i s' u hs hu=>?_⟩
  cases i with
  | succ i=>exact h2 F' hF (fun b u hbm hu'=>hb b u (mem_rN hbm) hu') i s' u (by simpa[readL] using hs) (by simpa using hu)
  | zero=>
   simp only[readL,zl2,zt1] at hs hu;subst hs hu;have hd0:=hd 0 s v rfl rfl;have up:∀ {s u},Den P F w U s u->Den P F' w U s u:=fun hd=>hd.mono hF (fun _ _=>rfl) _ (fun _ _ h=>h)
   have one:∀ {b:Nat} {u:Value},U b=some u->(∀g,blkOf u=some g->F' g)->Den P F' w U (read1 st (.own b)) u:=by
    intro b u hρ hg;simp only[read1];split
    ·rename_i ty e l' hA;obtain⟨cs,a1,a2⟩:=qDH h hA hρ;exact .v ⟨cs,a1.mono (fun g hgg=>hgg.elim (hF g) (hg g)) (fun _ _=>rfl),a2⟩
    ·exact .own hρ
   unfold qx1;split
   ·rename_i T b;cases hd0 with
    | own hρ=>exact one hρ (fun g hg=>hb b _ (by simp[used,qoZ]) hρ g hg)
   ·rename_i T cs;cases hd0 with
    | agg hl' hi ho=>
     rename_i vs';refine .agg (by simpa using hl') (fun j s u hs hu=>?_) ho
     rw[zH] at hs;obtain⟨s0,hs0,rfl⟩:=zg1.1 hs;have hd1:=hi j s0 u hs0 hu;cases s0 with
     | own b=>
      cases hd1 with
      | own hρ=>exact one hρ (fun g hg=>hb b _ (by
        simp only[used,qoZ,zI,zp2];exact .inl ⟨.own b,zK hs0,by simp[used1]⟩) hρ g hg)
     | _=>exact up hd1
   ·exact up hd0
where
 mem_rN {x y:List Nat} {κ:Nat} (h:κ∈y):κ∈x++y:=zI.2 (.inr h)
theorem qDJ:∀(bs:List Nat) {st:St} {F:Nat->Prop},Rel' P w0 M N F U st a w->∃F',Rel' P w0 M N F' U (st.app (dropA bs)) a w/\(∀g,F g->F' g)/\(∀g,F' g->F g\/M.blk g\/w0.heap.size<=g)∧
  ∀b∈bs,(∃ty e l,st.a b=some (.arr ty e l))->∀u,U b=some u->∀g,blkOf u=some g->F' g
 | [],st,F,h=>⟨F,h,fun _ h=>h,fun _ h=>.inl h,fun b hb=>by cases hb⟩
 | b::bs,st,F,h=>by
  have step:∃F1,Rel' P w0 M N F1 U (st.put (.a b none)) a w/\(∀g,F g->F1 g)/\(∀g,F1 g->F g\/M.blk g\/w0.heap.size<=g)/\((∃ty e l,st.a b=some (.arr ty e l))->∀u,U b=some u->∀g,blkOf u=some g->F1 g):=by
   by_cases hA:∃ty e l,st.a b=some (.arr ty e l)
   ·obtain⟨ty,e,l,hA⟩:=hA;obtain⟨u,hu,_⟩:=h.mem.arr b _ hA;obtain⟨h1,h2⟩:=h.freeze (st':=st.put (.a b none)) hA hu (fun t v hd=>hd.mono (fun _ h=>.inl h) (fun _ _=>rfl) _ (fun _ _ h=>h)) (fun b' o v hd=>hd.mono (fun _ h=>.inl h) (fun _ _=>rfl) _ (fun _ _ h=>h)) rfl rfl rfl
    exact⟨_,h1,fun _ h=>.inl h,fun g hg=>hg.elim .inl (fun hg=>.inr (h2 g hg)),fun _ u' hu' g hg=>by rw[hu] at hu'; injection hu' with hu'; subst hu'; exact .inr hg⟩
   ·exact⟨F,h.dropA b,fun _ h=>h,fun _ h=>.inl h,fun hh=>absurd hh hA⟩
  obtain⟨F1,h1,h2,h3,h4⟩:=step;obtain⟨F',q1,q2,q3,q4⟩:=qDJ bs h1;refine⟨F',q1,fun g hg=>q2 g (h2 g hg),fun g hg=>(q3 g hg).elim (h3 g) .inr,fun b' hb' hA u hu g hg=>?_⟩
  rcases zy.1 hb' with rfl | hb'
  ·exact q2 g (h4 hA u hu g hg)
  ·by_cases e:b'=b
   ·subst e; exact q2 g (h4 hA u hu g hg)
   ·refine q4 b' hb' ?_ u hu g hg
    obtain⟨ty,e',l,hA⟩:=hA;refine⟨ty,e',l,?_⟩
    show(bif Nat.beq b' b then none else st.a b')=_;rw[bq e]; exact hA
theorem RdC.scal{F F':Nat->Prop}{w w':World}:∀ {T:Ty} {x:T.den} {cs:List Value},scalT T=true->RdC F w T x cs->RdC F' w' T x cs
 | .unit,_,_,_,h=>h
 | .int _,_,_,_,h=>h
 | .bool,_,_,_,h=>h
 | .str,_,_,_,h=>h
 | .sl _,_,_,h,_=>by cases h
 | .map _ _,_,_,h,_=>by cases h
 | .clo _ _,_,_,h,_=>by cases h
 | .pair a b,_,_,hs,h=>by
  simp only[scalT,z8] at hs;obtain⟨c1,c2,e,h1,h2⟩:=h; exact⟨c1,c2,e,h1.scal hs.1,h2.scal hs.2⟩
 | .err,_,_,_,h=>h
 | .fnc _,_,_,_,h=>h
 | .fnl _,_,_,_,h=>h
 | .arr n e,x,cs,hf,h=>RdAr.mono (fun x c hc=>RdC.scal (T:=e) hf hc) h
theorem Den.scal1{F F':Nat->Prop}{w w':World}{U U':Env}{s:SV}{u:Value}(hs:scal1 s=true)(h:Den P F w U s u):Den P F' w' U' s u:=by
 cases h with
 | v h=>obtain⟨cs,h1,h2⟩:=h; exact .v ⟨cs,h1.scal hs,h2⟩
 | _=>cases hs
theorem Den.scal{F F':Nat->Prop}{w w':World}{U U':Env}{s:SV}{u:Value}(h:Den P F w U s u):Den P F' w' U' (scal s) u:=by
 unfold Sq.scal;cases hs:scalS s with
 | false=>exact .any _
 | true=>
  simp only[zb];cases h with
  | tup a b=>
   simp only[scalS,zq] at hs;exact .tup a fun i s u h1 h2=>(b i s u h1 h2).scal1 (hs s (zK h1))
  | v h=>exact Den.scal1 (U:=U) (s:=.v _ _) hs (.v h)
  | _=>cases hs
theorem qr6{F:Nat->Prop}{w:World}(hb:∀g,F g->g<w.heap.size)(hgl:qho F w):Rel' P w Mod.none 1 F Env.none κ0 { tmps:=#[undef],defers:=[] } w:=by
 have hno:∀b,¬κ0.present b:=by
  intro b h;unfold St.present at h;rcases h with h | h <;> exact h rfl
 refine⟨Fr.refl w _,⟨fun b _=>rfl,fun b ty k h=>(by cases h),fun b A h=>(by cases h),fun b b' v v' g h=>(hno b h).elim,fun b v g h=>(hno b h).elim,hb,fun b v h=>(by cases h),hgl⟩,fun b v g h=>(hno b h).elim,fun t=>.any _,rfl,rfl,fun b v h=>(by cases h)⟩
theorem qtA{st st':St}:∀(l:List (Nat×Sh)) (ss:List SV),(∀b∈used l ss,st.a b=st'.a b)->readL st' l ss=readL st l ss:=by
 intro l;induction l with
 | nil=>intro ss _; rfl
 | cons p l ih=>
  obtain⟨t,sh⟩:=p;intro ss hb;cases ss with
  | nil=>rfl
  | cons s ss=>
   simp only[readL];rw[ih ss (fun b hbm=>hb b (zI.2 (.inr hbm)))]
   congr 1;have h1:∀b∈qoZ sh s,st.a b=st'.a b:=fun b hbm=>hb b (zI.2 (.inl hbm))
   unfold qx1;split
   ·rename_i T b;simp only[read1,h1 b (by simp[qoZ])]
   ·rename_i T cs;congr 1;apply zZ1;intro s0 hs0;cases s0 with
    | own b=>
     simp only[read1];rw[h1 b (by simp only[qoZ,zp2]; exact⟨.own b,hs0,by simp[used1]⟩)]
    | _=>rfl
   ·rfl
theorem qCl{e:Fun}(c:FunOk P e){d:Nat}{ks:List Key}{ss:List SV}{vs:List Value}{r:CR e}{y:CT e.jo.ct}(hall:∀b∈used e.ji.regs ss,isArr (st.a b)=true)(h:qun e st N d ks ss=some r)(hy:e.tw r.x=some y){st':St}(hag:∀κ∈r.rd,agree st st' κ)
  (hr:Rel' P w0 M N F U st' a w) (hF:(∀g,F0 g->F g)/\∀g,F g->F0 g\/M.blk g\/w0.heap.size<=g) (hlen:ss.length=vs.length) (hden:∀(i:Nat) (s:SV) (u:Value),ss[i]? = some s->vs[i]? = some u->Den P F w U s u):
  Calls P e.f vs.toArray w fun en w'=>∃rv,en=.returned rv/\Rel P w0 M N F0 (st'.app (r.wr y)) (a.put (some d) rv) w':=by
 unfold qun at h;split at h
 ·rename_i q hq;cases hb:((readL st e.ji.regs ss).all closedA&&Nat.blt d N) with
  | false=>rw[hb] at h; cases h
  | true=>
   rw[hb] at h; cases h
   rw[z8,zS] at hb;have hab:∀b∈used e.ji.regs ss,st.a b=st'.a b:=fun b hb=>hag (.a b) (mem_r (zW.2 ⟨b,hb,rfl⟩))
   have hpres:∀b∈used e.ji.regs ss,st'.present b:=fun b hb=>.inr (by
    have:=hall b hb;rw[hab b hb] at this;intro e; rw[e] at this; cases this)
   let F1:Nat->Prop:=fun g=>F g\/∃b u,b∈used e.ji.regs ss/\U b=some u/\blkOf u=some g
   have hb1:∀g,F1 g->g<w.heap.size:=by
    rintro g (hg | ⟨b,u,hb,hu,hg⟩)
    ·exact hr.mem.fb g hg
    ·exact hr.mem.lt (hpres b hb) hu hg
   obtain⟨d1,d2⟩:=qo0 hr.mem (l:=e.ji.regs) (ss:=ss) (vs:=vs) hlen hden;rw[qtA _ _ hab] at d1 d2;have hd3:=d2 F1 (fun g hg=>.inl hg) (fun b u hb hu g hg=>.inr ⟨b,u,hb,hu,hg⟩)
   refine(qrr c (F0:=F1) (vs:=vs) hq hy (fun κ _=>agree.refl _ κ) (qr6 hb1 (hr.mem.glob.mono (fun _ h=>.inl h) (fun _ _=>rfl))) ⟨fun _ h=>h,fun _ h=>.inl h⟩ d1 (fun i s u hs hu=>(hd3 i s u hs hu).closedA (zq.1 hb.1 s (zK hs)))).mono ?_
   rintro en w' ⟨rv,rfl,F'',U'',hr2,k1,k2⟩
   refine⟨rv,rfl,?_⟩
   have hfr:Fr w (fun _=>False) w':=⟨hr2.fr.os,hr2.fr.tape,hr2.fr.output,hr2.fr.size,fun g hg _=>hr2.fr.blk g hg (fun h=>h)⟩
   have hres:Den P F w' U (scal ((κ0.app (q.wr y)).r 0)) rv:=Den.scal (hr2.regs 0);show Rel P w0 M N F0 (st'.put (.r d (scal ((κ0.app (q.wr y)).r 0)))) (a.put (some d) rv) w';exact⟨F,U,(hr.grow0 hfr).setR hb.2 hres,hF⟩
 ·cases h
theorem Den.fr1{F':Nat->Prop}{w':World}{s:SV}{u:Value}(h:Den P F w U s u):Den P F' w' U s.fr1 u:=by
 unfold SV.fr1;cases hs:s.free1 with
 | false=>exact .any _
 | true=>exact h.free1 hs
theorem Den.fr2{F':Nat->Prop}{w':World}{s:SV}{u:Value}(h:Den P F w U s u):Den P F' w' U s.fr2 u:=by
 cases s with
 | agg cs=>
  cases h with
  | agg hl hi h1=>
   refine .agg (by simpa using hl) (fun i s u hs hu=>?_) h1
   rw[zH] at hs;obtain⟨s0,hs0,rfl⟩:=zg1.1 hs;exact(hi i s0 u hs0 hu).fr1
 | _=>exact h.fr1
theorem Den.fr3{F':Nat->Prop}{w':World}{s:SV}{u:Value}(h:Den P F w U s u):Den P F' w' U s.fr3 u:=by
 cases s with
 | tup cs=>
  cases h with
  | tup hl hi=>
   refine .tup (by simpa using hl) (fun i s u hs hu=>?_)
   rw[zH] at hs;obtain⟨s0,hs0,rfl⟩:=zg1.1 hs;exact(hi i s0 u hs0 hu).fr2
 | _=>exact h.fr2
theorem put_d{x:Wr}{st:St}{b:Nat}(h:(st.put x).d b=true):st.d b=true\/x=.d b:=by
 cases x with
 | d b'=>
  have h':(bif Nat.beq b b' then true else st.d b)=true:=h;cases hb:Nat.beq b b' with
  | true=>exact .inr (by rw[zd hb])
  | false=>rw[hb] at h'; exact .inl h'
 | _=>exact .inl h
theorem app_d:∀(l:List Wr) {st:St} {b:Nat},(st.app l).d b=true->st.d b=true\/Wr.d b∈l
 | [],_,_,h=>.inl h
 | x::l,st,b,h=>by
  rcases app_d l (st:=st.put x) h with h | h
  ·rcases put_d h with h | h
   ·exact .inl h
   ·exact .inr (by rw[h]; exact zA2 ..)
  ·exact .inr (zV _ h)
theorem qx2{b b':Nat}:∀(l:List SV) (o:Nat),Wr.d b∉qcU b' o l
 | [],_,h=>by cases h
 | s::l,o,h=>by
  rcases zy.1 h with h | h
  ·cases h
  ·exact qx2 l (o+1) h
theorem qx3{σ:Nat->Nat}{sc:St}{b:Nat}:∀(l:List (Nat×TypeId×List Sh1)),Wr.d b∉qlc σ sc l
 | [],h=>by cases h
 | (b0,ty,cs)::l,h=>by
  simp only[qlc,zp1,zy,zI] at h;rcases h with h | h | h
  ·cases h
  ·exact qx2 _ _ h
  ·exact qx3 l h
theorem qx4{σ:Nat->Nat}{sc:St}{b:Nat}:∀(l:List (Nat×ObSh)),Wr.d b∉qld σ sc l
 | [],h=>by cases h
 | (b0,s)::l,h=>by
  simp only[qld,zy] at h;rcases h with h | h
  ·cases h
  ·exact qx4 l h
theorem qCm{e:Fun}{π:Nat->Nat}{d b:Nat}{y:CT e.jo.ct}(h:Wr.d b∈qr4 e π d y):b∈(qb7 e).map fun b=>lookN (numb d 0 (qb7 e)) b:=by
 simp only[qr4,zI] at h;rcases h with h | h | h | h | h
 ·obtain⟨x,_,hx⟩:=zp2.1 h;simp at hx
 ·obtain⟨x,hx,he⟩:=zW.1 h;injection he with he
  refine zW.2 ⟨x,hx,?_⟩
  have hn:memN e.ji.names x=false:=by
   simp only[qb7,zC2,zt] at hx;exact hx.2
  unfold sigma at he;rw[hn] at he;exact he
 ·exact(qx3 _ h).elim
 ·exact(qx4 _ h).elim
 ·simp at h
theorem qtB{σ:Nat->Nat}{sc:St}:∀(l:List Nat),qld σ sc (l.map fun b=>(b,ObSh.arr 0 .unit))=l.map fun b=>.a (σ b) (sc.a b)
 | []=>rfl
 | b::l=>by simp only[z81,qld,qtB l]
theorem qr7{d:Nat}:∀ {nn:List Nat},noDup nn=true->noDup (nn.map (· + d*16))=true
 | [],_=>rfl
 | b::l,hnd=>by
  simp only[noDup,z8,zt] at hnd;simp only[z81,noDup,z8,zt];refine⟨zM.2 fun hh=>?_,qr7 hnd.2⟩
  obtain⟨b',hb',he⟩:=zW.1 (qaU.1 hh);have he':b'=b:=by
   have:b'+d*16=b+d*16:=he;omega
  subst he';have:=qaU.2 hb';rw[hnd.1] at this; cases this
theorem qCn{e:Fun}(c:FunOk P e){d:Nat}{ks:List Key}{ss:List SV}{vs:List Value}{r:CR e}{y:CT e.jo.ct}(hall:∀b∈used e.ji.regs ss,isArr (st.a b)=true)(h:qup e st N d ks ss=some r)(hy:e.tw r.x=some y){st':St}(hag:∀κ∈r.rd,agree st st' κ)
  (hr:Rel' P w0 M N F U st' a w) (hF:(∀g,F0 g->F g)/\∀g,F g->F0 g\/M.blk g\/w0.heap.size<=g) (hlen:ss.length=vs.length) (hden:∀(i:Nat) (s:SV) (u:Value),ss[i]? = some s->vs[i]? = some u->Den P F w U s u):
  Calls P e.f vs.toArray w fun en w'=>∃rv,en=.returned rv/\Rel P w0 M N F0 (st'.app (r.wr y)) (a.put (some d) rv) w':=by
 unfold qup at h;split at h
 ·rename_i q hq;cases hb:((readL st e.ji.regs ss).all closedA&&Nat.blt d N&&noDup (qdN e)&&(qdN e).all (fun b=>!st.d (b+d*16))) with
  | false=>rw[hb] at h; cases h
  | true=>
   rw[hb] at h; cases h
   rw[z8,z8,z8,zS] at hb;obtain⟨⟨⟨hb1',hb2'⟩,hnd⟩,hfre⟩:=hb;have hab:∀b∈used e.ji.regs ss,st.a b=st'.a b:=fun b hb=>hag (.a b) (mem_r (mem_l (zW.2 ⟨b,hb,rfl⟩)))
   have hfresh:∀b∈qdN e,st'.d (b+d*16)=false:=by
    intro b hb;have h1:st.d (b+d*16)=false:=by
     rw[zq] at hfre;have:=hfre b hb; simpa using this
    rw[<-h1];exact(hag (.d _) (mem_r (mem_r (zW.2 ⟨b,hb,rfl⟩)))).symm
   have hpres:∀b∈used e.ji.regs ss,st'.present b:=fun b hb=>.inr (by
    have:=hall b hb;rw[hab b hb] at this;intro e; rw[e] at this; cases this)
   let F1:Nat->Prop:=fun g=>F g\/∃b u,b∈used e.ji.regs ss/\U b=some u/\blkOf u=some g
   have hb1:∀g,F1 g->g<w.heap.size:=by
    rintro g (hg | ⟨b,u,hb,hu,hg⟩)
    ·exact hr.mem.fb g hg
    ·exact hr.mem.lt (hpres b hb) hu hg
   obtain⟨d1,d2⟩:=qo0 hr.mem (l:=e.ji.regs) (ss:=ss) (vs:=vs) hlen hden;rw[qtA _ _ hab] at d1 d2;have hd3:=d2 F1 (fun g hg=>.inl hg) (fun b u hb hu g hg=>.inr ⟨b,u,hb,hu,hg⟩)
   refine(qrr c (F0:=F1) (vs:=vs) hq hy (fun κ _=>agree.refl _ κ) (qr6 hb1 (hr.mem.glob.mono (fun _ h=>.inl h) (fun _ _=>rfl))) ⟨fun _ h=>h,fun _ h=>.inl h⟩ d1 (fun i s u hs hu=>(hd3 i s u hs hu).closedA (zq.1 hb1' s (zK hs)))).mono ?_
   rintro en w' ⟨rv,rfl,F'',U'',hr2,k1,k2⟩
   refine⟨rv,rfl,?_⟩
   have hfr:Fr w (fun _=>False) w':=⟨hr2.fr.os,hr2.fr.tape,hr2.fr.output,hr2.fr.size,fun g hg _=>hr2.fr.blk g hg (fun h=>h)⟩
   have hwr:∃π,q.wr=qr4 e π 0:=by
    unfold qop at hq;split at hq
    ·generalize qx0 e κ0 1 0 _ _=cc at hq;cases cc with
     | false=>cases hq
     | true=>cases hq; exact⟨_,rfl⟩
    ·cases hq
   obtain⟨π,hwr⟩:=hwr;have hdn:∀b,(κ0.app (q.wr y)).d b=true->b∈qdN e:=by
    intro b hb;rcases app_d _ hb with hb | hb
    ·cases hb
    ·rw[hwr] at hb; exact qCm hb
   have hres0:Den P F'' w' U'' ((κ0.app (q.wr y)).r 0) rv:=hr2.regs 0;show Rel P w0 M N F0 (st'.app (qvY (qdN e) d (κ0.app (q.wr y)))) (a.put (some d) rv) w';generalize κ0.app (q.wr y)=s2 at hr2 hdn hres0 ⊢;generalize hnn:qdN e=nn at hnd hfresh hdn ⊢;have hg:=hr.grow0 hfr
   let nv:List (Nat×Value):=nn.map fun b=>(b+d*16,(U'' b).getD (.int .i64 0))
   have hnvd:(nv.map fun p=>Wr.d p.1)=nn.map fun b=>.d (b+d*16):=by simp[nv]
   have hnvn:noDup (nv.map (·.1))=true:=by
    have:nv.map (·.1)=nn.map (· + d*16):=by simp[nv]
    rw[this];exact qr7 hnd
   obtain⟨n1,n2,n3,n4,n5,n6,n7,n8⟩:=hg.nameAll nv hnvn (by
    intro p hp;obtain⟨b,hb,rfl⟩:=zW.1 hp;refine⟨hfresh b hb,?_⟩
    show((U'' b).getD (.int .i64 0)).oneCell'=true;cases hρb:U'' b with
    | none=>rfl
    | some v=>exact hr2.mem.one b v hρb)
   rw[hnvd] at n1 n5 n6 n7 n8;generalize hst3:st'.app (nn.map fun b=>.d (b+d*16))=st3 at n1 n5 n6 n7 n8
   have hjn:∀b v,U'' b=some v->b∈nn:=by
    intro b v hv;by_cases hb:s2.d b=true
    ·exact hdn b hb
    ·rw[hr2.mem.dom b (zM.2 hb)] at hv; cases hv
   have henv:∀b v,U'' b=some v->(U.sets nv) (b+d*16)=some v:=by
    intro b v hv;have:=n3 (b+d*16,(U'' b).getD (.int .i64 0)) (zW.2 ⟨b,hjn b v hv,rfl⟩);simp only[hv,zn2] at this;exact this
   let sc:St:={ s2 with v:=fun _=>none,a:=fun b=>bif memN nn b then freeA (s2.a b) else none }
   have hsc:∀b A,sc.a b=some A->s2.a b=some A/\A.free=true:=by
    intro b A hA;have hA':(bif memN nn b then freeA (s2.a b) else none)=some A:=hA;cases hm:memN nn b with
    | false=>rw[hm] at hA'; cases hA'
    | true=>
     rw[hm] at hA';cases hs:s2.a b with
     | none=>rw[hs] at hA'; cases hA'
     | some B=>
      rw[hs] at hA';have hA2:(bif B.free then some B else none)=some A:=hA';cases hf:B.free with
      | false=>rw[hf] at hA2; cases hA2
      | true=>rw[hf] at hA2; cases hA2; exact⟨rfl,hf⟩
   have hscp:∀b,sc.present b->s2.present b:=by
    rintro b (hb | hb)
    ·exact absurd rfl hb
    ·cases hA:sc.a b with
     | none=>exact absurd hA hb
     | some A=>exact .inr (by rw[(hsc b A hA).1]; simp)
   have hnew:∀b v g,sc.present b->U'' b=some v->blkOf v=some g->w.heap.size<=g:=by
    intro b v g hp hv hg;rcases hr2.lo b v g (hscp b hp) hv hg with h | h
    ·exact h.elim
    ·exact h
   have hold:∀b,st'.present b->∃v,U b=some v/\∀g,blkOf v=some g->g<w.heap.size:=by
    intro b hp;obtain⟨v,hv⟩:=hr.mem.named hp;exact⟨v,hv,fun g hg=>hr.mem.lt hp hv hg⟩
   have hcome:Come P w0 M F w' (· + d*16) nn sc U'' (U.sets nv) (fun b=>st'.present b) st3:=by
    refine⟨fun b b' _ _ he=>by have:b+d*16=b'+d*16:=he; omega,henv,fun b b' v v' g h1 h2=>hr2.mem.sep b b' v v' g (hscp b h1) (hscp b' h2),fun b hp=>?_,fun b v g hp hv hg hF=>?_,fun b v g hp hv hg=>.inr (zA hr.fr.size (hnew b v g hp hv hg)),fun b v g b' v' hp hv hg ho hv' he=>?_,fun b hp=>.inl ?_,fun b hb ho=>?_⟩
    ·obtain⟨v,hv⟩:=hr2.mem.named (hscp b hp); exact⟨hjn b v hv,v,hv⟩
    ·have:=hnew b v g hp hv hg;have:=hr.mem.fb g hF;omega
    ·obtain⟨v0,hv0,hg0⟩:=hold b' ho;have:=n2 b' v0 hv0;rw[hv'] at this; cases this
     have:=hg0 g he;have:=hnew b v g hp hv hg;omega
    ·unfold St.present at hp ⊢;rw[n7,n8] at hp; exact hp
    ·exact(hr.mem.absent (hfresh b hb)).2.2 ho
   obtain⟨r1,r2,r3⟩:=Come.arrs (P:=P) (σ:=(· + d*16)) (names:=nn) (sc:=sc) (Uc:=U'') (old:=fun b=>st'.present b) (fun b A hA=>by
     obtain⟨hA1,hA2⟩:=hsc b A hA;obtain⟨u,hu,hob⟩:=hr2.mem.arr b A hA1;exact⟨u,hu,hob.free hA2⟩) (nn.map fun b=>(b,ObSh.arr 0 .unit)) n1 hcome (by
     intro p hp;obtain⟨b,hb,rfl⟩:=zW.1 hp;exact⟨hb,by rw[n7]; exact(hr.mem.absent (hfresh b hb)).1⟩)
   have hfin:=r1.setR (d:=d) (s:=(s2.r 0).fr3.ren (· + d*16)) (u:=rv) hb2' (hres0.fr3.ren henv);refine⟨F,U.sets nv,?_,hF⟩
   have hmap:qld (· + d*16) sc (nn.map fun b=>(b,ObSh.arr 0 .unit))=nn.map fun b=>.a (b+d*16) (freeA (s2.a b)):=by
    rw[qtB];apply zZ1;intro b hb;have:sc.a b=freeA (s2.a b):=by
     show(bif memN nn b then freeA (s2.a b) else none)=_;rw[qaU.2 hb]; rfl
    rw[this]
   have heq:st'.app (qvY nn d s2)=(st3.app (qld (· + d*16) sc (nn.map fun b=>(b,ObSh.arr 0 .unit)))).put (.r d ((s2.r 0).fr3.ren (· + d*16))):=by
    unfold qvY;rw[qcy,qcy,hst3,hmap]; rfl
   show Rel' P w0 M N F (U.sets nv) (st'.app (qvY nn d s2)) (a.put (some d) rv) w';rw[heq]; exact hfin
 ·cases h
theorem qCo{e:Fun}(c:FunOk P e){d:Nat}{ks:List Key}{ss:List SV}{vs:List Value}{r:CR e}{y:CT e.jo.ct}(h:qr5 e st N d ks ss=some r)(hy:e.tw r.x=some y){st':St}(hag:∀κ∈r.rd,agree st st' κ)
  (hr:Rel' P w0 M N F U st' a w) (hF:(∀g,F0 g->F g)/\∀g,F g->F0 g\/M.blk g\/w0.heap.size<=g) (hlen:ss.length=vs.length) (hden:∀(i:Nat) (s:SV) (u:Value),ss[i]? = some s->vs[i]? = some u->Den P F w U s u):
  Calls P e.f vs.toArray w fun en w'=>∃rv,en=.returned rv/\Rel P w0 M N F0 (st'.app (r.wr y)) (a.put (some d) rv) w':=by
 unfold qr5 at h;cases hall0:(used e.ji.regs ss).all (fun b=>isArr (st.a b)) with
 | false=>rw[hall0] at h; cases h
 | true=>
 rw[hall0] at h; simp only[zb] at h;cases hbo:(borrow e&&!(used e.ji.regs ss).isEmpty) with
 | true=>
  rw[hbo] at h;exact qCl c (fun b hb=>zq.1 hall0 b hb) h hy hag hr hF hlen hden
 | false=>
 rw[hbo] at h; simp only[zc] at h;cases hle:(lend e&&!(used e.ji.regs ss).isEmpty) with
 | true=>
  rw[hle] at h;exact qCn c (fun b hb=>zq.1 hall0 b hb) h hy hag hr hF hlen hden
 | false=>
 rw[hle] at h; simp only[zc] at h;split at h
 ·rename_i r0 h0;cases h
  have hab:∀b∈used e.ji.regs ss,st.a b=st'.a b:=fun b hb=>hag (.a b) (mem_r (mem_l (zW.2 ⟨b,hb,rfl⟩)))
  obtain⟨F1,q1,q2,q3,q4⟩:=qDJ (used e.ji.regs ss) hr
  -- what is read,in the state at hand
  have hread:readL st' e.ji.regs (ss)=readL st e.ji.regs (ss):=by
   have key:∀(l:List (Nat×Sh)) (ss:List SV),(∀b∈used l ss,st.a b=st'.a b)->readL st' l ss=readL st l ss:=by
    intro l;induction l with
    | nil=>intro ss _; rfl
    | cons p l ih=>
     obtain⟨t,sh⟩:=p;intro ss hb;cases ss with
     | nil=>rfl
     | cons s ss=>
      simp only[readL];rw[ih ss (fun b hbm=>hb b (zI.2 (.inr hbm)))]
      congr 1;have h1:∀b∈qoZ sh s,st.a b=st'.a b:=fun b hbm=>hb b (zI.2 (.inl hbm))
      unfold qx1;split
      ·rename_i T b;simp only[read1,h1 b (by simp[qoZ])]
      ·rename_i T cs;congr 1;apply zZ1;intro s0 hs0;cases s0 with
       | own b=>
        simp only[read1];rw[h1 b (by simp only[qoZ,zp2]; exact⟨.own b,hs0,by simp[used1]⟩)]
       | _=>rfl
      ·rfl
   exact key _ _ hab
  obtain⟨d1,d2⟩:=qo0 hr.mem (l:=e.ji.regs) (ss:=ss) (vs:=vs) hlen hden;rw[hread] at d1 d2;have hall:∀b∈used e.ji.regs ss,∃ty e' l,st'.a b=some (.arr ty e' l):=by
   intro b hb;rw[zq] at hall0;have h1:=hall0 b hb;rw[hab b hb] at h1;unfold isArr at h1;split at h1
   ·rename_i hA; exact⟨_,_,_,hA⟩
   ·cases h1
  have hd3:=d2 F1 q2 (fun b u hb hu g hg=>q4 b hb (hall b hb) u hu g hg)
  refine(qrr c (F0:=F0) h0 hy (st':=st'.app (dropA (used e.ji.regs ss))) (fun κ hκ=>qlJ _ (hag κ (mem_r (mem_r hκ)))) q1 ⟨fun g hg=>q2 g (hF.1 g hg),fun g hg=>(q3 g hg).elim (hF.2 g) .inr⟩ d1 hd3).mono ?_
  rintro en w' ⟨rv,rfl,hrel⟩
  refine⟨rv,rfl,?_⟩
  show Rel P w0 M N F0 (st'.app (dropA (used e.ji.regs ss)++r0.wr y)) (a.put (some d) rv) w';rw[qcy]; exact hrel
 ·cases h
theorem qgM{xs:List Operand}{st':St}(hr:Rel' P w0 M N F U st' a w)(hag:∀κ∈qnI xs,agree st st' κ):∀(i:Nat) (s:SV) (u:Value),(xs.map st.ev)[i]? = some s->(xs.map a.eval)[i]? = some u->Den P F w U s u:=by
 intro i s u hs hu;rw[zH] at hs hu;cases hx:xs[i]? with
 | none=>rw[hx] at hu; cases hu
 | some x=>
  rw[hx] at hs hu;simp only[zf1,zt1] at hs hu;subst hs hu;exact hr.evx hag (fun κ hκ=>qtz (zK hx) κ hκ)
theorem qze{e:Fun}{d:Nat}{ks:List Key}{ss:List SV}{r:CR e}(h:qr5 e st N d ks ss=some r):∀κ∈ks,κ∈r.rd:=by
 unfold qr5 at h;cases hall0:(used e.ji.regs ss).all (fun b=>isArr (st.a b)) with
 | false=>rw[hall0] at h; cases h
 | true=>
  rw[hall0] at h; simp only[zb] at h;cases hbo:(borrow e&&!(used e.ji.regs ss).isEmpty) with
  | true=>
   rw[hbo] at h; simp only[zb] at h;unfold qun at h;split at h
   ·generalize ((readL st e.ji.regs ss).all closedA&&Nat.blt d N)=cc at h;cases cc with
    | false=>cases h
    | true=>cases h; exact fun κ hκ=>mem_l hκ
   ·cases h
  | false=>
   rw[hbo] at h; simp only[zc] at h;cases hle:(lend e&&!(used e.ji.regs ss).isEmpty) with
   | true=>
    rw[hle] at h; simp only[zb] at h;unfold qup at h;split at h
    ·generalize ((readL st e.ji.regs ss).all closedA&&Nat.blt d N&&noDup (qdN e)&&(qdN e).all (fun b=>!st.d (b+d*16)))=cc at h
     cases cc with
     | false=>cases h
     | true=>cases h; exact fun κ hκ=>mem_l hκ
    ·cases h
   | false=>
   rw[hle] at h; simp only[zc] at h;split at h
   ·cases h
    exact fun κ hκ=>mem_l hκ
   ·cases h
end
end Go.Sq
