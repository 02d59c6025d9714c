/- The second engine, part E: data of cells, and cells of data. No condition. -/
import Derived.Test.YtmdijohmddokhaaGreatDoorSqD
namespace Go.Sq
open Go Go.RowKit
def qte{δ:Type}(f:δ->List SV)(d:δ)(l:List δ):Nat->Nat->List SV
 | _,0=>[]
 | i,n+1=>f (l.getD i d)++qte f d l (i+1) n
def split:(τ:Ty)->τ.den->List SV
 | .unit,_=>[]
 | .pair a b,x=>split a x.1++split b x.2
 | .int k,x=>[.v (.int k) x]
 | .bool,x=>[.v .bool x]
 | .str,x=>[.v .str x]
 | .sl e,x=>[.v (.sl e) x]
 | .err,x=>[.v .err x]
 | .map k v,x=>[.v (.map k v) x]
 | .fnc f,x=>[.v (.fnc f) x]
 | .fnl f,x=>[.v (.fnl f) x]
 | .clo f e,x=>[.v (.clo f e) x]
 | .arr n e,x=>qte (split e) e.dflt x 0 n
def rawAs:(τ:Ty)->Value->Option τ.den
 | .sl _,.slice none 0 _=>some []
 | .err,.nilIface=>some false
 | .map _ _,.map none=>some []
 | .fnl _,.nilFunc=>some (0:Nat)
 | _,_=>none
def fnIx:List Nat->Nat->Option Nat
 | [],_=>none
 | g::r,f=>bif Nat.beq f g then some 1 else(match fnIx r f with
  | some (x+1)=>some (x+2)
  | _=>none)
theorem qze:∀ {fs:List Nat} {f x:Nat},fnIx fs f=some x->fnAt fs x=some f
 | [],_,_,h=>by cases h
 | g::r,f,x,h=>by
  unfold fnIx at h;cases hb:Nat.beq f g with
  | true=>
   rw[hb] at h;have:=zc hb;subst this;injection h with h; subst h; rfl
  | false=>
   rw[hb] at h; simp only[zb] at h;split at h
   ·rename_i y hy;injection h with h; subst h
    exact qze (fs:=r) hy
   ·cases h
theorem qxd{fs:List Nat}{f x:Nat}(h:fnAt fs x=some f):fnVal fs x=.func (.func f) #[] #[]:=by
 unfold fnVal; rw[h]
theorem qBv{fs:List Nat}{f x:Nat}(h:fnIx fs f=some x):fnVal fs x=.func (.func f) #[] #[]:=qxd (qze h)
def fncAs:(τ:Ty)->Nat->List SV->Option τ.den
 | .fnc f,f',[]=>bif Nat.beq f' f then some () else none
 | .fnl fs,f',[]=>fnIx fs f'
 | .clo f e,f',[.sel e' x 0]=>if h:f'=f/\e'=e then some (h.2 ▸ x) else none
 | _,_,_=>none
def SV.as(τ:Ty):SV->Option τ.den
 | .v τ' x=>if h:τ'=τ then some (h ▸ x) else none
 | .raw u=>rawAs τ u
 | .clo f cs=>fncAs τ f cs
 | _=>none
def asm1(τ:Ty):List SV->Option (τ.den×List SV)
 | s::l=>match s.as τ with
  | some x=>some (x,l)
  | none=>none
 | []=>none
def asmA{δ:Type}(g:List SV->Option (δ×List SV)):Nat->List SV->Option (List δ×List SV)
 | 0,l=>some ([],l)
 | n+1,l=>match g l with
  | some (x,l1)=>match asmA g n l1 with
   | some (r,l2)=>some (x::r,l2)
   | none=>none
  | none=>none
def asm:(τ:Ty)->List SV->Option (τ.den×List SV)
 | .unit,l=>some ((),l)
 | .pair a b,l=>match asm a l with
  | some (x,l1)=>match asm b l1 with
   | some (y,l2)=>some ((x,y),l2)
   | none=>none
  | none=>none
 | .int k,l=>asm1 (.int k) l
 | .bool,l=>asm1 .bool l
 | .str,l=>asm1 .str l
 | .sl e,l=>asm1 (.sl e) l
 | .err,l=>asm1 .err l
 | .map k v,l=>asm1 (.map k v) l
 | .fnc f,l=>asm1 (.fnc f) l
 | .fnl f,l=>asm1 (.fnl f) l
 | .clo f e,l=>asm1 (.clo f e) l
 | .arr n e,l=>asmA (asm e) n l
def SV.dat(τ:Ty):SV->Option τ.den
 | .agg cs=>bif τ.agg then match asm τ cs with
   | some (x,[])=>some x
   | _=>none
  else none
 | s=>s.as τ
def SV.cells:SV->Option (List SV)
 | .v τ x=>some (split τ x)
 | .agg cs=>some cs
 | .ptr b o=>some [.ptr b o]
 | .ael b k i o=>some [.ael b k i o]
 | .pel b n k i o=>some [.pel b n k i o]
 | .aix b k i o n m=>some [.aix b k i o n m]
 | .own b=>some [.own b]
 | .sel τ x o=>some [.sel τ x o]
 | .clo f cs=>some [.clo f cs]
 | .fn ps r g=>some [.fn ps r g]
 | .raw u=>bif u.oneCell' then some [.raw u] else none
 | _=>none
def sub:(τ:Ty)->τ.den->Nat->(τ':Ty)->Option τ'.den
 | .pair a b,x,o,τ'=>if h:o=0/\Ty.pair a b=τ' then some (h.2 ▸ x) else bif Nat.blt o a.size then sub a x.1 o τ' else sub b x.2 (o-a.size) τ'
 | .unit,x,o,τ'=>if h:o=0/\Ty.unit=τ' then some (h.2 ▸ x) else none
 | .int k,x,o,τ'=>if h:o=0/\Ty.int k=τ' then some (h.2 ▸ x) else none
 | .bool,x,o,τ'=>if h:o=0/\Ty.bool=τ' then some (h.2 ▸ x) else none
 | .str,x,o,τ'=>if h:o=0/\Ty.str=τ' then some (h.2 ▸ x) else none
 | .sl e,x,o,τ'=>if h:o=0/\Ty.sl e=τ' then some (h.2 ▸ x) else none
 | .err,x,o,τ'=>if h:o=0/\Ty.err=τ' then some (h.2 ▸ x) else none
 | .map k v,x,o,τ'=>if h:o=0/\Ty.map k v=τ' then some (h.2 ▸ x) else none
 | .fnc f,x,o,τ'=>if h:o=0/\Ty.fnc f=τ' then some (h.2 ▸ x) else none
 | .fnl f,x,o,τ'=>if h:o=0/\Ty.fnl f=τ' then some (h.2 ▸ x) else none
 | .clo f e,x,o,τ'=>if h:o=0/\Ty.clo f e=τ' then some (h.2 ▸ x) else none
 | .arr n e,x,o,τ'=>if h:o=0/\Ty.arr n e=τ' then some (h.2 ▸ x) else bif Nat.blt o (n*e.size) then sub e (List.getD (α:=e.den) x (o/e.size) e.dflt) (o%e.size) τ' else none
section
variable {P:Program} {F:Nat->Prop} {w:World} {ρ:Env}
theorem qu7{τ:Ty}{x:τ.den}{u:Value}(h:RdV F w τ x u)(ha:τ.agg=false):RdC F w τ x [u]:=by
 obtain⟨cs,h1,h2⟩:=h;have hl:=h1.size;have hs:τ.size=1:=by cases τ <;> first | rfl | cases ha
 rw[hs] at hl;obtain⟨c,rfl⟩:=zo1.1 hl;simp only[mkV,ha,zb] at h2;subst h2; exact h1
theorem qzf{τ:Ty}{x:τ.den}{u:Value}(h:RdC F w τ x [u])(ha:τ.agg=false):RdV F w τ x u:=⟨[u],h,by simp[mkV,ha]⟩
theorem qzg{τ:Ty}{u:Value}{x:τ.den}(h:rawAs τ u=some x):RdV F w τ x u:=by
 unfold rawAs at h;split at h
 ·injection h with h; subst h; exact⟨[_],⟨none,_,rfl,rfl⟩,rfl⟩
 ·injection h with h; subst h; exact⟨[_],⟨_,rfl,rfl,by simp⟩,rfl⟩
 ·injection h with h; subst h; exact⟨[_],.inl ⟨rfl,rfl⟩,rfl⟩
 ·injection h with h; subst h; exact⟨[_],(rfl:_=[fnVal _ 0]),rfl⟩
 ·cases h
theorem qu8{τ:Ty}{f:Nat}{ss:List SV}{vs:List Value}{x:τ.den}(h:fncAs τ f ss=some x)(hl:ss.length=vs.length)(hd:∀(i:Nat) (s:SV) (u:Value),ss[i]? = some s->vs[i]? = some u->Den P F w ρ s u):RdV F w τ x (.func (.func f) #[] vs.toArray):=by
 cases τ with
 | fnc g=>
  cases ss with
  | cons _ _=>cases h
  | nil=>
   have h':(bif Nat.beq f g then some () else none)=some x:=h;cases hb:Nat.beq f g with
   | false=>rw[hb] at h'; cases h'
   | true=>
    have:=zc hb;subst this;cases vs with
    | nil=>exact⟨[_],rfl,rfl⟩
    | cons _ _=>cases hl
 | fnl gs=>
  cases ss with
  | cons _ _=>cases h
  | nil=>
   cases vs with
   | nil=>exact⟨[_],congrArg (fun u=>[u]) (qBv h).symm,rfl⟩
   | cons _ _=>cases hl
 | clo g e=>
  cases ss with
  | nil=>cases h
  | cons s ss=>
   cases ss with
   | cons _ _=>cases s with
    | sel e' y o=>cases o <;> cases h
    | _=>cases h
   | nil=>
    cases s with
    | sel e' y o=>
     cases o with
     | succ _=>cases h
     | zero=>
      have h':(if hh:f=g/\e'=e then some ((hh.2 ▸ y:e.den)) else none)=some x:=h
      split at h'
      ·rename_i hh;obtain⟨rfl,rfl⟩:=hh;injection h' with h'; subst h'
       cases vs with
       | nil=>cases hl
       | cons v vs=>
        cases vs with
        | cons _ _=>cases hl
        | nil=>
         have h0:=hd 0 _ v rfl rfl;cases h0 with
         | sel q1 q2 q3=>exact⟨[_],⟨_,_,rfl,q1,q2,q3⟩,rfl⟩
      ·cases h'
    | _=>cases h
 | _=>cases h
theorem qtf{τ:Ty}{s:SV}{u:Value}{x:τ.den}(h:s.as τ=some x)(hd:Den P F w ρ s u):RdV F w τ x u:=by
 cases hd with
 | v hv=>
  rename_i τ' y;simp only[SV.as] at h;split at h
  ·rename_i e;subst e; injection h with h; subst h; exact hv
  ·cases h
 | raw=>exact qzg h
 | clo hl hd=>exact qu8 h hl hd
 | _=>simp only[SV.as] at h; cases h
theorem drop_cons{α:Type}{l l':List α}{s:α}(h:s::l'=l):l'=l.drop 1:=by subst h; rfl
theorem qhG{τ:Ty}(ha:τ.agg=false){l l':List SV}{vs:List Value}{x:τ.den}(h:asm1 τ l=some (x,l'))(hl:l.length=vs.length)
  (hd:∀(i:Nat) (s:SV) (u:Value),l[i]? = some s->vs[i]? = some u->Den P F w ρ s u):l'=l.drop 1/\RdC F w τ x (vs.take 1)/\1<=l.length:=by
 cases l with
 | nil=>cases h
 | cons s l=>
  cases vs with
  | nil=>simp at hl
  | cons u vs=>
   simp only[asm1] at h;split at h
   ·rename_i y hy;injection h with h; injection h with h1 h2; subst h1 h2
    exact⟨rfl,by simpa using qu7 (qtf hy (hd 0 s u rfl rfl)) ha,by simp⟩
   ·cases h
theorem qn3:∀ {τ:Ty} {l l':List SV} {vs:List Value} {x:τ.den},asm τ l=some (x,l')->l.length=vs.length->
  (∀(i:Nat) (s:SV) (u:Value),l[i]? = some s->vs[i]? = some u->Den P F w ρ s u)->l'=l.drop τ.size/\RdC F w τ x (vs.take τ.size)/\τ.size<=l.length
 | .unit,l,l',vs,x,h,hl,hd=>by
  simp only[asm] at h; injection h with h; injection h with h1 h2; subst h1 h2
  exact⟨rfl,by simp[RdC,Ty.size],zu1 _⟩
 | .pair a b,l,l',vs,x,h,hl,hd=>by
  simp only[asm] at h;split at h
  ·rename_i x1 l1 h1;split at h
   ·rename_i x2 l2 h2;injection h with h; injection h with e1 e2; subst e1 e2
    obtain⟨a1,a2,a3⟩:=qn3 h1 hl hd;subst a1;obtain⟨b1,b2,b3⟩:=qn3 (vs:=vs.drop a.size) h2 (by simp[hl]) (fun i s u hs hu=>hd (a.size+i) s u (by simpa[zB] using hs) (by simpa[zB] using hu))
    subst b1;refine⟨by rw[zE1]; rfl,⟨vs.take a.size,(vs.drop a.size).take b.size,?_,a2,b2⟩,by simp at b3; show a.size+b.size<=_; omega⟩
    show vs.take (a.size+b.size)=_;rw[List.take_add]
   ·cases h
  ·cases h
 | .int k,l,l',vs,x,h,hl,hd=>qhG rfl h hl hd
 | .bool,l,l',vs,x,h,hl,hd=>qhG rfl h hl hd
 | .str,l,l',vs,x,h,hl,hd=>qhG rfl h hl hd
 | .sl e,l,l',vs,x,h,hl,hd=>qhG rfl h hl hd
 | .err,l,l',vs,x,h,hl,hd=>qhG rfl h hl hd
 | .map k v,l,l',vs,x,h,hl,hd=>qhG rfl h hl hd
 | .fnc _,l,l',vs,x,h,hl,hd=>qhG rfl h hl hd
 | .fnl _,l,l',vs,x,h,hl,hd=>qhG rfl h hl hd
 | .clo _ _,l,l',vs,x,h,hl,hd=>qhG rfl h hl hd
 | .arr n e,l,l',vs,x,h,hl,hd=>by
  have key:∀(n:Nat) (l l':List SV) (vs:List Value) (x:List e.den),asmA (asm e) n l=some (x,l')->l.length=vs.length->(∀(i:Nat) (s:SV) (u:Value),l[i]? = some s->vs[i]? = some u->Den P F w ρ s u)->
    l'=l.drop (n*e.size)/\RdAr e.den (RdC F w e) n x (vs.take (n*e.size))/\n*e.size<=l.length:=by
   intro n;induction n with
   | zero=>
    intro l l' vs x h hl hd;simp only[asmA] at h; injection h with h; injection h with h1 h2; subst h1 h2
    exact⟨by simp,⟨rfl,by simp⟩,by simp⟩
   | succ n ih=>
    intro l l' vs x h hl hd;simp only[asmA] at h;split at h
    ·rename_i x1 l1 h1;split at h
     ·rename_i x2 l2 h2;injection h with h; injection h with e1 e2; subst e1 e2
      obtain⟨a1,a2,a3⟩:=qn3 h1 hl hd;subst a1;obtain⟨b1,b2,b3⟩:=ih _ _ (vs.drop e.size) _ h2 (by simp[hl]) (fun i s u hs hu=>hd (e.size+i) s u (by simpa[zB] using hs) (by simpa[zB] using hu))
      subst b1;have he:(n+1)*e.size=e.size+n*e.size:=by rw[z31,zx1]; omega
      refine⟨by rw[zE1,he],⟨x1,x2,vs.take e.size,(vs.drop e.size).take (n*e.size),rfl,by rw[he,List.take_add],a2,b2⟩,?_⟩
      rw[z01] at b3; omega
     ·cases h
    ·cases h
  exact key n l l' vs x h hl hd
theorem qcR{τ:Ty}{s:SV}{u:Value}{x:τ.den}(h:s.dat τ=some x)(hd:Den P F w ρ s u):RdV F w τ x u:=by
 cases hd with
 | agg hl hi h1=>
  rename_i ss vs;simp only[SV.dat] at h;cases ha:τ.agg with
  | false=>rw[ha] at h; cases h
  | true=>
   rw[ha] at h;simp only[za] at h;split at h
   ·rename_i y hy;injection h with h; subst h
    obtain⟨a1,a2,a3⟩:=qn3 hy hl hi;have:vs.take τ.size=vs:=by
     rw[zz];have:=congrArg List.length a1;simp at this; omega
    rw[this] at a2;exact⟨vs,a2,by simp[mkV,ha]⟩
   ·cases h
 | @v τ' y _ hv=>exact qtf (ρ:=ρ) (show SV.as τ (SV.v τ' y)=some x from h) (.v hv:Den P F w ρ _ _)
 | raw u=>exact qtf (ρ:=ρ) (show SV.as τ (SV.raw u)=some x from h) (.raw u:Den P F w ρ _ _)
 | clo hl hd=>exact qu8 h hl hd
 | _=>simp only[SV.dat,SV.as] at h; cases h
theorem qow:∀ {τ:Ty} {x:τ.den} {cs:List Value},RdC F w τ x cs->(split τ x).length=cs.length/\∀(i:Nat) (s:SV) (u:Value),(split τ x)[i]? = some s->cs[i]? = some u->Den P F w ρ s u
 | .unit,x,cs,h=>by cases h; exact⟨rfl,fun i s u hs=>by simp[split] at hs⟩
 | .pair a b,x,cs,h=>by
  obtain⟨c1,c2,rfl,h1,h2⟩:=h;obtain⟨a1,a2⟩:=qow h1;obtain⟨b1,b2⟩:=qow h2;refine⟨by simp[split,a1,b1],fun i s u hs hu=>?_⟩
  simp only[split] at hs;by_cases hi:i<c1.length
  ·rw[zR (by omega)] at hs
   rw[zR hi] at hu;exact a2 i s u hs hu
  ·rw[zV (by omega)] at hs
   rw[zV (by omega)] at hu
   rw[a1] at hs;exact b2 _ s u hs hu
 | .int k,x,cs,h=>one_split h (by rfl)
 | .bool,x,cs,h=>one_split h (by rfl)
 | .str,x,cs,h=>one_split h (by rfl)
 | .sl e,x,cs,h=>one_split h (by rfl)
 | .err,x,cs,h=>one_split h (by rfl)
 | .map k v,x,cs,h=>one_split h (by rfl)
 | .fnc _,x,cs,h=>one_split h (by rfl)
 | .fnl _,x,cs,h=>one_split h (by rfl)
 | .clo _ _,x,cs,h=>one_split h (by rfl)
 | .arr n e,x,cs,h=>by
  have key:∀(n i:Nat) (l:List e.den) (cs:List Value),RdAr e.den (RdC F w e) n (l.drop i) cs->(qte (split e) e.dflt l i n).length=cs.length/\∀(j:Nat) (s:SV) (u:Value),(qte (split e) e.dflt l i n)[j]? = some s->cs[j]? = some u->Den P F w ρ s u:=by
   intro n;induction n with
   | zero=>
    rintro i l cs ⟨_,rfl⟩
    exact⟨rfl,fun j s u hs=>by simp[qte] at hs⟩
   | succ n ih=>
    rintro i l _ ⟨y,r,c1,c2,e1,rfl,h1,h2⟩
    have hi:i<l.length:=by
     have:=congrArg List.length e1;rw[z01,zg] at this; omega
    rw[ze1 hi] at e1;injection e1 with e1 e2
    have hg:l.getD i e.dflt=y:=by rw[<-e1]; simp[hi]
    subst e2;obtain⟨a1,a2⟩:=qow h1;obtain⟨b1,b2⟩:=ih (i+1) l c2 h2;simp only[qte,hg];refine⟨by simp[a1,b1],fun j s u hs hu=>?_⟩
    by_cases hj:j<c1.length
    ·rw[zR (by omega)] at hs
     rw[zR hj] at hu;exact a2 j s u hs hu
    ·rw[zV (by omega)] at hs
     rw[zV (by omega)] at hu
     rw[a1] at hs;exact b2 _ s u hs hu
  exact key n 0 x cs h
where
 one_split {τ:Ty} {x:τ.den} {cs:List Value} (h:RdC F w τ x cs) (ha:τ.agg=false):[SV.v τ x].length=cs.length/\∀(i:Nat) (s:SV) (u:Value),[SV.v τ x][i]? = some s->cs[i]? = some u->Den P F w ρ s u:=by
  have hl:=h.size;have hs:τ.size=1:=by cases τ <;> first | rfl | cases ha
  rw[hs] at hl;obtain⟨c,rfl⟩:=zo1.1 hl;refine⟨rfl,fun i s u h1 h2=>?_⟩
  cases i with
  | zero=>simp at h1 h2; subst h1 h2; exact .v (qzf h ha)
  | succ i=>simp at h1
theorem qre{u:Value}(h:u.oneCell'=true):u.cells=#[u]:=by cases u <;> first | rfl | (simp[Value.oneCell'] at h)
theorem sing{s:SV}{u:Value}(hd:Den P F w ρ s u)(h1:u.oneCell'=true):[s].length=u.cells.size/\∀(i:Nat) (s':SV) (u':Value),[s][i]? = some s'->u.cells[i]? = some u'->Den P F w ρ s' u'/\u'.oneCell'=true:=by
 rw[qre h1];refine⟨rfl,fun i s' u' hs hu=>?_⟩
 cases i with
 | zero=>simp at hs hu; subst hs hu; exact⟨hd,h1⟩
 | succ i=>simp at hs
theorem qrf(hone:∀b v,ρ b=some v->v.oneCell'=true){s:SV}{u:Value}{cs:List SV}(h:s.cells=some cs)(hd:Den P F w ρ s u):
  cs.length=u.cells.size/\∀(i:Nat) (s':SV) (u':Value),cs[i]? = some s'->u.cells[i]? = some u'->Den P F w ρ s' u'/\u'.oneCell'=true:=by
 cases hd with
 | @v τ x _ hv=>
  obtain⟨es,h1,rfl⟩:=hv;simp only[SV.cells] at h; injection h with h; subst h
  obtain⟨a1,a2⟩:=qow (P:=P) (ρ:=ρ) h1;have hc:(mkV τ es).cells=es.toArray:=by
   unfold mkV;cases ha:τ.agg with
   | true=>rfl
   | false=>
    have hs:τ.size=1:=by cases τ <;> first | rfl | cases ha
    have hl:=h1.size;rw[hs] at hl;obtain⟨c,rfl⟩:=zo1.1 hl;exact qre (h1.one c (by simp))
  rw[hc];refine⟨by simpa using a1,fun i s' u' hs hu=>?_⟩
  have hu':es[i]? = some u':=by simpa using hu
  exact⟨a2 i s' u' hs hu',h1.one u' (zF hu')⟩
 | agg hl hi h1=>
  rename_i ss vs;simp only[SV.cells] at h; injection h with h; subst h
  refine⟨by simpa[Value.cells] using hl,fun i s' u' hs hu=>?_⟩
  have hu':vs[i]? = some u':=by simpa[Value.cells] using hu
  exact⟨hi i s' u' hs hu',h1 u' (zF hu')⟩
 | raw u=>
  simp only[SV.cells] at h;cases h1:u.oneCell' with
  | false=>rw[h1] at h; cases h
  | true=>rw[h1] at h; injection h with h; subst h; exact sing (.raw u) h1
 | any=>cases h
 | ptr hb=>simp only[SV.cells] at h; injection h with h; subst h; exact sing (.ptr hb) rfl
 | nptr hb=>simp only[SV.cells] at h; cases h
 | ael hb hi=>simp only[SV.cells] at h; injection h with h; subst h; exact sing (.ael hb hi) rfl
 | pel hb hi=>simp only[SV.cells] at h; injection h with h; subst h; exact sing (.pel hb hi) rfl
 | aix hb hi hm=>simp only[SV.cells] at h; injection h with h; subst h; exact sing (.aix hb hi hm) rfl
 | rest=>cases h
 | pre=>cases h
 | own hb=>simp only[SV.cells] at h; injection h with h; subst h; exact sing (.own hb) (hone _ _ hb)
 | sel a1 a2 a3=>simp only[SV.cells] at h; injection h with h; subst h; exact sing (.sel a1 a2 a3) rfl
 | tup=>cases h
 | cut=>cases h
 | nilq=>cases h
 | fzd=>cases h
 | when=>cases h
 | clo a1 a2=>simp only[SV.cells] at h; injection h with h; subst h; exact sing (.clo a1 a2) rfl
 | fn hf=>simp only[SV.cells] at h; injection h with h; subst h; exact sing (.fn hf) (by rcases hf with⟨rfl,_⟩ | ⟨f,caps,rfl,_⟩ <;> rfl)
 | fmap=>cases h
theorem qlv:∀ {τ:Ty} {x:τ.den} {o:Nat} {τ':Ty} {y:τ'.den} {cs:List Value},sub τ x o τ'=some y->RdC F w τ x cs->RdC F w τ' y ((cs.drop o).take τ'.size)/\o+τ'.size<=cs.length
 | .pair a b,x,o,τ',y,cs,h,hr=>by
  simp only[sub] at h;split at h
  ·rename_i hh;obtain⟨rfl,rfl⟩:=hh;injection h with h; subst h
   have hl:=hr.size;exact⟨by rw[z32,zz (by omega)]; exact hr,by omega⟩
  ·obtain⟨c1,c2,rfl,h1,h2⟩:=hr;have hl1:=h1.size;cases hlt:Nat.blt o a.size with
   | true=>
    rw[hlt] at h;obtain⟨a1,a2⟩:=qlv h h1;refine⟨?_,by simp; omega⟩
    rw[zN1 (by omega),zg1 (by simp; omega)]
    exact a1
   | false=>
    rw[hlt] at h;have hge:a.size<=o:=by
     rcases zb2 o a.size with h' | h'
     ·rw[show Nat.blt o a.size=true by rw[zX]; exact h'] at hlt; cases hlt
     ·exact h'
    obtain⟨a1,a2⟩:=qlv h h2;refine⟨?_,by simp; omega⟩
    rw[show o=c1.length+(o-a.size) by omega,zO1,zZ (by omega),zC,zS1]
    exact a1
 | .unit,x,o,τ',y,cs,h,hr=>one_sub h hr
 | .int k,x,o,τ',y,cs,h,hr=>one_sub h hr
 | .bool,x,o,τ',y,cs,h,hr=>one_sub h hr
 | .str,x,o,τ',y,cs,h,hr=>one_sub h hr
 | .sl e,x,o,τ',y,cs,h,hr=>one_sub h hr
 | .err,x,o,τ',y,cs,h,hr=>one_sub h hr
 | .map k v,x,o,τ',y,cs,h,hr=>one_sub h hr
 | .fnc _,x,o,τ',y,cs,h,hr=>one_sub h hr
 | .fnl _,x,o,τ',y,cs,h,hr=>one_sub h hr
 | .clo _ _,x,o,τ',y,cs,h,hr=>one_sub h hr
 | .arr n e,x,o,τ',y,cs,h,hr=>by
  simp only[sub] at h;split at h
  ·rename_i hh;obtain⟨rfl,rfl⟩:=hh;injection h with h; subst h
   have hl:=hr.size;exact⟨by rw[z32,zz (by omega)]; exact hr,by omega⟩
  ·cases hlt:Nat.blt o (n*e.size) with
   | false=>rw[hlt] at h; cases h
   | true=>
    rw[hlt] at h; simp only[za] at h;rw[zX] at hlt;have hr':RdAr e.den (RdC F w e) n x cs:=hr;have hpos:0<e.size:=by
     rcases zW1 e.size with h0 | h0
     ·rw[h0] at hlt; omega
     ·exact h0
    have hq:o/e.size<n:=(Nat.div_lt_iff_lt_mul hpos).2 hlt;obtain⟨g1,_⟩:=RdAr.get (fun _ _ h=>RdC.size h) e.dflt hr' hq
    obtain⟨a1,a2⟩:=qlv h g1;have hs:=g1.size;have hdm:=zN2 o e.size;rw[zX1] at hdm;rw[z42,zE1,zF1] at a1;have hmod:=Nat.mod_lt o hpos;have hle:(o%e.size)+τ'.size<=e.size:=by omega
    rw[z91 (by omega),hdm] at a1
    refine⟨a1,?_⟩
    have hcs:=(RdAr.size (fun _ _ h=>RdC.size h) hr').1
    have:o/e.size*e.size+e.size<=n*e.size:=by
     have:=zA e.size (show o/e.size+1<=n from hq)
     rwa[z31,zx1] at this
    omega
where
 one_sub {τ:Ty} {x:τ.den} {o:Nat} {τ':Ty} {y:τ'.den} {cs:List Value} (h:(if h:o=0/\τ=τ' then some (h.2 ▸ x) else none)=some y) (hr:RdC F w τ x cs):RdC F w τ' y ((cs.drop o).take τ'.size)/\o+τ'.size<=cs.length:=by
  split at h
  ·rename_i hh;obtain⟨rfl,rfl⟩:=hh;injection h with h; subst h
   have hl:=hr.size;exact⟨by rw[z32,zz (by omega)]; exact hr,by omega⟩
  ·cases h
end
end Go.Sq
