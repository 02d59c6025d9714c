/- Accounts: names, their order; what is valid. No condition. -/
import Derived.Test.YtgmjmgihjjddmaaGreatLa2
namespace Go.Proofs.YtgmjmgihjjddmaaGreat.Ac
open Go Go.Sq
abbrev Acc:=List UInt8×Int×Int×Int×Int
abbrev Ent:=List UInt8×Int×Int
abbrev d0:Acc:=([],(0,(0,(0,0))))
abbrev e0:Ent:=([],(0,0))
/-! ### The order of texts -/
theorem qrK(a b:UInt8)(x y:List UInt8):Op.bytesLess (a::x) (b::y)=true↔a.toNat<b.toNat\/(a=b/\Op.bytesLess x y=true):=by
 rw[show Op.bytesLess (a::x) (b::y)=(decide (a<b) || (a==b&&Op.bytesLess x y)) from rfl]
 simp only[zl1,zb,zw,beq_iff_eq,UInt8.lt_iff_toNat_lt]
theorem qwU(x:List UInt8):Op.bytesLess x []=false:=by cases x <;> rfl
theorem qoY:∀a:List UInt8,Op.bytesLess a a=false
 | []=>rfl
 | a::x=>by
  rw[<-z82,qrK]
  rintro(h | ⟨_,h⟩)
  ·omega
  ·rw[qoY x] at h; cases h
theorem qoZ:∀ {a b c:List UInt8},Op.bytesLess a b=true->Op.bytesLess b c=true->Op.bytesLess a c=true
 | _,[],_,h,_=>by rw[qwU] at h; cases h
 | _,_::_,[],_,h=>by rw[qwU] at h; cases h
 | [],_::_,_::_,_,_=>rfl
 | a::x,b::y,c::z,h,h'=>by
  rw[qrK] at h h' ⊢;rcases h with h | ⟨rfl,h⟩ <;> rcases h' with h' | ⟨rfl,h'⟩
  ·left; omega
  ·left; exact h
  ·left; exact h'
  ·right; exact⟨rfl,qoZ h h'⟩
theorem qBC:∀a b:List UInt8,Op.bytesLess a b=true\/a=b\/Op.bytesLess b a=true
 | [],[]=>.inr (.inl rfl)
 | [],_::_=>.inl rfl
 | _::_,[]=>.inr (.inr rfl)
 | a::x,b::y=>by
  rw[qrK,qrK];rcases Nat.lt_trichotomy a.toNat b.toNat with h | h | h
  ·exact .inl (.inl h)
  ·have e:=UInt8.toNat_inj.1 h;subst e;rcases qBC x y with h1 | h1 | h1
   ·exact .inl (.inr ⟨rfl,h1⟩)
   ·subst h1; exact .inr (.inl rfl)
   ·exact .inr (.inr (.inr ⟨rfl,h1⟩))
  ·exact .inr (.inr (.inl h))
theorem qzv{a b:List UInt8}(h:Op.bytesLess a b=true):Op.bytesLess b a=false:=by
 rw[<-z82];intro h';have:=qoZ h h';rw[qoY] at this; cases this
theorem bl_ne{a b:List UInt8}(h:Op.bytesLess a b=true):a≠b:=fun e=>by
 subst e; rw[qoY] at h; cases h
theorem qo0:∀a b:List UInt8,(Lib.compareBytes a b<0↔Op.bytesLess a b=true)/\(Lib.compareBytes a b=0↔a=b)
 | [],[]=>by simp[Lib.compareBytes,qwU]
 | [],_::_=>by simp[Lib.compareBytes]; rfl
 | _::_,[]=>by simp[Lib.compareBytes,qwU]
 | a::x,b::y=>by
  have ih:=qo0 x y;unfold Lib.compareBytes;rw[qrK];simp only[UInt8.lt_iff_toNat_lt,List.cons.injEq];rcases Nat.lt_trichotomy a.toNat b.toNat with h | h | h
  ·have hne:a≠b:=fun e=>by subst e; omega
   simp[h,hne]
  ·have e:=UInt8.toNat_inj.1 h;subst e;simp only[Nat.lt_irrefl,if_false,false_or,true_and];exact ih
  ·have hne:a≠b:=fun e=>by subst e; omega
   rw[if_neg (by omega),if_pos h]
   constructor
   ·constructor
    ·intro h; omega
    ·rintro(h' | ⟨h',_⟩)
     ·omega
     ·exact absurd h' hne
   ·constructor
    ·intro h; omega
    ·rintro⟨h',_⟩; exact absurd h' hne
/-! ### Names -/
def qgt(c:Int):Int:=if 97<=c/\c<=122 then 1 else if(48<=c/\c<=57)\/c=45 then 2 else 0
theorem place_eq(c:Int):qeI c=some (qgt c):=by
 unfold qeI qgt;by_cases h1:97<=c
 ·by_cases h2:c<=122
  ·simp[h1,h2]
  ·simp[h1,h2,show ¬c<=57 by omega,show ¬c=45 by omega,show 48<=c by omega]
 ·by_cases h3:48<=c
  ·by_cases h4:c<=57
   ·simp[h1,h3,h4]
   ·simp[h1,h3,h4,show ¬c=45 by omega]
  ·by_cases h5:c=45
   ·simp[h5]
   ·simp[h1,h3,h5]
def qeo(s:List UInt8)(i:Nat):Int:=Int.ofNat (s.getD i 0).toNat
theorem qzw(s:List UInt8)(i:Nat):0<=qeo s i/\qeo s i<=255:=by
 unfold qeo;have:=(s.getD i 0).toNat_lt;constructor
 ·exact Int.natCast_nonneg _
 ·show((s.getD i 0).toNat:Int)<=255;omega
def nameP(s:List UInt8):Bool:=decide (1<=s.length)&&(decide (s.length<=12)&&(decide (qgt (qeo s 0)=1)&&(List.range s.length).all fun i=>decide (qgt (qeo s i)≠0)))
theorem name_eq(s:List UInt8):qcN s=some (nameP s):=by
 unfold qcN nameP;by_cases h1:s.length<1
 ·rw[dec_t (show(s.length:Int)<1 by omega),dec_f (show ¬1<=s.length by omega)]; rfl
 rw[dec_f (show ¬(s.length:Int)<1 by omega),dec_t (show 1<=s.length by omega)]
 by_cases h2:12<s.length
 ·rw[dec_t (show 12<(s.length:Int) by omega),dec_f (show ¬s.length<=12 by omega)]; rfl
 rw[dec_f (show ¬12<(s.length:Int) by omega),dec_t (show s.length<=12 by omega),gd_t (show inB 0 s.length=true from inB_t (i:=0) (by omega)),place_eq]
 simp only[za,z7,zF];show(bif !decide (qgt (qeo s 0)=1) then some false else _)=_;by_cases h3:qgt (qeo s 0)=1
 ·rw[dec_t h3];have:=qa2 (step:=fun x=>qb2 s x) s.length (fun i=>(i:Int)) (fun i=>decide (qgt (qeo s i)≠0)) (fin:=.inl ()) (bad:=.inr false) (fun i hi _ hp=>by
    unfold qb2;simp only[dec_t (show(i:Int)<(s.length:Int) by omega),z9,gd_t (inB_t hi),z8,place_eq,z7]
    show(bif decide (qgt (qeo s i)=0) then _ else _)=_;rw[dec_f (zi hp),wi (by omega)]; rfl) (fun i hi _ hp=>by
    unfold qb2;simp only[dec_t (show(i:Int)<(s.length:Int) by omega),z9,gd_t (inB_t hi),z8,place_eq,z7]
    show(bif decide (qgt (qeo s i)=0) then _ else _)=_;rw[dec_t (by simpa using hp)]; rfl) (fun _=>by
    unfold qb2;simp only[dec_f (show ¬(s.length:Int)<(s.length:Int) by omega),za])
  simp only[zd,za,zF];rw[show(0:Int)=((0:Nat):Int) from rfl,this]
  cases(List.range s.length).all fun i=>decide (qgt (qeo s i)≠0) <;> rfl
 ·rw[dec_f h3]; rfl
theorem rname_eq(s:List UInt8):qcq s=some (nameP s):=by
 unfold qcq nameP;by_cases h1:s.length<1
 ·rw[dec_t (show(s.length:Int)<1 by omega),dec_f (show ¬1<=s.length by omega)]; rfl
 rw[dec_f (show ¬(s.length:Int)<1 by omega),dec_t (show 1<=s.length by omega)]
 by_cases h2:12<s.length
 ·rw[dec_t (show 12<(s.length:Int) by omega),dec_f (show ¬s.length<=12 by omega)]; rfl
 rw[dec_f (show ¬12<(s.length:Int) by omega),dec_t (show s.length<=12 by omega),gd_t (show inB 0 s.length=true from inB_t (i:=0) (by omega)),gd_t (show inB 0 s.length=true from inB_t (i:=0) (by omega))]
 have e0:(bif decide ((Int.ofNat (s.getD 0 0).toNat)<97) then some true else some (decide (122<(Int.ofNat (s.getD 0 0).toNat))))=some (!decide (qgt (qeo s 0)=1)):=by
  show(bif decide (qeo s 0<97) then some true else some (decide (122<qeo s 0)))=_;generalize qeo s 0=c;unfold qgt;by_cases a1:c<97
  ·rw[dec_t a1,if_neg (by omega)]
   split <;> rfl
  ·rw[dec_f a1];by_cases a2:122<c
   ·rw[dec_t a2,if_neg (by omega)]
    split <;> rfl
   ·rw[dec_f a2,if_pos (by omega)]; rfl
 rw[e0];simp only[za,z7,zF];by_cases h3:qgt (qeo s 0)=1
 ·rw[dec_t h3];have step:∀i:Nat,i<s.length->qb6 s (i:Int)=bif decide (qgt (qeo s i)≠0) then some (.inl ((i+1:Nat):Int)) else some (.inr (.inr false)):=by
   intro i hi;have hb:=qzw s i;unfold qb6;simp only[dec_t (show(i:Int)<(s.length:Int) by omega),z9,gd_t (inB_t hi),z8]
   simp only[show(Int.ofNat (s.getD i 0).toNat)=qeo s i from rfl]
   generalize qeo s i=c at hb;unfold qgt;rw[show wi64 ((i:Int)+1)=((i+1:Nat):Int) by rw[wi (by omega)]; rfl]
   by_cases a1:c<97
   ·by_cases a3:c<48
    ·by_cases a5:c=45
     ·simp[a5]
     ·simp[a1,a3,a5,show ¬97<=c by omega,show ¬48<=c by omega]
    ·by_cases a4:57<c
     ·simp[a1,a3,a4,show ¬97<=c by omega,show ¬c<=57 by omega,show ¬c=45 by omega]
     ·simp[a1,a3,a4,show ¬97<=c by omega,show 48<=c by omega,show c<=57 by omega]
   ·by_cases a2:122<c
    ·simp[a1,a2,show ¬c<=122 by omega,show ¬c<48 by omega,show 57<c by omega,show ¬c=45 by omega,show ¬c<=57 by omega]
    ·simp[a1,a2,show 97<=c by omega,show c<=122 by omega]
  have:=qa2 (step:=fun x=>qb6 s x) s.length (fun i=>(i:Int)) (fun i=>decide (qgt (qeo s i)≠0)) (fin:=.inl ()) (bad:=.inr false) (fun i hi _ hp=>by
    rw[step i hi,hp]; rfl) (fun i hi _ hp=>by
    rw[step i hi,hp]; rfl) (fun _=>by
    unfold qb6;simp only[dec_f (show ¬(s.length:Int)<(s.length:Int) by omega),za])
  simp only[zd,za,zF];rw[show(0:Int)=((0:Nat):Int) from rfl,this]
  cases(List.range s.length).all fun i=>decide (qgt (qeo s i)≠0) <;> rfl
 ·rw[dec_f h3]; rfl
/-! ### What is valid -/
def volP(n:Int):Bool:=decide (0<=n/\n<=1099511627776)
def sgnP(n:Int):Bool:=decide (-1099511627776<=n/\n<=1099511627776)
theorem qwV(n:Int):qck n=some (volP n):=by
 unfold qck volP;by_cases h:0<=n <;> simp[h]
theorem qBD(n:Int):qdA n=some (sgnP n):=by
 unfold qdA sgnP;by_cases h1 : -1099511627776<=n <;> by_cases h2:n<=1099511627776 <;> simp[h1,h2]
def accP(a:Acc):Bool:=volP a.2.1&&(volP a.2.2.1&&(volP a.2.2.2.1&&sgnP a.2.2.2.2))
theorem qzx(a:Acc):qcw a=some (accP a):=by
 unfold qcw accP;rw[qwV,qwV,qwV,qBD];cases volP a.2.1 <;> cases volP a.2.2.1 <;> cases volP a.2.2.2.1 <;> rfl
theorem qtO(a:Acc):qfH a=some (accP a):=by
 unfold qfH accP volP sgnP;by_cases h1:0<=a.2.1
 ·by_cases h2:a.2.1<=1099511627776
  ·by_cases h3:0<=a.2.2.1
   ·by_cases h4:a.2.2.1<=1099511627776
    ·by_cases h5:0<=a.2.2.2.1
     ·by_cases h6:a.2.2.2.1<=1099511627776
      ·by_cases h7 : -1099511627776<=a.2.2.2.2 <;> simp[h1,h2,h3,h4,h5,h6,h7]
      ·simp[h1,h2,h3,h4,h5,h6]
     ·simp[h1,h2,h3,h4,h5]
    ·simp[h1,h2,h3,h4]
   ·simp[h1,h2,h3]
  ·simp[h1,h2]
 ·simp[h1]
def entP(e:Ent):Bool:=(decide (e.2.1=1\/e.2.1=2\/e.2.1=3)&&volP e.2.2 || decide (e.2.1=4)&&sgnP e.2.2)&&nameP e.1
theorem qC6(e:Ent):qd7 e=some (entP e):=by
 unfold qd7 entP;rw[qwV,qBD,name_eq];by_cases h1:e.2.1=1
 ·simp only[h1]; cases volP e.2.2 <;> simp
 ·by_cases h2:e.2.1=2
  ·simp only[h2]; cases volP e.2.2 <;> simp
  ·by_cases h3:e.2.1=3
   ·simp only[h3]; cases volP e.2.2 <;> simp
   ·by_cases h4:e.2.1=4
    ·simp only[h4]; cases sgnP e.2.2 <;> simp
    ·simp[h1,h2,h3,h4]
theorem qzy(e:Ent):qhT e=some (entP e):=by
 unfold qhT entP volP sgnP;rw[rname_eq];cases nameP e.1
 ·simp
 ·by_cases h1:e.2.1=1
  ·simp only[h1];by_cases a1:0<=e.2.2 <;> simp[a1]
  ·by_cases h2:e.2.1=2
   ·simp only[h2];by_cases a1:0<=e.2.2 <;> simp[a1]
   ·by_cases h3:e.2.1=3
    ·simp only[h3];by_cases a1:0<=e.2.2 <;> simp[a1]
    ·by_cases h4:e.2.1=4
     ·simp only[h4];by_cases a1 : -1099511627776<=e.2.2 <;> simp[a1]
     ·simp[h1,h2,h3,h4]
def okI(l:List Acc)(i:Nat):Bool:=accP (l.getD i d0)&&(nameP (l.getD i d0).1&&(decide (i=0) || Op.bytesLess (l.getD (i-1) d0).1 (l.getD i d0).1))
def qrL(l:List Acc):Bool:=decide (l.length<=64)&&(List.range l.length).all (okI l)
theorem valid_eq{l:List Acc}(hl:l.length<=1000000):qgV l=some (qrL l):=by
 have step:∀i:Nat,i<l.length->qdd l (i:Int)=bif okI l i then some (.inl ((i+1:Nat):Int)) else some (.inr (.inr false)):=by
  intro i hi;unfold qdd okI;simp only[dec_t (show(i:Int)<(l.length:Int) by omega),z9,gd_t (inB_t hi),z8]
  rw[show qcw ((l.getD i d0).1,(((l.getD i d0).2).1,((((l.getD i d0).2).2).1,(((((l.getD i d0).2).2).2).1,((((l.getD i d0).2).2).2).2))))=some (accP (l.getD i d0)) from qzx _,name_eq,
   show wi64 ((i:Int)+1)=((i+1:Nat):Int) by rw[wi (by omega)]; rfl]
  cases h1:accP (l.getD i d0)
  ·rfl
  ·cases h2:nameP (l.getD i d0).1
   ·rfl
   ·by_cases h0:i=0
    ·subst h0; rfl
    ·have e1:wi64 ((i:Int)-1)=((i-1:Nat):Int):=by rw[wi (by omega)]; omega
     rw[dec_t (show(0:Int)<(i:Int) by omega),e1,gd_t (inB_t (show i-1<l.length by omega)),z8,dec_f h0]
     simp only[z7,zd,za,z9,zF,zf2];rcases qBC (l.getD (i-1) d0).1 (l.getD i d0).1 with h | h | h
     ·rw[h,qzv h,dec_f (fun e=>bl_ne h e.symm)]; rfl
     ·rw[h,qoY,dec_t rfl]; rfl
     ·rw[h,qzv h]; rfl
 have:=qa2 (step:=fun x=>qdd l x) l.length (fun i=>(i:Int)) (okI l) (fin:=.inl ()) (bad:=.inr false) (fun i hi _ hp=>by
   rw[step i hi,hp]; rfl) (fun i hi _ hp=>by
   rw[step i hi,hp]; rfl) (fun _=>by
   unfold qdd;simp only[dec_f (show ¬(l.length:Int)<(l.length:Int) by omega),za])
 unfold qgV qrL;rw[show(0:Int)=((0:Nat):Int) from rfl,this]
 cases(List.range l.length).all (okI l)
 ·simp
 ·by_cases h:l.length<=64
  ·rw[dec_t h,show(bif true then(Sum.inl ():Unit⊕Bool) else .inr false)=.inl () from rfl]
   simp only[z7,z21,dec_t (show(l.length:Int)<=64 by omega)]; rfl
  ·rw[dec_f h,show(bif true then(Sum.inl ():Unit⊕Bool) else .inr false)=.inl () from rfl]
   simp only[z7,z21,dec_f (show ¬(l.length:Int)<=64 by omega)]; rfl
theorem rvalid_eq{l:List Acc}(hl:l.length<=1000000):qkf l=some (qrL l):=by
 unfold qkf qrL;by_cases h64:l.length<=64
 ·rw[dec_f (show ¬(64:Int)<(l.length:Int) by omega),dec_t h64]
  have step:∀i:Nat,i<l.length->qej l (i:Int)=bif okI l i then some (.inl ((i+1:Nat):Int)) else some (.inr (.inr false)):=by
   intro i hi;unfold qej okI;simp only[dec_t (show(i:Int)<(l.length:Int) by omega),z9,gd_t (inB_t hi),z8]
   rw[show qfH (l.getD i d0)=some (accP (l.getD i d0)) from qtO _,rname_eq,
    show wi64 ((i:Int)+1)=((i+1:Nat):Int) by rw[wi (by omega)]; rfl]
   cases h2:nameP (l.getD i d0).1
   ·cases accP (l.getD i d0) <;> rfl
   ·cases h1:accP (l.getD i d0)
    ·rfl
    ·by_cases h0:i=0
     ·subst h0; rfl
     ·have e1:wi64 ((i:Int)-1)=((i-1:Nat):Int):=by rw[wi (by omega)]; omega
      rw[dec_t (show(0:Int)<(i:Int) by omega),e1,gd_t (inB_t (show i-1<l.length by omega)),z8,dec_f h0]
      cases Op.bytesLess (l.getD (i-1) d0).1 (l.getD i d0).1 <;> rfl
  have:=qa2 (step:=fun x=>qej l x) l.length (fun i=>(i:Int)) (okI l) (fin:=.inl ()) (bad:=.inr false) (fun i hi _ hp=>by
    rw[step i hi,hp]; rfl) (fun i hi _ hp=>by
    rw[step i hi,hp]; rfl) (fun _=>by
    unfold qej;simp only[dec_f (show ¬(l.length:Int)<(l.length:Int) by omega),za])
  rw[show(0:Int)=((0:Nat):Int) from rfl,this]
  cases(List.range l.length).all (okI l) <;> rfl
 ·rw[dec_t (show(64:Int)<(l.length:Int) by omega),dec_f h64]; rfl
structure qsA(l:List Acc):Prop where
 n:l.length<=64
 acc:∀a∈l,accP a=true
 nm:∀a∈l,nameP a.1=true
 lt:∀i k,i<k->k<l.length->Op.bytesLess (l.getD i d0).1 (l.getD k d0).1=true
theorem qsB{l:List Acc}:qrL l=true↔qsA l:=by
 unfold qrL;rw[zb,zw,quy];constructor
 ·rintro⟨h1,h2⟩
  have h3:∀i,i<l.length->accP (l.getD i d0)=true/\nameP (l.getD i d0).1=true/\(i≠0->Op.bytesLess (l.getD (i-1) d0).1 (l.getD i d0).1=true):=fun i hi=>by
   have:=h2 i hi;simp only[okI,zb,zl1,zw] at this;exact⟨this.1,this.2.1,fun h=>this.2.2.resolve_left h⟩
  refine⟨h1,fun a ha=>?_,fun a ha=>?_,fun i k hik hk=>?_⟩
  ·obtain⟨k,hk,rfl⟩:=quz d0 ha;exact(h3 k hk).1
  ·obtain⟨k,hk,rfl⟩:=quz d0 ha;exact(h3 k hk).2.1
  ·induction k with
   | zero=>omega
   | succ k ih=>
    have hs:=(h3 (k+1) hk).2.2 (by omega)
    rw[Nat.add_sub_cancel] at hs;by_cases e:i=k
    ·subst e; exact hs
    ·exact qoZ (ih (by omega) (by omega)) hs
 ·intro h;refine⟨h.n,fun i hi=>?_⟩
  simp only[okI,zb,zl1,zw];refine⟨h.acc _ (qaY hi),h.nm _ (qaY hi),?_⟩
  by_cases h0:i=0
  ·exact .inl h0
  ·exact .inr (h.lt _ _ (by omega) hi)
end Go.Proofs.YtgmjmgihjjddmaaGreat.Ac
namespace Go.Proofs.YtgmjmgihjjddmaaGreat.Ac
open Go Go.Sq
theorem qA3{i j:Nat}(h:i+j<=4611686018427387904):wi64 (Int.fdiv (wu64 (wi64 ((i:Int)+(j:Int)))) (2^shAmt .u64 1))=(((i+j)/2:Nat):Int):=by
 have e0:wi64 ((i:Int)+(j:Int))=(i:Int)+(j:Int):=wi (by omega)
 have e1:wu64 ((i:Int)+(j:Int))=(i:Int)+(j:Int):=by
  show IntKind.u64.wrap _=_;rw[show IntKind.u64.wrap ((i:Int)+(j:Int))=((i:Int)+(j:Int))%18446744073709551616 from rfl]
  omega
 have e2:(2:Int)^shAmt .u64 1=2:=by kernel_rfl
 rw[e0,e1,e2,zV1 _ (by omega),wi (by omega)]
 omega
theorem qzz{i j:Nat}(h:i+j<=4611686018427387904):wi64 (Int.fdiv (wu64 (wi64 ((i:Int)+(j:Int)))) (2^shAmt .u64 1))=(((i+j)/2:Nat):Int):=qA3 h
structure LbP(l:List Acc)(s:List UInt8)(k:Nat):Prop where
 le:k<=l.length
 lt:∀j,j<k->Op.bytesLess (l.getD j d0).1 s=true
 ge:∀j,k<=j->j<l.length->Op.bytesLess (l.getD j d0).1 s=false
theorem qCk{l:List Acc}{s:List UInt8}(hv:qsA l):∃k:Nat,LbP l s k/\qim l s=some ((k:Int),decide (k<l.length/\(l.getD k d0).1=s)):=by
 have hn:=hv.n;have key:∃e,iter (fun x2:Int×Int=>qav l s (fun h=>(qd8 h.1 h.2.1).bind fun y=>some y) x2.1 x2.2) (0,(l.length:Int))=some e/\∃k:Nat,e=(k:Int)/\LbP l s k:=by
  refine qnZ (fun x=>∃i j:Nat,x=((i:Int),(j:Int))/\i<=j/\j<=l.length/\(∀q,q<i->Op.bytesLess (l.getD q d0).1 s=true)/\(∀q,j<=q->q<l.length->Op.bytesLess (l.getD q d0).1 s=false)) (fun x=>(x.2-x.1).toNat) _ ?_ ⟨0,l.length,rfl,by omega,by omega,by omega,by omega⟩
  rintro _ ⟨i,j,rfl,h1,h2,h3,h4⟩
  unfold qav;simp only;by_cases hij:i<j
  ·right;have hm:(i+j)/2<l.length:=by omega
   simp only[dec_t (show(i:Int)<(j:Int) by omega),z9,qzz (i:=i) (j:=j) (by omega),gd_t (inB_t hm),z8]
   rw[show(qd8 (l.getD ((i+j)/2) d0) s).bind (fun y=>some y)=some (Lib.compareBytes (l.getD ((i+j)/2) d0).1 s) from rfl]
   simp only[z7];by_cases hc:Op.bytesLess (l.getD ((i+j)/2) d0).1 s=true
   ·rw[dec_t ((qo0 _ _).1.2 hc),wi (by omega)]
    refine⟨_,rfl,⟨(i+j)/2+1,j,rfl,by omega,h2,fun q hq=>?_,h4⟩,by simp only; omega⟩
    by_cases e:q=(i+j)/2
    ·rw[e]; exact hc
    ·by_cases e2:q<(i+j)/2
     ·exact qoZ (hv.lt q _ e2 hm) hc
     ·omega
   ·rw[dec_f (fun h=>hc ((qo0 _ _).1.1 h))]
    refine⟨_,rfl,⟨i,(i+j)/2,rfl,by omega,by omega,h3,fun q hq hql=>?_⟩,by simp only; omega⟩
    rw[<-z82];intro hb;by_cases e:q=(i+j)/2
    ·rw[e] at hb; exact hc hb
    ·exact hc (qoZ (hv.lt _ q (by omega) hql) hb)
  ·left;obtain rfl:i=j:=by omega
   exact⟨(i:Int),by simp only[dec_f (show ¬(i:Int)<(i:Int) by omega),za],i,rfl,h2,h3,h4⟩
 obtain⟨_,q,k,rfl,hk⟩:=key;refine⟨k,hk,?_⟩
 unfold qim qaA;rw[q];simp only[z7];by_cases hkl:k<l.length
 ·rw[dec_t (show(k:Int)<(l.length:Int) by omega),gd_t (inB_t hkl),z8,show(qd8 (l.getD k d0) s).bind (fun y=>some y)=some (Lib.compareBytes (l.getD k d0).1 s) from rfl]
  simp only[z9,z7];congr 2;by_cases e:(l.getD k d0).1=s
  ·rw[dec_t ((qo0 _ _).2.2 e),dec_t ⟨hkl,e⟩]
  ·rw[dec_f (fun h=>e ((qo0 _ _).2.1 h)),dec_f (fun h=>e h.2)]
 ·rw[dec_f (show ¬(k:Int)<(l.length:Int) by omega),dec_f (fun h=>hkl h.1)]; rfl
theorem qA4{l:List Acc}{e:Ent}(hv:qsA l){k:Nat}(hk:LbP l e.1 k):iter (fun x=>qfo l e x) 0=some (k:Int):=by
 have hn:=hv.n;have hkl:=hk.le;have:=qbe (step:=fun x=>qfo l e x) k (fun i=>(i:Int)) (e:=(k:Int)) (fun i hi=>by
   unfold qfo;simp only[dec_t (show(i:Int)<(l.length:Int) by omega),z9,gd_t (inB_t (show i<l.length by omega)),z8,hk.lt i hi,z7]
   rw[wi (by omega)]; rfl) (by
   unfold qfo;by_cases h:k<l.length
   ·simp only[dec_t (show(k:Int)<(l.length:Int) by omega),z9,gd_t (inB_t h),z8,hk.ge k (zX _) h,z7,za]
   ·simp only[dec_f (show ¬(k:Int)<(l.length:Int) by omega),za,z7])
 simpa using this
def qcn(a:Acc)(e:Ent):Acc:=
 if e.2.1=1 then(a.1,(wi64 (a.2.1+e.2.2),a.2.2)) else if e.2.1=2 then(a.1,(a.2.1,(wi64 (a.2.2.1+e.2.2),a.2.2.2)))
 else if e.2.1=3 then(a.1,(a.2.1,(a.2.2.1,(wi64 (a.2.2.2.1+e.2.2),a.2.2.2.2)))) else if e.2.1=4 then(a.1,(a.2.1,(a.2.2.1,(a.2.2.2.1,wi64 (a.2.2.2.2+e.2.2))))) else a
theorem quQ(a:Acc)(e:Ent):qdg a e=some (qcn a e):=by
 unfold qdg qcn;by_cases h1:e.2.1=1
 ·simp[h1]
 ·by_cases h2:e.2.1=2
  ·simp[h2]
  ·by_cases h3:e.2.1=3
   ·simp[h3]
   ·by_cases h4:e.2.1=4
    ·simp[h4]
    ·simp[h1,h2,h3,h4]
theorem qA5{s:List Acc}(h:s.length<=1000000):qan s=some s:=by
 unfold qan;have hf:fits (0+s.length) 48=true:=qae (by omega)
 rw[hf]; rfl
structure PostP(l:List Acc)(e:Ent)(r:List Acc×Int):Prop where
 bad:¬(qsA l/\entP e=true)->r=(l,27)
 good:qsA l->entP e=true->∃k,LbP l e.1 k∧
  ((k<l.length/\(l.getD k d0).1=e.1/\r=if accP (qcn (l.getD k d0) e)=true then(l.set k (qcn (l.getD k d0) e),0) else(l,4))∨
   (¬(k<l.length/\(l.getD k d0).1=e.1)/\r=if accP (qcn (e.1,(0,(0,(0,0)))) e)=true/\l.length≠64 then(l.take k++qcn (e.1,(0,(0,(0,0)))) e::l.drop k,0) else(l,4)))
theorem qCl{A:Type}(P Q:List A)(x y:A):(P++x::Q).set P.length y=P++y::Q:=by
 induction P with
 | nil=>rfl
 | cons a P ih=>simp only[zH1,zq,List.set_cons_succ,ih]
theorem qzA(P Q:List Acc)(x:Acc):(P++x::Q).getD P.length d0=x:=by
 rw[qBt,if_neg (Nat.lt_irrefl _),Nat.sub_self]; rfl
theorem qzB{l:List Acc}{e:Ent}(hl:l.length<=100000):∃r:List Acc×Int,qgj l e=some (r.2,r.1)/\qfI l e=some r/\PostP l e r:=by
 unfold qgj qfI;rw[qA5 (by omega),valid_eq (by omega),rvalid_eq (by omega)]
 simp only[z7];rw[show qd7 (e.1,(e.2.1,e.2.2))=some (entP e) from qC6 e,show qhT (e.1,(e.2.1,e.2.2))=some (entP e) from qzy e]
 by_cases hv:qrL l=true
 ·have hv':=qsB.1 hv;rw[hv];by_cases he:entP e=true
  ·rw[he];obtain⟨k,hk,hf⟩:=qCk (s:=e.1) hv';have hn:=hv'.n;have hkl:=hk.le;have hL:=qA4 hv' hk;have hkinds:e.2.1=1\/e.2.1=2\/e.2.1=3\/e.2.1=4:=by
    simp only[entP,zb,zl1,zw] at he;rcases he.1 with h | h
    ·rcases h.1 with h | h | h
     ·exact .inl h
     ·exact .inr (.inl h)
     ·exact .inr (.inr (.inl h))
    ·exact .inr (.inr (.inr h.1))
   have hset:∀(s5:List Acc),k<s5.length->(bif decide (e.2.1=1) then
     gd (inB (k:Int) s5.length)<|gd (inB (k:Int) s5.length)<|some (s5.set (k:Int).toNat ((s5.getD (k:Int).toNat ([],(0,(0,(0,0))))).1,(wi64 ((((s5.getD (k:Int).toNat ([],(0,(0,(0,0))))).2).1)+e.2.2),((s5.getD (k:Int).toNat ([],(0,(0,(0,0))))).2).2)))
    else Option.bind (α:=List Acc) (bif decide (e.2.1=2) then
      gd (inB (k:Int) s5.length)<|gd (inB (k:Int) s5.length)<|some (s5.set (k:Int).toNat ((s5.getD (k:Int).toNat ([],(0,(0,(0,0))))).1,(((s5.getD (k:Int).toNat ([],(0,(0,(0,0))))).2).1,(wi64 (((((s5.getD (k:Int).toNat ([],(0,(0,(0,0))))).2).2).1)+e.2.2),(((s5.getD (k:Int).toNat ([],(0,(0,(0,0))))).2).2).2))))
     else Option.bind (α:=List Acc) (bif decide (e.2.1=3) then
       gd (inB (k:Int) s5.length)<|gd (inB (k:Int) s5.length)<|some (s5.set (k:Int).toNat ((s5.getD (k:Int).toNat ([],(0,(0,(0,0))))).1,(((s5.getD (k:Int).toNat ([],(0,(0,(0,0))))).2).1,((((s5.getD (k:Int).toNat ([],(0,(0,(0,0))))).2).2).1,(wi64 ((((((s5.getD (k:Int).toNat ([],(0,(0,(0,0))))).2).2).2).1)+e.2.2),((((s5.getD (k:Int).toNat ([],(0,(0,(0,0))))).2).2).2).2)))))
      else
       gd (inB (k:Int) s5.length)<|gd (inB (k:Int) s5.length)<|some (s5.set (k:Int).toNat ((s5.getD (k:Int).toNat ([],(0,(0,(0,0))))).1,(((s5.getD (k:Int).toNat ([],(0,(0,(0,0))))).2).1,((((s5.getD (k:Int).toNat ([],(0,(0,(0,0))))).2).2).1,(((((s5.getD (k:Int).toNat ([],(0,(0,(0,0))))).2).2).2).1,wi64 ((((((s5.getD (k:Int).toNat ([],(0,(0,(0,0))))).2).2).2).2)+e.2.2))))))) fun s6=>some s6) fun s7=>some s7)=some (s5.set k (qcn (s5.getD k d0) e)):=by
    intro s5 hk5;simp only[gd_t (inB_t hk5),z8];unfold qcn;rcases hkinds with h | h | h | h
    ·simp[h]
    ·simp[h]
    ·simp[h]
    ·simp[h]
   simp only[zd,za,z9,z7,hf,hL];rw[gd_t (show fits (0+l.length) 48=true from qae (by omega))]
   by_cases hfd:k<l.length/\(l.getD k d0).1=e.1
   ·-- there is an account
    rw[dec_t hfd];have e1:(bif decide ((k:Int)=(l.length:Int)) then some (true,[]++l) else gd (inB (k:Int) l.length)<|some ((!decide ((l.getD (k:Int).toNat ([],(0,(0,(0,0))))).1=e.1)),[]++l))=some (false,l):=by
     rw[dec_f (show ¬(k:Int)=(l.length:Int) by omega),gd_t (inB_t hfd.1),z8,dec_t hfd.2]; rfl
    refine⟨if accP (qcn (l.getD k d0) e)=true then(l.set k (qcn (l.getD k d0) e),0) else(l,4),?_,?_,?_⟩
    ·simp only[z9,gd_t (inB_t hfd.1),z8,z7];rw[show qdg ((l.getD k d0).1,(((l.getD k d0).2).1,((((l.getD k d0).2).2).1,(((((l.getD k d0).2).2).2).1,((((l.getD k d0).2).2).2).2)))) (e.1,(e.2.1,e.2.2))=some (qcn (l.getD k d0) e) from quQ _ _]
     simp only[z7];rw[show ∀q:Acc,qcw (q.1,(q.2.1,(q.2.2.1,(q.2.2.2.1,q.2.2.2.2))))=some (accP q) from fun q=>qzx q]
     cases accP (qcn (l.getD k d0) e)
     ·rfl
     ·simp only[z7,zd,za,gd_t (inB_t hfd.1)];rfl
    ·rw[e1];simp only[z7,za];rw[hset l hfd.1];simp only[z7,zN];rw[dec_f (show ¬(64:Int)<(l.length:Int) by omega),gd_t (inB_t hfd.1),z8,qkq,if_pos ⟨rfl,hfd.1⟩,qtO]
     cases accP (qcn (l.getD k d0) e)
     ·rfl
     ·rfl
    ·exact⟨fun h=>absurd ⟨hv',he⟩ h,fun _ _=>⟨k,hk,.inl ⟨hfd.1,hfd.2,rfl⟩⟩⟩
   ·-- there is none
    rw[dec_f hfd];have e1:(bif decide ((k:Int)=(l.length:Int)) then some (true,[]++l) else gd (inB (k:Int) l.length)<|some ((!decide ((l.getD (k:Int).toNat ([],(0,(0,(0,0))))).1=e.1)),[]++l))=some (true,l):=by
     by_cases hkn:k=l.length
     ·rw[dec_t (show(k:Int)=(l.length:Int) by omega)]; rfl
     ·rw[dec_f (show ¬(k:Int)=(l.length:Int) by omega),gd_t (inB_t (show k<l.length by omega)),z8,dec_f (fun h=>hfd ⟨by omega,h⟩)]; rfl
    have htl:(l.take k).length=k:=by rw[zl]; omega
    refine⟨if accP (qcn (e.1,(0,(0,(0,0)))) e)=true/\l.length≠64 then(l.take k++qcn (e.1,(0,(0,(0,0)))) e::l.drop k,0) else(l,4),?_,?_,?_⟩
    ·simp only[za,z7,z91,z9];rw[show qdg (e.1,(0,(0,(0,0)))) (e.1,(e.2.1,e.2.2))=some (qcn (e.1,(0,(0,(0,0)))) e) from quQ _ _]
     simp only[z7];rw[show ∀q:Acc,qcw (q.1,(q.2.1,(q.2.2.1,(q.2.2.2.1,q.2.2.2.2))))=some (accP q) from fun q=>qzx q]
     cases ha:accP (qcn (e.1,(0,(0,(0,0)))) e)
     ·simp only[z7,z91,z9];rw[if_neg (fun h=>by cases h.1)]
     ·simp only[z7,zd,za];by_cases h64:l.length=64
      ·rw[dec_t (show(l.length:Int)=64 by omega),if_neg (fun h=>h.2 h64)]; rfl
      ·rw[dec_f (show ¬(l.length:Int)=64 by omega),if_pos (by exact⟨trivial,h64⟩)]
       simp only[za,zU1,zF,z8];rw[gd_t (show cutG none (some (.i64,(k:Int))) l.length=true by unfold cutG; simp only[zb,zw]; omega),
        gd_t (show cutG (some (.i64,(k:Int))) none l.length=true by unfold cutG; simp only[zb,zw]; omega),gd_t (qae (by rw[htl]; omega)),gd_t (qae (by simp; omega))]
       simp only[zD,zH1,zA]
    ·rw[e1];simp only[z7,z9,z8,zA]
     rw[gd_t (show cutG none (some (.i64,(k:Int))) l.length=true by unfold cutG; simp only[zb,zw]; omega),gd_t (qae (by rw[htl]; omega)),gd_t (qae (by rw[htl]; omega)),
        gd_t (show cutG (some (.i64,(k:Int))) none l.length=true by unfold cutG; simp only[zb,zw]; omega),gd_t (qae (by simp; omega))]
     simp only[z7,zD,zH1,zA];have hlen:(l.take k++(e.1,(0,(0,(0,0))))::l.drop k).length=l.length+1:=by simp; omega
     have hg:(l.take k++(e.1,(0,(0,(0,0))))::l.drop k).getD k d0=(e.1,(0,(0,(0,0)))):=by
      have:=qzA (l.take k) (l.drop k) (e.1,(0,(0,(0,0))));rwa[htl] at this
     have hs:=qCl (l.take k) (l.drop k) (e.1,(0,(0,(0,0)))) (qcn (e.1,(0,(0,(0,0)))) e);rw[htl] at hs;have h5:=hset (l.take k++(e.1,(0,(0,(0,0))))::l.drop k) (by omega)
     rw[hg,hs] at h5;simp only[z8] at h5;rw[h5];have hlen2:(l.take k++qcn (e.1,(0,(0,(0,0)))) e::l.drop k).length=l.length+1:=by simp; omega
     have hg2:(l.take k++qcn (e.1,(0,(0,(0,0)))) e::l.drop k).getD k d0=qcn (e.1,(0,(0,(0,0)))) e:=by
      have:=qzA (l.take k) (l.drop k) (qcn (e.1,(0,(0,(0,0)))) e);rwa[htl] at this
     simp only[z7,hlen2];by_cases h64:l.length=64
     ·rw[dec_t (show(64:Int)<((l.length+1:Nat):Int) by omega),if_neg (fun h=>h.2 h64)]; rfl
     ·rw[dec_f (show ¬(64:Int)<((l.length+1:Nat):Int) by omega),gd_t (inB_t (show k<l.length+1 by omega)),hg2,qtO]
      cases ha:accP (qcn (e.1,(0,(0,(0,0)))) e)
      ·rw[if_neg (fun h=>by cases h.1)]; rfl
      ·rw[if_pos ⟨rfl,h64⟩]; rfl
    ·exact⟨fun h=>absurd ⟨hv',he⟩ h,fun _ _=>⟨k,hk,.inr ⟨hfd,rfl⟩⟩⟩
  ·rw[z82] at he;rw[he];exact⟨(l,27),rfl,rfl,fun _=>rfl,fun _ h=>by rw[he] at h; cases h⟩
 ·have hv2:=hv;rw[z82] at hv;rw[hv];exact⟨(l,27),rfl,rfl,fun _=>rfl,fun h=>absurd (qsB.2 h) hv2⟩
end Go.Proofs.YtgmjmgihjjddmaaGreat.Ac
namespace Go.Proofs.YtgmjmgihjjddmaaGreat.Ac
open Go Go.Sq
noncomputable def postF(l:List Acc)(e:Ent):List Acc×Int:=(qfI l e).getD ([],0)
theorem post_eq{l:List Acc}{e:Ent}(hl:l.length<=100000):qgj l e=some ((postF l e).2,(postF l e).1)/\qfI l e=some (postF l e)/\PostP l e (postF l e):=by
 obtain⟨r,h1,h2,h3⟩:=qzB (e:=e) hl;have:postF l e=r:=by unfold postF; rw[h2]; rfl
 rw[this]; exact⟨h1,h2,h3⟩
theorem post_len{l:List Acc}{e:Ent}(hl:l.length<=100000):(postF l e).1.length<=l.length+1:=by
 obtain⟨_,_,h⟩:=post_eq (e:=e) hl;by_cases hg:qsA l/\entP e=true
 ·obtain⟨k,hk,⟨_,_,h3⟩ | ⟨_,h3⟩⟩:=h.good hg.1 hg.2
  ·rw[h3]; split <;> simp
  ·have:=hk.le;rw[h3]; split
   ·simp; omega
   ·simp
 ·rw[h.bad hg]; simp
noncomputable def bookF:List Ent->List Acc->List Acc×Int
 | [],a=>(a,0)
 | e::r,a=>if(postF a e).2=0 then bookF r (postF a e).1 else([],(postF a e).2)
end Go.Proofs.YtgmjmgihjjddmaaGreat.Ac
