/- Accounts: names, their order; what is valid. No condition. -/
import Derived.Test.YtmdijohmddokhaaGreatDoorLa2
namespace Go.Proofs.YtmdijohmddokhaaGreatDoor.Ac
open Go Go.Sq
abbrev Acc:=List UInt8×Int×Int×Int×Int
abbrev Ent:=List UInt8×Int×Int
abbrev d0:Acc:=([],0,0,0,0)
abbrev e0:Ent:=([],0,0)
/-! ### The order of texts -/
theorem qsC(a b:UInt8)(x y:List UInt8):Op.bytesLess (a::x) (b::y)=true↔a.toNat<b.toNat\/(a=b/\Op.bytesLess x y=true):=by
 rw[show Op.bytesLess (a::x) (b::y)=(decide (a<b) || (a==b&&Op.bytesLess x y)) from rfl]
 simp only[zd1,z8,zj,zT2,UInt8.lt_iff_toNat_lt]
theorem qx6(x:List UInt8):Op.bytesLess x []=false:=by cases x <;> rfl
theorem qpL:∀a:List UInt8,Op.bytesLess a a=false
 | []=>rfl
 | a::x=>by
  rw[<-z62,qsC]
  rintro(h | ⟨_,h⟩)
  ·omega
  ·rw[qpL x] at h; cases h
theorem qpM:∀ {a b c:List UInt8},Op.bytesLess a b=true->Op.bytesLess b c=true->Op.bytesLess a c=true
 | _,[],_,h,_=>by rw[qx6] at h; cases h
 | _,_::_,[],_,h=>by rw[qx6] at h; cases h
 | [],_::_,_::_,_,_=>rfl
 | a::x,b::y,c::z,h,h'=>by
  rw[qsC] at h h' ⊢;rcases h with h | ⟨rfl,h⟩ <;> rcases h' with h' | ⟨rfl,h'⟩
  ·left; omega
  ·left; exact h
  ·left; exact h'
  ·right; exact⟨rfl,qpM h h'⟩
theorem qDh:∀a b:List UInt8,Op.bytesLess a b=true\/a=b\/Op.bytesLess b a=true
 | [],[]=>.inr (.inl rfl)
 | [],_::_=>.inl rfl
 | _::_,[]=>.inr (.inr rfl)
 | a::x,b::y=>by
  rw[qsC,qsC];rcases Nat.lt_trichotomy a.toNat b.toNat with h | h | h
  ·exact .inl (.inl h)
  ·have e:=UInt8.toNat_inj.1 h;subst e;rcases qDh x y with h1 | h1 | h1
   ·exact .inl (.inr ⟨rfl,h1⟩)
   ·subst h1; exact .inr (.inl rfl)
   ·exact .inr (.inr (.inr ⟨rfl,h1⟩))
  ·exact .inr (.inr (.inl h))
theorem qAT{a b:List UInt8}(h:Op.bytesLess a b=true):Op.bytesLess b a=false:=by
 rw[<-z62];intro h';have:=qpM h h';rw[qpL] at this; cases this
theorem bl_ne{a b:List UInt8}(h:Op.bytesLess a b=true):a≠b:=fun e=>by
 subst e; rw[qpL] at h; cases h
theorem qpN:∀a b:List UInt8,(Lib.compareBytes a b<0↔Op.bytesLess a b=true)/\(Lib.compareBytes a b=0↔a=b)
 | [],[]=>by simp[Lib.compareBytes,qx6]
 | [],_::_=>by simp[Lib.compareBytes]; rfl
 | _::_,[]=>by simp[Lib.compareBytes,qx6]
 | a::x,b::y=>by
  have ih:=qpN x y;unfold Lib.compareBytes;rw[qsC];simp only[UInt8.lt_iff_toNat_lt,List.cons.injEq];rcases Nat.lt_trichotomy a.toNat b.toNat with h | h | h
  ·have hne:a≠b:=fun e=>by subst e; omega
   simp[h,hne]
  ·have e:=UInt8.toNat_inj.1 h;subst e;simp only[Nat.lt_irrefl,if_false,false_or,true_and];exact ih
  ·have hne:a≠b:=fun e=>by subst e; omega
   rw[if_neg (by omega),if_pos h]
   constructor
   ·constructor
    ·intro h; omega
    ·rintro(h' | ⟨h',_⟩)
     ·omega
     ·exact absurd h' hne
   ·constructor
    ·intro h; omega
    ·rintro⟨h',_⟩; exact absurd h' hne
/-! ### Names -/
def qhe(c:Int):Int:=if 97<=c/\c<=122 then 1 else if(48<=c/\c<=57)\/c=45 then 2 else 0
theorem place_eq(c:Int):qfe c=some (qhe c):=by
 unfold qfe qhe;by_cases h1:97<=c
 ·by_cases h2:c<=122
  ·simp[h1,h2]
  ·simp[h1,h2,show ¬c<=57 by omega,show ¬c=45 by omega,show 48<=c by omega]
 ·by_cases h3:48<=c
  ·by_cases h4:c<=57
   ·simp[h1,h3,h4]
   ·simp[h1,h3,h4,show ¬c=45 by omega]
  ·by_cases h5:c=45
   ·simp[h5]
   ·simp[h1,h3,h5]
def qeP(s:List UInt8)(i:Nat):Int:=Int.ofNat (s.getD i 0).toNat
theorem qAU(s:List UInt8)(i:Nat):0<=qeP s i/\qeP s i<=255:=by
 unfold qeP;have:=(s.getD i 0).toNat_lt;constructor
 ·exact Int.natCast_nonneg _
 ·show((s.getD i 0).toNat:Int)<=255;omega
def nameP(s:List UInt8):Bool:=decide (1<=s.length)&&(decide (s.length<=12)&&(decide (qhe (qeP s 0)=1)&&(List.range s.length).all fun i=>decide (qhe (qeP s i)≠0)))
theorem name_eq(s:List UInt8):qcz s=some (nameP s):=by
 unfold qcz nameP;by_cases h1:s.length<1
 ·rw[dec_t (show(s.length:Int)<1 by omega),dec_f (show ¬1<=s.length by omega)]; rfl
 rw[dec_f (show ¬(s.length:Int)<1 by omega),dec_t (show 1<=s.length by omega)]
 by_cases h2:12<s.length
 ·rw[dec_t (show 12<(s.length:Int) by omega),dec_f (show ¬s.length<=12 by omega)]; rfl
 rw[dec_f (show ¬12<(s.length:Int) by omega),dec_t (show s.length<=12 by omega),gd_t (show inB 0 s.length=true from inB_t (i:=0) (by omega)),place_eq]
 simp only[zb,z7,zE];show(bif !decide (qhe (qeP s 0)=1) then some false else _)=_;by_cases h3:qhe (qeP s 0)=1
 ·rw[dec_t h3];have:=qa1 (step:=fun x=>qb7 s x) s.length (fun i=>(i:Int)) (fun i=>decide (qhe (qeP s i)≠0)) (fin:=.inl ()) (bad:=.inr false) (fun i hi _ hp=>by
    unfold qb7;simp only[dec_t (show(i:Int)<(s.length:Int) by omega),za,gd_t (inB_t hi),z9,place_eq,z7]
    show(bif decide (qhe (qeP s i)=0) then _ else _)=_;rw[dec_f (zi hp),wi (by omega)]; rfl) (fun i hi _ hp=>by
    unfold qb7;simp only[dec_t (show(i:Int)<(s.length:Int) by omega),za,gd_t (inB_t hi),z9,place_eq,z7]
    show(bif decide (qhe (qeP s i)=0) then _ else _)=_;rw[dec_t (by simpa using hp)]; rfl) (fun _=>by
    unfold qb7;simp only[dec_f (show ¬(s.length:Int)<(s.length:Int) by omega),zb])
  simp only[zf,zb,zE];rw[show(0:Int)=((0:Nat):Int) from rfl,this]
  cases(List.range s.length).all fun i=>decide (qhe (qeP s i)≠0) <;> rfl
 ·rw[dec_f h3]; rfl
theorem rname_eq(s:List UInt8):qcn s=some (nameP s):=by
 unfold qcn nameP;by_cases h1:s.length<1
 ·rw[dec_t (show(s.length:Int)<1 by omega),dec_f (show ¬1<=s.length by omega)]; rfl
 rw[dec_f (show ¬(s.length:Int)<1 by omega),dec_t (show 1<=s.length by omega)]
 by_cases h2:12<s.length
 ·rw[dec_t (show 12<(s.length:Int) by omega),dec_f (show ¬s.length<=12 by omega)]; rfl
 rw[dec_f (show ¬12<(s.length:Int) by omega),dec_t (show s.length<=12 by omega),gd_t (show inB 0 s.length=true from inB_t (i:=0) (by omega)),gd_t (show inB 0 s.length=true from inB_t (i:=0) (by omega))]
 have e0:(bif decide ((Int.ofNat (s.getD 0 0).toNat)<97) then some true else some (decide (122<(Int.ofNat (s.getD 0 0).toNat))))=some (!decide (qhe (qeP s 0)=1)):=by
  show(bif decide (qeP s 0<97) then some true else some (decide (122<qeP s 0)))=_;generalize qeP s 0=c;unfold qhe;by_cases a1:c<97
  ·rw[dec_t a1,if_neg (by omega)]
   split <;> rfl
  ·rw[dec_f a1];by_cases a2:122<c
   ·rw[dec_t a2,if_neg (by omega)]
    split <;> rfl
   ·rw[dec_f a2,if_pos (by omega)]; rfl
 rw[e0];simp only[zb,z7,zE];by_cases h3:qhe (qeP s 0)=1
 ·rw[dec_t h3];have step:∀i:Nat,i<s.length->qcc s (i:Int)=bif decide (qhe (qeP s i)≠0) then some (.inl ((i+1:Nat):Int)) else some (.inr (.inr false)):=by
   intro i hi;have hb:=qAU s i;unfold qcc;simp only[dec_t (show(i:Int)<(s.length:Int) by omega),za,gd_t (inB_t hi),z9]
   simp only[show(Int.ofNat (s.getD i 0).toNat)=qeP s i from rfl]
   generalize qeP s i=c at hb;unfold qhe;rw[show wi64 ((i:Int)+1)=((i+1:Nat):Int) by rw[wi (by omega)]; rfl]
   by_cases a1:c<97
   ·by_cases a3:c<48
    ·by_cases a5:c=45
     ·simp[a5]
     ·simp[a1,a3,a5,show ¬97<=c by omega,show ¬48<=c by omega]
    ·by_cases a4:57<c
     ·simp[a1,a3,a4,show ¬97<=c by omega,show ¬c<=57 by omega,show ¬c=45 by omega]
     ·simp[a1,a3,a4,show ¬97<=c by omega,show 48<=c by omega,show c<=57 by omega]
   ·by_cases a2:122<c
    ·simp[a1,a2,show ¬c<=122 by omega,show ¬c<48 by omega,show 57<c by omega,show ¬c=45 by omega,show ¬c<=57 by omega]
    ·simp[a1,a2,show 97<=c by omega,show c<=122 by omega]
  have:=qa1 (step:=fun x=>qcc s x) s.length (fun i=>(i:Int)) (fun i=>decide (qhe (qeP s i)≠0)) (fin:=.inl ()) (bad:=.inr false) (fun i hi _ hp=>by
    rw[step i hi,hp]; rfl) (fun i hi _ hp=>by
    rw[step i hi,hp]; rfl) (fun _=>by
    unfold qcc;simp only[dec_f (show ¬(s.length:Int)<(s.length:Int) by omega),zb])
  simp only[zf,zb,zE];rw[show(0:Int)=((0:Nat):Int) from rfl,this]
  cases(List.range s.length).all fun i=>decide (qhe (qeP s i)≠0) <;> rfl
 ·rw[dec_f h3]; rfl
/-! ### What is valid -/
def volP(n:Int):Bool:=decide (0<=n/\n<=1099511627776)
def sgnP(n:Int):Bool:=decide (-1099511627776<=n/\n<=1099511627776)
theorem qx7(n:Int):qct n=some (volP n):=by
 unfold qct volP;by_cases h:0<=n <;> simp[h]
theorem qDi(n:Int):qdY n=some (sgnP n):=by
 unfold qdY sgnP;by_cases h1 : -1099511627776<=n <;> by_cases h2:n<=1099511627776 <;> simp[h1,h2]
def accP(a:Acc):Bool:=volP a.2.1&&(volP a.2.2.1&&(volP a.2.2.2.1&&sgnP a.2.2.2.2))
theorem qAV(a:Acc):qcN a=some (accP a):=by
 unfold qcN accP;rw[qx7,qx7,qx7,qDi];cases volP a.2.1 <;> cases volP a.2.2.1 <;> cases volP a.2.2.2.1 <;> rfl
theorem quP(a:Acc):qgl a=some (accP a):=by
 unfold qgl accP volP sgnP;by_cases h1:0<=a.2.1
 ·by_cases h2:a.2.1<=1099511627776
  ·by_cases h3:0<=a.2.2.1
   ·by_cases h4:a.2.2.1<=1099511627776
    ·by_cases h5:0<=a.2.2.2.1
     ·by_cases h6:a.2.2.2.1<=1099511627776
      ·by_cases h7 : -1099511627776<=a.2.2.2.2 <;> simp[h1,h2,h3,h4,h5,h6,h7]
      ·simp[h1,h2,h3,h4,h5,h6]
     ·simp[h1,h2,h3,h4,h5]
    ·simp[h1,h2,h3,h4]
   ·simp[h1,h2,h3]
  ·simp[h1,h2]
 ·simp[h1]
def entP(e:Ent):Bool:=(decide (e.2.1=1\/e.2.1=2\/e.2.1=3)&&volP e.2.2 || decide (e.2.1=4)&&sgnP e.2.2)&&nameP e.1
theorem qE2(e:Ent):qeA e=some (entP e):=by
 unfold qeA entP;rw[qx7,qDi,name_eq];by_cases h1:e.2.1=1
 ·simp only[h1]; cases volP e.2.2 <;> simp
 ·by_cases h2:e.2.1=2
  ·simp only[h2]; cases volP e.2.2 <;> simp
  ·by_cases h3:e.2.1=3
   ·simp only[h3]; cases volP e.2.2 <;> simp
   ·by_cases h4:e.2.1=4
    ·simp only[h4]; cases sgnP e.2.2 <;> simp
    ·simp[h1,h2,h3,h4]
theorem qAW(e:Ent):qiG e=some (entP e):=by
 unfold qiG entP volP sgnP;rw[rname_eq];cases nameP e.1
 ·simp
 ·by_cases h1:e.2.1=1
  ·simp only[h1];by_cases a1:0<=e.2.2 <;> simp[a1]
  ·by_cases h2:e.2.1=2
   ·simp only[h2];by_cases a1:0<=e.2.2 <;> simp[a1]
   ·by_cases h3:e.2.1=3
    ·simp only[h3];by_cases a1:0<=e.2.2 <;> simp[a1]
    ·by_cases h4:e.2.1=4
     ·simp only[h4];by_cases a1 : -1099511627776<=e.2.2 <;> simp[a1]
     ·simp[h1,h2,h3,h4]
def okI(l:List Acc)(i:Nat):Bool:=accP (l.getD i d0)&&(nameP (l.getD i d0).1&&(decide (i=0) || Op.bytesLess (l.getD (i-1) d0).1 (l.getD i d0).1))
def qsD(l:List Acc):Bool:=decide (l.length<=64)&&(List.range l.length).all (okI l)
theorem valid_eq{l:List Acc}(hl:l.length<=1000000):qhS l=some (qsD l):=by
 have step:∀i:Nat,i<l.length->qdv l (i:Int)=bif okI l i then some (.inl ((i+1:Nat):Int)) else some (.inr (.inr false)):=by
  intro i hi;unfold qdv okI;simp only[dec_t (show(i:Int)<(l.length:Int) by omega),za,gd_t (inB_t hi),z9]
  rw[show qcN ((l.getD i d0).1,((l.getD i d0).2).1,(((l.getD i d0).2).2).1,((((l.getD i d0).2).2).2).1,((((l.getD i d0).2).2).2).2)=some (accP (l.getD i d0)) from qAV _,name_eq,
   show wi64 ((i:Int)+1)=((i+1:Nat):Int) by rw[wi (by omega)]; rfl]
  cases h1:accP (l.getD i d0)
  ·rfl
  ·cases h2:nameP (l.getD i d0).1
   ·rfl
   ·by_cases h0:i=0
    ·subst h0; rfl
    ·have e1:wi64 ((i:Int)-1)=((i-1:Nat):Int):=by rw[wi (by omega)]; omega
     rw[dec_t (show(0:Int)<(i:Int) by omega),e1,gd_t (inB_t (show i-1<l.length by omega)),z9,dec_f h0]
     simp only[z7,zf,zb,za,zE,zi2];rcases qDh (l.getD (i-1) d0).1 (l.getD i d0).1 with h | h | h
     ·rw[h,qAT h,dec_f (fun e=>bl_ne h e.symm)]; rfl
     ·rw[h,qpL,dec_t rfl]; rfl
     ·rw[h,qAT h]; rfl
 have:=qa1 (step:=fun x=>qdv l x) l.length (fun i=>(i:Int)) (okI l) (fin:=.inl ()) (bad:=.inr false) (fun i hi _ hp=>by
   rw[step i hi,hp]; rfl) (fun i hi _ hp=>by
   rw[step i hi,hp]; rfl) (fun _=>by
   unfold qdv;simp only[dec_f (show ¬(l.length:Int)<(l.length:Int) by omega),zb])
 unfold qhS qsD;rw[show(0:Int)=((0:Nat):Int) from rfl,this]
 cases(List.range l.length).all (okI l)
 ·simp
 ·by_cases h:l.length<=64
  ·rw[dec_t h,show(bif true then(Sum.inl ():Unit⊕Bool) else .inr false)=.inl () from rfl]
   simp only[z7,z81,dec_t (show(l.length:Int)<=64 by omega)]; rfl
  ·rw[dec_f h,show(bif true then(Sum.inl ():Unit⊕Bool) else .inr false)=.inl () from rfl]
   simp only[z7,z81,dec_f (show ¬(l.length:Int)<=64 by omega)]; rfl
theorem rvalid_eq{l:List Acc}(hl:l.length<=1000000):qkI l=some (qsD l):=by
 unfold qkI qsD;by_cases h64:l.length<=64
 ·rw[dec_f (show ¬(64:Int)<(l.length:Int) by omega),dec_t h64]
  have step:∀i:Nat,i<l.length->qeL l (i:Int)=bif okI l i then some (.inl ((i+1:Nat):Int)) else some (.inr (.inr false)):=by
   intro i hi;unfold qeL okI;simp only[dec_t (show(i:Int)<(l.length:Int) by omega),za,gd_t (inB_t hi),z9]
   rw[show qgl (l.getD i d0)=some (accP (l.getD i d0)) from quP _,rname_eq,
    show wi64 ((i:Int)+1)=((i+1:Nat):Int) by rw[wi (by omega)]; rfl]
   cases h2:nameP (l.getD i d0).1
   ·cases accP (l.getD i d0) <;> rfl
   ·cases h1:accP (l.getD i d0)
    ·rfl
    ·by_cases h0:i=0
     ·subst h0; rfl
     ·have e1:wi64 ((i:Int)-1)=((i-1:Nat):Int):=by rw[wi (by omega)]; omega
      rw[dec_t (show(0:Int)<(i:Int) by omega),e1,gd_t (inB_t (show i-1<l.length by omega)),z9,dec_f h0]
      cases Op.bytesLess (l.getD (i-1) d0).1 (l.getD i d0).1 <;> rfl
  have:=qa1 (step:=fun x=>qeL l x) l.length (fun i=>(i:Int)) (okI l) (fin:=.inl ()) (bad:=.inr false) (fun i hi _ hp=>by
    rw[step i hi,hp]; rfl) (fun i hi _ hp=>by
    rw[step i hi,hp]; rfl) (fun _=>by
    unfold qeL;simp only[dec_f (show ¬(l.length:Int)<(l.length:Int) by omega),zb])
  rw[show(0:Int)=((0:Nat):Int) from rfl,this]
  cases(List.range l.length).all (okI l) <;> rfl
 ·rw[dec_t (show(64:Int)<(l.length:Int) by omega),dec_f h64]; rfl
structure qtx(l:List Acc):Prop where
 n:l.length<=64
 acc:∀a∈l,accP a=true
 nm:∀a∈l,nameP a.1=true
 lt:∀i k,i<k->k<l.length->Op.bytesLess (l.getD i d0).1 (l.getD k d0).1=true
theorem qty{l:List Acc}:qsD l=true↔qtx l:=by
 unfold qsD;rw[z8,zj,qoN];constructor
 ·rintro⟨h1,h2⟩
  have h3:∀i,i<l.length->accP (l.getD i d0)=true/\nameP (l.getD i d0).1=true/\(i≠0->Op.bytesLess (l.getD (i-1) d0).1 (l.getD i d0).1=true):=fun i hi=>by
   have:=h2 i hi;simp only[okI,z8,zd1,zj] at this;exact⟨this.1,this.2.1,fun h=>this.2.2.resolve_left h⟩
  refine⟨h1,fun a ha=>?_,fun a ha=>?_,fun i k hik hk=>?_⟩
  ·obtain⟨k,hk,rfl⟩:=qvI d0 ha;exact(h3 k hk).1
  ·obtain⟨k,hk,rfl⟩:=qvI d0 ha;exact(h3 k hk).2.1
  ·induction k with
   | zero=>omega
   | succ k ih=>
    have hs:=(h3 (k+1) hk).2.2 (by omega)
    rw[Nat.add_sub_cancel] at hs;by_cases e:i=k
    ·subst e; exact hs
    ·exact qpM (ih (by omega) (by omega)) hs
 ·intro h;refine⟨h.n,fun i hi=>?_⟩
  simp only[okI,z8,zd1,zj];refine⟨h.acc _ (qbe hi),h.nm _ (qbe hi),?_⟩
  by_cases h0:i=0
  ·exact .inl h0
  ·exact .inr (h.lt _ _ (by omega) hi)
end Go.Proofs.YtmdijohmddokhaaGreatDoor.Ac
namespace Go.Proofs.YtmdijohmddokhaaGreatDoor.Ac
open Go Go.Sq
theorem qCv{i j:Nat}(h:i+j<=4611686018427387904):wi64 (Int.fdiv (wu64 (wi64 ((i:Int)+(j:Int)))) (2^shAmt .u64 1))=(((i+j)/2:Nat):Int):=by
 have e0:wi64 ((i:Int)+(j:Int))=(i:Int)+(j:Int):=wi (by omega)
 have e1:wu64 ((i:Int)+(j:Int))=(i:Int)+(j:Int):=by
  show IntKind.u64.wrap _=_;rw[show IntKind.u64.wrap ((i:Int)+(j:Int))=((i:Int)+(j:Int))%18446744073709551616 from rfl]
  omega
 have e2:(2:Int)^shAmt .u64 1=2:=by kernel_rfl
 rw[e0,e1,e2,Int.fdiv_eq_ediv_of_nonneg _ (by omega),wi (by omega)]
 omega
theorem qAX{i j:Nat}(h:i+j<=4611686018427387904):wi64 (Int.fdiv (wu64 (wi64 ((i:Int)+(j:Int)))) (2^shAmt .u64 1))=(((i+j)/2:Nat):Int):=qCv h
structure LbP(l:List Acc)(s:List UInt8)(k:Nat):Prop where
 le:k<=l.length
 lt:∀j,j<k->Op.bytesLess (l.getD j d0).1 s=true
 ge:∀j,k<=j->j<l.length->Op.bytesLess (l.getD j d0).1 s=false
theorem qD9{l:List Acc}{s:List UInt8}(hv:qtx l):∃k:Nat,LbP l s k/\qi1 l s=some ((k:Int),decide (k<l.length/\(l.getD k d0).1=s)):=by
 have hn:=hv.n;have key:∃e,iter (fun x2:Int×Int=>qat l s (fun h=>(qeB h.1 h.2.1).bind fun y=>some y) x2.1 x2.2) (0,(l.length:Int))=some e/\∃k:Nat,e=(k:Int)/\LbP l s k:=by
  refine qq3 (fun x=>∃i j:Nat,x=((i:Int),(j:Int))/\i<=j/\j<=l.length/\(∀q,q<i->Op.bytesLess (l.getD q d0).1 s=true)/\(∀q,j<=q->q<l.length->Op.bytesLess (l.getD q d0).1 s=false)) (fun x=>(x.2-x.1).toNat) _ ?_ ⟨0,l.length,rfl,by omega,by omega,by omega,by omega⟩
  rintro _ ⟨i,j,rfl,h1,h2,h3,h4⟩
  unfold qat;simp only;by_cases hij:i<j
  ·right;have hm:(i+j)/2<l.length:=by omega
   simp only[dec_t (show(i:Int)<(j:Int) by omega),za,qAX (i:=i) (j:=j) (by omega),gd_t (inB_t hm),z9]
   rw[show(qeB (l.getD ((i+j)/2) d0) s).bind (fun y=>some y)=some (Lib.compareBytes (l.getD ((i+j)/2) d0).1 s) from rfl]
   simp only[z7];by_cases hc:Op.bytesLess (l.getD ((i+j)/2) d0).1 s=true
   ·rw[dec_t ((qpN _ _).1.2 hc),wi (by omega)]
    refine⟨_,rfl,⟨(i+j)/2+1,j,rfl,by omega,h2,fun q hq=>?_,h4⟩,by simp only; omega⟩
    by_cases e:q=(i+j)/2
    ·rw[e]; exact hc
    ·by_cases e2:q<(i+j)/2
     ·exact qpM (hv.lt q _ e2 hm) hc
     ·omega
   ·rw[dec_f (fun h=>hc ((qpN _ _).1.1 h))]
    refine⟨_,rfl,⟨i,(i+j)/2,rfl,by omega,by omega,h3,fun q hq hql=>?_⟩,by simp only; omega⟩
    rw[<-z62];intro hb;by_cases e:q=(i+j)/2
    ·rw[e] at hb; exact hc hb
    ·exact hc (qpM (hv.lt _ q (by omega) hql) hb)
  ·left;obtain rfl:i=j:=by omega
   exact⟨(i:Int),by simp only[dec_f (show ¬(i:Int)<(i:Int) by omega),zb],i,rfl,h2,h3,h4⟩
 obtain⟨_,q,k,rfl,hk⟩:=key;refine⟨k,hk,?_⟩
 unfold qi1 qaA;rw[q];simp only[z7];by_cases hkl:k<l.length
 ·rw[dec_t (show(k:Int)<(l.length:Int) by omega),gd_t (inB_t hkl),z9,show(qeB (l.getD k d0) s).bind (fun y=>some y)=some (Lib.compareBytes (l.getD k d0).1 s) from rfl]
  simp only[za,z7];congr 2;by_cases e:(l.getD k d0).1=s
  ·rw[dec_t ((qpN _ _).2.2 e),dec_t ⟨hkl,e⟩]
  ·rw[dec_f (fun h=>e ((qpN _ _).2.1 h)),dec_f (fun h=>e h.2)]
 ·rw[dec_f (show ¬(k:Int)<(l.length:Int) by omega),dec_f (fun h=>hkl h.1)]; rfl
theorem qCw{l:List Acc}{e:Ent}(hv:qtx l){k:Nat}(hk:LbP l e.1 k):iter (fun x=>qfZ l e x) 0=some (k:Int):=by
 have hn:=hv.n;have hkl:=hk.le;have:=qbj (step:=fun x=>qfZ l e x) k (fun i=>(i:Int)) (e:=(k:Int)) (fun i hi=>by
   unfold qfZ;simp only[dec_t (show(i:Int)<(l.length:Int) by omega),za,gd_t (inB_t (show i<l.length by omega)),z9,hk.lt i hi,z7]
   rw[wi (by omega)]; rfl) (by
   unfold qfZ;by_cases h:k<l.length
   ·simp only[dec_t (show(k:Int)<(l.length:Int) by omega),za,gd_t (inB_t h),z9,hk.ge k (z61 _) h,z7,zb]
   ·simp only[dec_f (show ¬(k:Int)<(l.length:Int) by omega),zb,z7])
 simpa using this
def qcw(a:Acc)(e:Ent):Acc:=
 if e.2.1=1 then(a.1,wi64 (a.2.1+e.2.2),a.2.2) else if e.2.1=2 then(a.1,a.2.1,wi64 (a.2.2.1+e.2.2),a.2.2.2)
 else if e.2.1=3 then(a.1,a.2.1,a.2.2.1,wi64 (a.2.2.2.1+e.2.2),a.2.2.2.2) else if e.2.1=4 then(a.1,a.2.1,a.2.2.1,a.2.2.2.1,wi64 (a.2.2.2.2+e.2.2)) else a
theorem qvZ(a:Acc)(e:Ent):qdA a e=some (qcw a e):=by
 unfold qdA qcw;by_cases h1:e.2.1=1
 ·simp[h1]
 ·by_cases h2:e.2.1=2
  ·simp[h2]
  ·by_cases h3:e.2.1=3
   ·simp[h3]
   ·by_cases h4:e.2.1=4
    ·simp[h4]
    ·simp[h1,h2,h3,h4]
theorem qCx{s:List Acc}(h:s.length<=1000000):qaj s=some s:=by
 unfold qaj;have hf:fits (0+s.length) 48=true:=qaw (by omega)
 rw[hf]; rfl
structure PostP(l:List Acc)(e:Ent)(r:List Acc×Int):Prop where
 bad:¬(qtx l/\entP e=true)->r=(l,27)
 good:qtx l->entP e=true->∃k,LbP l e.1 k∧
  ((k<l.length/\(l.getD k d0).1=e.1/\r=if accP (qcw (l.getD k d0) e)=true then(l.set k (qcw (l.getD k d0) e),0) else(l,4))∨
   (¬(k<l.length/\(l.getD k d0).1=e.1)/\r=if accP (qcw (e.1,(0,(0,(0,0)))) e)=true/\l.length≠64 then(l.take k++qcw (e.1,(0,(0,(0,0)))) e::l.drop k,0) else(l,4)))
theorem qEa{A:Type}(P Q:List A)(x y:A):(P++x::Q).set P.length y=P++y::Q:=by
 induction P with
 | nil=>rfl
 | cons a P ih=>simp only[zj1,zg,List.set_cons_succ,ih]
theorem qAY(P Q:List Acc)(x:Acc):(P++x::Q).getD P.length d0=x:=by
 rw[qxK,if_neg (Nat.lt_irrefl _),Nat.sub_self]; rfl
theorem qAZ{l:List Acc}{e:Ent}(hl:l.length<=100000):∃r:List Acc×Int,qg8 l e=some (r.2,r.1)/\qgm l e=some r/\PostP l e r:=by
 unfold qg8 qgm;rw[qCx (by omega),valid_eq (by omega),rvalid_eq (by omega)]
 simp only[z7];rw[show qeA (e.1,e.2.1,e.2.2)=some (entP e) from qE2 e,show qiG (e.1,e.2.1,e.2.2)=some (entP e) from qAW e]
 by_cases hv:qsD l=true
 ·have hv':=qty.1 hv;rw[hv];by_cases he:entP e=true
  ·rw[he];obtain⟨k,hk,hf⟩:=qD9 (s:=e.1) hv';have hn:=hv'.n;have hkl:=hk.le;have hL:=qCw hv' hk;have hkinds:e.2.1=1\/e.2.1=2\/e.2.1=3\/e.2.1=4:=by
    simp only[entP,z8,zd1,zj] at he;rcases he.1 with h | h
    ·rcases h.1 with h | h | h
     ·exact .inl h
     ·exact .inr (.inl h)
     ·exact .inr (.inr (.inl h))
    ·exact .inr (.inr (.inr h.1))
   have hset:∀(s5:List Acc),k<s5.length->(bif decide (e.2.1=1) then
     gd (inB (k:Int) s5.length)<|gd (inB (k:Int) s5.length)<|some (s5.set (k:Int).toNat ((s5.getD (k:Int).toNat ([],0,0,0,0)).1,wi64 ((((s5.getD (k:Int).toNat ([],0,0,0,0)).2).1)+e.2.2),((s5.getD (k:Int).toNat ([],0,0,0,0)).2).2))
    else Option.bind (α:=List Acc) (bif decide (e.2.1=2) then
      gd (inB (k:Int) s5.length)<|gd (inB (k:Int) s5.length)<|some (s5.set (k:Int).toNat ((s5.getD (k:Int).toNat ([],0,0,0,0)).1,((s5.getD (k:Int).toNat ([],0,0,0,0)).2).1,wi64 (((((s5.getD (k:Int).toNat ([],0,0,0,0)).2).2).1)+e.2.2),(((s5.getD (k:Int).toNat ([],0,0,0,0)).2).2).2))
     else Option.bind (α:=List Acc) (bif decide (e.2.1=3) then
       gd (inB (k:Int) s5.length)<|gd (inB (k:Int) s5.length)<|some (s5.set (k:Int).toNat ((s5.getD (k:Int).toNat ([],0,0,0,0)).1,((s5.getD (k:Int).toNat ([],0,0,0,0)).2).1,(((s5.getD (k:Int).toNat ([],0,0,0,0)).2).2).1,wi64 ((((((s5.getD (k:Int).toNat ([],0,0,0,0)).2).2).2).1)+e.2.2),((((s5.getD (k:Int).toNat ([],0,0,0,0)).2).2).2).2))
      else
       gd (inB (k:Int) s5.length)<|gd (inB (k:Int) s5.length)<|some (s5.set (k:Int).toNat ((s5.getD (k:Int).toNat ([],(0,(0,(0,0))))).1,(((s5.getD (k:Int).toNat ([],(0,(0,(0,0))))).2).1,((((s5.getD (k:Int).toNat ([],(0,(0,(0,0))))).2).2).1,(((((s5.getD (k:Int).toNat ([],(0,(0,(0,0))))).2).2).2).1,wi64 ((((((s5.getD (k:Int).toNat ([],(0,(0,(0,0))))).2).2).2).2)+e.2.2))))))) fun s6=>some s6) fun s7=>some s7)=some (s5.set k (qcw (s5.getD k d0) e)):=by
    intro s5 hk5;simp only[gd_t (inB_t hk5),z9];unfold qcw;rcases hkinds with h | h | h | h
    ·simp[h]
    ·simp[h]
    ·simp[h]
    ·simp[h]
   simp only[zf,zb,za,z7,hf,hL];rw[gd_t (show fits (0+l.length) 48=true from qaw (by omega))]
   by_cases hfd:k<l.length/\(l.getD k d0).1=e.1
   ·-- there is an account
    rw[dec_t hfd];have e1:(bif decide ((k:Int)=(l.length:Int)) then some (true,[]++l) else gd (inB (k:Int) l.length)<|some ((!decide ((l.getD (k:Int).toNat ([],0,0,0,0)).1=e.1)),[]++l))=some (false,l):=by
     rw[dec_f (show ¬(k:Int)=(l.length:Int) by omega),gd_t (inB_t hfd.1),z9,dec_t hfd.2]; rfl
    refine⟨if accP (qcw (l.getD k d0) e)=true then(l.set k (qcw (l.getD k d0) e),0) else(l,4),?_,?_,?_⟩
    ·simp only[za,gd_t (inB_t hfd.1),z9,z7];rw[show qdA ((l.getD k d0).1,((l.getD k d0).2).1,(((l.getD k d0).2).2).1,((((l.getD k d0).2).2).2).1,((((l.getD k d0).2).2).2).2) (e.1,e.2.1,e.2.2)=some (qcw (l.getD k d0) e) from qvZ _ _]
     simp only[z7];rw[show ∀q:Acc,qcN (q.1,q.2.1,q.2.2.1,q.2.2.2.1,q.2.2.2.2)=some (accP q) from fun q=>qAV q]
     cases accP (qcw (l.getD k d0) e)
     ·rfl
     ·simp only[z7,zf,zb,gd_t (inB_t hfd.1)];rfl
    ·rw[e1];simp only[z7,zb];rw[hset l hfd.1];simp only[z7,zQ];rw[dec_f (show ¬(64:Int)<(l.length:Int) by omega),gd_t (inB_t hfd.1),z9,qhv,if_pos ⟨rfl,hfd.1⟩,quP]
     cases accP (qcw (l.getD k d0) e)
     ·rfl
     ·rfl
    ·exact⟨fun h=>absurd ⟨hv',he⟩ h,fun _ _=>⟨k,hk,.inl ⟨hfd.1,hfd.2,rfl⟩⟩⟩
   ·-- there is none
    rw[dec_f hfd];have e1:(bif decide ((k:Int)=(l.length:Int)) then some (true,[]++l) else gd (inB (k:Int) l.length)<|some ((!decide ((l.getD (k:Int).toNat ([],0,0,0,0)).1=e.1)),[]++l))=some (true,l):=by
     by_cases hkn:k=l.length
     ·rw[dec_t (show(k:Int)=(l.length:Int) by omega)]; rfl
     ·rw[dec_f (show ¬(k:Int)=(l.length:Int) by omega),gd_t (inB_t (show k<l.length by omega)),z9,dec_f (fun h=>hfd ⟨by omega,h⟩)]; rfl
    have htl:(l.take k).length=k:=by rw[zn]; omega
    refine⟨if accP (qcw (e.1,0,0,0,0) e)=true/\l.length≠64 then(l.take k++qcw (e.1,0,0,0,0) e::l.drop k,0) else(l,4),?_,?_,?_⟩
    ·simp only[zb,z7,zk1,za];rw[show qdA (e.1,0,0,0,0) (e.1,e.2.1,e.2.2)=some (qcw (e.1,0,0,0,0) e) from qvZ _ _]
     simp only[z7];rw[show ∀q:Acc,qcN (q.1,q.2.1,q.2.2.1,q.2.2.2.1,q.2.2.2.2)=some (accP q) from fun q=>qAV q]
     cases ha:accP (qcw (e.1,0,0,0,0) e)
     ·simp only[z7,zk1,za];rw[if_neg (fun h=>by cases h.1)]
     ·simp only[z7,zf,zb];by_cases h64:l.length=64
      ·rw[dec_t (show(l.length:Int)=64 by omega),if_neg (fun h=>h.2 h64)]; rfl
      ·rw[dec_f (show ¬(l.length:Int)=64 by omega),if_pos (by exact⟨trivial,h64⟩)]
       simp only[zb,z82,zE,z9];rw[gd_t (show cutG none (some (.i64,(k:Int))) l.length=true by unfold cutG; simp only[z8,zj]; omega),
        gd_t (show cutG (some (.i64,(k:Int))) none l.length=true by unfold cutG; simp only[z8,zj]; omega),gd_t (qaw (by rw[htl]; omega)),gd_t (qaw (by simp; omega))]
       simp only[zu,zj1,zC]
    ·rw[e1];simp only[z7,za,z9,zC]
     rw[gd_t (show cutG none (some (.i64,(k:Int))) l.length=true by unfold cutG; simp only[z8,zj]; omega),gd_t (qaw (by rw[htl]; omega)),gd_t (qaw (by rw[htl]; omega)),
        gd_t (show cutG (some (.i64,(k:Int))) none l.length=true by unfold cutG; simp only[z8,zj]; omega),gd_t (qaw (by simp; omega))]
     simp only[z7,zu,zj1,zC];have hlen:(l.take k++(e.1,0,0,0,0)::l.drop k).length=l.length+1:=by simp; omega
     have hg:(l.take k++(e.1,0,0,0,0)::l.drop k).getD k d0=(e.1,0,0,0,0):=by
      have:=qAY (l.take k) (l.drop k) (e.1,0,0,0,0);rwa[htl] at this
     have hs:=qEa (l.take k) (l.drop k) (e.1,0,0,0,0) (qcw (e.1,0,0,0,0) e);rw[htl] at hs;have h5:=hset (l.take k++(e.1,0,0,0,0)::l.drop k) (by omega)
     rw[hg,hs] at h5;simp only[z9] at h5;rw[h5];have hlen2:(l.take k++qcw (e.1,0,0,0,0) e::l.drop k).length=l.length+1:=by simp; omega
     have hg2:(l.take k++qcw (e.1,0,0,0,0) e::l.drop k).getD k d0=qcw (e.1,0,0,0,0) e:=by
      have:=qAY (l.take k) (l.drop k) (qcw (e.1,0,0,0,0) e);rwa[htl] at this
     simp only[z7,hlen2];by_cases h64:l.length=64
     ·rw[dec_t (show(64:Int)<((l.length+1:Nat):Int) by omega),if_neg (fun h=>h.2 h64)]; rfl
     ·rw[dec_f (show ¬(64:Int)<((l.length+1:Nat):Int) by omega),gd_t (inB_t (show k<l.length+1 by omega)),hg2,quP]
      cases ha:accP (qcw (e.1,0,0,0,0) e)
      ·rw[if_neg (fun h=>by cases h.1)]; rfl
      ·rw[if_pos ⟨rfl,h64⟩]; rfl
    ·exact⟨fun h=>absurd ⟨hv',he⟩ h,fun _ _=>⟨k,hk,.inr ⟨hfd,rfl⟩⟩⟩
  ·rw[z62] at he;rw[he];exact⟨(l,27),rfl,rfl,fun _=>rfl,fun _ h=>by rw[he] at h; cases h⟩
 ·have hv2:=hv;rw[z62] at hv;rw[hv];exact⟨(l,27),rfl,rfl,fun _=>rfl,fun h=>absurd (qty.2 h) hv2⟩
end Go.Proofs.YtmdijohmddokhaaGreatDoor.Ac
namespace Go.Proofs.YtmdijohmddokhaaGreatDoor.Ac
open Go Go.Sq
noncomputable def postF(l:List Acc)(e:Ent):List Acc×Int:=(qgm l e).getD ([],0)
theorem post_eq{l:List Acc}{e:Ent}(hl:l.length<=100000):qg8 l e=some ((postF l e).2,(postF l e).1)/\qgm l e=some (postF l e)/\PostP l e (postF l e):=by
 obtain⟨r,h1,h2,h3⟩:=qAZ (e:=e) hl;have:postF l e=r:=by unfold postF; rw[h2]; rfl
 rw[this]; exact⟨h1,h2,h3⟩
theorem post_len{l:List Acc}{e:Ent}(hl:l.length<=100000):(postF l e).1.length<=l.length+1:=by
 obtain⟨_,_,h⟩:=post_eq (e:=e) hl;by_cases hg:qtx l/\entP e=true
 ·obtain⟨k,hk,⟨_,_,h3⟩ | ⟨_,h3⟩⟩:=h.good hg.1 hg.2
  ·rw[h3]; split <;> simp
  ·have:=hk.le;rw[h3]; split
   ·simp; omega
   ·simp
 ·rw[h.bad hg]; simp
noncomputable def bookF:List Ent->List Acc->List Acc×Int
 | [],a=>(a,0)
 | e::r,a=>if(postF a e).2=0 then bookF r (postF a e).1 else([],(postF a e).2)
end Go.Proofs.YtmdijohmddokhaaGreatDoor.Ac
