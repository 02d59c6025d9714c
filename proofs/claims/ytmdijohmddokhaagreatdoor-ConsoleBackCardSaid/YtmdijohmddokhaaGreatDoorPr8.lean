/- Lines, words and numbers. No condition. -/
import Derived.Test.YtmdijohmddokhaaGreatDoorCm6
namespace Go.Proofs.YtmdijohmddokhaaGreatDoor
open Go Go.Sq
set_option linter.unusedVariables false
def dig(b:UInt8):Bool:=Nat.ble 48 b.toNat&&Nat.ble b.toNat 57
def valD:Nat->List UInt8->Nat
 | acc,[]=>acc
 | acc,c::r=>valD (acc*10+(c.toNat-48)) r
def mns:List UInt8->Bool
 | []=>false
 | c::_=>c==45
def dgs:List UInt8->List UInt8
 | []=>[]
 | c::r=>bif c==45 then r else c::r
theorem quQ(c:UInt8)(r:List UInt8):dgs (c::r)=bif c==45 then r else c::r:=rfl
theorem qA8:∀(l:List UInt8) (acc:Nat),acc<=valD acc l
 | [],_=>z61 _
 | c::r,acc=>by have:=qA8 r (acc*10+(c.toNat-48)); unfold valD; omega
theorem pu_eq:∀(l:List UInt8) (acc:Nat),acc<18446744073709551616->l.all dig=true->Lib.parseUint10 acc l=if valD acc l<18446744073709551616 then .ok (valD acc l) else .range
 | [],acc,h,_=>by unfold valD Lib.parseUint10; rw[if_pos h]
 | c::r,acc,h,hd=>by
  simp only[z11,z8,dig,zb1] at hd;unfold Lib.parseUint10;rw[if_pos hd.1];have hge:=qA8 r (acc*10+(c.toNat-48));by_cases h1:1844674407370955162<=acc
  ·rw[if_pos h1];unfold valD; rw[if_neg (by omega)]
  ·rw[if_neg h1];by_cases h2:18446744073709551616<=acc*10+(c.toNat-48)
   ·rw[if_pos h2];unfold valD; rw[if_neg (by omega)]
   ·rw[if_neg h2,pu_eq r _ (by omega) (by simpa[dig] using hd.2)]
    rfl
theorem qEf(s:List UInt8)(h0:dgs s≠[])(hd:(dgs s).all dig=true):Lib.atoiAll s=(if valD 0 (dgs s)<18446744073709551616 then
  (if ¬mns s=true/\9223372036854775808<=valD 0 (dgs s) then .range else if mns s=true/\9223372036854775808<valD 0 (dgs s) then .range else .ok (if mns s=true then -(valD 0 (dgs s):Int) else valD 0 (dgs s))) else .range):=by
 cases s with
 | nil=>exact absurd rfl h0
 | cons c r=>
  have hc45:(c.toNat=45)↔(c==45)=true:=by
   rw[zT2];constructor
   ·intro h; exact UInt8.toNat_inj.1 h
   ·rintro rfl; rfl
  have key:Lib.parseMag (if c.toNat=43\/c.toNat=45 then r else c::r)=if valD 0 (dgs (c::r))<18446744073709551616 then .ok (valD 0 (dgs (c::r))) else .range:=by
   by_cases h45:c.toNat=45
   ·have hb:=hc45.1 h45;have e:dgs (c::r)=r:=by rw[quQ,hb]; rfl
    rw[e] at h0 hd ⊢;rw[if_pos (.inr h45)];unfold Lib.parseMag;rw[if_neg h0];exact pu_eq r 0 (by decide) hd
   ·have hb:(c==45)=false:=zJ.2 fun h=>h45 (hc45.2 h)
    have e:dgs (c::r)=c::r:=by rw[quQ,hb]; rfl
    rw[e] at h0 hd ⊢;have h43:c.toNat≠43:=by
     simp only[z11,z8,dig,zb1] at hd;omega
    rw[if_neg (by omega)]
    unfold Lib.parseMag;rw[if_neg h0];exact pu_eq _ 0 (by decide) hd
  unfold Lib.atoiAll;simp only[hc45] at key ⊢;rw[key];by_cases hv:valD 0 (dgs (c::r))<18446744073709551616
  ·rw[if_pos hv,if_pos hv]; rfl
  ·rw[if_neg hv,if_neg hv]
theorem quR(s:List UInt8)(h:s.length<=281474976710656):atoiT s=some (match Lib.atoiAll s with
  | .ok v=>(v,false)
  | .range=>(Lib.atoiSat s,true)
  | _=>(0,true)):=by
 unfold atoiT;rw[zw1 h]; rfl
theorem qx9(c:UInt8):∀(l:List UInt8) (acc:Nat),valD acc (l++[c])=valD acc l*10+(c.toNat-48)
 | [],_=>rfl
 | _::r,_=>qx9 c r _
structure Digs(n:Nat)(D:List UInt8):Prop where
 ne:D≠[]
 all:D.all dig=true
 val:valD 0 D=n
 hd:0<n->D.headD 0≠48
 z:n=0->D=[48]
def chr(n:Nat):UInt8:=UInt8.ofNat (48+n%10)
theorem qw7(n:Nat):(chr n).toNat=48+n%10:=by unfold chr; rw[UInt8.toNat_ofNat']; omega
theorem qA9(n:Nat):dig (chr n)=true:=by
 simp only[dig,z8,zb1,qw7]; omega
theorem Digs.head{n:Nat}{D:List UInt8}(h:Digs n D):∃a r,D=a::r/\dig a=true:=by
 have h1:=h.ne;have h2:=h.all;cases D with
 | nil=>exact absurd rfl h1
 | cons a r=>exact⟨a,r,rfl,by simp only[z11,z8] at h2; exact h2.1⟩
theorem qDk{a:UInt8}(h:dig a=true):(a==45)=false:=by
 rw[zJ];intro e;rw[zT2] at e;subst e; cases h
theorem qEg{D X:List UInt8}{n:Nat}(h:Digs n D):dgs (D++X)=D++X/\mns (D++X)=false:=by
 obtain⟨a,r,rfl,ha⟩:=h.head;exact⟨by rw[zj1,quQ,qDk ha]; rfl,qDk ha⟩
end Go.Proofs.YtmdijohmddokhaaGreatDoor
namespace Go.Proofs.YtmdijohmddokhaaGreatDoor
open Go Go.Sq
set_option linter.unusedVariables false
def splB(c:UInt8):Str->List Str
 | []=>[[]]
 | x::l=>bif x==c then []::splB c l else match splB c l with
  | []=>[[x]]
  | h::t=>(x::h)::t
theorem qEh(c:UInt8)(s:Str):splB c s≠[]:=by
 cases s with
 | nil=>simp[splB]
 | cons x l=>
  unfold splB;cases x==c with
  | true=>simp
  | false=>simp only[zb]; split <;> simp
theorem quS{c:UInt8}:∀ {X:Str},c∉X->splB c X=[X]
 | [],_=>rfl
 | x::l,h=>by
  simp only[zw,not_or] at h;unfold splB;rw[show(x==c)=false by rw[zM2]; exact fun e=>h.1 e.symm,zb,quS h.2]
theorem qpP{c:UInt8}(r:Str):∀ {X:Str},c∉X->splB c (X++c::r)=X::splB c r
 | [],_=>by simp[splB]
 | x::l,h=>by
  simp only[zw,not_or] at h;rw[zj1]
  conv=>lhs; unfold splB
  rw[show(x==c)=false by rw[zM2]; exact fun e=>h.1 e.symm,zb,qpP r h.2]
theorem quT(c:UInt8):∀s:Str,(splB c s).length=s.count c+1
 | []=>rfl
 | x::l=>by
  unfold splB;rw[List.count_cons];have ih:=quT c l;cases hx:x==c with
  | true=>simp[ih]
  | false=>
   simp only[zb,zQ1,if_false,zP1];split
   ·rename_i h; exact absurd h (qEh c l)
   ·rename_i h t hs;rw[hs] at ih;exact ih
theorem quU(c:UInt8):∀s:Str,(c∉s/\Lib.indexByte s c=-1)\/∃X r,s=X++c::r/\c∉X/\Lib.indexByte s c=(X.length:Int)
 | []=>.inl ⟨by simp,rfl⟩
 | b::l=>by
  unfold Lib.indexByte;cases hb:b==c with
  | true=>
   rw[zT2] at hb; subst hb;exact .inr ⟨[],l,rfl,by simp,by simp⟩
  | false=>
   rw[zM2] at hb;simp only[zQ1,if_false];rcases quU c l with⟨h1,h2⟩ | ⟨X,r,rfl,h2,h3⟩
   ·refine .inl ⟨by simp only[zw,not_or]; exact⟨fun e=>hb e.symm,h1⟩,by rw[h2]; rfl⟩
   ·refine .inr ⟨b::X,r,rfl,by simp only[zw,not_or]; exact⟨fun e=>hb e.symm,h2⟩,?_⟩
    rw[h3];have:((X.length:Int) == -1)=false:=by rw[zM2]; omega
    rw[this];simp
theorem c_eq(c:UInt8):(Int.ofNat (([c]:Str).getD 0 0).toNat).toNat.toUInt8=c:=by
 show c.toNat.toUInt8=c;simp
theorem qya(s:Str)(c:UInt8):qba s [c]=some (Lib.indexByte s c):=by
 unfold qba qbL idxB;rw[dec_f (show ¬((([c]:Str).length:Int)=0) by simp),zb,z7]
 by_cases h:[c]=s
 ·rw[dec_t h,za,<-h];unfold Lib.indexByte;simp
 ·rw[dec_f h,zb,dec_t (show(([c]:Str).length:Int)=1 by simp),za,gd_t (inB0 (by simp)),c_eq]; rfl
theorem qv5(s:Str)(c:UInt8):qfC s [c]=some ((s.count c:Nat):Int):=by
 unfold qfC cntB;rw[dec_f (show ¬((([c]:Str).length:Int)=0) by simp),zb,dec_t (show(([c]:Str).length:Int)=1 by simp),za,gd_t (inB0 (by simp)),c_eq]
 rfl
theorem qEi{X r:Str}(h:(10:UInt8)∉X)(hl:(X++10::r).length<=4611686018427387904):qkf (X++10::r) [10]=some (X,r,true):=by
 unfold qkf qc3;have hi:Lib.indexByte (X++10::r) 10=(X.length:Int):=by
  rcases quU 10 (X++10::r) with⟨h1,_⟩ | ⟨Y,q,e,h2,h3⟩
  ·simp at h1
  ·have:splB 10 (X++10::r)=splB 10 (Y++10::q):=by rw[e]
   rw[qpP _ h,qpP _ h2] at this;injection this with e1 _
   rw[h3,e1]
 simp only[zd,zg] at hl;rw[qya,hi,z7,dec_t (show(0:Int)<=(X.length:Int) by omega),za]
 have e1:wi64 ((X.length:Int)+(([10]:Str).length:Int))=((X.length+1:Nat):Int):=by
  rw[show(([10]:Str).length:Int)=1 from rfl,wi (by omega)]; omega
 have e2:(X++10::r).take X.length=X:=zB2;have e3:(X++10::r).drop (X.length+1)=r:=by simp[zO1]
 rw[e1,gd_t (by simp[cutG]; omega),gd_t (by simp[cutG]; omega),z9,z9,e2,e3]; rfl
theorem ok_eq{A:Type}{x:Option A}{v:A}(h:Ok x (fun y=>y=v)):x=some v:=by obtain⟨a,h1,rfl⟩:=h; exact h1
theorem qyb{A:Type}(a:List A)(k:Nat)(x:A)(h:k+1=a.length):a.set k x=a.take k++[x]:=by
 rw[List.set_eq_take_append_cons_drop,if_pos (by omega),zZ (by omega)]
theorem qCB{A:Type}(a:List A)(k:Nat)(x:A)(h:k<a.length):(a.set k x).take (k+1)=a.take k++[x]:=by
 rw[List.take_set,qyb _ _ _ (by simp; omega),zF1,z91 (by omega)]
theorem qCC{c:UInt8}{s:Str}(h:(splB c s).length=1):splB c s=[s]:=by
 rw[quT] at h;exact quS (List.count_eq_zero.1 (by omega))
theorem qCD(s:Str)(hl:s.length<=1000000):qhJ s [32]=some (splB 32 s):=by
 have hP:=quT 32 s;have hcnt:s.count 32<=s.length:=List.count_le_length;unfold qhJ qhl;rw[dec_f (by decide),zb,dec_f (by simp),zb,dec_t (by decide),za,qv5,z7,z7]
 have e1:wi64 (((s.count 32:Nat):Int)+1)=((s.count 32+1:Nat):Int):=w1 (n:=1000001) (by omega) (by omega)
 have e2:wi64 ((s.length:Int)+1)=((s.length+1:Nat):Int):=w1 (n:=1000001) (by omega) (by omega)
 have e3:min ((s.count 32+1:Nat):Int) ((s.length+1:Nat):Int)=((s.count 32+1:Nat):Int):=by omega
 rw[e1,e2,e3,gd_t (qhg (by omega))]
 suffices h:Ok (iter (fun x=>qff s [32] 0 ((s.count 32+1:Nat):Int) x.1 x.2.1 x.2.2) (s,0,List.replicate ((s.count 32+1:Nat):Int).toNat [])) (fun e=>e.2.1=((s.count 32:Nat):Int)/\splB 32 e.1=(splB 32 s).drop (s.count 32)/\e.2.2.length=s.count 32+1/\e.2.2.take (s.count 32)=(splB 32 s).take (s.count 32)) by
  obtain⟨e,h1,h2,h3,h4,h5⟩:=h;obtain⟨s3,i,a⟩:=e;simp only at h2 h3 h4 h5;subst h2;rw[h1,z7];simp only;rw[gd_t (inB_t (by omega)),w1 (n:=1000001) (by omega) (by omega),gd_t (by simp[cutG]; omega),z9,z9,qyb a _ s3 (by omega),h5]
  have h6:splB 32 s3=[s3]:=qCC (by rw[h3,z01]; omega)
  rw[<-h6,h3,zD1,zz (by omega)]; rfl
 refine Ok.loop (fun x:Str×Int×List Str=>∃k:Nat,x.2.1=(k:Int)/\k<=s.count 32/\splB 32 x.1=(splB 32 s).drop k/\x.2.2.length=s.count 32+1/\x.2.2.take k=(splB 32 s).take k/\x.1.length<=s.length) (fun x=>s.count 32-x.2.1.toNat)
  ⟨0,rfl,by omega,by simp,by simp,by simp,z61 _⟩ ?_
 rintro⟨s3,i,a⟩ ⟨k,hk,hk1,h1,h2,h3,h4⟩
 simp only at hk h1 h2 h3 h4;subst hk;unfold qff;simp only;have e4:wi64 ((min ((s.count 32+1:Nat):Int) (wi64 ((s.length:Int)+1)))-1)=((s.count 32:Nat):Int):=by rw[e2,e3,wi (by omega)]; omega
 rw[e4];refine Ok.bif (fun hc=>?_) fun hc=>?_
 ·have hc:=zi hc;have hk2:k<s.count 32:=by omega
  rcases quU 32 s3 with⟨hn,_⟩ | ⟨X,r,rfl,hX,hidx⟩
  ·exfalso;have:=congrArg List.length h1;rw[quS hn,z01] at this;simp at this; omega
  ·rw[show qfB (X++32::r) [32]=some (X.length:Int) by unfold qfB; rw[qya,hidx]; rfl,z7]
   simp only[zd,zg] at h4;rw[dec_f (show ¬(X.length:Int)<0 by omega),zb]
   have e5:wi64 ((X.length:Int)+0)=(X.length:Int):=by rw[wi (by omega)]; omega
   have e6:wi64 ((X.length:Int)+(([32]:Str).length:Int))=((X.length+1:Nat):Int):=w1 (n:=1000001) (by omega) (by omega)
   rw[e5,e6,gd_t (by simp[cutG]; omega),gd_t (inB_t (by omega)),gd_t (by simp[cutG]; omega),w1 (n:=1000001) (by omega) (by omega),z9,z9,z9]
   have e7:(X++32::r).take X.length=X:=zB2;have e8:(X++32::r).drop (X.length+1)=r:=by simp[zO1]
   rw[e7,e8];rw[qpP _ hX] at h1;have hkl:k<(splB 32 s).length:=by omega
   rw[ze1 hkl] at h1;injection h1 with h5 h6
   refine .ret ⟨⟨k+1,rfl,by omega,h6,by simp[h2],?_,by simp; omega⟩,?_⟩
   ·rw[qCB _ _ _ (by omega),h3,qer [] hkl,gD_eq hkl,h5]
   ·simp only[z9]; omega
 ·have hc:=zN hc;have:k=s.count 32:=by omega
  subst this;exact .ret ⟨rfl,h1,h2,h3⟩
def wch(b:UInt8):Bool:=Nat.ble 33 b.toNat&&Nat.ble b.toNat 126
def wordB(s:Str):Bool:=s.all wch&&!s.isEmpty
theorem qBa(t:Str)(h:t≠[])(hl:t.length<=1000000):qea t [10]=some (decide (t.getLast? = some 10)):=by
 unfold qea qbM;have hp:0<t.length:=by cases t with | nil=>exact absurd rfl h | cons=>simp
 rw[dec_t (show(([10]:Str).length:Int)<=(t.length:Int) by simp; omega),za]
 have e:wi64 ((t.length:Int)-(([10]:Str).length:Int))=((t.length-1:Nat):Int):=by
  rw[show(([10]:Str).length:Int)=1 from rfl,wi (by omega)]; omega
 rw[e,gd_t (by simp[cutG]),z7,z9]
 congr 1;rw[zU,zy,zy];have e2:t.drop (t.length-1)=[t.getLast h]:=by
  conv=>lhs; rw[<-List.dropLast_concat_getLast h]
  rw[zN1 (by simp)]
  simp
 rw[e2,List.getLast?_eq_some_getLast h]
 simp
end Go.Proofs.YtmdijohmddokhaaGreatDoor
namespace Go.Proofs.YtmdijohmddokhaaGreatDoor
open Go Go.Sq
set_option linter.unusedVariables false
abbrev joinS(w:List Str):Str:=Lib.join w [32]
theorem qbt(a b:Str)(r:List Str):joinS (a::b::r)=a++32::joinS (b::r):=by
 simp[joinS,Lib.join,List.intercalate]
theorem qtC(x:Str):∀ {l:List Str},l≠[]->joinS (l++[x])=joinS l++32::x
 | [],h=>absurd rfl h
 | [a],_=>by
  show joinS (a::x::[])=_;rw[qbt];simp[joinS,Lib.join,List.intercalate]
 | a::b::r,_=>by
  show joinS (a::b::(r++[x]))=_;rw[qbt,qbt,show b::(r++[x])=(b::r)++[x] from rfl,qtC x (by simp),zu]; rfl
def sumL(w:List Str):Nat:=(w.map List.length).sum
theorem qw8{w:List Str}{n:Nat}(h:∀s∈w,s.length<=n):sumL w<=w.length*n:=by
 induction w with
 | nil=>simp[sumL]
 | cons a r ih=>
  have h1:=h a (by simp)
  have h2:=ih (fun s hs=>h s (by simp[hs]))
  have:sumL (a::r)=a.length+sumL r:=by simp[sumL]
  rw[this,zg,z31]; omega
theorem qv6:∀ {w:List Str},w≠[]->(joinS w).length+1=sumL w+w.length
 | [],h=>absurd rfl h
 | [a],_=>by simp[joinS,Lib.join,List.intercalate,sumL]
 | a::b::r,_=>by
  rw[qbt];have ih:=qv6 (w:=b::r) (by simp)
  have:sumL (a::b::r)=a.length+sumL (b::r):=by simp[sumL]
  rw[this];simp only[zd,zg] at ih ⊢;omega
theorem quV(w:List Str):(joinS w).length<=sumL w+w.length:=by
 cases w with
 | nil=>simp[joinS,Lib.join,List.intercalate]
 | cons a r=>have:=qv6 (w:=a::r) (by simp); omega
end Go.Proofs.YtmdijohmddokhaaGreatDoor
namespace Go.Proofs.YtmdijohmddokhaaGreatDoor
open Go Go.Sq
set_option linter.unusedVariables false
theorem qDl{b:UInt8}(h:wch b=true):b≠10/\b≠32:=by
 constructor <;> (rintro rfl; cases h)
theorem quW{x:Str}(h:wordB x=true):(10:UInt8)∉x/\(32:UInt8)∉x/\x≠[]:=by
 unfold wordB at h;rw[z8,zm] at h;exact⟨fun hm=>(qDl (h.1 _ hm)).1 rfl,fun hm=>(qDl (h.1 _ hm)).2 rfl,fun e=>by rw[e] at h; cases h.2⟩
theorem qyc:∀ {w:List Str},(∀x∈w,wordB x=true)->(10:UInt8)∉joinS w
 | [],_=>by simp[joinS,Lib.join,List.intercalate]
 | [a],h=>by
  have:=(quW (h a (by simp))).1
  simpa[joinS,Lib.join,List.intercalate] using this
 | a::b::r,h=>by
  rw[qbt];simp only[zD,zw,not_or];exact⟨(quW (h a (by simp))).1,by decide,qyc (fun x hx=>h x (zO _ hx))⟩
theorem qv7:∀ {w:List Str},w≠[]->(∀x∈w,wordB x=true)->splB 32 (joinS w)=w
 | [],h,_=>absurd rfl h
 | [a],_,h=>by
  have:=quS (quW (h a (by simp))).2.1
  simpa[joinS,Lib.join,List.intercalate] using this
 | a::b::r,_,h=>by
  rw[qbt,qpP _ (quW (h a (by simp))).2.1,qv7 (by simp) (fun x hx=>h x (zO _ hx))]
end Go.Proofs.YtmdijohmddokhaaGreatDoor
namespace Go.Proofs.YtmdijohmddokhaaGreatDoor
open Go Go.Sq
set_option linter.unusedVariables false
theorem quX:∀u:Nat,Digs u (Lib.decDigits u):=by
 intro u;induction u using Nat.strongRecOn with
 | ind u ih=>
  by_cases h:u<10
  ·rw[Lib.decDigits_one h,show UInt8.ofNat (48+u)=chr u by unfold chr; rw[Nat.mod_eq_of_lt h]]
   have hn:=qw7 u;rw[Nat.mod_eq_of_lt h] at hn;refine⟨by simp,by simp[qA9],?_,fun h0 e=>?_,fun h0=>by subst h0; rfl⟩
   ·show 0*10+((chr u).toNat-48)=u;omega
   ·have e':chr u=48:=e;rw[e'] at hn;have:(48:UInt8).toNat=48:=rfl;omega
  ·have h10:=ih (u/10) (by omega)
   rw[Lib.decDigits,dif_neg h];refine⟨by simp,?_,?_,fun h0=>?_,fun h0=>by omega⟩
   ·rw[List.all_append,h10.all];have:=qA9 u;unfold chr at this;rw[z11,this]; rfl
   ·rw[qx9,h10.val];have:=qw7 u;unfold chr at this;rw[this]; omega
   ·have:=h10.hd (by omega)
    obtain⟨a,r,e,_⟩:=h10.head;rw[e] at this ⊢;exact this
theorem qsF:∀(m u:Nat),u<10^(m+1)->(Lib.decDigits u).length<=m+1
 | 0,u,h=>by rw[Lib.decDigits_one (by omega)]; simp
 | m+1,u,h=>by
  by_cases h10:u<10
  ·rw[Lib.decDigits_one h10]; simp
  ·rw[Lib.decDigits,dif_neg h10,zd];have:=qsF m (u/10) (by rw[Nat.pow_succ] at h; omega)
   simp; omega
theorem qEj{b:UInt8}(h:dig b=true):wch b=true:=by
 unfold dig at h;unfold wch;simp only[z8,zb1] at h ⊢;omega
theorem qEk{b:UInt8}(h:nch b=true):wch b=true:=by
 unfold nch fch at h;unfold wch;simp only[z8,zd1,zb1,zT2] at h ⊢;rcases h with(h | h) | h
 ·omega
 ·omega
 ·subst h; decide
/-! ### A product as a line -/
theorem qsG{s:Str}(h:nameB s=true):wordB s=true/\s.length<=12:=by
 unfold nameB at h;simp only[z8,zb1] at h;refine⟨?_,h.1.1.2⟩
 unfold wordB;rw[z8,zm];refine⟨fun b hb=>qEk (zm.1 h.2 b hb),?_⟩
 cases s with
 | nil=>have:=h.1.1.1; simp at this
 | cons=>rfl
end Go.Proofs.YtmdijohmddokhaaGreatDoor
