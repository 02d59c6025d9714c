/- Sources of numbers. No condition. -/
import Derived.Test.YtmdijohmddokhaaGreatDoorQw
import Derived.Test.YtmdijohmddokhaaGreatDoorSqZ
namespace Go.Proofs.YtmdijohmddokhaaGreatDoor
open Go Go.Sq
def i64P(x:Int):Prop:=-9223372036854775808<=x/\x<=9223372036854775807
theorem qEF{x n:Int}(hx:i64P x)(h1:1<=n)(h2:n<=4611686018427387904):qq5 x n=some (x%n):=by
 unfold i64P at hx;have e:=Int.emod_add_mul_ediv x n;have b1:=Int.emod_nonneg x (show n≠0 by omega)
 have b2:=Int.emod_lt_of_pos x (show 0<n by omega)
 unfold qq5;rw[dec_f (show ¬n<1 by omega),dec_f (show ¬n=0 by omega)]
 simp only[zb,zk1,gd_tt];by_cases h0:0<=x
 ·rw[Int.tmod_eq_emod_of_nonneg h0,dec_f (by omega)]; rfl
 ·have e2:Int.tmod x n=if x%n=0 then 0 else x%n-n:=by
   rw[Int.tmod_eq_emod];by_cases hd:n∣x
   ·rw[if_pos (.inr hd),if_pos (Int.emod_eq_zero_of_dvd hd)];rw[Int.emod_eq_zero_of_dvd hd]; rfl
   ·rw[if_neg (by simp[hd]; omega),if_neg (fun hh=>hd (Int.dvd_of_emod_eq_zero hh))]
    congr 1; omega
  rw[e2];by_cases hz:x%n=0
  ·rw[if_pos hz,dec_f (by omega),hz]; rfl
  ·rw[if_neg hz,dec_t (by omega)]
   simp only[za];rw[show x%n-n+n=x%n by omega,wi (by omega)]
structure SrcOk(s:List Int)(p:Int):Prop where
 len:s.length<=2000
 el:∀x∈s,i64P x
 p0:0<=p
 p1:p<=2000
theorem qEG{l:List Int}(hl:∀x∈l,i64P x):∃s,qq4 l=some (s,0)/\SrcOk s 0:=by
 refine⟨l.take 2000,?_,by rw[zn]; omega,fun x hx=>hl x (zj2 hx),by omega,by omega⟩
 unfold qq4;have hm:min (l.length:Int) 2000=((min l.length 2000:Nat):Int):=by omega
 rw[hm];rw[gd_t (show cutG none (some (.i64,((min l.length 2000:Nat):Int))) l.length=true by
  unfold cutG; simp only[z8,zj]; omega)]
 rw[z9];congr 2;by_cases h:l.length<=2000
 ·rw[z91 h,zz (z61 _),zz h]
 ·rw[Nat.min_eq_right (by omega)]
theorem qEH{s:List Int}{p:Int}(h:SrcOk s p):∃r p',qi2 s p=some (r,s,p')/\i64P r/\SrcOk s p':=by
 have h0:=h.p0; have h1:=h.p1; have hl:=h.len;unfold qi2;by_cases hp:(s.length:Int)<=p
 ·rw[dec_t hp];exact⟨0,p,rfl,by unfold i64P; omega,h⟩
 ·obtain⟨k,rfl⟩:∃k:Nat,p=(k:Int):=⟨p.toNat,by omega⟩
  have hk:k<s.length:=by omega
  rw[dec_f hp,show wi64 ((k:Int)+1)=(k:Int)+1 from wi (by omega),show(k:Int)+1-1=(k:Int) by omega,show wi64 (k:Int)=(k:Int) from wi (by omega)]
  simp only[zb,gd_t (inB_t hk)];exact⟨_,_,rfl,h.el _ (qbe hk),⟨hl,h.el,by omega,by omega⟩⟩
theorem n_eq{n:Int}{s:List Int}{p:Int}(h:SrcOk s p)(h1:1<=n)(h2:n<=4611686018427387904):∃r p',qab n s p=some (r,s,p')/\0<=r/\r<n/\SrcOk s p':=by
 obtain⟨r,p',q1,q2,q3⟩:=qEH h;refine⟨r%n,p',?_,Int.emod_nonneg r (show n≠0 by omega),Int.emod_lt_of_pos r (show 0<n by omega),q3⟩
 unfold qab;rw[q1];simp only[z7,qEF q2 h1 h2]
theorem qBW{lo hi:Int}{s:List Int}{p:Int}(h:SrcOk s p)(h0 : -1000000<=lo)(h1:lo<=hi)(h2:hi<=1000000):∃r p',qa5 lo hi s p=some (r,s,p')/\lo<=r/\r<=hi/\SrcOk s p':=by
 unfold qa5;rw[show wi64 (hi-lo)=hi-lo from wi (by omega),show wi64 (hi-lo+1)=hi-lo+1 from wi (by omega)]
 obtain⟨r,p',q1,q2,q3,q4⟩:=n_eq (n:=hi-lo+1) h (by omega) (by omega)
 refine⟨lo+r,p',?_,by omega,by omega,q4⟩
 rw[q1];simp only[z7];rw[wi (by omega)]
theorem qDK{l s:List Int}{p:Int}(h:SrcOk s p)(h1:l≠[])(h2:l.length<=1000000):∃r p',qap l s p=some (r,s,p')/\r∈l/\SrcOk s p':=by
 have hp:=List.length_pos_iff.2 h1;obtain⟨r,p',q1,q2,q3,q4⟩:=n_eq (n:=(l.length:Int)) h (by omega) (by omega)
 obtain⟨k,rfl⟩:∃k:Nat,r=(k:Int):=⟨r.toNat,by omega⟩
 have hk:k<l.length:=by omega
 refine⟨l.getD k 0,p',?_,qbe hk,q4⟩
 unfold qap;rw[q1];simp only[z7,gd_t (inB_t hk),z9]
end Go.Proofs.YtmdijohmddokhaaGreatDoor
namespace Go.Proofs.YtmdijohmddokhaaGreatDoor
open Go Go.Sq
set_option linter.unusedVariables false
abbrev Str:=List UInt8
theorem qst{A:Type}(l:List A)(d:A)(q:A->Bool):(List.range l.length).all (fun i=>q (l.getD i d))=l.all q:=by
 rw[zU,qoN,zm];constructor
 ·intro h x hx;obtain⟨k,hk,rfl⟩:=qvI d hx;exact h k hk
 ·intro h i hi;exact h _ (qbe hi)
theorem scan{A ε:Type}(l:List A)(d:A){step:Int->Option (Int⊕ε)}(q:A->Bool){fin bad:ε}
  (h1:∀i,i<l.length->q (l.getD i d)=true->step (i:Int)=some (.inl ((i+1:Nat):Int)))
  (h2:∀i,i<l.length->q (l.getD i d)=false->step (i:Int)=some (.inr bad)) (h3:step (l.length:Int)=some (.inr fin)):iter step 0=some (bif l.all q then fin else bad):=by
 have:=qa1 (step:=step) l.length (fun i=>(i:Int)) (fun i=>q (l.getD i d)) (fin:=fin) (bad:=bad) (fun i hi _ hq=>h1 i hi hq) (fun i hi _ hq=>h2 i hi hq) (fun _=>h3)
 rw[qst] at this;exact this
theorem w1{i n:Nat}(h:i<n)(hn:n<=4611686018427387904):wi64 ((i:Int)+1)=((i+1:Nat):Int):=by rw[wi (by omega)]; omega
theorem inB0{n:Nat}(h:0<n):inB 0 n=true:=qae.2 ⟨by omega,by omega⟩
theorem qf4{A ε:Type}(l:List A)(d:A){step:Int->Option (Int⊕ε)}(q:A->Bool){fin:ε}(hit:Nat->ε)
  (h1:∀i,i<l.length->q (l.getD i d)=false->step (i:Int)=some (.inl ((i+1:Nat):Int)))
  (h2:∀i,i<l.length->q (l.getD i d)=true->step (i:Int)=some (.inr (hit i))) (h3:step (l.length:Int)=some (.inr fin)):
  iter step 0=some (if l.findIdx q<l.length then hit (l.findIdx q) else fin):=by
 have hlt:∀i,i<l.findIdx q->i<l.length/\q (l.getD i d)=false:=by
  intro i hi;have hl:i<l.length:=zq1 hi List.findIdx_le_length;refine⟨hl,?_⟩
  rw[gD_eq hl];exact List.not_of_lt_findIdx hi
 refine qbj (l.findIdx q) (fun i=>(i:Int)) (fun i hi=>h1 i (hlt i hi).1 (hlt i hi).2) ?_
 by_cases hf:l.findIdx q<l.length
 ·rw[if_pos hf];exact h2 _ hf (by rw[gD_eq hf]; exact List.findIdx_getElem (w:=hf))
 ·rw[if_neg hf];have:l.findIdx q=l.length:=Nat.le_antisymm List.findIdx_le_length (Nat.le_of_not_lt hf);show step ((l.findIdx q:Nat):Int)=_;rw[this]; exact h3
theorem eqU(b c:UInt8)(n:Int)(h:(c.toNat:Int)=n):decide ((Int.ofNat b.toNat)=n)=(b==c):=by
 rw[zU,zy,zT2];simp only[zA1];constructor
 ·intro e; exact UInt8.toNat_inj.1 (by omega)
 ·rintro rfl; exact h
def fch(b:UInt8):Bool:=Nat.ble 97 b.toNat&&Nat.ble b.toNat 122
def nch(b:UInt8):Bool:=fch b || (Nat.ble 48 b.toNat&&Nat.ble b.toNat 57) || b==45
def nameB(s:Str):Bool:=Nat.ble 1 s.length&&Nat.ble s.length 12&&fch (s.headD 0)&&s.all nch
theorem place_eq(b:UInt8):qfe (Int.ofNat b.toNat)=some (bif fch b then 1 else bif nch b then 2 else 0):=by
 have h1:decide (97<=(Int.ofNat b.toNat))=Nat.ble 97 b.toNat:=by rw[zU,zy,zb1]; simp only[zA1]; omega
 have h2:decide ((Int.ofNat b.toNat)<=122)=Nat.ble b.toNat 122:=by rw[zU,zy,zb1]; simp only[zA1]; omega
 have h3:decide (48<=(Int.ofNat b.toNat))=Nat.ble 48 b.toNat:=by rw[zU,zy,zb1]; simp only[zA1]; omega
 have h4:decide ((Int.ofNat b.toNat)<=57)=Nat.ble b.toNat 57:=by rw[zU,zy,zb1]; simp only[zA1]; omega
 unfold qfe nch fch;rw[h1,h2,h3,h4,eqU _ 45 45 rfl];cases Nat.ble 97 b.toNat <;> cases Nat.ble b.toNat 122 <;> cases Nat.ble 48 b.toNat <;> cases Nat.ble b.toNat 57 <;> cases b==45 <;> rfl
theorem nch_f{b:UInt8}(h:fch b=true):nch b=true:=by unfold nch; rw[h]; rfl
theorem qBX(s:Str)(hl:s.length<=1000000):qcz s=some (nameB s):=by
 have h:iter (fun x=>qb7 s x) 0=some (bif s.all nch then .inl () else .inr false):=by
  refine scan s 0 nch (fun i hi hq=>?_) (fun i hi hq=>?_) ?_
  ·unfold qb7;rw[dec_t (by omega),za,gd_t (inB_t hi),z9,place_eq,z7,hq,w1 hi (by omega)]
   cases fch (s.getD i 0) <;> rfl
  ·unfold qb7;rw[dec_t (by omega),za,gd_t (inB_t hi),z9,place_eq,z7,hq]
   cases hf:fch (s.getD i 0) with
   | true=>rw[nch_f hf] at hq; cases hq
   | false=>rfl
  ·unfold qb7;rw[dec_f (by omega)]; rfl
 unfold qcz nameB;by_cases h1:s.length<1
 ·rw[dec_t (show(s.length:Int)<1 by omega),show Nat.ble 1 s.length=false by rw[zJ,ne_eq,zb1]; omega]; rfl
 ·rw[dec_f (show ¬(s.length:Int)<1 by omega),zb,show Nat.ble 1 s.length=true by rw[zb1]; omega]
  by_cases h2:12<s.length
  ·rw[dec_t (show 12<(s.length:Int) by omega),show Nat.ble s.length 12=false by rw[zJ,ne_eq,zb1]; omega]; rfl
  ·rw[dec_f (show ¬12<(s.length:Int) by omega),zb,show Nat.ble s.length 12=true by rw[zb1]; omega,gd_t (inB0 (by omega)),place_eq,z7,h]
   have hh:s.getD 0 0=s.headD 0:=by cases s <;> rfl
   rw[hh];cases fch (s.headD 0) with
   | false=>cases nch (s.headD 0) <;> rfl
   | true=>cases s.all nch <;> rfl
theorem rname_eq(s:Str)(hl:s.length<=1000000):qcn s=some (nameB s):=by
 have k1:∀b:UInt8,decide ((Int.ofNat b.toNat)<97)=!Nat.ble 97 b.toNat:=by
  intro b; rw[zU,zy,zq,zJ,ne_eq,zb1]; simp only[zA1]; omega
 have k2:∀b:UInt8,decide (122<(Int.ofNat b.toNat))=!Nat.ble b.toNat 122:=by
  intro b; rw[zU,zy,zq,zJ,ne_eq,zb1]; simp only[zA1]; omega
 have k3:∀b:UInt8,decide ((Int.ofNat b.toNat)<48)=!Nat.ble 48 b.toNat:=by
  intro b; rw[zU,zy,zq,zJ,ne_eq,zb1]; simp only[zA1]; omega
 have k4:∀b:UInt8,decide (57<(Int.ofNat b.toNat))=!Nat.ble b.toNat 57:=by
  intro b; rw[zU,zy,zq,zJ,ne_eq,zb1]; simp only[zA1]; omega
 have step:∀i,i<s.length->qcc s (i:Int)=some (bif nch (s.getD i 0) then .inl ((i+1:Nat):Int) else .inr (.inr false)):=by
  intro i hi;unfold qcc;simp only[gd_t (inB_t hi),z9];rw[dec_t (show(i:Int)<(s.length:Int) by omega),za,k1,k2,k3,k4,eqU _ 45 45 rfl,w1 hi (by omega)]
  unfold nch fch;cases Nat.ble 97 (s.getD i 0).toNat <;> cases Nat.ble (s.getD i 0).toNat 122 <;> cases Nat.ble 48 (s.getD i 0).toNat <;> cases Nat.ble (s.getD i 0).toNat 57 <;> cases s.getD i 0==45 <;> rfl
 have h:iter (fun x=>qcc s x) 0=some (bif s.all nch then .inl () else .inr false):=by
  refine scan s 0 nch (fun i hi hq=>?_) (fun i hi hq=>?_) ?_
  ·rw[step i hi,hq]; rfl
  ·rw[step i hi,hq]; rfl
  ·unfold qcc;rw[dec_f (by omega)]; rfl
 unfold qcn nameB;by_cases h1:s.length<1
 ·rw[dec_t (show(s.length:Int)<1 by omega),show Nat.ble 1 s.length=false by rw[zJ,ne_eq,zb1]; omega]; rfl
 ·rw[dec_f (show ¬(s.length:Int)<1 by omega),zb,show Nat.ble 1 s.length=true by rw[zb1]; omega]
  by_cases h2:12<s.length
  ·rw[dec_t (show 12<(s.length:Int) by omega),show Nat.ble s.length 12=false by rw[zJ,ne_eq,zb1]; omega]; rfl
  ·rw[dec_f (show ¬12<(s.length:Int) by omega),zb,show Nat.ble s.length 12=true by rw[zb1]; omega,gd_t (inB0 (by omega)),gd_t (inB0 (by omega)),k1,k2,h]
   have hh:s.getD 0 0=s.headD 0:=by cases s <;> rfl
   rw[hh];unfold fch;cases Nat.ble 97 (s.headD 0).toNat <;> cases Nat.ble (s.headD 0).toNat 122 <;> cases s.all nch <;> rfl
theorem qsu(s:Str):qcz s=some (nameB s):=by
 by_cases hl:s.length<=1000000
 ·exact qBX s hl
 ·unfold qcz nameB;rw[dec_f (show ¬(s.length:Int)<1 by omega),zb,dec_t (show 12<(s.length:Int) by omega),show Nat.ble s.length 12=false by rw[zJ,ne_eq,zb1]; omega]
  cases Nat.ble 1 s.length <;> rfl
theorem qvO(s:Str):qcn s=some (nameB s):=by
 by_cases hl:s.length<=1000000
 ·exact rname_eq s hl
 ·unfold qcn nameB;rw[dec_f (show ¬(s.length:Int)<1 by omega),zb,dec_t (show 12<(s.length:Int) by omega),show Nat.ble s.length 12=false by rw[zJ,ne_eq,zb1]; omega]
  cases Nat.ble 1 s.length <;> rfl
end Go.Proofs.YtmdijohmddokhaaGreatDoor
namespace Go.Proofs.YtmdijohmddokhaaGreatDoor
open Go Go.Sq
/-! ### Sources -/
theorem srcN{n:Int}{s:List Int}{p:Int}(h:SrcOk s p)(h1:1<=n)(h2:n<=4611686018427387904):Ok (qab n s p) fun q=>q.2.1=s/\SrcOk s q.2.2/\0<=q.1/\q.1<n:=by
 obtain⟨r,p',q1,q2,q3,q4⟩:=n_eq h h1 h2;exact⟨_,q1,rfl,q4,q2,q3⟩
theorem srcR{lo hi:Int}{s:List Int}{p:Int}(h:SrcOk s p)(h0 : -1000000<=lo)(h1:lo<=hi)(h2:hi<=1000000):Ok (qa5 lo hi s p) fun q=>q.2.1=s/\SrcOk s q.2.2/\lo<=q.1/\q.1<=hi:=by
 obtain⟨r,p',q1,q2,q3,q4⟩:=qBW h h0 h1 h2;exact⟨_,q1,rfl,q4,q2,q3⟩
theorem srcP{l s:List Int}{p:Int}(h:SrcOk s p)(h1:l≠[])(h2:l.length<=1000000):Ok (qap l s p) fun q=>q.2.1=s/\SrcOk s q.2.2/\q.1∈l:=by
 obtain⟨r,p',q1,q2,q3⟩:=qDK h h1 h2;exact⟨_,q1,rfl,q3,q2⟩
/-! ### Names -/
def nm(c:UInt8)(i:Nat):List UInt8:=[c,UInt8.ofNat (97+i)]
theorem qBY:∀i:Fin 26,qga [wu8 (wi64 (97+(Int.tmod ((i.val:Nat):Int) 26)))]=[UInt8.ofNat (97+i.val)]:=by decide +kernel
theorem name_eq(c:UInt8)(i:Nat)(h:i<26):qin [c] (i:Int)=some (nm c i):=by
 unfold qin;rw[qBY ⟨i,h⟩];rfl
theorem qEI{c:UInt8}{i j:Nat}(hi:i<26)(hj:j<26)(h:nm c i=nm c j):i=j:=by
 have key:∀a b:Fin 26,UInt8.ofNat (97+a.val)=UInt8.ofNat (97+b.val)->a=b:=by decide +kernel
 unfold nm at h;have h2:UInt8.ofNat (97+i)=UInt8.ofNat (97+j):=by simpa using h
 have:=key ⟨i,hi⟩ ⟨j,hj⟩ h2;exact congrArg Fin.val this
def nms(c:UInt8)(n:Nat):List (List UInt8):=(List.range n).map (nm c)
theorem qqd(c:UInt8)(n:Nat):(nms c n).length=n:=by simp[nms]
theorem qq6(c:UInt8)(n:Nat):nms c (n+1)=nms c n++[nm c n]:=by unfold nms; rw[List.range_succ]; simp
theorem qpE(c:UInt8){n:Nat}(h:n<=26):(nms c n).Nodup:=by
 unfold nms;refine List.Pairwise.map _ (S:=fun a b=>a≠b) (R:=fun a b=>a<n/\b<n/\a≠b) (fun a b hab e=>?_) ?_
 ·exact hab.2.2 (qEI (by omega) (by omega) e)
 ·refine List.Pairwise.imp_of_mem (R:=fun a b=>a≠b) (fun ha hb hab=>?_) List.nodup_range
  exact⟨zK.1 ha,zK.1 hb,hab⟩
theorem qDL{c:UInt8}{n:Nat}{x:List UInt8}(h:x∈nms c n):∃i,i<n/\x=nm c i:=by
 obtain⟨i,hi,rfl⟩:=zS.1 h;exact⟨i,zK.1 hi,rfl⟩
/-! ### Segments -/
abbrev Pt:=Int×Int×Int
abbrev Seg:=List UInt8×Int×Int×Int×Int×Int×List Pt
abbrev Port:=List UInt8×Int×Int
abbrev Stat:=List UInt8×Int×Int×Int×Int
abbrev Net:=List (List UInt8)×List Seg×List Port×List Stat×Int×Int
def p0:Pt:=(0,0,0)
structure PtsP(cap:Int)(x:List Pt):Prop where
 l2:2<=x.length
 l8:x.length<=8
 rng:∀y∈x,-500<=y.2.1/\y.2.1<=5000/\0<=y.2.2/\y.2.2<=100000000
 inc:∀i,i+1<x.length->(x.getD i p0).1<(x.getD (i+1) p0).1
 fst:(x.getD 0 p0).1=0
 lst:(x.getD (x.length-1) p0).1=cap
structure SegP(k:Nat)(s:Seg):Prop where
 f0:0<=s.2.1
 f1:s.2.1<k
 t0:0<=s.2.2.1
 t1:s.2.2.1<k
 ne:s.2.1≠s.2.2.1
 cap:1<=s.2.2.2.1/\s.2.2.2.1<=1000000
 res:0<=s.2.2.2.2.1/\s.2.2.2.2.1<=1000
 wav:0<=s.2.2.2.2.2.1/\s.2.2.2.2.2.1<=100000
 pts:PtsP s.2.2.2.1 s.2.2.2.2.2.2
structure PreP(cap at':Int)(x:List Pt):Prop where
 l1:1<=x.length
 l7:x.length<=7
 rng:∀y∈x,-500<=y.2.1/\y.2.1<=5000/\0<=y.2.2/\y.2.2<=100000000
 inc:∀i,i+1<x.length->(x.getD i p0).1<(x.getD (i+1) p0).1
 fst:(x.getD 0 p0).1=0
 lst:(x.getD (x.length-1) p0).1=at'
 a0:0<=at'
 a1:at'<cap
theorem qq7{A:Type}{x y:List A}{i:Nat}{d:A}(h:i<x.length):(x++y).getD i d=x.getD i d:=by
 rw[zh,zR h,<-zh]
theorem qxP{A:Type}{x:List A}{y d:A}{i:Nat}(h:i=x.length):(x++[y]).getD i d=y:=by
 subst h; rw[zh,zV (by omega)]; simp
theorem PreP.more{cap a b:Int}{x:List Pt}(h:PreP cap a x)(hb:a<b){y:Pt}(hy:y.1=b)(hr : -500<=y.2.1/\y.2.1<=5000/\0<=y.2.2/\y.2.2<=100000000):
  (∀z∈x++[y],-500<=z.2.1/\z.2.1<=5000/\0<=z.2.2/\z.2.2<=100000000)/\(∀i,i+1<(x++[y]).length->((x++[y]).getD i p0).1<((x++[y]).getD (i+1) p0).1)/\((x++[y]).getD 0 p0).1=0/\((x++[y]).getD ((x++[y]).length-1) p0).1=b:=by
 have hl:=h.l1;have e1:(x++[y]).length=x.length+1:=by simp
 refine⟨fun z hz=>?_,fun i hi=>?_,?_,?_⟩
 ·rcases zD.1 hz with hz | hz
  ·exact h.rng z hz
  ·rw[zW.1 hz]; exact hr
 ·rw[e1] at hi;by_cases h2:i+1<x.length
  ·rw[qq7 (by omega),qq7 h2]; exact h.inc i h2
  ·rw[qq7 (by omega),qxP (by omega),hy]
   have:=h.lst;rw[show x.length-1=i by omega] at this
   omega
 ·rw[qq7 (by omega)]; exact h.fst
 ·rw[e1,qxP (by omega),hy]
theorem qDa{k i j:Nat}(c:Nat)(hc:c<26)(hi:i<k)(hj:j<k)(hne:i≠j)(hk:k<=100){s:List Int}{p:Int}(h:SrcOk s p):
  Ok (qdw (c:Int) (i:Int) (j:Int) s p) fun q=>q.2.1=s/\SrcOk s q.2.2/\q.1.1=nm 103 c/\SegP k q.1:=by
 unfold qdw;refine Ok.bind (srcN h (n:=4) (by omega) (by omega)) ?_
 rintro⟨r,s',p'⟩ ⟨e,h,h0,h1⟩
 have e:s'=s:=e;subst e
 try simp only at h
 refine Ok.bind (Q:=fun z:Int×Int=>0<=z.1/\z.1<k/\0<=z.2/\z.2<k/\z.1≠z.2) (Ok.bif (fun _=>.ret ⟨by simp only; omega,by simp only; omega,by simp only; omega,by simp only; omega,by simp only; omega⟩) fun _=>.ret ⟨by simp only; omega,by simp only; omega,by simp only; omega,by simp only; omega,by simp only; omega⟩) ?_
 rintro⟨f,t⟩ ⟨z1,z2,z3,z4,z5⟩
 refine Ok.eq (name_eq 103 c hc) ?_
 refine Ok.bind (srcP h (by simp) (by simp)) ?_
 rintro⟨cap,s2,p2⟩ ⟨e,h,hcap⟩
 have e:s2=s':=e;subst e
 try simp only at h hcap
 refine Ok.bind (srcP h (by simp) (by simp)) ?_
 rintro⟨res,s3,p3⟩ ⟨e,h,hres⟩
 have e:s3=s2:=e;subst e
 try simp only at h hres
 refine Ok.bind (srcP h (by simp) (by simp)) ?_
 rintro⟨wav,s4,p4⟩ ⟨e,h,hwav⟩
 have e:s4=s3:=e;subst e
 try simp only at h hwav
 refine Ok.bind (srcP h (by simp) (by simp)) ?_
 rintro⟨lim,s5,p5⟩ ⟨e,h,hlim⟩
 have e:s5=s4:=e;subst e
 try simp only at h hlim
 refine Ok.bind (srcR h (by omega) (by omega) (by omega)) ?_
 rintro⟨hh,s6,p6⟩ ⟨e,h,hh0,hh1⟩
 have e:s6=s5:=e;subst e
 try simp only at h hh0 hh1
 have bcap:1<=cap/\cap<=1000:=by simp at hcap; omega
 have blim:1000000<=lim/\lim<=100000000:=by simp at hlim; omega
 refine Ok.bind (Q:=fun q:List Int×Int×List Pt=>q.1=s6/\SrcOk s6 q.2.1/\∃a,PreP cap a q.2.2) ?_ ?_
 ·refine Ok.loop (fun x:Int×List Int×Int×List Pt=>x.2.1=s6/\SrcOk s6 x.2.2.1/\PreP cap x.1 x.2.2.2) (fun x=>7-x.2.2.2.length) ⟨rfl,h,⟨by simp,by simp,fun y hy=>by rw[zW.1 hy]; simp only; omega,fun i hi=>by simp at hi,rfl,rfl,by simp,by simp only; omega⟩⟩ ?_
  rintro⟨at',s7,p7,x⟩ ⟨e,h,hx⟩
  have e:s7=s6:=e;subst e
  try simp only at h hx
  unfold qio;simp only;refine Ok.bind (Q:=fun q:Bool×List Int×Int×List Pt=>q.2.1=s7/\SrcOk s7 q.2.2.1/\q.2.2.2=x/\(q.1=true->x.length<7)) (Ok.bif (fun hc=>?_) fun _=>.ret ⟨rfl,h,rfl,fun h=>by cases h⟩) ?_
  ·have hc:=zi hc;refine Ok.bind (srcN h (n:=3) (by omega) (by omega)) ?_
   rintro⟨r,s8,p8⟩ ⟨e,h,_,_⟩
   exact .ret ⟨e,h,rfl,fun _=>by omega⟩
  ·rintro⟨b,s8,p8,x'⟩ ⟨e,h,e2,hb⟩
   have e:s8=s7:=e;have e2:x'=x:=e2;subst e e2
   try simp only at h hb
   refine Ok.bif (fun hbt=>?_) fun _=>.ret ⟨rfl,h,at',hx⟩
   have hx7:=hb hbt;refine Ok.bind (srcR h (by omega) (by omega) (by omega)) ?_
   rintro⟨d,s9,p9⟩ ⟨e,h,d0,d1⟩
   have e:s9=s8:=e;subst e
   try simp only at h d0 d1
   have ha0:=hx.a0;have ha1:=hx.a1;rw[show wi64 (at'+d)=at'+d from wi (by omega)]
   refine Ok.bif (fun _=>.ret ⟨rfl,h,at',hx⟩) fun hc=>?_
   have hc:=zN hc
   try simp only at hc
   refine Ok.bind (srcR h (by omega) (by omega) (by omega)) ?_
   rintro⟨g,s10,p10⟩ ⟨e,h,g0,g1⟩
   have e:s10=s9:=e;subst e
   try simp only at h g0 g1
   refine Ok.bind (srcP h (by simp) (by simp)) ?_
   rintro⟨m,s11,p11⟩ ⟨e,h,hm⟩
   have e:s11=s10:=e;subst e
   try simp only at h hm
   refine Ok.bind (srcN h (n:=3) (by omega) (by omega)) ?_
   rintro⟨w,s12,p12⟩ ⟨e,h,w0,w1⟩
   have e:s12=s11:=e;subst e
   try simp only at h w0 w1
   have hm:m=1\/m=10:=by simp at hm; omega
   have hgm : -500<=g*m/\g*m<=5000:=by rcases hm with rfl | rfl <;> omega
   refine Ok.gd (qaw (by simp only; omega)) ?_
   simp only;rw[show wi64 (g*m)=g*m from wi (by omega),show wi64 (w*1000)=w*1000 from wi (by omega),show wi64 (lim-w*1000)=lim-w*1000 from wi (by omega)]
   obtain⟨y1,y2,y3,y4⟩:=hx.more (b:=at'+d) (by omega) (y:=(at'+d,g*m,lim-w*1000)) rfl (by simp only; omega)
   exact .ret ⟨⟨rfl,h,⟨by simp,by simp only[zd,zg,zx]; omega,y1,y2,y3,y4,by simp only; omega,by simp only; omega⟩⟩,by simp only[zd,zg,zx]; omega⟩
 ·rintro⟨s7,p7,x⟩ ⟨e,h,a,hx⟩
  have e:s7=s6:=e;subst e
  try simp only at h hx
  refine Ok.bind (srcR h (by omega) (by omega) (by omega)) ?_
  rintro⟨g,s8,p8⟩ ⟨e,h,g0,g1⟩
  have e:s8=s7:=e;subst e
  try simp only at h g0 g1
  have h7:=hx.l7;have h1':=hx.l1;refine Ok.gd (qaw (by simp only; omega)) ?_
  obtain⟨y1,y2,y3,y4⟩:=hx.more (b:=cap) hx.a1 (y:=(cap,g,lim)) rfl (by simp only; omega)
  refine .ret ⟨rfl,h,rfl,⟨z1,z2,z3,z4,z5,by simp only; omega,by simp at hres; simp only; omega,by simp at hwav; simp only; omega,⟨?_,?_,y1,y2,y3,y4⟩⟩⟩
  ·simp only[zd,zg,zx]; omega
  ·simp only[zd,zg,zx]; omega
end Go.Proofs.YtmdijohmddokhaaGreatDoor
namespace Go.Proofs.YtmdijohmddokhaaGreatDoor
open Go Go.Sq
structure qxQ(k i:Nat)(l:List Port):Prop where
 len:l.length<=i
 nam:l.map (·.1)=nms 113 l.length
 rng:∀p∈l,0<=p.2.1/\p.2.1<k/\0<=p.2.2/\p.2.2<=100000000
structure qxR(i:Nat)(l:List Stat):Prop where
 len:l.length<=i
 nam:l.map (·.1)=nms 115 l.length
 dif:(l.map (·.2.1)).Nodup
 rng:∀t∈l,0<=t.2.1/\t.2.1<i/\(0<=t.2.2.1/\t.2.2.1<=100000000)/\(0<=t.2.2.2.1/\t.2.2.2.1<=100000)/\(0<=t.2.2.2.2/\t.2.2.2.2<=100000000)
structure SegsP(k:Nat)(l:List Seg):Prop where
 len:l.length<=8
 nam:l.map (·.1)=nms 103 l.length
 rng:∀s∈l,SegP k s
structure NetP(k:Nat)(n:Net):Prop where
 k2:2<=k
 k6:k<=6
 nodes:n.1=nms 110 k
 segs:SegsP k n.2.1
 segk:k-1<=n.2.1.length
 ports:qxQ k k n.2.2.1
 some':2<=n.2.2.1.length
 stats:qxR k n.2.2.2.1
 vap : -100000<=n.2.2.2.2.1/\n.2.2.2.2.1<=100000000
 set:0<=n.2.2.2.2.2/\n.2.2.2.2.2<=100
theorem SegsP.more{k:Nat}{l:List Seg}(h:SegsP k l)(hl:l.length<=7){x:Seg}(hn:x.1=nm 103 l.length)(hx:SegP k x):SegsP k (l++[x]):=by
 refine⟨by simp; omega,?_,fun s hs=>?_⟩
 ·rw[zH1,h.nam,zd];show _=nms 103 (l.length+1);rw[qq6]; simp[hn]
 ·rcases zD.1 hs with hs | hs
  ·exact h.rng s hs
  ·rw[zW.1 hs]; exact hx
theorem qEJ{s:List Int}{p:Int}(h:SrcOk s p):Ok (qe5 s p) fun q=>q.2.1=s/\SrcOk s q.2.2/\∃k,NetP k q.1:=by
 unfold qe5;refine Ok.bind (srcP h (by simp) (by simp)) ?_
 rintro⟨vap,s1,p1⟩ ⟨e,h,hvap⟩
 replace e:s1=s:=e;subst e
 try simp only at h hvap
 refine Ok.bind (srcP h (by simp) (by simp)) ?_
 rintro⟨set',s2,p2⟩ ⟨e,h,hset⟩
 replace e:s2=s1:=e;subst e
 try simp only at h hset
 refine Ok.bind (srcR h (by omega) (by omega) (by omega)) ?_
 rintro⟨kk,s3,p3⟩ ⟨e,h,hk2,hk6⟩
 replace e:s3=s2:=e;subst e
 try simp only at h hk2 hk6
 obtain⟨k,rfl⟩:∃k:Nat,kk=(k:Int):=⟨kk.toNat,by omega⟩
 have hk2':2<=k:=by omega
 have hk6':k<=6:=by omega
 refine Ok.bind (Q:=fun n:List (List UInt8)=>n=nms 110 k) ?_ ?_
 ·refine Ok.loop (fun x:Int×List (List UInt8)=>∃i:Nat,i<=k/\x.1=((k-i:Nat):Int)/\x.2=nms 110 i) (fun x=>x.1.toNat) ⟨0,by omega,rfl,rfl⟩ ?_
  rintro⟨a,b⟩ ⟨i,hi,e1,e2⟩
  replace e1:a=((k-i:Nat):Int):=e1;replace e2:b=nms 110 i:=e2;subst e1 e2;unfold qiq;simp only;refine Ok.bif (fun hc=>?_) fun hc=>?_
  ·have hc:=zi hc;rw[qqd];refine Ok.eq (name_eq 110 i (by omega)) (Ok.gd (qaw (by omega)) ?_)
   rw[show wi64 (((k-i:Nat):Int)-1)=((k-(i+1):Nat):Int) by rw[wi (by omega)]; omega]
   exact .ret ⟨⟨i+1,by omega,rfl,(qq6 _ _).symm⟩,by simp only[z9]; omega⟩
  ·have hc:=zN hc;have:i=k:=by omega
   subst this;exact .ret rfl
 rintro nodes rfl
 refine Ok.bind (Q:=fun q:List Int×Int×List (List UInt8)×List Seg=>q.1=s3/\SrcOk s3 q.2.1/\q.2.2.1=nms 110 k/\SegsP k q.2.2.2/\q.2.2.2.length<=5/\k-1<=q.2.2.2.length) ?_ ?_
 ·refine Ok.loop (fun x:Int×List Int×Int×List (List UInt8)×List Seg=>x.2.1=s3/\SrcOk s3 x.2.2.1/\x.2.2.2.1=nms 110 k/\SegsP k x.2.2.2.2/\x.1=(x.2.2.2.2.length:Int)/\x.2.2.2.2.length<=k-1) (fun x=>k-x.2.2.2.2.length) ⟨rfl,h,rfl,⟨by simp,rfl,fun s hs=>by simp at hs⟩,rfl,by simp⟩ ?_
  rintro⟨i,s4,p4,n2,n3⟩ ⟨e,h,e2,hs,ei,hl⟩
  replace e:s4=s3:=e;replace e2:n2=nms 110 k:=e2;replace ei:i=(n3.length:Int):=ei;subst e e2 ei
  try simp only at h hs hl
  unfold qir;simp only[qqd];rw[show wi64 ((k:Int)-1)=((k-1:Nat):Int) by rw[wi (by omega)]; omega]
  refine Ok.bif (fun hc=>?_) fun hc=>?_
  ·have hc:=zi hc;rw[show wi64 ((n3.length:Int)+1)=((n3.length+1:Nat):Int) by rw[wi (by omega)]; rfl]
   refine Ok.bind (qDa (k:=k) n3.length (by omega) (i:=n3.length) (j:=n3.length+1) (by omega) (by omega) (by omega) (by omega) h) ?_
   rintro⟨sg,s5,p5⟩ ⟨e,h,e1,hsg⟩
   replace e:s5=s4:=e;subst e
   try simp only at h e1 hsg
   refine Ok.gd (qaw (by(try simp only); omega)) ?_
   exact .ret ⟨⟨rfl,h,rfl,hs.more (by omega) (x:=sg) e1 hsg,by simp,by simp; omega⟩,by simp; omega⟩
  ·have hc:=zN hc;exact .ret ⟨rfl,h,rfl,hs,by(try simp only); omega,by(try simp only); omega⟩
 rintro⟨s4,p4,n2,n3⟩ ⟨e,h,e2,hs,hl,hlk⟩
 replace e:s4=s3:=e;replace e2:n2=nms 110 k:=e2;subst e e2
 try simp only at h hs hl hlk
 refine Ok.bind (srcN h (n:=4) (by omega) (by omega)) ?_
 rintro⟨m,s5,p5⟩ ⟨e,h,hm0,hm1⟩
 replace e:s5=s4:=e;subst e
 try simp only at h hm0 hm1
 refine Ok.bind (Q:=fun q:List Int×Int×List (List UInt8)×List Seg=>q.1=s5/\SrcOk s5 q.2.1/\q.2.2.1=nms 110 k/\SegsP k q.2.2.2/\k-1<=q.2.2.2.length) ?_ ?_
 ·refine Ok.loop (fun x:Int×List Int×Int×List (List UInt8)×List Seg=>x.2.1=s5/\SrcOk s5 x.2.2.1/\x.2.2.2.1=nms 110 k/\SegsP k x.2.2.2.2/\0<=x.1/\x.1+x.2.2.2.2.length<=8/\k-1<=x.2.2.2.2.length) (fun x=>x.1.toNat) ⟨rfl,h,rfl,hs,hm0,by(try simp only); omega,hlk⟩ ?_
  rintro⟨i,s6,p6,n4,n5⟩ ⟨e,h,e2,hs,hi0,hi1,hlk⟩
  replace e:s6=s5:=e;replace e2:n4=nms 110 k:=e2;subst e e2
  try simp only at h hs hi0 hi1 hlk
  unfold qis;simp only[qqd];rw[show wi64 ((k:Int)-1)=((k-1:Nat):Int) by rw[wi (by omega)]; omega]
  refine Ok.bif (fun hc=>?_) fun hc=>?_
  ·have hc:=zi hc;refine Ok.bind (srcN h (n:=((k-1:Nat):Int)) (by omega) (by omega)) ?_
   rintro⟨a,s7,p7⟩ ⟨e,h,ha0,ha1⟩
   replace e:s7=s6:=e;subst e
   try simp only at h ha0 ha1
   rw[show wi64 (a+1)=a+1 from wi (by omega)]
   refine Ok.bind (srcR h (lo:=a+1) (hi:=((k-1:Nat):Int)) (by omega) (by omega) (by omega)) ?_
   rintro⟨b,s8,p8⟩ ⟨e,h,hb0,hb1⟩
   replace e:s8=s7:=e;subst e
   try simp only at h hb0 hb1
   obtain⟨a,rfl⟩:∃n:Nat,a=(n:Int):=⟨a.toNat,by omega⟩
   obtain⟨b,rfl⟩:∃n:Nat,b=(n:Int):=⟨b.toNat,by omega⟩
   refine Ok.bind (qDa (k:=k) n5.length (by omega) (i:=a) (j:=b) (by omega) (by omega) (by omega) (by omega) h) ?_
   rintro⟨sg,s9,p9⟩ ⟨e,h,e1,hsg⟩
   replace e:s9=s8:=e;subst e
   try simp only at h e1 hsg
   refine Ok.gd (qaw (by(try simp only); omega)) ?_
   rw[show wi64 (i-1)=i-1 from wi (by omega)]
   exact .ret ⟨⟨rfl,h,rfl,hs.more (by omega) (x:=sg) e1 hsg,by(try simp only); omega,by simp; omega,by simp; omega⟩,by(try simp only); omega⟩
  ·exact .ret ⟨rfl,h,rfl,hs,hlk⟩
 rintro⟨s6,p6,n4,n5⟩ ⟨e,h,e2,hs,hlk⟩
 replace e:s6=s5:=e;replace e2:n4=nms 110 k:=e2;subst e e2
 try simp only at h hs
 refine Ok.bind (Q:=fun q:List Int×Int×List (List UInt8)×List Seg×List Port×List Stat=>q.1=s6/\SrcOk s6 q.2.1/\q.2.2.1=nms 110 k/\q.2.2.2.1=n5/\qxQ k k q.2.2.2.2.1/\2<=q.2.2.2.2.1.length/\qxR k q.2.2.2.2.2) ?_ ?_
 ·refine Ok.loop (fun x:Int×List Int×Int×List (List UInt8)×List Seg×List Port×List Stat=>∃i:Nat,x.1=(i:Int)/\i<=k/\x.2.1=s6/\SrcOk s6 x.2.2.1/\x.2.2.2.1=nms 110 k/\x.2.2.2.2.1=n5/\qxQ k i x.2.2.2.2.2.1/\((1<=i->1<=x.2.2.2.2.2.1.length)/\(i=k->2<=x.2.2.2.2.2.1.length))/\qxR i x.2.2.2.2.2.2) (fun x=>k-x.1.toNat) ⟨0,rfl,by omega,rfl,h,rfl,rfl,⟨by simp,rfl,fun p hp=>by simp at hp⟩,⟨by omega,by omega⟩,⟨by simp,rfl,by simp,fun p hp=>by simp at hp⟩⟩ ?_
  rintro⟨i',s7,p7,n6,n7,n8,n9⟩ ⟨i,ei,hik,e,h,e2,e3,hP,hP1,hT⟩
  replace ei:i'=(i:Int):=ei;replace e:s7=s6:=e;replace e2:n6=nms 110 k:=e2;replace e3:n7=n5:=e3;subst ei e e2 e3
  try simp only at h hP hP1 hT
  unfold qit;simp only[qqd];rw[show wi64 ((k:Int)-1)=((k-1:Nat):Int) by rw[wi (by omega)]; omega]
  refine Ok.bif (fun hc=>?_) fun hc=>?_
  ·have hc:=zi hc;have hik:i<k:=by omega
   have hpl:=hP.len;have htl:=hT.len;refine Ok.bind (Q:=fun q:Bool×List Int×Int×List (List UInt8)×List Seg×List Port×List Stat=>q.2.1=s7/\SrcOk s7 q.2.2.1/\q.2.2.2=(nms 110 k,n7,n8,n9)/\(i=0\/i=k-1->q.1=true)) (Ok.bif (fun _=>.ret ⟨rfl,h,rfl,fun _=>rfl⟩) fun hc2=>Ok.bif (fun _=>.ret ⟨rfl,h,rfl,fun _=>rfl⟩) fun hc3=>?_) ?_
   ·have hc2:=zN hc2;have hc3:=zN hc3;refine Ok.bind (srcN h (n:=2) (by omega) (by omega)) ?_
    rintro⟨r,s8,p8⟩ ⟨e,h,_,_⟩
    exact .ret ⟨e,h,rfl,fun h0=>by omega⟩
   rintro⟨b,s8,p8,rest⟩ ⟨e,h,e2,hb⟩
   replace e:s8=s7:=e;replace e2:rest=(nms 110 k,n7,n8,n9):=e2;subst e e2
   try simp only at h hb
   try simp only
   refine Ok.bind (Q:=fun q:List Int×Int×List (List UInt8)×List Seg×List Port×List Stat=>q.1=s8/\SrcOk s8 q.2.1/\q.2.2.1=nms 110 k/\q.2.2.2.1=n7/\qxQ k (i+1) q.2.2.2.2.1/\(1<=q.2.2.2.2.1.length/\(i+1=k->2<=q.2.2.2.2.1.length))/\q.2.2.2.2.2=n9) (Ok.bif (fun _=>?_) fun hbf=>?_) ?_
   ·refine Ok.eq (name_eq 113 n8.length (by omega)) ?_
    refine Ok.bind (srcP h (by simp) (by simp)) ?_
    rintro⟨r,s9,p9⟩ ⟨e,h,hr⟩
    replace e:s9=s8:=e;subst e
    try simp only at h hr
    refine Ok.gd (qaw (by omega)) ?_
    refine .ret ⟨rfl,h,rfl,rfl,⟨by simp; omega,?_,fun p hp=>?_⟩,⟨by simp,fun hk=>by have:=hP1.1 (by omega); simp; omega⟩,rfl⟩
    ·simp only[zH1,hP.nam,zd];show _=nms 113 (n8.length+1);rw[qq6]; rfl
    ·rcases zD.1 hp with hp | hp
     ·exact hP.rng p hp
     ·rw[zW.1 hp];simp at hr;simp only; omega
   ·refine .ret ⟨rfl,h,rfl,rfl,⟨by(try simp only); omega,hP.nam,hP.rng⟩,?_,rfl⟩
    have hbn:¬(i=0\/i=k-1):=fun h0=>by have:=hb h0; rw[this] at hbf; cases hbf
    exact⟨hP1.1 (by omega),fun hk=>by omega⟩
   rintro⟨s9,p9,n10,n11,n12,n13⟩ ⟨e,h,e2,e3,hP',hP1',e4⟩
   replace e:s9=s8:=e;replace e2:n10=nms 110 k:=e2;replace e3:n11=n7:=e3;replace e4:n13=n9:=e4;subst e e2 e3 e4
   try simp only at h hP' hP1'
   try simp only
   refine Ok.bind (Q:=fun q:Bool×List Int×Int×List (List UInt8)×List Seg×List Port×List Stat=>q.2.1=s9/\SrcOk s9 q.2.2.1/\q.2.2.2=(nms 110 k,n11,n12,n13)) (Ok.bif (fun _=>?_) fun _=>.ret ⟨rfl,h,rfl⟩) ?_
   ·refine Ok.bind (srcN h (n:=3) (by omega) (by omega)) ?_
    rintro⟨r,s10,p10⟩ ⟨e,h,_,_⟩
    exact .ret ⟨e,h,rfl⟩
   rintro⟨b2,s10,p10,rest⟩ ⟨e,h,e2⟩
   replace e:s10=s9:=e;replace e2:rest=(nms 110 k,n11,n12,n13):=e2;subst e e2
   try simp only at h
   try simp only
   refine Ok.bind (Q:=fun q:List Int×Int×List (List UInt8)×List Seg×List Port×List Stat=>q.1=s10/\SrcOk s10 q.2.1/\q.2.2.1=nms 110 k/\q.2.2.2.1=n11/\q.2.2.2.2.1=n12/\qxR (i+1) q.2.2.2.2.2) (Ok.bif (fun _=>?_) fun _=>?_) ?_
   ·refine Ok.eq (name_eq 115 n13.length (by omega)) ?_
    refine Ok.bind (srcP h (by simp) (by simp)) ?_
    rintro⟨a,s11,p11⟩ ⟨e,h,ha⟩
    replace e:s11=s10:=e;subst e
    try simp only at h ha
    refine Ok.bind (srcP h (by simp) (by simp)) ?_
    rintro⟨b,s12,p12⟩ ⟨e,h,hb⟩
    replace e:s12=s11:=e;subst e
    try simp only at h hb
    refine Ok.bind (srcP h (by simp) (by simp)) ?_
    rintro⟨c,s13,p13⟩ ⟨e,h,hc'⟩
    replace e:s13=s12:=e;subst e
    try simp only at h hc'
    refine Ok.gd (qaw (by omega)) ?_
    refine .ret ⟨rfl,h,rfl,rfl,rfl,⟨by simp; omega,?_,?_,fun t ht=>?_⟩⟩
    ·simp only[zH1,hT.nam,zd];show _=nms 115 (n13.length+1);rw[qq6]; rfl
    ·simp only[zH1,zh1,zc2];refine List.nodup_append.2 ⟨hT.dif,by simp,fun x hx y hy e=>?_⟩
     obtain⟨t,ht,rfl⟩:=zS.1 hx;have:=(hT.rng t ht).2.1;simp at hy;omega
    ·rcases zD.1 ht with ht | ht
     ·have:=hT.rng t ht;omega
     ·rw[zW.1 ht];simp at ha hb hc';simp only; omega
   ·exact .ret ⟨rfl,h,rfl,rfl,rfl,⟨by(try simp only); omega,hT.nam,hT.dif,fun t ht=>by have:=hT.rng t ht; omega⟩⟩
   rintro⟨s11,p11,m1,m2,m3,m4⟩ ⟨e,h,e2,e3,e4,hT'⟩
   replace e:s11=s10:=e;replace e2:m1=nms 110 k:=e2;replace e3:m2=n11:=e3;replace e4:m3=n12:=e4;subst e e2 e3 e4
   try simp only at h hT'
   rw[show wi64 ((i:Int)+1)=((i+1:Nat):Int) by rw[wi (by omega)]; rfl]
   exact .ret ⟨⟨i+1,rfl,by omega,rfl,h,rfl,rfl,hP',⟨fun _=>hP1'.1,hP1'.2⟩,hT'⟩,by simp only[z9]; omega⟩
  ·have hc:=zN hc;have:i=k:=by omega
   subst this;exact .ret ⟨rfl,h,rfl,rfl,hP,hP1.2 rfl,hT⟩
 rintro⟨s7,p7,m1,m2,m3,m4⟩ ⟨e,h,e2,e3,hP,hP1,hT⟩
 replace e:s7=s6:=e;replace e2:m1=nms 110 k:=e2;replace e3:m2=n5:=e3;subst e e2 e3;refine .ret ⟨rfl,h,k,⟨hk2',hk6',rfl,hs,hlk,hP,hP1,hT,?_,?_⟩⟩
 ·simp at hvap; simp only; omega
 ·simp at hset; simp only; omega
end Go.Proofs.YtmdijohmddokhaaGreatDoor
