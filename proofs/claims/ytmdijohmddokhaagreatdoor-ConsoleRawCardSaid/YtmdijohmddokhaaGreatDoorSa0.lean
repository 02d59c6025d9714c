/- Lemmas. No condition. -/
import Derived.Test.YtmdijohmddokhaaGreatDoorQw
import Derived.Test.YtmdijohmddokhaaGreatDoorSqZ
namespace Go.Proofs.YtmdijohmddokhaaGreatDoor
open Go Go.Sq
theorem qzp:qeB=some true:=by kernel_rfl
def i64P(x:Int):Prop:=-9223372036854775808<=x/\x<=9223372036854775807
theorem qDY{x n:Int}(hx:i64P x)(h1:1<=n)(h2:n<=4611686018427387904):qpB x n=some (x%n):=by
 unfold i64P at hx;have e:=Int.emod_add_mul_ediv x n;have b1:=Int.emod_nonneg x (show n≠0 by omega)
 have b2:=Int.emod_lt_of_pos x (show 0<n by omega)
 unfold qpB;rw[dec_f (show ¬n<1 by omega),dec_f (show ¬n=0 by omega)]
 simp only[zc,zu1,gd_tt];by_cases h0:0<=x
 ·rw[Int.tmod_eq_emod_of_nonneg h0,dec_f]; rfl
 ·have e2:Int.tmod x n=if x%n=0 then 0 else x%n-n:=by
   rw[Int.tmod_eq_emod];by_cases hd:n∣x
   ·rw[if_pos (.inr hd),if_pos (Int.emod_eq_zero_of_dvd hd)];rw[Int.emod_eq_zero_of_dvd hd]; rfl
   ·rw[if_neg (by simp[hd]; omega),if_neg (fun hh=>hd (Int.dvd_of_emod_eq_zero hh))]
    congr 1; omega
  rw[e2];by_cases hz:x%n=0
  ·rw[if_pos hz,dec_f,hz]; rfl
  ·rw[if_neg hz,dec_t]
   simp only[zb];rw[show x%n-n+n=x%n by omega,wi (by omega)]
structure SrcOk(s:List Int)(p:Int):Prop where
 len:s.length<=2000
 el:∀x∈s,i64P x
 p0:0<=p
 p1:p<=2000
theorem qFy{l:List Int}(hl:∀x∈l,i64P x):∃s,qpA l=some (s,0)/\SrcOk s 0:=by
 refine⟨l.take 2000,?_,by rw[zm]; omega,fun x hx=>hl x (zD2 hx),by omega,by omega⟩
 unfold qpA;have hm:min (l.length:Int) 2000=((min l.length 2000:Nat):Int):=by omega
 rw[hm];rw[gd_t (show cutG none (some (.i64,((min l.length 2000:Nat):Int))) l.length=true by
  unfold cutG; simp only[z8,zi]; omega)]
 rw[za];congr 2;by_cases h:l.length<=2000
 ·rw[ze1 h,zB (zP _),zB h]
 ·rw[Nat.min_eq_right (by omega)]
theorem qFz{s:List Int}{p:Int}(h:SrcOk s p):∃r p',qjs s p=some (r,s,p')/\i64P r/\SrcOk s p':=by
 have h0:=h.p0; have h1:=h.p1; have hl:=h.len;unfold qjs;by_cases hp:(s.length:Int)<=p
 ·rw[dec_t hp];exact⟨0,p,rfl,by unfold i64P; omega,h⟩
 ·obtain⟨k,rfl⟩:∃k:Nat,p=(k:Int):=⟨p.toNat,by omega⟩
  have hk:k<s.length:=by omega
  rw[dec_f hp,show wi64 ((k:Int)+1)=(k:Int)+1 from wi (by omega),show(k:Int)+1-1=(k:Int) by omega,show wi64 (k:Int)=(k:Int) from wi (by omega)]
  simp only[zc,gd_t (inB_t hk)];exact⟨_,_,rfl,h.el _ (qbu hk),⟨hl,h.el,by omega,by omega⟩⟩
theorem n_eq{n:Int}{s:List Int}{p:Int}(h:SrcOk s p)(h1:1<=n)(h2:n<=4611686018427387904):∃r p',qcz n s p=some (r,s,p')/\0<=r/\r<n/\SrcOk s p':=by
 obtain⟨r,p',q1,q2,q3⟩:=qFz h;refine⟨r%n,p',?_,Int.emod_nonneg r (show n≠0 by omega),Int.emod_lt_of_pos r (show 0<n by omega),q3⟩
 unfold qcz;rw[q1];simp only[z7,qDY q2 h1 h2]
theorem qCA{lo hi:Int}{s:List Int}{p:Int}(h:SrcOk s p)(h0 : -1000000<=lo)(h1:lo<=hi)(h2:hi<=1000000):∃r p',qbv lo hi s p=some (r,s,p')/\lo<=r/\r<=hi/\SrcOk s p':=by
 unfold qbv;rw[show wi64 (hi-lo)=hi-lo from wi (by omega),show wi64 (hi-lo+1)=hi-lo+1 from wi (by omega)]
 obtain⟨r,p',q1,q2,q3,q4⟩:=n_eq (n:=hi-lo+1) h (by omega) (by omega)
 refine⟨lo+r,p',?_,by omega,by omega,q4⟩
 rw[q1];simp only[z7];rw[wi (by omega)]
theorem qEB{l s:List Int}{p:Int}(h:SrcOk s p)(h1:l≠[])(h2:l.length<=1000000):∃r p',qaZ l s p=some (r,s,p')/\r∈l/\SrcOk s p':=by
 have hp:=zM1.2 h1;obtain⟨r,p',q1,q2,q3,q4⟩:=n_eq (n:=(l.length:Int)) h (by omega) (by omega)
 obtain⟨k,rfl⟩:∃k:Nat,r=(k:Int):=⟨r.toNat,by omega⟩
 have hk:k<l.length:=by omega
 refine⟨l.getD k 0,p',?_,qbu hk,q4⟩
 unfold qaZ;rw[q1];simp only[z7,gd_t (inB_t hk),za]
set_option linter.unusedVariables false
abbrev Str:=List UInt8
theorem qtI{A:Type}(l:List A)(d:A)(q:A->Bool):(List.range l.length).all (fun i=>q (l.getD i d))=l.all q:=by
 rw[zT,qv7,zq];constructor
 ·intro h x hx;obtain⟨k,hk,rfl⟩:=qv8 d hx;exact h k hk
 ·intro h i hi;exact h _ (qbu hi)
theorem scan{A ε:Type}(l:List A)(d:A){step:Int->Option (Int⊕ε)}(q:A->Bool){fin bad:ε}
  (h1:∀i,i<l.length->q (l.getD i d)=true->step (i:Int)=some (.inl ((i+1:Nat):Int)))
  (h2:∀i,i<l.length->q (l.getD i d)=false->step (i:Int)=some (.inr bad)) (h3:step (l.length:Int)=some (.inr fin)):iter step 0=some (bif l.all q then fin else bad):=by
 have:=qa1 (step:=step) l.length (fun i=>(i:Int)) (fun i=>q (l.getD i d)) (fin:=fin) (bad:=bad) (fun i hi _ hq=>h1 i hi hq) (fun i hi _ hq=>h2 i hi hq) (fun _=>h3)
 rw[qtI] at this;exact this
theorem w1{i n:Nat}(h:i<n)(hn:n<=4611686018427387904:=by omega):wi64 ((i:Int)+1)=((i+1:Nat):Int):=by rw[wi (by omega)]; omega
theorem inB0{n:Nat}(h:0<n):inB 0 n=true:=qar.2 ⟨by omega,by omega⟩
theorem qeK{A ε:Type}(l:List A)(d:A){step:Int->Option (Int⊕ε)}(q:A->Bool){fin:ε}(hit:Nat->ε)
  (h1:∀i,i<l.length->q (l.getD i d)=false->step (i:Int)=some (.inl ((i+1:Nat):Int)))
  (h2:∀i,i<l.length->q (l.getD i d)=true->step (i:Int)=some (.inr (hit i))) (h3:step (l.length:Int)=some (.inr fin)):
  iter step 0=some (if l.findIdx q<l.length then hit (l.findIdx q) else fin):=by
 have hlt:∀i,i<l.findIdx q->i<l.length/\q (l.getD i d)=false:=by
  intro i hi;have hl:i<l.length:=zw1 hi List.findIdx_le_length;refine⟨hl,?_⟩
  rw[gD_eq hl];exact List.not_of_lt_findIdx hi
 refine qbn (l.findIdx q) (fun i=>(i:Int)) (fun i hi=>h1 i (hlt i hi).1 (hlt i hi).2) ?_
 by_cases hf:l.findIdx q<l.length
 ·rw[if_pos hf];exact h2 _ hf (by rw[gD_eq hf]; exact List.findIdx_getElem (w:=hf))
 ·rw[if_neg hf];have:l.findIdx q=l.length:=Nat.le_antisymm List.findIdx_le_length (Nat.le_of_not_lt hf);show step ((l.findIdx q:Nat):Int)=_;rw[this]; exact h3
theorem eqU(b c:UInt8)(n:Int)(h:(c.toNat:Int)=n):decide ((Int.ofNat b.toNat)=n)=(b==c):=by
 rw[zT,zz,zv2];simp only[z71];constructor
 ·intro e; exact z23.1 (by omega)
 ·rintro rfl; exact h
def fch(b:UInt8):Bool:=Nat.ble 97 b.toNat&&Nat.ble b.toNat 122
def nch(b:UInt8):Bool:=fch b || (Nat.ble 48 b.toNat&&Nat.ble b.toNat 57) || b==45
def nameB(s:Str):Bool:=Nat.ble 1 s.length&&Nat.ble s.length 12&&fch (s.headD 0)&&s.all nch
theorem place_eq(b:UInt8):qfK (Int.ofNat b.toNat)=some (bif fch b then 1 else bif nch b then 2 else 0):=by
 have h1:decide (97<=(Int.ofNat b.toNat))=Nat.ble 97 b.toNat:=by rw[zT,zz,zd1]; simp only[z71]; omega
 have h2:decide ((Int.ofNat b.toNat)<=122)=Nat.ble b.toNat 122:=by rw[zT,zz,zd1]; simp only[z71]; omega
 have h3:decide (48<=(Int.ofNat b.toNat))=Nat.ble 48 b.toNat:=by rw[zT,zz,zd1]; simp only[z71]; omega
 have h4:decide ((Int.ofNat b.toNat)<=57)=Nat.ble b.toNat 57:=by rw[zT,zz,zd1]; simp only[z71]; omega
 unfold qfK nch fch;rw[h1,h2,h3,h4,eqU _ 45 45 rfl];cases Nat.ble 97 b.toNat <;> cases Nat.ble b.toNat 122 <;> cases Nat.ble 48 b.toNat <;> cases Nat.ble b.toNat 57 <;> cases b==45 <;> rfl
theorem nch_f{b:UInt8}(h:fch b=true):nch b=true:=by unfold nch; rw[h]; rfl
theorem qCB(s:Str)(hl:s.length<=1000000):qcS s=some (nameB s):=by
 have h:iter (fun x=>qcl s x) 0=some (bif s.all nch then .inl () else .inr false):=by
  refine scan s 0 nch (fun i hi hq=>?_) (fun i hi hq=>?_) ?_
  ·unfold qcl;rw[dec_t,zb,gd_t (inB_t hi),za,place_eq,z7,hq,w1 hi]
   cases fch (s.getD i 0) <;> rfl
  ·unfold qcl;rw[dec_t,zb,gd_t (inB_t hi),za,place_eq,z7,hq]
   cases hf:fch (s.getD i 0) with
   | true=>rw[nch_f hf] at hq; cases hq
   | false=>rfl
  ·unfold qcl;rw[dec_f]; rfl
 unfold qcS nameB;by_cases h1:s.length<1
 ·rw[dec_t (show(s.length:Int)<1 by omega),show Nat.ble 1 s.length=false by rw[zM,ne_eq,zd1]; omega]; rfl
 ·rw[dec_f (show ¬(s.length:Int)<1 by omega),zc,show Nat.ble 1 s.length=true by rw[zd1]; omega]
  by_cases h2:12<s.length
  ·rw[dec_t (show 12<(s.length:Int) by omega),show Nat.ble s.length 12=false by rw[zM,ne_eq,zd1]; omega]; rfl
  ·rw[dec_f (show ¬12<(s.length:Int) by omega),zc,show Nat.ble s.length 12=true by rw[zd1]; omega,gd_t (inB0 (by omega)),place_eq,z7,h]
   have hh:s.getD 0 0=s.headD 0:=by cases s <;> rfl
   rw[hh];cases fch (s.headD 0) with
   | false=>cases nch (s.headD 0) <;> rfl
   | true=>cases s.all nch <;> rfl
theorem rname_eq(s:Str)(hl:s.length<=1000000):qcA s=some (nameB s):=by
 have k1:∀b:UInt8,decide ((Int.ofNat b.toNat)<97)=!Nat.ble 97 b.toNat:=by
  intro b; rw[zT,zz,zt,zM,ne_eq,zd1]; simp only[z71]; omega
 have k2:∀b:UInt8,decide (122<(Int.ofNat b.toNat))=!Nat.ble b.toNat 122:=by
  intro b; rw[zT,zz,zt,zM,ne_eq,zd1]; simp only[z71]; omega
 have k3:∀b:UInt8,decide ((Int.ofNat b.toNat)<48)=!Nat.ble 48 b.toNat:=by
  intro b; rw[zT,zz,zt,zM,ne_eq,zd1]; simp only[z71]; omega
 have k4:∀b:UInt8,decide (57<(Int.ofNat b.toNat))=!Nat.ble b.toNat 57:=by
  intro b; rw[zT,zz,zt,zM,ne_eq,zd1]; simp only[z71]; omega
 have step:∀i,i<s.length->qcq s (i:Int)=some (bif nch (s.getD i 0) then .inl ((i+1:Nat):Int) else .inr (.inr false)):=by
  intro i hi;unfold qcq;simp only[gd_t (inB_t hi),za];rw[dec_t (show(i:Int)<(s.length:Int) by omega),zb,k1,k2,k3,k4,eqU _ 45 45 rfl,w1 hi]
  unfold nch fch;cases Nat.ble 97 (s.getD i 0).toNat <;> cases Nat.ble (s.getD i 0).toNat 122 <;> cases Nat.ble 48 (s.getD i 0).toNat <;> cases Nat.ble (s.getD i 0).toNat 57 <;> cases s.getD i 0==45 <;> rfl
 have h:iter (fun x=>qcq s x) 0=some (bif s.all nch then .inl () else .inr false):=by
  refine scan s 0 nch (fun i hi hq=>?_) (fun i hi hq=>?_) ?_
  ·rw[step i hi,hq]; rfl
  ·rw[step i hi,hq]; rfl
  ·unfold qcq;rw[dec_f]; rfl
 unfold qcA nameB;by_cases h1:s.length<1
 ·rw[dec_t (show(s.length:Int)<1 by omega),show Nat.ble 1 s.length=false by rw[zM,ne_eq,zd1]; omega]; rfl
 ·rw[dec_f (show ¬(s.length:Int)<1 by omega),zc,show Nat.ble 1 s.length=true by rw[zd1]; omega]
  by_cases h2:12<s.length
  ·rw[dec_t (show 12<(s.length:Int) by omega),show Nat.ble s.length 12=false by rw[zM,ne_eq,zd1]; omega]; rfl
  ·rw[dec_f (show ¬12<(s.length:Int) by omega),zc,show Nat.ble s.length 12=true by rw[zd1]; omega,gd_t (inB0 (by omega)),gd_t (inB0 (by omega)),k1,k2,h]
   have hh:s.getD 0 0=s.headD 0:=by cases s <;> rfl
   rw[hh];unfold fch;cases Nat.ble 97 (s.headD 0).toNat <;> cases Nat.ble (s.headD 0).toNat 122 <;> cases s.all nch <;> rfl
theorem qsK(s:Str):qcS s=some (nameB s):=by
 by_cases hl:s.length<=1000000
 ·exact qCB s hl
 ·unfold qcS nameB;rw[dec_f (show ¬(s.length:Int)<1 by omega),zc,dec_t (show 12<(s.length:Int) by omega),show Nat.ble s.length 12=false by rw[zM,ne_eq,zd1]; omega]
  cases Nat.ble 1 s.length <;> rfl
theorem qwg(s:Str):qcA s=some (nameB s):=by
 by_cases hl:s.length<=1000000
 ·exact rname_eq s hl
 ·unfold qcA nameB;rw[dec_f (show ¬(s.length:Int)<1 by omega),zc,dec_t (show 12<(s.length:Int) by omega),show Nat.ble s.length 12=false by rw[zM,ne_eq,zd1]; omega]
  cases Nat.ble 1 s.length <;> rfl
/-! ### Sources -/
theorem srcN{n:Int}{s:List Int}{p:Int}(h:SrcOk s p)(h1:1<=n)(h2:n<=4611686018427387904):Ok (qcz n s p) fun q=>q.2.1=s/\SrcOk s q.2.2/\0<=q.1/\q.1<n:=by
 obtain⟨r,p',q1,q2,q3,q4⟩:=n_eq h h1 h2;exact⟨_,q1,rfl,q4,q2,q3⟩
theorem srcR{lo hi:Int}{s:List Int}{p:Int}(h:SrcOk s p)(h0 : -1000000<=lo)(h1:lo<=hi)(h2:hi<=1000000):Ok (qbv lo hi s p) fun q=>q.2.1=s/\SrcOk s q.2.2/\lo<=q.1/\q.1<=hi:=by
 obtain⟨r,p',q1,q2,q3,q4⟩:=qCA h h0 h1 h2;exact⟨_,q1,rfl,q4,q2,q3⟩
theorem srcP{l s:List Int}{p:Int}(h:SrcOk s p)(h1:l≠[])(h2:l.length<=1000000):Ok (qaZ l s p) fun q=>q.2.1=s/\SrcOk s q.2.2/\q.1∈l:=by
 obtain⟨r,p',q1,q2,q3⟩:=qEB h h1 h2;exact⟨_,q1,rfl,q3,q2⟩
/-! ### Names -/
def nm(c:UInt8)(i:Nat):List UInt8:=[c,UInt8.ofNat (97+i)]
theorem qCC:∀i:Fin 26,qbK [wu8 (wi64 (97+(Int.tmod ((i.val:Nat):Int) 26)))]=[UInt8.ofNat (97+i.val)]:=by decide +kernel
theorem name_eq(c:UInt8)(i:Nat)(h:i<26):qiN [c] (i:Int)=some (nm c i):=by
 unfold qiN;rw[qCC ⟨i,h⟩];rfl
theorem qFA{c:UInt8}{i j:Nat}(hi:i<26)(hj:j<26)(h:nm c i=nm c j):i=j:=by
 have key:∀a b:Fin 26,UInt8.ofNat (97+a.val)=UInt8.ofNat (97+b.val)->a=b:=by decide +kernel
 unfold nm at h;have h2:UInt8.ofNat (97+i)=UInt8.ofNat (97+j):=by simpa using h
 have:=key ⟨i,hi⟩ ⟨j,hj⟩ h2;exact congrArg Fin.val this
def nms(c:UInt8)(n:Nat):List (List UInt8):=(List.range n).map (nm c)
theorem qqC(c:UInt8)(n:Nat):(nms c n).length=n:=by simp[nms]
theorem qrt(c:UInt8)(n:Nat):nms c (n+1)=nms c n++[nm c n]:=by unfold nms; rw[List.range_succ]; simp
theorem qp5(c:UInt8){n:Nat}(h:n<=26):(nms c n).Nodup:=by
 unfold nms;refine List.Pairwise.map _ (S:=fun a b=>a≠b) (R:=fun a b=>a<n/\b<n/\a≠b) (fun a b hab e=>?_) ?_
 ·exact hab.2.2 (qFA (by omega) (by omega) e)
 ·refine List.Pairwise.imp_of_mem (R:=fun a b=>a≠b) (fun ha hb hab=>?_) List.nodup_range
  exact⟨zU.1 ha,zU.1 hb,hab⟩
theorem qEC{c:UInt8}{n:Nat}{x:List UInt8}(h:x∈nms c n):∃i,i<n/\x=nm c i:=by
 obtain⟨i,hi,rfl⟩:=zW.1 h;exact⟨i,zU.1 hi,rfl⟩
/-! ### Segments -/
abbrev Pt:=Int×Int×Int
abbrev Seg:=List UInt8×Int×Int×Int×Int×Int×List Pt
abbrev Port:=List UInt8×Int×Int
abbrev Stat:=List UInt8×Int×Int×Int×Int
abbrev Net:=List (List UInt8)×List Seg×List Port×List Stat×Int×Int
def p0:Pt:=(0,0,0)
structure PtsP(cap:Int)(x:List Pt):Prop where
 l2:2<=x.length
 l8:x.length<=8
 rng:∀y∈x,-500<=y.2.1/\y.2.1<=5000/\0<=y.2.2/\y.2.2<=100000000
 inc:∀i,i+1<x.length->(x.getD i p0).1<(x.getD (i+1) p0).1
 fst:(x.getD 0 p0).1=0
 lst:(x.getD (x.length-1) p0).1=cap
structure SegP(k:Nat)(s:Seg):Prop where
 f0:0<=s.2.1
 f1:s.2.1<k
 t0:0<=s.2.2.1
 t1:s.2.2.1<k
 ne:s.2.1≠s.2.2.1
 cap:1<=s.2.2.2.1/\s.2.2.2.1<=1000000
 res:0<=s.2.2.2.2.1/\s.2.2.2.2.1<=1000
 wav:0<=s.2.2.2.2.2.1/\s.2.2.2.2.2.1<=100000
 pts:PtsP s.2.2.2.1 s.2.2.2.2.2.2
structure PreP(cap at':Int)(x:List Pt):Prop where
 l1:1<=x.length
 l7:x.length<=7
 rng:∀y∈x,-500<=y.2.1/\y.2.1<=5000/\0<=y.2.2/\y.2.2<=100000000
 inc:∀i,i+1<x.length->(x.getD i p0).1<(x.getD (i+1) p0).1
 fst:(x.getD 0 p0).1=0
 lst:(x.getD (x.length-1) p0).1=at'
 a0:0<=at'
 a1:at'<cap
theorem qru{A:Type}{x y:List A}{i:Nat}{d:A}(h:i<x.length):(x++y).getD i d=x.getD i d:=by
 rw[zk,zY h,<-zk]
theorem qym{A:Type}{x:List A}{y d:A}{i:Nat}(h:i=x.length):(x++[y]).getD i d=y:=by
 subst h; rw[zk,zX (by omega)]; simp
theorem PreP.more{cap a b:Int}{x:List Pt}(h:PreP cap a x)(hb:a<b){y:Pt}(hy:y.1=b)(hr : -500<=y.2.1/\y.2.1<=5000/\0<=y.2.2/\y.2.2<=100000000):
  (∀z∈x++[y],-500<=z.2.1/\z.2.1<=5000/\0<=z.2.2/\z.2.2<=100000000)/\(∀i,i+1<(x++[y]).length->((x++[y]).getD i p0).1<((x++[y]).getD (i+1) p0).1)/\((x++[y]).getD 0 p0).1=0/\((x++[y]).getD ((x++[y]).length-1) p0).1=b:=by
 have hl:=h.l1;have e1:(x++[y]).length=x.length+1:=by simp
 refine⟨fun z hz=>?_,fun i hi=>?_,?_,?_⟩
 ·rcases zI.1 hz with hz | hz
  ·exact h.rng z hz
  ·rw[zZ.1 hz]; exact hr
 ·rw[e1] at hi;by_cases h2:i+1<x.length
  ·rw[qru (by omega),qru h2]; exact h.inc i h2
  ·rw[qru (by omega),qym (by omega),hy]
   have:=h.lst;rw[show x.length-1=i by omega] at this
   omega
 ·rw[qru (by omega)]; exact h.fst
 ·rw[e1,qym (by omega),hy]
theorem qDZ{k i j:Nat}(c:Nat)(hc:c<26)(hi:i<k)(hj:j<k)(hne:i≠j)(hk:k<=100){s:List Int}{p:Int}(h:SrcOk s p):
  Ok (qdW (c:Int) (i:Int) (j:Int) s p) fun q=>q.2.1=s/\SrcOk s q.2.2/\q.1.1=nm 103 c/\SegP k q.1:=by
 unfold qdW;refine oB (srcN h (n:=4) (by omega) (by omega)) ?_
 rintro⟨r,s',p'⟩ ⟨e,h,h0,h1⟩
 have e:s'=s:=e;subst e
 try simp only at h
 refine oB (Q:=fun z:Int×Int=>0<=z.1/\z.1<k/\0<=z.2/\z.2<k/\z.1≠z.2) (oI (fun _=>.ret ⟨by simp only; omega,by simp only; omega,by simp only; omega,by simp only; omega,by simp only; omega⟩) fun _=>.ret ⟨by simp only; omega,by simp only; omega,by simp only; omega,by simp only; omega,by simp only; omega⟩) ?_
 rintro⟨f,t⟩ ⟨z1,z2,z3,z4,z5⟩
 refine oE (name_eq 103 c hc) ?_
 refine oB (srcP h (by simp) (by simp)) ?_
 rintro⟨cap,s2,p2⟩ ⟨e,h,hcap⟩
 have e:s2=s':=e;subst e
 try simp only at h hcap
 refine oB (srcP h (by simp) (by simp)) ?_
 rintro⟨res,s3,p3⟩ ⟨e,h,hres⟩
 have e:s3=s2:=e;subst e
 try simp only at h hres
 refine oB (srcP h (by simp) (by simp)) ?_
 rintro⟨wav,s4,p4⟩ ⟨e,h,hwav⟩
 have e:s4=s3:=e;subst e
 try simp only at h hwav
 refine oB (srcP h (by simp) (by simp)) ?_
 rintro⟨lim,s5,p5⟩ ⟨e,h,hlim⟩
 have e:s5=s4:=e;subst e
 try simp only at h hlim
 refine oB (srcR h (by omega) (by omega) (by omega)) ?_
 rintro⟨hh,s6,p6⟩ ⟨e,h,hh0,hh1⟩
 have e:s6=s5:=e;subst e
 try simp only at h hh0 hh1
 have bcap:1<=cap/\cap<=1000:=by simp at hcap; omega
 have blim:1000000<=lim/\lim<=100000000:=by simp at hlim; omega
 refine oB (Q:=fun q:List Int×Int×List Pt=>q.1=s6/\SrcOk s6 q.2.1/\∃a,PreP cap a q.2.2) ?_ ?_
 ·refine oL (fun x:Int×List Int×Int×List Pt=>x.2.1=s6/\SrcOk s6 x.2.2.1/\PreP cap x.1 x.2.2.2) (fun x=>7-x.2.2.2.length) ⟨rfl,h,⟨by simp,by simp,fun y hy=>by rw[zZ.1 hy]; simp only; omega,fun i hi=>by simp at hi,rfl,rfl,by simp,by simp only; omega⟩⟩ ?_
  rintro⟨at',s7,p7,x⟩ ⟨e,h,hx⟩
  have e:s7=s6:=e;subst e
  try simp only at h hx
  unfold qiO;simp only;refine oB (Q:=fun q:Bool×List Int×Int×List Pt=>q.2.1=s7/\SrcOk s7 q.2.2.1/\q.2.2.2=x/\(q.1=true->x.length<7)) (oI (fun hc=>?_) fun _=>.ret ⟨rfl,h,rfl,fun h=>by cases h⟩) ?_
  ·have hc:=zx hc;refine oB (srcN h (n:=3) (by omega) (by omega)) ?_
   rintro⟨r,s8,p8⟩ ⟨e,h,_,_⟩
   exact .ret ⟨e,h,rfl,fun _=>by omega⟩
  ·rintro⟨b,s8,p8,x'⟩ ⟨e,h,e2,hb⟩
   have e:s8=s7:=e;have e2:x'=x:=e2;subst e e2
   try simp only at h hb
   refine oI (fun hbt=>?_) fun _=>.ret ⟨rfl,h,at',hx⟩
   have hx7:=hb hbt;refine oB (srcR h (by omega) (by omega) (by omega)) ?_
   rintro⟨d,s9,p9⟩ ⟨e,h,d0,d1⟩
   have e:s9=s8:=e;subst e
   try simp only at h d0 d1
   have ha0:=hx.a0;have ha1:=hx.a1;rw[show wi64 (at'+d)=at'+d from wi (by omega)]
   refine oI (fun _=>.ret ⟨rfl,h,at',hx⟩) fun hc=>?_
   have hc:=zh1 hc
   try simp only at hc
   refine oB (srcR h (by omega) (by omega) (by omega)) ?_
   rintro⟨g,s10,p10⟩ ⟨e,h,g0,g1⟩
   have e:s10=s9:=e;subst e
   try simp only at h g0 g1
   refine oB (srcP h (by simp) (by simp)) ?_
   rintro⟨m,s11,p11⟩ ⟨e,h,hm⟩
   have e:s11=s10:=e;subst e
   try simp only at h hm
   refine oB (srcN h (n:=3) (by omega) (by omega)) ?_
   rintro⟨w,s12,p12⟩ ⟨e,h,w0,w1⟩
   have e:s12=s11:=e;subst e
   try simp only at h w0 w1
   have hm:m=1\/m=10:=by simp at hm; omega
   have hgm : -500<=g*m/\g*m<=5000:=by rcases hm with rfl | rfl <;> omega
   refine oG (qaF (by simp only; omega)) ?_
   simp only;rw[show wi64 (g*m)=g*m from wi (by omega),show wi64 (w*1000)=w*1000 from wi (by omega),show wi64 (lim-w*1000)=lim-w*1000 from wi (by omega)]
   obtain⟨y1,y2,y3,y4⟩:=hx.more (b:=at'+d) (by omega) (y:=(at'+d,g*m,lim-w*1000)) rfl (by simp only; omega)
   exact .ret ⟨⟨rfl,h,⟨by simp,by simp only[ze,zf,zo]; omega,y1,y2,y3,y4,by simp only; omega,by simp only; omega⟩⟩,by simp only[ze,zf,zo]; omega⟩
 ·rintro⟨s7,p7,x⟩ ⟨e,h,a,hx⟩
  have e:s7=s6:=e;subst e
  try simp only at h hx
  refine oB (srcR h (by omega) (by omega) (by omega)) ?_
  rintro⟨g,s8,p8⟩ ⟨e,h,g0,g1⟩
  have e:s8=s7:=e;subst e
  try simp only at h g0 g1
  have h7:=hx.l7;have h1':=hx.l1;refine oG (qaF (by simp only; omega)) ?_
  obtain⟨y1,y2,y3,y4⟩:=hx.more (b:=cap) hx.a1 (y:=(cap,g,lim)) rfl (by simp only; omega)
  refine .ret ⟨rfl,h,rfl,⟨z1,z2,z3,z4,z5,by simp only; omega,by simp at hres; simp only; omega,by simp at hwav; simp only; omega,⟨?_,?_,y1,y2,y3,y4⟩⟩⟩
  ·simp only[ze,zf,zo]; omega
  ·simp only[ze,zf,zo]; omega
structure qyn(k i:Nat)(l:List Port):Prop where
 len:l.length<=i
 nam:l.map (·.1)=nms 113 l.length
 rng:∀p∈l,0<=p.2.1/\p.2.1<k/\0<=p.2.2/\p.2.2<=100000000
structure qyo(i:Nat)(l:List Stat):Prop where
 len:l.length<=i
 nam:l.map (·.1)=nms 115 l.length
 dif:(l.map (·.2.1)).Nodup
 rng:∀t∈l,0<=t.2.1/\t.2.1<i/\(0<=t.2.2.1/\t.2.2.1<=100000000)/\(0<=t.2.2.2.1/\t.2.2.2.1<=100000)/\(0<=t.2.2.2.2/\t.2.2.2.2<=100000000)
structure SegsP(k:Nat)(l:List Seg):Prop where
 len:l.length<=8
 nam:l.map (·.1)=nms 103 l.length
 rng:∀s∈l,SegP k s
structure NetP(k:Nat)(n:Net):Prop where
 k2:2<=k
 k6:k<=6
 nodes:n.1=nms 110 k
 segs:SegsP k n.2.1
 segk:k-1<=n.2.1.length
 ports:qyn k k n.2.2.1
 some':2<=n.2.2.1.length
 stats:qyo k n.2.2.2.1
 vap : -100000<=n.2.2.2.2.1/\n.2.2.2.2.1<=100000000
 set:0<=n.2.2.2.2.2/\n.2.2.2.2.2<=100
theorem SegsP.more{k:Nat}{l:List Seg}(h:SegsP k l)(hl:l.length<=7){x:Seg}(hn:x.1=nm 103 l.length)(hx:SegP k x):SegsP k (l++[x]):=by
 refine⟨by simp; omega,?_,fun s hs=>?_⟩
 ·rw[zQ1,h.nam,ze];show _=nms 103 (l.length+1);rw[qrt]; simp[hn]
 ·rcases zI.1 hs with hs | hs
  ·exact h.rng s hs
  ·rw[zZ.1 hs]; exact hx
theorem qFB{s:List Int}{p:Int}(h:SrcOk s p):Ok (qdX s p) fun q=>q.2.1=s/\SrcOk s q.2.2/\∃k,NetP k q.1:=by
 unfold qdX;refine oB (srcP h (by simp) (by simp)) ?_
 rintro⟨vap,s1,p1⟩ ⟨e,h,hvap⟩
 replace e:s1=s:=e;subst e
 try simp only at h hvap
 refine oB (srcP h (by simp) (by simp)) ?_
 rintro⟨set',s2,p2⟩ ⟨e,h,hset⟩
 replace e:s2=s1:=e;subst e
 try simp only at h hset
 refine oB (srcR h (by omega) (by omega) (by omega)) ?_
 rintro⟨kk,s3,p3⟩ ⟨e,h,hk2,hk6⟩
 replace e:s3=s2:=e;subst e
 try simp only at h hk2 hk6
 obtain⟨k,rfl⟩:∃k:Nat,kk=(k:Int):=⟨kk.toNat,by omega⟩
 have hk2':2<=k:=by omega
 have hk6':k<=6:=by omega
 refine oB (Q:=fun n:List (List UInt8)=>n=nms 110 k) ?_ ?_
 ·refine oL (fun x:Int×List (List UInt8)=>∃i:Nat,i<=k/\x.1=((k-i:Nat):Int)/\x.2=nms 110 i) (fun x=>x.1.toNat) ⟨0,by omega,rfl,rfl⟩ ?_
  rintro⟨a,b⟩ ⟨i,hi,e1,e2⟩
  replace e1:a=((k-i:Nat):Int):=e1;replace e2:b=nms 110 i:=e2;subst e1 e2;unfold qiQ;simp only;refine oI (fun hc=>?_) fun hc=>?_
  ·have hc:=zx hc;rw[qqC];refine oE (name_eq 110 i (by omega)) (oG (qaF (by omega)) ?_)
   rw[show wi64 (((k-i:Nat):Int)-1)=((k-(i+1):Nat):Int) by rw[wi (by omega)]; omega]
   exact .ret ⟨⟨i+1,by omega,rfl,(qrt _ _).symm⟩,by simp only[za]; omega⟩
  ·have hc:=zh1 hc;have:i=k:=by omega
   subst this;exact .ret rfl
 rintro nodes rfl
 refine oB (Q:=fun q:List Int×Int×List (List UInt8)×List Seg=>q.1=s3/\SrcOk s3 q.2.1/\q.2.2.1=nms 110 k/\SegsP k q.2.2.2/\q.2.2.2.length<=5/\k-1<=q.2.2.2.length) ?_ ?_
 ·refine oL (fun x:Int×List Int×Int×List (List UInt8)×List Seg=>x.2.1=s3/\SrcOk s3 x.2.2.1/\x.2.2.2.1=nms 110 k/\SegsP k x.2.2.2.2/\x.1=(x.2.2.2.2.length:Int)/\x.2.2.2.2.length<=k-1) (fun x=>k-x.2.2.2.2.length) ⟨rfl,h,rfl,⟨by simp,rfl,fun s hs=>by simp at hs⟩,rfl,by simp⟩ ?_
  rintro⟨i,s4,p4,n2,n3⟩ ⟨e,h,e2,hs,ei,hl⟩
  replace e:s4=s3:=e;replace e2:n2=nms 110 k:=e2;replace ei:i=(n3.length:Int):=ei;subst e e2 ei
  try simp only at h hs hl
  unfold qiR;simp only[qqC];rw[show wi64 ((k:Int)-1)=((k-1:Nat):Int) by rw[wi (by omega)]; omega]
  refine oI (fun hc=>?_) fun hc=>?_
  ·have hc:=zx hc;rw[show wi64 ((n3.length:Int)+1)=((n3.length+1:Nat):Int) by rw[wi (by omega)]; rfl]
   refine oB (qDZ (k:=k) n3.length (by omega) (i:=n3.length) (j:=n3.length+1) (by omega) (by omega) (by omega) (by omega) h) ?_
   rintro⟨sg,s5,p5⟩ ⟨e,h,e1,hsg⟩
   replace e:s5=s4:=e;subst e
   try simp only at h e1 hsg
   refine oG (qaF (by(try simp only); omega)) ?_
   exact .ret ⟨⟨rfl,h,rfl,hs.more (by omega) (x:=sg) e1 hsg,by simp,by simp; omega⟩,by simp; omega⟩
  ·have hc:=zh1 hc;exact .ret ⟨rfl,h,rfl,hs,by(try simp only); omega,by(try simp only); omega⟩
 rintro⟨s4,p4,n2,n3⟩ ⟨e,h,e2,hs,hl,hlk⟩
 replace e:s4=s3:=e;replace e2:n2=nms 110 k:=e2;subst e e2
 try simp only at h hs hl hlk
 refine oB (srcN h (n:=4) (by omega) (by omega)) ?_
 rintro⟨m,s5,p5⟩ ⟨e,h,hm0,hm1⟩
 replace e:s5=s4:=e;subst e
 try simp only at h hm0 hm1
 refine oB (Q:=fun q:List Int×Int×List (List UInt8)×List Seg=>q.1=s5/\SrcOk s5 q.2.1/\q.2.2.1=nms 110 k/\SegsP k q.2.2.2/\k-1<=q.2.2.2.length) ?_ ?_
 ·refine oL (fun x:Int×List Int×Int×List (List UInt8)×List Seg=>x.2.1=s5/\SrcOk s5 x.2.2.1/\x.2.2.2.1=nms 110 k/\SegsP k x.2.2.2.2/\0<=x.1/\x.1+x.2.2.2.2.length<=8/\k-1<=x.2.2.2.2.length) (fun x=>x.1.toNat) ⟨rfl,h,rfl,hs,hm0,by(try simp only); omega,hlk⟩ ?_
  rintro⟨i,s6,p6,n4,n5⟩ ⟨e,h,e2,hs,hi0,hi1,hlk⟩
  replace e:s6=s5:=e;replace e2:n4=nms 110 k:=e2;subst e e2
  try simp only at h hs hi0 hi1 hlk
  unfold qiS;simp only[qqC];rw[show wi64 ((k:Int)-1)=((k-1:Nat):Int) by rw[wi (by omega)]; omega]
  refine oI (fun hc=>?_) fun hc=>?_
  ·have hc:=zx hc;refine oB (srcN h (n:=((k-1:Nat):Int)) (by omega) (by omega)) ?_
   rintro⟨a,s7,p7⟩ ⟨e,h,ha0,ha1⟩
   replace e:s7=s6:=e;subst e
   try simp only at h ha0 ha1
   rw[show wi64 (a+1)=a+1 from wi (by omega)]
   refine oB (srcR h (lo:=a+1) (hi:=((k-1:Nat):Int)) (by omega) (by omega) (by omega)) ?_
   rintro⟨b,s8,p8⟩ ⟨e,h,hb0,hb1⟩
   replace e:s8=s7:=e;subst e
   try simp only at h hb0 hb1
   obtain⟨a,rfl⟩:∃n:Nat,a=(n:Int):=⟨a.toNat,by omega⟩
   obtain⟨b,rfl⟩:∃n:Nat,b=(n:Int):=⟨b.toNat,by omega⟩
   refine oB (qDZ (k:=k) n5.length (by omega) (i:=a) (j:=b) (by omega) (by omega) (by omega) (by omega) h) ?_
   rintro⟨sg,s9,p9⟩ ⟨e,h,e1,hsg⟩
   replace e:s9=s8:=e;subst e
   try simp only at h e1 hsg
   refine oG (qaF (by(try simp only); omega)) ?_
   rw[show wi64 (i-1)=i-1 from wi (by omega)]
   exact .ret ⟨⟨rfl,h,rfl,hs.more (by omega) (x:=sg) e1 hsg,by(try simp only); omega,by simp; omega,by simp; omega⟩,by(try simp only); omega⟩
  ·exact .ret ⟨rfl,h,rfl,hs,hlk⟩
 rintro⟨s6,p6,n4,n5⟩ ⟨e,h,e2,hs,hlk⟩
 replace e:s6=s5:=e;replace e2:n4=nms 110 k:=e2;subst e e2
 try simp only at h hs
 refine oB (Q:=fun q:List Int×Int×List (List UInt8)×List Seg×List Port×List Stat=>q.1=s6/\SrcOk s6 q.2.1/\q.2.2.1=nms 110 k/\q.2.2.2.1=n5/\qyn k k q.2.2.2.2.1/\2<=q.2.2.2.2.1.length/\qyo k q.2.2.2.2.2) ?_ ?_
 ·refine oL (fun x:Int×List Int×Int×List (List UInt8)×List Seg×List Port×List Stat=>∃i:Nat,x.1=(i:Int)/\i<=k/\x.2.1=s6/\SrcOk s6 x.2.2.1/\x.2.2.2.1=nms 110 k/\x.2.2.2.2.1=n5/\qyn k i x.2.2.2.2.2.1/\((1<=i->1<=x.2.2.2.2.2.1.length)/\(i=k->2<=x.2.2.2.2.2.1.length))/\qyo i x.2.2.2.2.2.2) (fun x=>k-x.1.toNat) ⟨0,rfl,by omega,rfl,h,rfl,rfl,⟨by simp,rfl,fun p hp=>by simp at hp⟩,⟨by omega,by omega⟩,⟨by simp,rfl,by simp,fun p hp=>by simp at hp⟩⟩ ?_
  rintro⟨i',s7,p7,n6,n7,n8,n9⟩ ⟨i,ei,hik,e,h,e2,e3,hP,hP1,hT⟩
  replace ei:i'=(i:Int):=ei;replace e:s7=s6:=e;replace e2:n6=nms 110 k:=e2;replace e3:n7=n5:=e3;subst ei e e2 e3
  try simp only at h hP hP1 hT
  unfold qiT;simp only[qqC];rw[show wi64 ((k:Int)-1)=((k-1:Nat):Int) by rw[wi (by omega)]; omega]
  refine oI (fun hc=>?_) fun hc=>?_
  ·have hc:=zx hc;have hik:i<k:=by omega
   have hpl:=hP.len;have htl:=hT.len;refine oB (Q:=fun q:Bool×List Int×Int×List (List UInt8)×List Seg×List Port×List Stat=>q.2.1=s7/\SrcOk s7 q.2.2.1/\q.2.2.2=(nms 110 k,n7,n8,n9)/\(i=0\/i=k-1->q.1=true)) (oI (fun _=>.ret ⟨rfl,h,rfl,fun _=>rfl⟩) fun hc2=>oI (fun _=>.ret ⟨rfl,h,rfl,fun _=>rfl⟩) fun hc3=>?_) ?_
   ·have hc2:=zh1 hc2;have hc3:=zh1 hc3;refine oB (srcN h (n:=2) (by omega) (by omega)) ?_
    rintro⟨r,s8,p8⟩ ⟨e,h,_,_⟩
    exact .ret ⟨e,h,rfl,fun h0=>by omega⟩
   rintro⟨b,s8,p8,rest⟩ ⟨e,h,e2,hb⟩
   replace e:s8=s7:=e;replace e2:rest=(nms 110 k,n7,n8,n9):=e2;subst e e2
   try simp only at h hb
   try simp only
   refine oB (Q:=fun q:List Int×Int×List (List UInt8)×List Seg×List Port×List Stat=>q.1=s8/\SrcOk s8 q.2.1/\q.2.2.1=nms 110 k/\q.2.2.2.1=n7/\qyn k (i+1) q.2.2.2.2.1/\(1<=q.2.2.2.2.1.length/\(i+1=k->2<=q.2.2.2.2.1.length))/\q.2.2.2.2.2=n9) (oI (fun _=>?_) fun hbf=>?_) ?_
   ·refine oE (name_eq 113 n8.length (by omega)) ?_
    refine oB (srcP h (by simp) (by simp)) ?_
    rintro⟨r,s9,p9⟩ ⟨e,h,hr⟩
    replace e:s9=s8:=e;subst e
    try simp only at h hr
    refine oG (qaF (by omega)) ?_
    refine .ret ⟨rfl,h,rfl,rfl,⟨by simp; omega,?_,fun p hp=>?_⟩,⟨by simp,fun hk=>by have:=hP1.1 (by omega); simp; omega⟩,rfl⟩
    ·simp only[zQ1,hP.nam,ze];show _=nms 113 (n8.length+1);rw[qrt]; rfl
    ·rcases zI.1 hp with hp | hp
     ·exact hP.rng p hp
     ·rw[zZ.1 hp];simp at hr;simp only; omega
   ·refine .ret ⟨rfl,h,rfl,rfl,⟨by(try simp only); omega,hP.nam,hP.rng⟩,?_,rfl⟩
    have hbn:¬(i=0\/i=k-1):=fun h0=>by have:=hb h0; rw[this] at hbf; cases hbf
    exact⟨hP1.1 (by omega),fun hk=>by omega⟩
   rintro⟨s9,p9,n10,n11,n12,n13⟩ ⟨e,h,e2,e3,hP',hP1',e4⟩
   replace e:s9=s8:=e;replace e2:n10=nms 110 k:=e2;replace e3:n11=n7:=e3;replace e4:n13=n9:=e4;subst e e2 e3 e4
   try simp only at h hP' hP1'
   try simp only
   refine oB (Q:=fun q:Bool×List Int×Int×List (List UInt8)×List Seg×List Port×List Stat=>q.2.1=s9/\SrcOk s9 q.2.2.1/\q.2.2.2=(nms 110 k,n11,n12,n13)) (oI (fun _=>?_) fun _=>.ret ⟨rfl,h,rfl⟩) ?_
   ·refine oB (srcN h (n:=3) (by omega) (by omega)) ?_
    rintro⟨r,s10,p10⟩ ⟨e,h,_,_⟩
    exact .ret ⟨e,h,rfl⟩
   rintro⟨b2,s10,p10,rest⟩ ⟨e,h,e2⟩
   replace e:s10=s9:=e;replace e2:rest=(nms 110 k,n11,n12,n13):=e2;subst e e2
   try simp only at h
   try simp only
   refine oB (Q:=fun q:List Int×Int×List (List UInt8)×List Seg×List Port×List Stat=>q.1=s10/\SrcOk s10 q.2.1/\q.2.2.1=nms 110 k/\q.2.2.2.1=n11/\q.2.2.2.2.1=n12/\qyo (i+1) q.2.2.2.2.2) (oI (fun _=>?_) fun _=>?_) ?_
   ·refine oE (name_eq 115 n13.length (by omega)) ?_
    refine oB (srcP h (by simp) (by simp)) ?_
    rintro⟨a,s11,p11⟩ ⟨e,h,ha⟩
    replace e:s11=s10:=e;subst e
    try simp only at h ha
    refine oB (srcP h (by simp) (by simp)) ?_
    rintro⟨b,s12,p12⟩ ⟨e,h,hb⟩
    replace e:s12=s11:=e;subst e
    try simp only at h hb
    refine oB (srcP h (by simp) (by simp)) ?_
    rintro⟨c,s13,p13⟩ ⟨e,h,hc'⟩
    replace e:s13=s12:=e;subst e
    try simp only at h hc'
    refine oG (qaF (by omega)) ?_
    refine .ret ⟨rfl,h,rfl,rfl,rfl,⟨by simp; omega,?_,?_,fun t ht=>?_⟩⟩
    ·simp only[zQ1,hT.nam,ze];show _=nms 115 (n13.length+1);rw[qrt]; rfl
    ·simp only[zQ1,z81,zK1];refine List.nodup_append.2 ⟨hT.dif,by simp,fun x hx y hy e=>?_⟩
     obtain⟨t,ht,rfl⟩:=zW.1 hx;have:=(hT.rng t ht).2.1;simp at hy;omega
    ·rcases zI.1 ht with ht | ht
     ·have:=hT.rng t ht;omega
     ·rw[zZ.1 ht];simp at ha hb hc';simp only; omega
   ·exact .ret ⟨rfl,h,rfl,rfl,rfl,⟨by(try simp only); omega,hT.nam,hT.dif,fun t ht=>by have:=hT.rng t ht; omega⟩⟩
   rintro⟨s11,p11,m1,m2,m3,m4⟩ ⟨e,h,e2,e3,e4,hT'⟩
   replace e:s11=s10:=e;replace e2:m1=nms 110 k:=e2;replace e3:m2=n11:=e3;replace e4:m3=n12:=e4;subst e e2 e3 e4
   try simp only at h hT'
   rw[show wi64 ((i:Int)+1)=((i+1:Nat):Int) by rw[wi (by omega)]; rfl]
   exact .ret ⟨⟨i+1,rfl,by omega,rfl,h,rfl,rfl,hP',⟨fun _=>hP1'.1,hP1'.2⟩,hT'⟩,by simp only[za]; omega⟩
  ·have hc:=zh1 hc;have:i=k:=by omega
   subst this;exact .ret ⟨rfl,h,rfl,rfl,hP,hP1.2 rfl,hT⟩
 rintro⟨s7,p7,m1,m2,m3,m4⟩ ⟨e,h,e2,e3,hP,hP1,hT⟩
 replace e:s7=s6:=e;replace e2:m1=nms 110 k:=e2;replace e3:m2=n5:=e3;subst e e2 e3;refine .ret ⟨rfl,h,k,⟨hk2',hk6',rfl,hs,hlk,hP,hP1,hT,?_,?_⟩⟩
 ·simp at hvap; simp only; omega
 ·simp at hset; simp only; omega
theorem qzq{A:Type}(l:List A)(d:A)(p:A->Bool)(i:Nat)(hi:i<=l.length):decide (l.findIdx p<i)=(List.range i).any fun k=>p (l.getD k d):=by
 rw[zT,zz,zo2];constructor
 ·intro h;have hl:l.findIdx p<l.length:=by omega
  exact⟨_,zU.2 h,by rw[gD_eq hl]; exact List.findIdx_getElem (w:=hl)⟩
 ·rintro⟨k,hk,hp⟩
  have hk:=zU.1 hk;refine Nat.lt_of_not_le fun hle=>?_
  have:=List.not_of_lt_findIdx (p:=p) (xs:=l) (i:=k) (by omega)
  rw[gD_eq (by omega)] at hp
  exact absurd hp (by simpa using this)
theorem qfQ{A:Type}(l:List A)(p:A->Bool):decide (l.findIdx p<l.length)=l.any p:=by
 rw[zT,zz,zw2,zo2]
theorem scanN{ε:Type}(n:Nat){step:Int->Option (Int⊕ε)}(q:Nat->Bool){fin bad:ε}
  (h1:∀i,i<n->q i=false->step (i:Int)=some (.inl ((i+1:Nat):Int)))
  (h2:∀i,i<n->q i=true->step (i:Int)=some (.inr bad)) (h3:step (n:Int)=some (.inr fin)):iter step 0=some (bif (List.range n).any q then bad else fin):=by
 have:=qa1 (step:=step) n (fun i=>(i:Int)) (fun i=>!q i) (fin:=fin) (bad:=bad) (fun i hi _ hq=>h1 i hi (by simpa using hq)) (fun i hi _ hq=>h2 i hi (by simpa using hq)) (fun _=>h3)
 have e:(List.range n).all (fun i=>!q i)=!(List.range n).any q:=by simp[zc1]
 rw[e] at this;refine this.trans ?_
 cases(List.range n).any q <;> rfl
theorem qcJ(s:List (List UInt8×Int×Int×Int×Int×Int×List (Int×Int×Int)))(p:(List UInt8×Int×Int×Int×Int×Int×List (Int×Int×Int))->Bool)(f:(List UInt8×Int×Int×Int×Int×Int×List (Int×Int×Int))×Unit->Option Bool)(hf:∀x∈s,f (x,())=some (p x))(hl:s.length<=1000000):qaq s f=some (if s.findIdx p<s.length then((s.findIdx p:Nat):Int) else -1):=by
 unfold qaq;have h:iter (fun x=>qad s f x) 0=some (if s.findIdx p<s.length then .inr ((s.findIdx p:Nat):Int) else .inl ()):=by
  refine qeK (step:=fun y=>qad s f y) (ε:=Unit⊕Int) s ([],0,0,0,0,0,[]) p (fin:=.inl ()) (fun i=>.inr (i:Int)) (fun i hi hq=>?_) (fun i hi hq=>?_) ?_
  ·unfold qad;rw[Sq.dlt hi,zb,gd_t (inB_t hi),za,hf _ (qbu hi),z7,hq,zc,w1 hi]
  ·unfold qad;rw[Sq.dlt hi,zb,gd_t (inB_t hi),za,hf _ (qbu hi),z7,hq,zb]
  ·unfold qad;rw[dec_f]; rfl
 rw[h,z7];by_cases hf:s.findIdx p<s.length
 ·rw[if_pos hf,if_pos hf]; rfl
 ·rw[if_neg hf,if_neg hf]; rfl
theorem qeL(s:List (List UInt8×Int×Int×Int×Int×Int×List (Int×Int×Int)))(p:(List UInt8×Int×Int×Int×Int×Int×List (Int×Int×Int))->Bool)(f:(List UInt8×Int×Int×Int×Int×Int×List (Int×Int×Int))×Unit->Option Bool)(hf:∀x∈s,f (x,())=some (p x))(hl:s.length<=1000000):qal s f=some (s.any p):=by
 unfold qal;rw[qcJ s p f hf hl,z7,<-qfQ];by_cases hf:s.findIdx p<s.length
 ·rw[if_pos hf,dec_t hf,dec_t]
 ·rw[if_neg hf,dec_f hf,dec_f]
theorem qqD(s:List (List UInt8))(p:(List UInt8)->Bool)(f:(List UInt8)×Unit->Option Bool)(hf:∀x∈s,f (x,())=some (p x))(hl:s.length<=1000000):qbh s f=some (if s.findIdx p<s.length then((s.findIdx p:Nat):Int) else -1):=by
 unfold qbh;have h:iter (fun x=>qaw s f x) 0=some (if s.findIdx p<s.length then .inr ((s.findIdx p:Nat):Int) else .inl ()):=by
  refine qeK (step:=fun y=>qaw s f y) (ε:=Unit⊕Int) s [] p (fin:=.inl ()) (fun i=>.inr (i:Int)) (fun i hi hq=>?_) (fun i hi hq=>?_) ?_
  ·unfold qaw;rw[Sq.dlt hi,zb,gd_t (inB_t hi),za,hf _ (qbu hi),z7,hq,zc,w1 hi]
  ·unfold qaw;rw[Sq.dlt hi,zb,gd_t (inB_t hi),za,hf _ (qbu hi),z7,hq,zb]
  ·unfold qaw;rw[dec_f]; rfl
 rw[h,z7];by_cases hf:s.findIdx p<s.length
 ·rw[if_pos hf,if_pos hf]; rfl
 ·rw[if_neg hf,if_neg hf]; rfl
theorem qku(s:List (List UInt8))(p:(List UInt8)->Bool)(f:(List UInt8)×Unit->Option Bool)(hf:∀x∈s,f (x,())=some (p x))(hl:s.length<=1000000):qax s f=some (s.any p):=by
 unfold qax;rw[qqD s p f hf hl,z7,<-qfQ];by_cases hf:s.findIdx p<s.length
 ·rw[if_pos hf,dec_t hf,dec_t]
 ·rw[if_neg hf,dec_f hf,dec_f]
theorem qbC(s:List (List UInt8×Int×Int×Int×Int))(p:(List UInt8×Int×Int×Int×Int)->Bool)(f:(List UInt8×Int×Int×Int×Int)×Unit->Option Bool)(hf:∀x∈s,f (x,())=some (p x))(hl:s.length<=1000000):qab s f=some (if s.findIdx p<s.length then((s.findIdx p:Nat):Int) else -1):=by
 unfold qab;have h:iter (fun x=>qae s f x) 0=some (if s.findIdx p<s.length then .inr ((s.findIdx p:Nat):Int) else .inl ()):=by
  refine qeK (step:=fun y=>qae s f y) (ε:=Unit⊕Int) s ([],0,0,0,0) p (fin:=.inl ()) (fun i=>.inr (i:Int)) (fun i hi hq=>?_) (fun i hi hq=>?_) ?_
  ·unfold qae;rw[Sq.dlt hi,zb,gd_t (inB_t hi),za,hf _ (qbu hi),z7,hq,zc,w1 hi]
  ·unfold qae;rw[Sq.dlt hi,zb,gd_t (inB_t hi),za,hf _ (qbu hi),z7,hq,zb]
  ·unfold qae;rw[dec_f]; rfl
 rw[h,z7];by_cases hf:s.findIdx p<s.length
 ·rw[if_pos hf,if_pos hf]; rfl
 ·rw[if_neg hf,if_neg hf]; rfl
theorem qi9(s:List (List UInt8×Int×Int×Int×Int))(p:(List UInt8×Int×Int×Int×Int)->Bool)(f:(List UInt8×Int×Int×Int×Int)×Unit->Option Bool)(hf:∀x∈s,f (x,())=some (p x))(hl:s.length<=1000000):qaB s f=some (s.any p):=by
 unfold qaB;rw[qbC s p f hf hl,z7,<-qfQ];by_cases hf:s.findIdx p<s.length
 ·rw[if_pos hf,dec_t hf,dec_t]
 ·rw[if_neg hf,dec_f hf,dec_f]
theorem qxo(s:List (Int))(p:(Int)->Bool)(f:(Int)×Unit->Option Bool)(hf:∀x∈s,f (x,())=some (p x))(hl:s.length<=1000000):qb8 s f=some (if s.findIdx p<s.length then((s.findIdx p:Nat):Int) else -1):=by
 unfold qb8;have h:iter (fun x=>qaO s f x) 0=some (if s.findIdx p<s.length then .inr ((s.findIdx p:Nat):Int) else .inl ()):=by
  refine qeK (step:=fun y=>qaO s f y) (ε:=Unit⊕Int) s 0 p (fin:=.inl ()) (fun i=>.inr (i:Int)) (fun i hi hq=>?_) (fun i hi hq=>?_) ?_
  ·unfold qaO;rw[Sq.dlt hi,zb,gd_t (inB_t hi),za,hf _ (qbu hi),z7,hq,zc,w1 hi]
  ·unfold qaO;rw[Sq.dlt hi,zb,gd_t (inB_t hi),za,hf _ (qbu hi),z7,hq,zb]
  ·unfold qaO;rw[dec_f]; rfl
 rw[h,z7];by_cases hf:s.findIdx p<s.length
 ·rw[if_pos hf,if_pos hf]; rfl
 ·rw[if_neg hf,if_neg hf]; rfl
theorem qoH(s:List (Int))(p:(Int)->Bool)(f:(Int)×Unit->Option Bool)(hf:∀x∈s,f (x,())=some (p x))(hl:s.length<=1000000):qaE s f=some (s.any p):=by
 unfold qaE;rw[qxo s p f hf hl,z7,<-qfQ];by_cases hf:s.findIdx p<s.length
 ·rw[if_pos hf,dec_t hf,dec_t]
 ·rw[if_neg hf,dec_f hf,dec_f]
theorem qeM(s:List (List UInt8×Int×Int))(p:(List UInt8×Int×Int)->Bool)(f:(List UInt8×Int×Int)×Unit->Option Bool)(hf:∀x∈s,f (x,())=some (p x))(hl:s.length<=1000000):qaG s f=some (if s.findIdx p<s.length then((s.findIdx p:Nat):Int) else -1):=by
 unfold qaG;have h:iter (fun x=>qam s f x) 0=some (if s.findIdx p<s.length then .inr ((s.findIdx p:Nat):Int) else .inl ()):=by
  refine qeK (step:=fun y=>qam s f y) (ε:=Unit⊕Int) s ([],0,0) p (fin:=.inl ()) (fun i=>.inr (i:Int)) (fun i hi hq=>?_) (fun i hi hq=>?_) ?_
  ·unfold qam;rw[Sq.dlt hi,zb,gd_t (inB_t hi),za,hf _ (qbu hi),z7,hq,zc,w1 hi]
  ·unfold qam;rw[Sq.dlt hi,zb,gd_t (inB_t hi),za,hf _ (qbu hi),z7,hq,zb]
  ·unfold qam;rw[dec_f]; rfl
 rw[h,z7];by_cases hf:s.findIdx p<s.length
 ·rw[if_pos hf,if_pos hf]; rfl
 ·rw[if_neg hf,if_neg hf]; rfl
theorem qmG(s:List (List UInt8×Int×Int))(p:(List UInt8×Int×Int)->Bool)(f:(List UInt8×Int×Int)×Unit->Option Bool)(hf:∀x∈s,f (x,())=some (p x))(hl:s.length<=1000000):qaM s f=some (s.any p):=by
 unfold qaM;rw[qeM s p f hf hl,z7,<-qfQ];by_cases hf:s.findIdx p<s.length
 ·rw[if_pos hf,dec_t hf,dec_t]
 ·rw[if_neg hf,dec_f hf,dec_f]
theorem qk9(s:List (Int×Int×Bool×Bool))(p:(Int×Int×Bool×Bool)->Bool)(f:(Int×Int×Bool×Bool)×Unit->Option Bool)(hf:∀x∈s,f (x,())=some (p x))(hl:s.length<=1000000):qaR s f=some (if s.findIdx p<s.length then((s.findIdx p:Nat):Int) else -1):=by
 unfold qaR;have h:iter (fun x=>qak s f x) 0=some (if s.findIdx p<s.length then .inr ((s.findIdx p:Nat):Int) else .inl ()):=by
  refine qeK (step:=fun y=>qak s f y) (ε:=Unit⊕Int) s (0,0,false,false) p (fin:=.inl ()) (fun i=>.inr (i:Int)) (fun i hi hq=>?_) (fun i hi hq=>?_) ?_
  ·unfold qak;rw[Sq.dlt hi,zb,gd_t (inB_t hi),za,hf _ (qbu hi),z7,hq,zc,w1 hi]
  ·unfold qak;rw[Sq.dlt hi,zb,gd_t (inB_t hi),za,hf _ (qbu hi),z7,hq,zb]
  ·unfold qak;rw[dec_f]; rfl
 rw[h,z7];by_cases hf:s.findIdx p<s.length
 ·rw[if_pos hf,if_pos hf]; rfl
 ·rw[if_neg hf,if_neg hf]; rfl
theorem qla(s:List (Int×Int×Bool×Bool))(p:(Int×Int×Bool×Bool)->Bool)(f:(Int×Int×Bool×Bool)×Unit->Option Bool)(hf:∀x∈s,f (x,())=some (p x))(hl:s.length<=1000000):qat s f=some (s.any p):=by
 unfold qat;rw[qk9 s p f hf hl,z7,<-qfQ];by_cases hf:s.findIdx p<s.length
 ·rw[if_pos hf,dec_t hf,dec_t]
 ·rw[if_neg hf,dec_f hf,dec_f]
theorem qoI(s:List (Int×Bool))(p:(Int×Bool)->Bool)(f:(Int×Bool)×Unit->Option Bool)(hf:∀x∈s,f (x,())=some (p x))(hl:s.length<=1000000):qa9 s f=some (if s.findIdx p<s.length then((s.findIdx p:Nat):Int) else -1):=by
 unfold qa9;have h:iter (fun x=>qap s f x) 0=some (if s.findIdx p<s.length then .inr ((s.findIdx p:Nat):Int) else .inl ()):=by
  refine qeK (step:=fun y=>qap s f y) (ε:=Unit⊕Int) s (0,false) p (fin:=.inl ()) (fun i=>.inr (i:Int)) (fun i hi hq=>?_) (fun i hi hq=>?_) ?_
  ·unfold qap;rw[Sq.dlt hi,zb,gd_t (inB_t hi),za,hf _ (qbu hi),z7,hq,zc,w1 hi]
  ·unfold qap;rw[Sq.dlt hi,zb,gd_t (inB_t hi),za,hf _ (qbu hi),z7,hq,zb]
  ·unfold qap;rw[dec_f]; rfl
 rw[h,z7];by_cases hf:s.findIdx p<s.length
 ·rw[if_pos hf,if_pos hf]; rfl
 ·rw[if_neg hf,if_neg hf]; rfl
theorem qoJ(s:List (Int×Bool))(p:(Int×Bool)->Bool)(f:(Int×Bool)×Unit->Option Bool)(hf:∀x∈s,f (x,())=some (p x))(hl:s.length<=1000000):qaY s f=some (s.any p):=by
 unfold qaY;rw[qoI s p f hf hl,z7,<-qfQ];by_cases hf:s.findIdx p<s.length
 ·rw[if_pos hf,dec_t hf,dec_t]
 ·rw[if_neg hf,dec_f hf,dec_f]
abbrev pt0:Pt:=(0,0,0)
abbrev sg0:Seg:=([],0,0,0,0,0,[])
abbrev po0:Port:=([],0,0)
abbrev sta0:Stat:=([],0,0,0,0)
def rg(lo hi n:Int):Bool:=decide (lo<=n)&&decide (n<=hi)
def limB(n:Net):Bool:=Nat.ble 1 n.1.length&&(Nat.ble n.1.length 24&&(Nat.ble n.2.1.length 32&&(Nat.ble n.2.2.1.length 24&&Nat.ble n.2.2.2.1.length 12)))&&n.2.1.all fun s=>Nat.ble 2 s.2.2.2.2.2.2.length&&Nat.ble s.2.2.2.2.2.2.length 8
def nmsOf(n:Net):List (List Str):=[n.1,n.2.1.map (·.1),n.2.2.1.map (·.1),n.2.2.2.1.map (·.1)]
def formB(n:Net):Bool:=(nmsOf n).all fun l=>l.all nameB
def twL(l:List Str):Bool:=(List.range l.length).any fun i=>(List.range i).any fun k=>decide (l.getD i []=l.getD k [])
def twS(l:List Stat):Bool:=(List.range l.length).any fun i=>(List.range i).any fun k=>decide ((l.getD k sta0).2.1=(l.getD i sta0).2.1)
def twB(n:Net):Bool:=(nmsOf n).any twL || twS n.2.2.2.1
def kn(n:Net)(k:Int):Bool:=decide (0<=k)&&decide (k<(n.1.length:Int))
def knB(n:Net):Bool:=n.2.1.all (fun s=>kn n s.2.1&&kn n s.2.2.1)&&(n.2.2.1.all (fun p=>kn n p.2.1)&&n.2.2.2.1.all (fun s=>kn n s.2.1))
def ptB(l:List Pt)(i:Nat):Bool:=rg (-500) 5000 (l.getD i pt0).2.1&&(rg 0 100000000 (l.getD i pt0).2.2&&(Nat.beq i 0 || decide ((l.getD (i-1) pt0).1<(l.getD i pt0).1)))
def pipeB(s:Seg):Bool:=!decide (s.2.1=s.2.2.1)&&(rg 1 1000000 s.2.2.2.1&&(rg 0 1000 s.2.2.2.2.1&&rg 0 100000 s.2.2.2.2.2.1))&&((List.range s.2.2.2.2.2.2.length).all (ptB s.2.2.2.2.2.2)&&(decide ((s.2.2.2.2.2.2.getD 0 pt0).1=0)&&decide ((s.2.2.2.2.2.2.getD (s.2.2.2.2.2.2.length-1) pt0).1=s.2.2.2.1)))
def stB(s:Stat):Bool:=rg 0 100000000 s.2.2.1&&(rg 0 100000 s.2.2.2.1&&rg 0 100000000 s.2.2.2.2)
def prB(n:Net):Bool:=n.2.1.all pipeB&&(n.2.2.1.all (fun p=>rg 0 100000000 p.2.2)&&(n.2.2.2.1.all stB&&(rg (-100000) 100000000 n.2.2.2.2.1&&rg 0 100 n.2.2.2.2.2)))
def qbs(n:Net):Int:=bif limB n then(bif formB n then(bif twB n then 7 else bif knB n then(bif prB n then 0 else 9) else 8) else 3) else 4
structure Small(n:Net):Prop where
 no1:1<=n.1.length
 no:n.1.length<=24
 sg:n.2.1.length<=32
 po:n.2.2.1.length<=24
 st:n.2.2.2.1.length<=12
 pt:∀s∈n.2.1,2<=s.2.2.2.2.2.2.length/\s.2.2.2.2.2.2.length<=8
theorem qrv(n:Net):limB n=true↔Small n:=by
 unfold limB;simp only[z8,zd1,zq];constructor
 ·rintro⟨⟨h1,h2,h3,h4,h5⟩,h6⟩; exact⟨h1,h2,h3,h4,h5,h6⟩
 ·rintro⟨h1,h2,h3,h4,h5,h6⟩; exact⟨⟨h1,h2,h3,h4,h5⟩,h6⟩
theorem qkv(n lo hi:Int):qb9 n lo hi=some (rg lo hi n):=by
 unfold qb9 rg;cases decide (lo<=n) <;> rfl
theorem qgJ(n lo hi:Int):qbL n lo hi=some (rg lo hi n):=by
 unfold qbL rg;cases decide (lo<=n) <;> rfl
theorem dlt{a b:Nat}:decide ((a:Int)<(b:Int))=Nat.blt a b:=by
 rw[zT,zz,zS]; omega
theorem bltn(a b:Nat):Nat.blt a b=!Nat.ble b a:=by
 rw[zT,zS,zt];constructor
 ·intro h; exact zM.2 fun hh=>by have:=zJ hh; omega
 ·intro h; rcases zH2 a b with h' | h'
  ·exact h'
  ·rw[zj1 h'] at h; cases h
theorem qAX(n:Net):qe4 n=some (limB n):=by
 unfold qe4 limB;have e1:decide ((n.1.length:Int)<1)=!Nat.ble 1 n.1.length:=by rw[<-bltn]; exact dlt (b:=1)
 have e2:decide (24<(n.1.length:Int))=!Nat.ble n.1.length 24:=by rw[<-bltn]; exact dlt (a:=24)
 have e3:decide (32<(n.2.1.length:Int))=!Nat.ble n.2.1.length 32:=by rw[<-bltn]; exact dlt (a:=32)
 have e4:decide (24<(n.2.2.1.length:Int))=!Nat.ble n.2.2.1.length 24:=by rw[<-bltn]; exact dlt (a:=24)
 have e5:decide (12<(n.2.2.2.1.length:Int))=!Nat.ble n.2.2.2.1.length 12:=by rw[<-bltn]; exact dlt (a:=12)
 rw[e1,e2,e3,e4,e5];cases h1:Nat.ble 1 n.1.length
 ·rfl
 cases h2:Nat.ble n.1.length 24
 ·rfl
 cases h3:Nat.ble n.2.1.length 32
 ·rfl
 cases h4:Nat.ble n.2.2.1.length 24
 ·rfl
 cases h5:Nat.ble n.2.2.2.1.length 12
 ·rfl
 have h3:=zJ h3;simp only[zg,zc,z7,zk2,zL];rw[qeL n.2.1 (fun s=>!(Nat.ble 2 s.2.2.2.2.2.2.length&&Nat.ble s.2.2.2.2.2.2.length 8)) _ (fun x _=>by
  unfold qhQ;have f1:decide ((x.2.2.2.2.2.2.length:Int)<2)=!Nat.ble 2 x.2.2.2.2.2.2.length:=by rw[<-bltn]; exact dlt (b:=2)
  have f2:decide (8<(x.2.2.2.2.2.2.length:Int))=!Nat.ble x.2.2.2.2.2.2.length 8:=by rw[<-bltn]; exact dlt (a:=8)
  simp only[f1,f2];cases Nat.ble 2 x.2.2.2.2.2.2.length <;> cases Nat.ble x.2.2.2.2.2.2.length 8 <;> rfl) (by omega),z7]
 congr 1;simp[zc1]
theorem qp6{n:Net}(h1:n.2.1.length<=1000)(h2:n.2.2.1.length<=1000)(h3:n.2.2.2.1.length<=1000):qby n=some (n.1,n.2.1.map (·.1),n.2.2.1.map (·.1),n.2.2.2.1.map (·.1)):=by
 unfold qby;have k1:=qbn (step:=fun x:Int×List (List UInt8)=>qfs n x.1 x.2) n.2.1.length (fun i=>((i:Int),(n.2.1.map (·.1)).take i)) (e:=n.2.1.map (·.1)) (fun i hi=>by
  unfold qfs;simp only[Sq.dlt hi,zb,gd_t (inB_t hi),za]
  rw[gd_t (qaF (by rw[zm]; omega)),w1 hi,qdP ([]:List UInt8) (by simpa using hi),qsc (·.1) n.2.1 i sg0 [] hi]) (by
  unfold qfs;simp only[dec_f (show ¬(n.2.1.length:Int)<(n.2.1.length:Int) by omega),zc]
  rw[zB (by simp)])
 rw[show((((0:Nat):Int),(n.2.1.map (·.1)).take 0):Int×List (List UInt8))=(0,[]) from rfl] at k1
 rw[k1,z7];generalize n.2.1.map (·.1)=A;have k2:=qbn (step:=fun x:Int×List (List UInt8)×List (List UInt8)=>qft n x.1 x.2.1 x.2.2) n.2.2.1.length (fun i=>((i:Int),A,(n.2.2.1.map (·.1)).take i)) (e:=(A,n.2.2.1.map (·.1))) (fun i hi=>by
  unfold qft;simp only[Sq.dlt hi,zb,gd_t (inB_t hi),za]
  rw[gd_t (qaF (by rw[zm]; omega)),w1 hi,qdP ([]:List UInt8) (by simpa using hi),qsc (·.1) n.2.2.1 i po0 [] hi]) (by
  unfold qft;simp only[dec_f (show ¬(n.2.2.1.length:Int)<(n.2.2.1.length:Int) by omega),zc]
  rw[zB (by simp)])
 rw[show((((0:Nat):Int),A,(n.2.2.1.map (·.1)).take 0):Int×List (List UInt8)×List (List UInt8))=(0,A,[]) from rfl] at k2
 rw[k2,z7];simp only;generalize n.2.2.1.map (·.1)=B;have k3:=qbn (step:=fun x:Int×List (List UInt8)×List (List UInt8)×List (List UInt8)=>qfu n x.1 x.2.1 x.2.2.1 x.2.2.2) n.2.2.2.1.length (fun i=>((i:Int),A,B,(n.2.2.2.1.map (·.1)).take i)) (e:=(A,B,n.2.2.2.1.map (·.1))) (fun i hi=>by
  unfold qfu;simp only[Sq.dlt hi,zb,gd_t (inB_t hi),za]
  rw[gd_t (qaF (by rw[zm]; omega)),w1 hi,qdP ([]:List UInt8) (by simpa using hi),qsc (·.1) n.2.2.2.1 i sta0 [] hi]) (by
  unfold qfu;simp only[dec_f (show ¬(n.2.2.2.1.length:Int)<(n.2.2.2.1.length:Int) by omega),zc]
  rw[zB (by simp)])
 rw[show((((0:Nat):Int),A,B,(n.2.2.2.1.map (·.1)).take 0):Int×List (List UInt8)×List (List UInt8)×List (List UInt8))=(0,A,B,[]) from rfl] at k3
 rw[k3]; rfl
theorem qoK:@qiV=@qby:=rfl
theorem sidx(s:List Str)(v:Str)(hl:s.length<=1000000):qay s v=some (if s.findIdx (fun x=>decide (v=x))<s.length then((s.findIdx (fun x=>decide (v=x)):Nat):Int) else -1):=by
 unfold qay;have h:iter (fun x=>qaI s v x) 0=some (if s.findIdx (fun x=>decide (v=x))<s.length then .inr ((s.findIdx (fun x=>decide (v=x)):Nat):Int) else .inl ()):=by
  refine qeK (step:=fun y=>qaI s v y) (ε:=Unit⊕Int) s [] (fun x=>decide (v=x)) (fin:=.inl ()) (fun i=>.inr (i:Int)) (fun i hi hq=>?_) (fun i hi hq=>?_) ?_
  ·unfold qaI;rw[Sq.dlt hi,zb,gd_t (inB_t hi),za,hq,zc,w1 hi]
  ·unfold qaI;rw[Sq.dlt hi,zb,gd_t (inB_t hi),za,hq,zb]
  ·unfold qaI;rw[dec_f]; rfl
 rw[h,z7];by_cases hf:s.findIdx (fun x=>decide (v=x))<s.length
 ·rw[if_pos hf,if_pos hf]; rfl
 ·rw[if_neg hf,if_neg hf]; rfl
theorem qyp{A:Type}(l:List A)(d:A)(p:A->Bool)(i:Nat)(hi:i<l.length)(hp:p (l.getD i d)=true):
  decide ((if l.findIdx p<l.length then((l.findIdx p:Nat):Int) else -1)<(i:Int))=(List.range i).any fun k=>p (l.getD k d):=by
 have h1:l.findIdx p<l.length:=zw2.2 ⟨_,qbu hi,hp⟩;rw[if_pos h1,<-qzq l d p i (by omega)]
 rw[zT,zz,zz]; omega
abbrev nm4(a b c d:List Str):List (List Str):=[a,b,c,d]
theorem range4{q:List Str->Bool}(a b c d:List Str):(List.range 4).all (fun i=>q ((nm4 a b c d).getD i []))=(nm4 a b c d).all q:=qtI (nm4 a b c d) [] q
theorem range4n{q:List Str->Bool}(a b c d:List Str):(List.range 4).all (fun i=>!q ((nm4 a b c d).getD i []))=!(nm4 a b c d).any q:=by
 rw[range4 (q:=fun l=>!q l)]; simp[zc1]
theorem len4{a b c d:List Str}{m:Nat}(ha:a.length<=m)(hb:b.length<=m)(hc:c.length<=m)(hd:d.length<=m)(i:Nat):((nm4 a b c d).getD i []).length<=m:=by
 rcases i with _ | _ | _ | _ | i
 ·exact ha
 ·exact hb
 ·exact hc
 ·exact hd
 ·show([]:List Str).length<=m; simp
noncomputable def qAY(l:List Str)(x:Int):Option (Int⊕(Unit⊕Bool)):=
 bif decide (x<(l.length:Int)) then(gd (inB x l.length)<|(qay l (l.getD x.toNat [])).bind fun r2=>bif decide (r2<x) then(some (.inr (.inr true))) else(some (.inl (wi64 (x+1))))) else(some (.inr (.inl ())))
section
variable {a b c d:List Str} (ha:a.length<=100) (hb:b.length<=100) (hc:c.length<=100) (hd:d.length<=100)
include ha hb hc hd
theorem qCD:iter (fun x:Int=>qfE (a,b,c,d) x) 0=some (bif (nm4 a b c d).all (fun l=>l.all nameB) then .inl () else .inr 3):=by
 have:=qa1 (step:=fun x:Int=>qfE (a,b,c,d) x) 4 (fun i=>(i:Int)) (fun i=>((nm4 a b c d).getD i []).all nameB) (fin:=.inl ()) (bad:=.inr 3) (fun i hi _ hq=>?_) (fun i hi _ hq=>?_) (fun _=>?_)
 ·rw[range4 (q:=fun l=>l.all nameB)] at this; exact this
 all_goals unfold qfE
 ·rw[dec_t (show(i:Int)<4 by omega),zb,gd_t (inB_t hi),za]
  show(qax ((nm4 a b c d).getD i []) _).bind _=_;rw[qku _ (fun s=>!nameB s) _ (fun x _=>by show(qds x).bind _=_; unfold qds; rw[qsK]; rfl) (zA (len4 ha hb hc hd i) (by omega)),z7]
  rw[zc1] at hq;simp only[zt,Bool.not_eq_eq_eq_not,zg] at hq;rw[hq,zc,w1 hi]
 ·rw[dec_t (show(i:Int)<4 by omega),zb,gd_t (inB_t hi),za]
  show(qax ((nm4 a b c d).getD i []) _).bind _=_;rw[qku _ (fun s=>!nameB s) _ (fun x _=>by show(qds x).bind _=_; unfold qds; rw[qsK]; rfl) (zA (len4 ha hb hc hd i) (by omega)),z7]
  rw[zc1] at hq;simp only[zt,Bool.not_eq_eq_eq_not,zu1] at hq;rw[hq,zb]
 ·rw[dec_f]; rfl
theorem qFC:iter (fun x:Int=>qfw (a,b,c,d) x) 0=some (bif (nm4 a b c d).any twL then .inr true else .inl ()):=by
 have hin:∀i:Nat,i<4->iter (fun x=>qfv (a,b,c,d) (i:Int) x) 0=some (bif twL ((nm4 a b c d).getD i []) then .inr true else .inl ()):=by
  intro i hi;have hl:=len4 ha hb hc hd i;have e:∀x:Int,qfv (a,b,c,d) (i:Int) x=qAY ((nm4 a b c d).getD i []) x:=by
   intro x; unfold qfv; rw[za]; rfl
  simp only[e];generalize (nm4 a b c d).getD i []=l at hl ⊢;have hidx:∀k,k<l.length->qay l (l.getD k [])=some (if l.findIdx (fun x=>decide (l.getD k []=x))<l.length then((l.findIdx (fun x=>decide (l.getD k []=x)):Nat):Int) else -1):=fun k _=>sidx l _ (by omega)
  have:=scanN (ε:=Unit⊕Bool) (step:=fun x=>qAY l x) l.length (fun i=>(List.range i).any fun k=>decide (l.getD i []=l.getD k [])) (fin:=.inl ()) (bad:=.inr true) (fun k hk hq=>?_) (fun k hk hq=>?_) ?_
  ·exact this
  all_goals unfold qAY
  ·rw[Sq.dlt hk,zb,gd_t (inB_t hk),za,hidx k hk,z7,qyp l [] _ k hk (by simp),hq,zc,w1 hk]
  ·rw[Sq.dlt hk,zb,gd_t (inB_t hk),za,hidx k hk,z7,qyp l [] _ k hk (by simp),hq,zb]
  ·rw[dec_f]; rfl
 have:=qa1 (step:=fun x:Int=>qfw (a,b,c,d) x) 4 (fun i=>(i:Int)) (fun i=>!twL ((nm4 a b c d).getD i [])) (fin:=.inl ()) (bad:=.inr true) (fun i hi _ hq=>?_) (fun i hi _ hq=>?_) (fun _=>?_)
 ·rw[range4n] at this;refine this.trans ?_
  cases(nm4 a b c d).any twL <;> rfl
 all_goals unfold qfw
 ·rw[dec_t (show(i:Int)<4 by omega),zb,gd_t (inB_t hi),hin i hi,z7]
  simp only[zt] at hq;rw[hq,w1 hi]; rfl
 ·rw[dec_t (show(i:Int)<4 by omega),zb,gd_t (inB_t hi),hin i hi,z7]
  simp only[Bool.not_eq_false'] at hq;rw[hq]; rfl
 ·rw[dec_f]; rfl
end
theorem qFD(n:Net)(hs:n.2.2.2.1.length<=100):iter (fun x=>qfx n x) 0=some (bif twS n.2.2.2.1 then .inr true else .inl ()):=by
 generalize hl:n.2.2.2.1=l at hs;have hidx:∀k,k<l.length->∀f:Stat×Unit->Option Bool,(∀x,f (x,())=some (decide (x.2.1=(l.getD k sta0).2.1)))->qab l f=some (if l.findIdx (fun x=>decide (x.2.1=(l.getD k sta0).2.1))<l.length then((l.findIdx (fun x=>decide (x.2.1=(l.getD k sta0).2.1)):Nat):Int) else -1):=fun k _ f hf=>qbC l _ f (fun x _=>hf x) (by omega)
 have:=scanN (ε:=Unit⊕Bool) (step:=fun x=>qfx n x) l.length (fun i=>(List.range i).any fun k=>decide ((l.getD k sta0).2.1=(l.getD i sta0).2.1)) (fin:=.inl ()) (bad:=.inr true) (fun k hk hq=>?_) (fun k hk hq=>?_) ?_
 ·exact this
 all_goals unfold qfx; simp only[hl]
 ·rw[Sq.dlt hk,zb,gd_t (inB_t hk),za,hidx k hk _ (fun x=>rfl),z7,qyp l sta0 _ k hk (by simp),hq,zc,w1 hk]
 ·rw[Sq.dlt hk,zb,gd_t (inB_t hk),za,hidx k hk _ (fun x=>rfl),z7,qyp l sta0 _ k hk (by simp),hq,zb]
 ·rw[dec_f]; rfl
theorem qCE{n:Net}(h:Small n):qf3 n=some (twB n):=by
 obtain⟨h1,h2,h3,h4,h5,h6⟩:=h;unfold qf3;show(qby n).bind _=_;rw[qp6 (by omega) (by omega) (by omega),z7]
 rw[qFC (by omega) (by simp; omega) (by simp; omega) (by simp; omega),z7]
 unfold twB;show Sum.elim _ _ (bif (nmsOf n).any twL then _ else _)=_;cases(nmsOf n).any twL with
 | true=>rfl
 | false=>
  simp only[zc,za1,zj2];rw[qFD n (by omega),z7]
  cases twS n.2.2.2.1 <;> rfl
theorem qCF{n:Net}(h:Small n):qf5 n=some (knB n):=by
 obtain⟨h1,h2,h3,h4,h5,h6⟩:=h;unfold qf5;have a1:∀i,(((n.2.1.take i).flatMap fun s=>[s.2.1,s.2.2.1]):List Int).length<=2*i:=by
  intro i;rw[List.length_flatMap];have:∀l:List Seg,(l.map fun s=>([s.2.1,s.2.2.1]:List Int).length).sum=2*l.length:=by
   intro l; induction l with
   | nil=>rfl
   | cons x l ih=>rw[z81,List.sum_cons,ih]; show 2+2*l.length=2*(l.length+1); omega
  rw[this,zm]; omega
 have k1:=qbn (step:=fun x:Int×List Int=>qfy n x.1 x.2) n.2.1.length (fun i=>((i:Int),(n.2.1.take i).flatMap fun s=>[s.2.1,s.2.2.1])) (e:=n.2.1.flatMap fun s=>[s.2.1,s.2.2.1]) (fun i hi=>by
  unfold qfy;have:=a1 i;simp only[Sq.dlt hi,zb,gd_t (inB_t hi),za]
  rw[gd_t (qaF (by omega)),w1 hi,qdP sg0 hi,List.flatMap_append]; simp) (by
  unfold qfy;simp only[dec_f (show ¬(n.2.1.length:Int)<(n.2.1.length:Int) by omega),zc]
  rw[zB (by simp)])
 rw[show((((0:Nat):Int),(n.2.1.take 0).flatMap fun s=>[s.2.1,s.2.2.1]):Int×List Int)=(0,[]) from rfl] at k1
 rw[k1,z7];have a2:=a1 n.2.1.length;rw[zB (zP _)] at a2;generalize hA:(n.2.1.flatMap fun s=>[s.2.1,s.2.2.1])=A at a2
 have k2:=qbn (step:=fun x:Int×List Int=>qfz n x.1 x.2) n.2.2.1.length (fun i=>((i:Int),A++(n.2.2.1.map (·.2.1)).take i)) (e:=A++n.2.2.1.map (·.2.1)) (fun i hi=>by
  unfold qfz;simp only[Sq.dlt hi,zb,gd_t (inB_t hi),za]
  rw[gd_t (qaF (by simp; omega)),w1 hi,qdP (0:Int) (by simpa using hi),qsc (·.2.1) n.2.2.1 i po0 0 hi,zw]) (by
  unfold qfz;simp only[dec_f (show ¬(n.2.2.1.length:Int)<(n.2.2.1.length:Int) by omega),zc]
  rw[zB (by simp)])
 rw[show((((0:Nat):Int),A++(n.2.2.1.map (·.2.1)).take 0):Int×List Int)=(0,A) by simp] at k2
 rw[k2,z7];have a3:(A++n.2.2.1.map (·.2.1)).length<=200:=by simp; omega
 generalize hB:A++n.2.2.1.map (·.2.1)=B at a3;have k3:=qbn (step:=fun x:Int×List Int=>qfA n x.1 x.2) n.2.2.2.1.length (fun i=>((i:Int),B++(n.2.2.2.1.map (·.2.1)).take i)) (e:=B++n.2.2.2.1.map (·.2.1)) (fun i hi=>by
  unfold qfA;simp only[Sq.dlt hi,zb,gd_t (inB_t hi),za]
  rw[gd_t (qaF (by simp; omega)),w1 hi,qdP (0:Int) (by simpa using hi),qsc (·.2.1) n.2.2.2.1 i sta0 0 hi,zw]) (by
  unfold qfA;simp only[dec_f (show ¬(n.2.2.2.1.length:Int)<(n.2.2.2.1.length:Int) by omega),zc]
  rw[zB (by simp)])
 rw[show((((0:Nat):Int),B++(n.2.2.2.1.map (·.2.1)).take 0):Int×List Int)=(0,B) by simp] at k3
 rw[k3,z7];rw[qoH _ (fun k=>!kn n k) _ (fun x _=>by
  show(qf4 x n).bind _=_;unfold qf4 kn;have e1:decide (x<0)=!decide (0<=x):=by rw[zT]; simp
  have e2:decide ((n.1.length:Int)<=x)=!decide (x<(n.1.length:Int)):=by rw[zT]; simp
  rw[e1,e2];cases decide (0<=x) <;> cases decide (x<(n.1.length:Int)) <;> rfl) (by simp; omega),z7]
 congr 1;subst hB hA;unfold knB;rw[zc1,zc1,zc1];rw[List.any_append,List.any_append,List.any_flatMap,List.any_map,List.any_map];simp[Function.comp_def,Bool.and_assoc]
theorem qED{s:Seg}(h1:2<=s.2.2.2.2.2.2.length)(h2:s.2.2.2.2.2.2.length<=8):qhw s=some (pipeB s):=by
 unfold qhw pipeB;have hl:iter (fun x=>qf7 s x) 0=some (bif (List.range s.2.2.2.2.2.2.length).all (ptB s.2.2.2.2.2.2) then .inl () else .inr false):=by
  have:=qa1 (step:=fun x=>qf7 s x) s.2.2.2.2.2.2.length (fun i=>(i:Int)) (ptB s.2.2.2.2.2.2) (fin:=.inl ()) (bad:=.inr false) (fun i hi _ hq=>?_) (fun i hi _ hq=>?_) (fun _=>?_)
  ·exact this
  all_goals unfold qf7
  ·rw[Sq.dlt hi,zb,gd_t (inB_t hi),qkv,z7,qkv,z7,za]
   unfold ptB at hq;simp only[z8] at hq;rw[hq.1,hq.2.1];simp only[zg,zc];rcases za2 i with rfl | hp
   ·rfl
   ·rw[dec_t (show(0:Int)<(i:Int) by omega),zb,show wi64 ((i:Int)-1)=((i-1:Nat):Int) by rw[wi (by omega)]; omega,gd_t (inB_t (show i-1<_ by omega)),za,z7]
    have h3:=hq.2.2;simp only[zi1,zi] at h3;have h3:=h3.resolve_left (fun e=>by have:=zd e; omega)
    rw[dec_f (Int.not_le.2 h3),zc,w1 hi]
  ·rw[Sq.dlt hi,zb,gd_t (inB_t hi),qkv,z7,qkv,z7,za]
   unfold ptB at hq;cases e1:rg (-500) 5000 (s.2.2.2.2.2.2.getD i pt0).2.1 with
   | false=>rfl
   | true=>
    cases e2:rg 0 100000000 (s.2.2.2.2.2.2.getD i pt0).2.2 with
    | false=>rfl
    | true=>
     rw[e1,e2] at hq;simp only[zL,z22,z52] at hq;have hp:i≠0:=fun e=>by rw[e] at hq; cases hq.1
     simp only[zg,zc];rw[dec_t (show(0:Int)<(i:Int) by omega),zb,show wi64 ((i:Int)-1)=((i-1:Nat):Int) by rw[wi (by omega)]; omega,gd_t (inB_t (show i-1<_ by omega)),za,z7,dec_t (Int.not_lt.1 hq.2)]
     rfl
  ·rw[dec_f]; rfl
 rw[hl,qkv,qkv,qkv];simp only[z7];cases decide (s.2.1=s.2.2.1) with
 | true=>rfl
 | false=>
 cases rg 1 1000000 s.2.2.2.1 with
 | false=>rfl
 | true=>
 cases rg 0 1000 s.2.2.2.2.1 with
 | false=>rfl
 | true=>
 cases rg 0 100000 s.2.2.2.2.2.1 with
 | false=>rfl
 | true=>
 cases(List.range s.2.2.2.2.2.2.length).all (ptB s.2.2.2.2.2.2) with
 | false=>rfl
 | true=>
  show(gd (inB 0 s.2.2.2.2.2.2.length) _)=_;rw[gd_t (inB0 (by omega)),show wi64 ((s.2.2.2.2.2.2.length:Int)-1)=((s.2.2.2.2.2.2.length-1:Nat):Int) by rw[wi (by omega)]; omega,gd_t (inB_t (show s.2.2.2.2.2.2.length-1<_ by omega)),za]
  cases decide ((s.2.2.2.2.2.2.getD 0 (0,0,0)).1=0) <;> rfl
theorem qAZ{n:Net}(h:Small n):qe6 n=some (prB n):=by
 obtain⟨h1,h2,h3,h4,h5,h6⟩:=h;unfold qe6 prB;rw[qeL n.2.1 (fun s=>!pipeB s) _ (fun x hx=>by show(qfB x).bind _=_; unfold qfB; show((qhw x).bind _).bind _=_; rw[qED (h6 x hx).1 (h6 x hx).2]; rfl) (by omega),z7]
 rw[qmG n.2.2.1 (fun p=>!rg 0 100000000 p.2.2) _ (fun x hx=>by show(qfC x).bind _=_; unfold qfC; rw[qkv]; rfl) (by omega),z7]
 rw[qi9 n.2.2.2.1 (fun p=>!stB p) _ (fun x hx=>by
  show(qfD x).bind _=_; unfold qfD stB; rw[qkv,qkv,qkv];cases rg 0 100000000 x.2.2.1 <;> cases rg 0 100000 x.2.2.2.1 <;> cases rg 0 100000000 x.2.2.2.2 <;> rfl) (by omega),z7,qkv,qkv]
 rw[zc1,zc1,zc1];cases n.2.1.any (fun s=>!pipeB s) <;> cases n.2.2.1.any (fun p=>!rg 0 100000000 p.2.2) <;> cases n.2.2.2.1.any (fun p=>!stB p) <;> cases rg (-100000) 100000000 n.2.2.2.2.1 <;> rfl
theorem qcK(n:Net):qbz n=some (qbs n):=by
 unfold qbz qbs;show(qe4 n).bind _=_;rw[qAX,z7];cases hl:limB n with
 | false=>rfl
 | true=>
  have hs:=(qrv n).1 hl;show(qby n).bind _=_;rw[qp6 (by have:=hs.sg; omega) (by have:=hs.po; omega) (by have:=hs.st; omega),z7]
  rw[qCD (by have:=hs.no; omega) (by have:=hs.sg; simp; omega) (by have:=hs.po; simp; omega) (by have:=hs.st; simp; omega),z7]
  show Sum.elim _ _ (bif formB n then _ else _)=_;cases formB n with
  | false=>rfl
  | true=>
   show(qf3 n).bind _=_;rw[qCE hs,z7];cases twB n with
   | true=>rfl
   | false=>
    show(qf5 n).bind _=_;rw[qCF hs,z7];cases knB n with
    | false=>rfl
    | true=>
     show(qe6 n).bind _=_;rw[qAZ hs,z7];cases prB n <;> rfl
theorem scanL{A:Type}{ε:Type}(l:List A)(d:A){step:Int->Option (Int⊕(Unit⊕ε))}(q:A->Bool){bad:ε}
  (h1:∀i,i<l.length->q (l.getD i d)=true->step (i:Int)=some (.inl ((i+1:Nat):Int)))
  (h2:∀i,i<l.length->q (l.getD i d)=false->step (i:Int)=some (.inr (.inr bad))) (h3:step (l.length:Int)=some (.inr (.inl ()))):iter step 0=some (bif l.all q then .inl () else .inr bad):=
 scan l d q h1 h2 h3
theorem qD0(l:List Str)(i:Nat)(hi:i<l.length)(hl:l.length<=1000):iter (fun x=>qha l (i:Int) x) 0=some (bif (List.range i).any (fun k=>decide (l.getD i []=l.getD k [])) then .inr true else .inl ()):=by
 have:=scanN (ε:=Unit⊕Bool) (step:=fun x=>qha l (i:Int) x) i (fun k=>decide (l.getD i []=l.getD k [])) (fin:=.inl ()) (bad:=.inr true) (fun k hk hq=>?_) (fun k hk hq=>?_) ?_
 ·exact this
 all_goals unfold qha
 ·rw[dec_t (show(k:Int)<(i:Int) by omega),zb,gd_t (inB_t hi),gd_t (inB_t (show k<l.length by omega)),za,za,hq,zc,w1 hk]
 ·rw[dec_t (show(k:Int)<(i:Int) by omega),zb,gd_t (inB_t hi),gd_t (inB_t (show k<l.length by omega)),za,za,hq,zb]
 ·rw[dec_f]; rfl
theorem qwh(l:List Str)(hl:l.length<=1000):qkW l=some (twL l):=by
 unfold qkW;have:=scanN (ε:=Unit⊕Bool) (step:=fun x=>qjI l x) l.length (fun i=>(List.range i).any fun k=>decide (l.getD i []=l.getD k [])) (fin:=.inl ()) (bad:=.inr true) (fun k hk hq=>?_) (fun k hk hq=>?_) ?_
 ·rw[this,z7]; unfold twL;cases(List.range l.length).any fun i=>(List.range i).any fun k=>decide (l.getD i []=l.getD k []) <;> rfl
 all_goals unfold qjI
 ·rw[dec_t (show(k:Int)<(l.length:Int) by omega),zb,qD0 l k hk hl,z7,hq,w1 hk]; rfl
 ·rw[dec_t (show(k:Int)<(l.length:Int) by omega),zb,qD0 l k hk hl,z7,hq]; rfl
 ·rw[dec_f]; rfl
theorem qtJ{s:Seg}(h1:2<=s.2.2.2.2.2.2.length)(h2:s.2.2.2.2.2.2.length<=8):qfV s=some (pipeB s):=by
 unfold qfV pipeB;have hl:iter (fun x=>qgp s x) 0=some (bif (List.range s.2.2.2.2.2.2.length).all (ptB s.2.2.2.2.2.2) then .inl () else .inr false):=by
  have:=qa1 (step:=fun x=>qgp s x) s.2.2.2.2.2.2.length (fun i=>(i:Int)) (ptB s.2.2.2.2.2.2) (fin:=.inl ()) (bad:=.inr false) (fun i hi _ hq=>?_) (fun i hi _ hq=>?_) (fun _=>?_)
  ·exact this
  all_goals unfold qgp
  ·rw[Sq.dlt hi,zb,gd_t (inB_t hi),za]
   unfold ptB at hq;simp only[z8] at hq;simp only[qgJ,z7];rcases za2 i with rfl | hp
   ·rw[dec_f,zc]
    have e1:=hq.1;have e2:=hq.2.1;simp only[pt0] at e1 e2;rw[e1,e2]; rfl
   ·have e1:=hq.1;have e2:=hq.2.1;simp only[pt0] at e1 e2;rw[dec_t (show(0:Int)<(i:Int) by omega),zb,show wi64 ((i:Int)-1)=((i-1:Nat):Int) by rw[wi (by omega)]; omega,gd_t (inB_t (show i-1<_ by omega)),za]
    have h3:=hq.2.2;simp only[zi1,zi] at h3;have h3:=h3.resolve_left (fun e=>by have:=zd e; omega)
    rw[dec_f (Int.not_le.2 h3),zc,e1,e2,w1 hi]; rfl
  ·rw[Sq.dlt hi,zb,gd_t (inB_t hi),za]
   unfold ptB at hq;simp only[qgJ,z7];simp only[pt0] at hq;rcases za2 i with rfl | hp
   ·rw[dec_f,zc]
    cases e1:rg (-500) 5000 (s.2.2.2.2.2.2.getD 0 (0,0,0)).2.1 with
    | false=>rfl
    | true=>
     cases e2:rg 0 100000000 (s.2.2.2.2.2.2.getD 0 (0,0,0)).2.2 with
     | false=>rfl
     | true=>rw[e1,e2] at hq; cases hq
   ·rw[dec_t (show(0:Int)<(i:Int) by omega),zb,show wi64 ((i:Int)-1)=((i-1:Nat):Int) by rw[wi (by omega)]; omega,gd_t (inB_t (show i-1<_ by omega)),za]
    cases hd:decide ((s.2.2.2.2.2.2.getD i (0,0,0)).1<=(s.2.2.2.2.2.2.getD (i-1) (0,0,0)).1) with
    | true=>rfl
    | false=>
     have hd:=zh1 hd;rw[show decide ((s.2.2.2.2.2.2.getD (i-1) (0,0,0)).1<(s.2.2.2.2.2.2.getD i (0,0,0)).1)=true from dec_t (by omega),Bool.or_true] at hq
     cases e1:rg (-500) 5000 (s.2.2.2.2.2.2.getD i (0,0,0)).2.1 with
     | false=>rfl
     | true=>
      cases e2:rg 0 100000000 (s.2.2.2.2.2.2.getD i (0,0,0)).2.2 with
      | false=>rfl
      | true=>rw[e1,e2] at hq; cases hq
  ·rw[dec_f]; rfl
 rw[hl];simp only[qgJ,z7];rw[show wi64 ((s.2.2.2.2.2.2.length:Int)-1)=((s.2.2.2.2.2.2.length-1:Nat):Int) by rw[wi (by omega)]; omega,gd_t (inB0 (show 0<s.2.2.2.2.2.2.length by omega)),gd_t (inB_t (show s.2.2.2.2.2.2.length-1<s.2.2.2.2.2.2.length by omega)),za]
 cases decide (s.2.1=s.2.2.1) <;> cases rg 1 1000000 s.2.2.2.1 <;> cases rg 0 1000 s.2.2.2.2.1 <;> cases rg 0 100000 s.2.2.2.2.2.1 <;> cases decide ((s.2.2.2.2.2.2.getD 0 (0,0,0)).1=0) <;> cases decide ((s.2.2.2.2.2.2.getD (s.2.2.2.2.2.2.length-1) (0,0,0)).1=s.2.2.2.1) <;> cases(List.range s.2.2.2.2.2.2.length).all (ptB s.2.2.2.2.2.2) <;> rfl
section
variable {a b c d:List Str} (ha:a.length<=100) (hb:b.length<=100) (hc:c.length<=100) (hd:d.length<=100)
include ha hb hc hd
theorem qCG:iter (fun x3=>qhb x3.1 x3.2.1 x3.2.2.1 x3.2.2.2.1 x3.2.2.2.2) (a,b,c,d,(0:Int))=some (bif (nm4 a b c d).all (fun l=>l.all nameB) then .inl () else .inr 3):=by
 have hin:∀i:Nat,i<4->iter (fun x2=>qd2 a b c d (i:Int) x2.1 x2.2.1 x2.2.2.1 x2.2.2.2.1 x2.2.2.2.2) (a,b,c,d,(0:Int))=some (bif ((nm4 a b c d).getD i []).all nameB then .inl (a,b,c,d) else .inr 3):=by
  intro i hi;have hl:=len4 ha hb hc hd i;have e:∀x:Int,qd2 a b c d (i:Int) a b c d x=qd2 ((nm4 a b c d).getD i []) [] [] [] 0 a b c d x:=by
   intro x; unfold qd2; rw[za]; rfl
  have:=qa1 (ε:=(List Str×List Str×List Str×List Str)⊕Int) (step:=fun x2:List Str×List Str×List Str×List Str×Int=>qd2 a b c d (i:Int) x2.1 x2.2.1 x2.2.2.1 x2.2.2.2.1 x2.2.2.2.2) ((nm4 a b c d).getD i []).length (fun k=>(a,b,c,d,(k:Int))) (fun k=>nameB (((nm4 a b c d).getD i []).getD k [])) (fin:=.inl (a,b,c,d)) (bad:=.inr 3) (fun k hk _ hq=>?_) (fun k hk _ hq=>?_) (fun _=>?_)
  ·rw[qtI] at this; exact this
  all_goals simp only[e]; generalize (nm4 a b c d).getD i []=l at*
  ·show(bif decide ((k:Int)<(l.length:Int)) then(gd (inB (k:Int) l.length)<|(qcA (l.getD (k:Int).toNat [])).bind fun r4=>bif !r4 then _ else _) else _)=_
   rw[Sq.dlt hk,zb,gd_t (inB_t hk),za,qwg,z7,hq,w1 hk]; rfl
  ·show(bif decide ((k:Int)<(l.length:Int)) then(gd (inB (k:Int) l.length)<|(qcA (l.getD (k:Int).toNat [])).bind fun r4=>bif !r4 then _ else _) else _)=_
   rw[Sq.dlt hk,zb,gd_t (inB_t hk),za,qwg,z7,hq]; rfl
  ·show(bif decide ((l.length:Int)<(l.length:Int)) then _ else _)=_;rw[dec_f]; rfl
 have:=qa1 (ε:=Unit⊕Int) (step:=fun x3:List Str×List Str×List Str×List Str×Int=>qhb x3.1 x3.2.1 x3.2.2.1 x3.2.2.2.1 x3.2.2.2.2) 4 (fun i=>(a,b,c,d,(i:Int))) (fun i=>((nm4 a b c d).getD i []).all nameB) (fin:=.inl ()) (bad:=.inr 3) (fun i hi _ hq=>?_) (fun i hi _ hq=>?_) (fun _=>?_)
 ·rw[range4 (q:=fun l=>l.all nameB)] at this; exact this
 all_goals unfold qhb
 ·simp only;rw[dec_t (show(i:Int)<4 by omega),zb,gd_t (inB_t hi),hin i hi,z7,hq]
  simp only[zb,za1];rw[w1 hi]
 ·simp only;rw[dec_t (show(i:Int)<4 by omega),zb,gd_t (inB_t hi),hin i hi,z7,hq]; rfl
 ·simp only;rw[dec_f]; rfl
theorem qEE:iter (fun x3=>qhc x3.1 x3.2.1 x3.2.2.1 x3.2.2.2.1 x3.2.2.2.2) (a,b,c,d,(0:Int))=some (bif (nm4 a b c d).any twL then .inr 7 else .inl ()):=by
 have:=qa1 (ε:=Unit⊕Int) (step:=fun x3:List Str×List Str×List Str×List Str×Int=>qhc x3.1 x3.2.1 x3.2.2.1 x3.2.2.2.1 x3.2.2.2.2) 4 (fun i=>(a,b,c,d,(i:Int))) (fun i=>!twL ((nm4 a b c d).getD i [])) (fin:=.inl ()) (bad:=.inr 7) (fun i hi _ hq=>?_) (fun i hi _ hq=>?_) (fun _=>?_)
 ·rw[range4n] at this;refine this.trans ?_
  cases(nm4 a b c d).any twL <;> rfl
 all_goals unfold qhc; simp only
 ·rw[dec_t (show(i:Int)<4 by omega),zb,gd_t (inB_t hi),za]
  have:=len4 ha hb hc hd i;rw[qwh ((nm4 a b c d).getD i []) (by omega),z7]
  simp only[zt] at hq;rw[hq,w1 hi]; rfl
 ·rw[dec_t (show(i:Int)<4 by omega),zb,gd_t (inB_t hi),za]
  have:=len4 ha hb hc hd i;rw[qwh ((nm4 a b c d).getD i []) (by omega),z7]
  simp only[Bool.not_eq_false'] at hq;rw[hq]; rfl
 ·rw[dec_f]; rfl
end
theorem qEF(n:Net)(hs:n.2.2.2.1.length<=100):iter (fun x=>qhe n x) 0=some (bif twS n.2.2.2.1 then .inr 7 else .inl ()):=by
 have hin:∀i:Nat,i<n.2.2.2.1.length->iter (fun x=>qhd n (i:Int) x) 0=some (bif (List.range i).any (fun k=>decide ((n.2.2.2.1.getD k sta0).2.1=(n.2.2.2.1.getD i sta0).2.1)) then .inr 7 else .inl ()):=by
  intro i hi;have:=scanN (ε:=Unit⊕Int) (step:=fun x=>qhd n (i:Int) x) i (fun k=>decide ((n.2.2.2.1.getD k sta0).2.1=(n.2.2.2.1.getD i sta0).2.1)) (fin:=.inl ()) (bad:=.inr 7) (fun k hk hq=>?_) (fun k hk hq=>?_) ?_
  ·exact this
  all_goals unfold qhd
  ·rw[dec_t (show(k:Int)<(i:Int) by omega),zb,gd_t (inB_t hi),gd_t (inB_t (show k<n.2.2.2.1.length by omega)),za,za,dec_f (fun e=>zh1 hq e.symm),zc,w1 hk]
  ·rw[dec_t (show(k:Int)<(i:Int) by omega),zb,gd_t (inB_t hi),gd_t (inB_t (show k<n.2.2.2.1.length by omega)),za,za,dec_t (zx hq).symm,zb]
  ·rw[dec_f]; rfl
 have:=scanN (ε:=Unit⊕Int) (step:=fun x=>qhe n x) n.2.2.2.1.length (fun i=>(List.range i).any fun k=>decide ((n.2.2.2.1.getD k sta0).2.1=(n.2.2.2.1.getD i sta0).2.1)) (fin:=.inl ()) (bad:=.inr 7) (fun k hk hq=>?_) (fun k hk hq=>?_) ?_
 ·exact this
 all_goals unfold qhe
 ·rw[dec_t (show(k:Int)<(n.2.2.2.1.length:Int) by omega),zb,hin k hk,z7,hq,w1 hk]; rfl
 ·rw[dec_t (show(k:Int)<(n.2.2.2.1.length:Int) by omega),zb,hin k hk,z7,hq]; rfl
 ·rw[dec_f]; rfl
theorem rgk(n:Net)(h:1<=n.1.length)(h2:n.1.length<=24)(k:Int):rg 0 (wi64 ((n.1.length:Int)-1)) k=kn n k:=by
 unfold rg kn;rw[wi (by omega)]
 congr 1;rw[zT,zz,zz]; omega
theorem qcL(n:Net):qde n=some (qbs n):=by
 unfold qde qbs;simp only[qgJ,z7];have e0:rg 1 24 (n.1.length:Int)=(Nat.ble 1 n.1.length&&Nat.ble n.1.length 24):=by
  unfold rg; rw[zT]; simp only[z8,zi,zd1]; omega
 have e3:decide (32<(n.2.1.length:Int))=!Nat.ble n.2.1.length 32:=by rw[<-bltn]; exact dlt (a:=32)
 have e4:decide (24<(n.2.2.1.length:Int))=!Nat.ble n.2.2.1.length 24:=by rw[<-bltn]; exact dlt (a:=24)
 have e5:decide (12<(n.2.2.2.1.length:Int))=!Nat.ble n.2.2.2.1.length 12:=by rw[<-bltn]; exact dlt (a:=12)
 rw[e0,e3,e4,e5];unfold limB;cases h1:Nat.ble 1 n.1.length
 ·rfl
 cases h2:Nat.ble n.1.length 24
 ·rfl
 cases h3:Nat.ble n.2.1.length 32
 ·rfl
 cases h4:Nat.ble n.2.2.1.length 24
 ·rfl
 cases h5:Nat.ble n.2.2.2.1.length 12
 ·rfl
 have g1:=zJ h1;have g2:=zJ h2;have g3:=zJ h3;have g4:=zJ h4;have g5:=zJ h5;simp only[zg,zc,z7,zk2,zL];have k0:=scanL (ε:=Int) (step:=fun x=>qfd n x) n.2.1 sg0 (fun s=>Nat.ble 2 s.2.2.2.2.2.2.length&&Nat.ble s.2.2.2.2.2.2.length 8) (bad:=4) (fun i hi hq=>by
  unfold qfd;rw[Sq.dlt hi,zb,gd_t (inB_t hi),qgJ,z7,za]
  simp only[z8,zd1] at hq;rw[show rg 2 8 ((n.2.1.getD i sg0).2.2.2.2.2.2.length:Int)=true by unfold rg; rw[dec_t,dec_t]; rfl,w1 hi]; rfl) (fun i hi hq=>by
  unfold qfd;rw[Sq.dlt hi,zb,gd_t (inB_t hi),qgJ,z7,za]
  rw[show rg 2 8 ((n.2.1.getD i sg0).2.2.2.2.2.2.length:Int)=false by
   rw[<-hq]; unfold rg; rw[zT]; simp only[z8,zi,zd1]; omega]; rfl) (by
  unfold qfd;rw[dec_f]; rfl)
 rw[k0,z7];cases hp:n.2.1.all (fun s=>Nat.ble 2 s.2.2.2.2.2.2.length&&Nat.ble s.2.2.2.2.2.2.length 8) with
 | false=>rfl
 | true=>
 have hs:Small n:=(qrv n).1 (by unfold limB; rw[h1,h2,h3,h4,h5,hp]; rfl)
 simp only[zb,za1];rw[qoK];show(qby n).bind _=_;rw[qp6 (by omega) (by omega) (by omega),z7]
 simp only;rw[qCG (by omega) (by simp; omega) (by simp; omega) (by simp; omega),z7]
 show Sum.elim _ _ (bif formB n then _ else _)=_;cases formB n with
 | false=>rfl
 | true=>
 simp only[zb,za1];rw[qEE (by omega) (by simp; omega) (by simp; omega) (by simp; omega),z7]
 unfold twB;show Sum.elim _ _ (bif (nmsOf n).any twL then _ else _)=_;cases(nmsOf n).any twL with
 | true=>rfl
 | false=>
 simp only[zc,za1,zj2];rw[qEF n (by omega),z7]
 cases twS n.2.2.2.1 with
 | true=>rfl
 | false=>
 simp only[zc,za1];have k6:=scanL (ε:=Int) (step:=fun x=>qfe n x) n.2.1 sg0 (fun s=>kn n s.2.1&&kn n s.2.2.1) (bad:=8) (fun i hi hq=>by
  unfold qfe;rw[Sq.dlt hi,zb,gd_t (inB_t hi),qgJ,z7,qgJ,z7,za,rgk n g1 g2,rgk n g1 g2]
  simp only[z8] at hq;rw[hq.1,hq.2,w1 hi]; rfl) (fun i hi hq=>by
  unfold qfe;rw[Sq.dlt hi,zb,gd_t (inB_t hi),qgJ,z7,qgJ,z7,za,rgk n g1 g2,rgk n g1 g2]
  revert hq
  cases kn n (n.2.1.getD i sg0).2.1 <;> cases kn n (n.2.1.getD i sg0).2.2.1 <;> intro hq <;> first | rfl | cases hq) (by
  unfold qfe;rw[dec_f]; rfl)
 rw[k6,z7];unfold knB;cases n.2.1.all (fun s=>kn n s.2.1&&kn n s.2.2.1) with
 | false=>rfl
 | true=>
 simp only[zb,za1,zL];have k7:=scanL (ε:=Int) (step:=fun x=>qff n x) n.2.2.1 po0 (fun s=>kn n s.2.1) (bad:=8) (fun i hi hq=>by
  unfold qff;rw[Sq.dlt hi,zb,gd_t (inB_t hi),qgJ,z7,za,rgk n g1 g2,hq,w1 hi]; rfl) (fun i hi hq=>by
  unfold qff;rw[Sq.dlt hi,zb,gd_t (inB_t hi),qgJ,z7,za,rgk n g1 g2,hq]; rfl) (by
  unfold qff;rw[dec_f]; rfl)
 rw[k7,z7];cases n.2.2.1.all (fun s=>kn n s.2.1) with
 | false=>rfl
 | true=>
 simp only[zb,za1,zL];have k8:=scanL (ε:=Int) (step:=fun x=>qfg n x) n.2.2.2.1 sta0 (fun s=>kn n s.2.1) (bad:=8) (fun i hi hq=>by
  unfold qfg;rw[Sq.dlt hi,zb,gd_t (inB_t hi),qgJ,z7,za,rgk n g1 g2,hq,w1 hi]; rfl) (fun i hi hq=>by
  unfold qfg;rw[Sq.dlt hi,zb,gd_t (inB_t hi),qgJ,z7,za,rgk n g1 g2,hq]; rfl) (by
  unfold qfg;rw[dec_f]; rfl)
 rw[k8,z7];cases n.2.2.2.1.all (fun s=>kn n s.2.1) with
 | false=>rfl
 | true=>
 simp only[zb,za1];unfold prB;have k9:=scanL (ε:=Int) (step:=fun x=>qfh n x) n.2.1 sg0 pipeB (bad:=9) (fun i hi hq=>by
  unfold qfh;rw[Sq.dlt hi,zb,gd_t (inB_t hi),za]
  have:=hs.pt _ (qbu (d:=sg0) hi);show(qfV (n.2.1.getD i sg0)).bind _=_;rw[qtJ this.1 this.2,z7,hq,w1 hi]; rfl) (fun i hi hq=>by
  unfold qfh;rw[Sq.dlt hi,zb,gd_t (inB_t hi),za]
  have:=hs.pt _ (qbu (d:=sg0) hi);show(qfV (n.2.1.getD i sg0)).bind _=_;rw[qtJ this.1 this.2,z7,hq]; rfl) (by
  unfold qfh;rw[dec_f]; rfl)
 rw[k9,z7];cases n.2.1.all pipeB with
 | false=>rfl
 | true=>
 simp only[zb,za1,zL];have k10:=scanL (ε:=Int) (step:=fun x=>qeC n x) n.2.2.1 po0 (fun p=>rg 0 100000000 p.2.2) (bad:=9) (fun i hi hq=>by
  unfold qeC;rw[Sq.dlt hi,zb,gd_t (inB_t hi),qgJ,z7,za,hq,w1 hi]; rfl) (fun i hi hq=>by
  unfold qeC;rw[Sq.dlt hi,zb,gd_t (inB_t hi),qgJ,z7,za,hq]; rfl) (by
  unfold qeC;rw[dec_f]; rfl)
 rw[k10,z7];cases n.2.2.1.all (fun p=>rg 0 100000000 p.2.2) with
 | false=>rfl
 | true=>
 simp only[zb,za1,zL];have k11:=scanL (ε:=Int) (step:=fun x=>qeD n x) n.2.2.2.1 sta0 stB (bad:=9) (fun i hi hq=>by
  unfold qeD;unfold stB at hq;simp only[z8,sta0] at hq;simp only[qgJ,z7];rw[Sq.dlt hi,zb,gd_t (inB_t hi),za,hq.1,hq.2.1,hq.2.2,w1 hi]; rfl) (fun i hi hq=>by
  unfold qeD;unfold stB at hq;simp only[sta0] at hq;simp only[qgJ,z7];rw[Sq.dlt hi,zb,gd_t (inB_t hi),za]
  revert hq
  cases rg 0 100000000 (n.2.2.2.1.getD i ([],0,0,0,0)).2.2.1 <;> cases rg 0 100000 (n.2.2.2.1.getD i ([],0,0,0,0)).2.2.2.1 <;> cases rg 0 100000000 (n.2.2.2.1.getD i ([],0,0,0,0)).2.2.2.2 <;> intro hq <;> first | rfl | cases hq) (by
  unfold qeD;rw[dec_f]; rfl)
 rw[k11,z7];cases n.2.2.2.1.all stB with
 | false=>rfl
 | true=>
 simp only[zb,za1,zL,z7];cases rg (-100000) 100000000 n.2.2.2.2.1 <;> cases rg 0 100 n.2.2.2.2.2 <;> rfl
theorem qrw(c:UInt8)(hc:c∈[(110:UInt8),103,113,115,112]){m:Nat}(hm:m<=26):(nms c m).all nameB=true:=by
 have key:∀c∈[(110:UInt8),103,113,115,112],∀i∈List.range 26,nameB (nm c i)=true:=by decide +kernel
 rw[zq];intro x hx;obtain⟨j,hj,rfl⟩:=qEC hx;exact key c hc j (zU.2 (by omega))
theorem qp7{l:List Str}(h:l.Nodup):twL l=false:=by
 unfold twL;rw[zi2];intro i hi;rw[zq2,zi2];intro k hk;have hi:=zU.1 hi;have hk:=zU.1 hk;rw[zi];intro he;rw[zk,zk,zj (by omega),zj (by omega)] at he
 have:=(List.getElem_inj h (h₀:=hi) (h₁:=(by omega:k<l.length))).1 he
 omega
theorem rg_t{lo hi x:Int}(h:lo<=x/\x<=hi):rg lo hi x=true:=by
 unfold rg;rw[zb1 h.1,zb1 h.2]; rfl
theorem qFE{k:Nat}{s:Seg}(h:SegP k s):pipeB s=true:=by
 have a1:=h.pts.l2;unfold pipeB;rw[zL2 h.ne,rg_t h.cap,rg_t h.res,rg_t h.wav];have e1:(s.2.2.2.2.2.2.getD 0 pt0).1=0:=h.pts.fst;have e2:(s.2.2.2.2.2.2.getD (s.2.2.2.2.2.2.length-1) pt0).1=s.2.2.2.1:=h.pts.lst;rw[zb1 e1,zb1 e2];simp only[zu1,Bool.and_self,zL,zk2];rw[zq];intro i hi;have hi:=zU.1 hi;have hr:=h.pts.rng _ (qbu (d:=pt0) hi);unfold ptB;rw[rg_t ⟨hr.1,hr.2.1⟩,rg_t ⟨hr.2.2.1,hr.2.2.2⟩];simp only[zL];cases i with
 | zero=>rfl
 | succ j=>
  have:=h.pts.inc j hi;have e3:(s.2.2.2.2.2.2.getD (j+1-1) pt0).1<(s.2.2.2.2.2.2.getD (j+1) pt0).1:=this;rw[zb1 e3,Bool.or_true]
theorem chk0{k:Nat}{n:Net}(h:NetP k n):qbs n=0:=by
 have a1:=h.k2; have a2:=h.k6; have a3:=h.segs.len; have a4:=h.ports.len; have a5:=h.stats.len; have a6:=h.some';have e:n.1.length=k:=by rw[h.nodes,qqC]
 have hl:limB n=true:=(qrv n).2 ⟨by omega,by omega,by omega,by omega,by omega,fun s hs=>⟨(h.segs.rng s hs).pts.l2,(h.segs.rng s hs).pts.l8⟩⟩
 have hf:formB n=true:=by
  unfold formB nmsOf;rw[h.nodes,h.segs.nam,h.ports.nam,h.stats.nam];simp only[z41,List.all_nil];rw[qrw 110 (by decide) (by omega),qrw 103 (by decide) (by omega),qrw 113 (by decide) (by omega),qrw 115 (by decide) (by omega)]; rfl
 have ht:twB n=false:=by
  unfold twB nmsOf;rw[h.nodes,h.segs.nam,h.ports.nam,h.stats.nam];simp only[List.any_cons,List.any_nil];rw[qp7 (qp5 110 (by omega)),qp7 (qp5 103 (by omega)),qp7 (qp5 113 (by omega)),qp7 (qp5 115 (by omega))]
  simp only[Bool.or_self,zj2];unfold twS;rw[zi2];intro i hi;rw[zq2,zi2];intro q hq;have hi:=zU.1 hi;have hq:=zU.1 hq;rw[zi];intro he;have hd:=h.stats.dif;have e1:∀j (hj:j<n.2.2.2.1.length),(n.2.2.2.1.getD j sta0).2.1=(n.2.2.2.1.map (·.2.1))[j]'(by simpa using hj):=fun j hj=>by
   rw[List.getElem_map,zk,zj hj]; rfl
  rw[e1 q (by omega),e1 i hi] at he
  have:=(List.getElem_inj hd).1 he;omega
 have hk:knB n=true:=by
  unfold knB kn;rw[z8,z8,zq,zq,zq];refine⟨fun s hs=>?_,fun s hs=>?_,fun s hs=>?_⟩
  ·have:=h.segs.rng s hs;have b1:=this.f0; have b2:=this.f1; have b3:=this.t0; have b4:=this.t1;rw[zb1 b1,zb1 b3,zb1 (by omega),zb1 (by omega)]; rfl
  ·have:=h.ports.rng s hs;rw[zb1 this.1,zb1 (by omega)]; rfl
  ·have:=h.stats.rng s hs;rw[zb1 this.1,zb1 (by omega)]; rfl
 have hp:prB n=true:=by
  unfold prB;rw[rg_t h.vap,rg_t h.set,zq.2 fun s hs=>qFE (h.segs.rng s hs),zq.2 fun s hs=>rg_t (h.ports.rng s hs).2.2,zq.2 fun s hs=>?_]
  ·rfl
  ·have:=h.stats.rng s hs;unfold stB;rw[rg_t this.2.2.1,rg_t this.2.2.2.1,rg_t this.2.2.2.2]; rfl
 unfold qbs;rw[hl,hf,ht,hk,hp]; rfl
abbrev Pl:=List Int×List Int×List Bool
def sumTo(f:Nat->Int):Nat->Int
 | 0=>0
 | n+1=>sumTo f n+f n
theorem qeZ{f:Nat->Int}{b:Int}(h:∀i,0<=f i/\f i<=b):∀n:Nat,0<=sumTo f n/\sumTo f n<=b*n
 | 0=>⟨Int.le_refl _,by simp[sumTo]⟩
 | n+1=>by
  have h1:=qeZ h n;have h2:=h n;have e:b*((n+1:Nat):Int)=b*n+b:=by rw[Int.natCast_add,Int.mul_add]; simp
  rw[e];simp only[sumTo]; omega
theorem qkw{f:Nat->Int}:∀n:Nat,(∀i,i<n->f i=0)->sumTo f n=0
 | 0,_=>rfl
 | n+1,h=>by simp only[sumTo]; rw[qkw n fun i hi=>h i (by omega),h n (by omega)]; rfl
def rate(p:Pl)(i:Nat):Int:=p.1.getD i 0
def prate(p:Pl)(i:Nat):Int:=p.2.1.getD i 0
def frm(n:Net)(p:Pl)(i:Nat):Int:=if rate p i<0 then(n.2.1.getD i sg0).2.2.1 else(n.2.1.getD i sg0).2.1
def tow(n:Net)(p:Pl)(i:Nat):Int:=if rate p i<0 then(n.2.1.getD i sg0).2.1 else(n.2.1.getD i sg0).2.2.1
def amt(x:Int):Int:=max x (0-x)
def segIn(n:Net)(p:Pl)(k:Int)(i:Nat):Int:=if tow n p i=k then amt (rate p i) else 0
def qcM(n:Net)(p:Pl)(k:Int)(i:Nat):Int:=if frm n p i=k then amt (rate p i) else 0
def qja(n:Net)(p:Pl)(k:Int)(i:Nat):Int:=if(n.2.2.1.getD i po0).2.1=k then max 0 (prate p i) else 0
def qfR(n:Net)(p:Pl)(k:Int)(i:Nat):Int:=if(n.2.2.1.getD i po0).2.1=k then max 0 (0-prate p i) else 0
def comeF(n:Net)(p:Pl)(k:Int):Int:=sumTo (segIn n p k) n.2.1.length+sumTo (qja n p k) n.2.2.1.length
def qmH(n:Net)(p:Pl)(k:Int):Int:=sumTo (qcM n p k) n.2.1.length+sumTo (qfR n p k) n.2.2.1.length
structure RB(p:Pl):Prop where
 s:∀i,-1000<=rate p i/\rate p i<=1000
 q:∀i,-1000<=prate p i/\prate p i<=1000
section
variable {n:Net} {p:Pl}
theorem qp8(h:RB p)(k:Int)(i:Nat):0<=segIn n p k i/\segIn n p k i<=1000:=by
 have:=h.s i; unfold segIn amt; split <;> omega
theorem qmI(h:RB p)(k:Int)(i:Nat):0<=qcM n p k i/\qcM n p k i<=1000:=by
 have:=h.s i; unfold qcM amt; split <;> omega
theorem qsL(h:RB p)(k:Int)(i:Nat):0<=qja n p k i/\qja n p k i<=1000:=by
 have:=h.q i; unfold qja; split <;> omega
theorem qqE(h:RB p)(k:Int)(i:Nat):0<=qfR n p k i/\qfR n p k i<=1000:=by
 have:=h.q i; unfold qfR; split <;> omega
end
structure KnP(n:Net):Prop where
 s:∀i,i<n.2.1.length->(0<=(n.2.1.getD i sg0).2.1/\(n.2.1.getD i sg0).2.1<n.1.length)/\(0<=(n.2.1.getD i sg0).2.2.1/\(n.2.1.getD i sg0).2.2.1<n.1.length)
 p:∀i,i<n.2.2.1.length->0<=(n.2.2.1.getD i po0).2.1/\(n.2.2.1.getD i po0).2.1<n.1.length
 t:∀i,i<n.2.2.2.1.length->0<=(n.2.2.2.1.getD i sta0).2.1/\(n.2.2.2.1.getD i sta0).2.1<n.1.length
theorem qtK{n:Net}{k:Int}:kn n k=true↔0<=k/\k<n.1.length:=by
 unfold kn; rw[z8,zz,zz]
theorem KnP.of{n:Net}(h:knB n=true):KnP n:=by
 unfold knB at h;simp only[z8,zq] at h;exact⟨fun i hi=>by have:=h.1 _ (qbu (d:=sg0) hi); rwa[qtK,qtK] at this,fun i hi=>by have:=h.2.1 _ (qbu (d:=po0) hi); rwa[qtK] at this,fun i hi=>by have:=h.2.2 _ (qbu (d:=sta0) hi); rwa[qtK] at this⟩
structure VNet(n:Net):Prop where
 small:Small n
 kn:KnP n
 pr:prB n=true
theorem qoj{c:Bool}{a b:Int}(hb:b≠0)(h:(bif c then a else b)=0):c=true/\a=0:=by
 cases c
 ·exact absurd h hb
 ·exact⟨rfl,h⟩
theorem VNet.of{n:Net}(h:qbs n=0):VNet n:=by
 unfold qbs at h;obtain⟨h1,h⟩:=qoj (by decide) h
 obtain⟨h2,h⟩:=qoj (by decide) h
 cases h3:twB n with
 | true=>rw[h3] at h; cases h
 | false=>
  rw[h3] at h; simp only[zc] at h;obtain⟨h4,h⟩:=qoj (by decide) h
  obtain⟨h5,h⟩:=qoj (by decide) h
  exact⟨(qrv n).1 h1,KnP.of h4,h5⟩
theorem qyq{n:Net}{p:Pl}(h:KnP n){i:Nat}(hi:i<n.2.1.length):0<=frm n p i/\frm n p i<n.1.length:=by
 have:=h.s i hi; unfold frm; split <;> omega
theorem qFF{n:Net}{p:Pl}(h:KnP n){i:Nat}(hi:i<n.2.1.length):0<=tow n p i/\tow n p i<n.1.length:=by
 have:=h.s i hi; unfold tow; split <;> omega
/-! ### The program's sums -/
def m24(f:Nat->Int):List Int:=(List.range 24).map f
theorem qxp(f:Nat->Int):(m24 f).length=24:=by simp[m24]
theorem qjS(f:Nat->Int){k:Nat}(h:k<24):(m24 f).getD k 0=f k:=qCs f 24 k h
theorem qhN{f g:Nat->Int}(h:∀k,k<24->f k=g k):m24 f=m24 g:=zZ1 fun k hk=>h k (zU.1 hk)
theorem qEG(f:Nat->Int){k:Nat}(hk:k<24)(x:Int):(m24 f).set k ((m24 f).getD k 0+x)=m24 fun j=>f j+(if k=j then x else 0):=by
 refine qDQ 0 (by simp[qxp]) fun j hj=>?_
 rw[zs1,qxp] at hj;rw[qle,qjS _ hj,qxp];by_cases e:k=j
 ·subst e; rw[if_pos ⟨rfl,hk⟩,qjS _ hk,qjS _ hk,if_pos rfl]
 ·rw[if_neg (fun h=>e h.1),qjS _ hj,if_neg e]; omega
def addF(f:Nat->Int)(k x:Int):Nat->Int:=fun j=>f j+(if k=(j:Int) then x else 0)
theorem qyr(f:Nat->Int)(x:Int):m24 (addF f (-1) x)=m24 f:=qhN fun k _=>by unfold addF; rw[if_neg (by omega)]; omega
theorem m24_set'(f:Nat->Int){k:Int}(h0:0<=k)(h1:k<24){x:Int}(hb:∀j,j<24->-1000000<=f j/\f j<=1000000)(hx : -1000000<=x/\x<=1000000):(m24 f).set k.toNat (wi64 ((m24 f).getD k.toNat 0+x))=m24 (addF f k x):=by
 obtain⟨k',rfl⟩:∃k':Nat,k=(k':Int):=⟨k.toNat,by omega⟩
 rw[za,show wi64 ((m24 f).getD k' 0+x)=(m24 f).getD k' 0+x by
  rw[qjS _ (by omega)]; have:=hb k' (by omega); exact wi (by omega),qEG f (by omega)]
 refine qhN fun j hj=>?_
 unfold addF;by_cases e:k'=j
 ·rw[if_pos e,if_pos (by omega)]
 ·rw[if_neg e,if_neg (by omega)]
def bd6(f:Nat->Int):Prop:=∀j,j<24->-1000000<=f j/\f j<=1000000
theorem qD1{f g:Nat->Int}(hf:bd6 f)(hg:bd6 g){a b r:Int}(ha : -1<=a/\a<24)(hb:0<=b/\b<24)(hr : -1000<=r/\r<=1000):
  qdU a b r (m24 f,m24 g)=some (m24 (addF f (if r<0 then a else b) (amt r)),m24 (addF g (if r<0 then b else a) (amt r))):=by
 unfold qdU;by_cases h:r<0
 ·rw[dec_t h,if_pos h,if_pos h,zb,show wi64 (0-r)=amt r by unfold amt; rw[wi (by omega)]; omega]
  have hx : -1000000<=amt r/\amt r<=1000000:=by unfold amt; omega
  simp only[z7];have hB:inB b 24=true:=qar.2 (by omega)
  rw[dec_t hb.1,zb,gd_t hB,gd_t hB,m24_set' g hb.1 hb.2 hg hx,z7];by_cases h0:0<=a
  ·have hA:inB a 24=true:=qar.2 (by omega)
   rw[dec_t h0,zb,gd_t hA,gd_t hA,m24_set' f h0 ha.2 hf hx]
  ·rw[dec_f h0,zc,show a=-1 by omega,qyr]
 ·rw[dec_f h,if_neg h,if_neg h,zc];have hx : -1000000<=r/\r<=1000000:=by omega
  rw[show amt r=r by unfold amt; omega]
  have hB:inB b 24=true:=qar.2 (by omega)
  simp only[z7];by_cases h0:0<=a
  ·have hA:inB a 24=true:=qar.2 (by omega)
   rw[dec_t h0,zb,gd_t hA,gd_t hA,m24_set' g h0 ha.2 hg hx,z7,dec_t hb.1,zb,gd_t hB,gd_t hB,m24_set' f hb.1 hb.2 hf hx]
  ·rw[dec_f h0,zc,z7,dec_t hb.1,zb,gd_t hB,gd_t hB,m24_set' f hb.1 hb.2 hf hx,show a=-1 by omega,qyr]
theorem pairE{A B C D E:Type}{i:A}{v:B}{a a':C}{b b':D}(h:a=a')(h':b=b'):(some (Sum.inl (i,v,a,b)):Option ((A×B×C×D)⊕E))=some (Sum.inl (i,v,a',b')):=by rw[h,h']
theorem qys{n:Net}(hn:VNet n){p:Pl}(hp:RB p)(h1:p.1.length=n.2.1.length)(h2:p.2.1.length=n.2.2.1.length):qmb n p=some (m24 fun k=>comeF n p k,m24 fun k=>qmH n p k):=by
 obtain⟨s1,s2,s3,s4,s5,s6⟩:=hn.small;unfold qmb;have e1:iter (fun x=>qew n p x.1 x.2.1 x.2.2) (0,((List.replicate 24 0),List.replicate 24 0),(List.replicate 24 0),List.replicate 24 0)=
   some (((List.replicate 24 0),List.replicate 24 0),(m24 fun k=>sumTo (segIn n p k) n.2.1.length,m24 fun k=>sumTo (qcM n p k) n.2.1.length)):=by
  refine qbn (step:=fun x:Int×(List Int×List Int)×(List Int×List Int)=>qew n p x.1 x.2.1 x.2.2) n.2.1.length (fun i=>((i:Int),((List.replicate 24 0),List.replicate 24 0),(m24 fun k=>sumTo (segIn n p k) i,m24 fun k=>sumTo (qcM n p k) i))) (fun i hi=>?_) ?_
  ·show qew n p _ _ _=_;unfold qew;have k1:=hn.kn.s i hi;have b1:bd6 fun k=>sumTo (segIn n p k) i:=fun j _=>by have:=qeZ (qp8 (n:=n) hp (j:Int)) i; dsimp only; omega
   have b2:bd6 fun k=>sumTo (qcM n p k) i:=fun j _=>by have:=qeZ (qmI (n:=n) hp (j:Int)) i; dsimp only; omega
   have hr:=hp.s i;unfold rate at hr;rw[Sq.dlt hi,zb,gd_t (inB_t hi),gd_t (inB_t (show i<p.1.length by omega)),za,
    qD1 b1 b2 (by have:=k1.1; simp only[sg0] at this; omega) (by have:=k1.2; simp only[sg0] at this; omega) hr,z7,w1 hi]
   refine pairE ?_ ?_
   ·refine qhN fun k hk=>?_
    simp only[addF,sumTo,segIn,tow,rate,sg0]; rfl
   ·refine qhN fun k hk=>?_
    simp only[addF,sumTo,qcM,frm,rate,sg0]; rfl
  ·show qew n p _ _ _=_;unfold qew;rw[dec_f]; rfl
 rw[e1,z7];have e2:iter (fun x2=>qex n p x2.1 x2.2.1 x2.2.2) (0,((List.replicate 24 0),List.replicate 24 0),(m24 fun k=>sumTo (segIn n p k) n.2.1.length,m24 fun k=>sumTo (qcM n p k) n.2.1.length))=
   some (((List.replicate 24 0),List.replicate 24 0),(m24 fun k=>comeF n p k,m24 fun k=>qmH n p k)):=by
  have:=qbn (step:=fun x2:Int×(List Int×List Int)×(List Int×List Int)=>qex n p x2.1 x2.2.1 x2.2.2) (e:=(((List.replicate 24 0),List.replicate 24 0),(m24 fun k=>comeF n p k,m24 fun k=>qmH n p k))) n.2.2.1.length (fun i=>((i:Int),((List.replicate 24 0),List.replicate 24 0),(m24 fun k=>sumTo (segIn n p k) n.2.1.length+sumTo (qja n p k) i,m24 fun k=>sumTo (qcM n p k) n.2.1.length+sumTo (qfR n p k) i))) (fun i hi=>?_) ?_
  ·refine Eq.trans ?_ this
   rw[show(m24 fun k=>sumTo (segIn n p k) n.2.1.length)=m24 fun k=>sumTo (segIn n p k) n.2.1.length+sumTo (qja n p k) 0 from qhN fun k _=>by simp only[sumTo]; omega,
    show(m24 fun k=>sumTo (qcM n p k) n.2.1.length)=m24 fun k=>sumTo (qcM n p k) n.2.1.length+sumTo (qfR n p k) 0 from qhN fun k _=>by simp only[sumTo]; omega]
   rfl
  ·show qex n p _ _ _=_;unfold qex;have k1:=hn.kn.p i hi;have b1:bd6 fun k=>sumTo (segIn n p k) n.2.1.length+sumTo (qja n p k) i:=fun j _=>by
    have:=qeZ (qp8 (n:=n) hp (j:Int)) n.2.1.length;have:=qeZ (qsL (n:=n) hp (j:Int)) i; dsimp only; omega
   have b2:bd6 fun k=>sumTo (qcM n p k) n.2.1.length+sumTo (qfR n p k) i:=fun j _=>by
    have:=qeZ (qmI (n:=n) hp (j:Int)) n.2.1.length;have:=qeZ (qqE (n:=n) hp (j:Int)) i; dsimp only; omega
   have hr:=hp.q i;unfold prate at hr;rw[Sq.dlt hi,zb,gd_t (inB_t hi),gd_t (inB_t (show i<p.2.1.length by omega)),za,
    qD1 b1 b2 (by omega) (by have:=k1; simp only[po0] at this; omega) hr,z7,w1 hi]
   refine pairE ?_ ?_
   ·refine qhN fun k hk=>?_
    simp only[addF,sumTo,qja,prate,amt];split <;> split <;> (try split) <;> omega
   ·refine qhN fun k hk=>?_
    simp only[addF,sumTo,qfR,prate,amt];split <;> split <;> (try split) <;> omega
  ·show qex n p _ _ _=_;unfold qex;rw[dec_f]; rfl
 rw[e2]; rfl
section
variable {n:Net} {p:Pl}
theorem qxq(s:Seg)(r:Int):qpi s r=some (if r<0 then s.2.2.1 else s.2.1,if r<0 then s.2.1 else s.2.2.1):=by
 unfold qpi;by_cases h:r<0
 ·rw[dec_t h,zb,if_pos h,if_pos h]
 ·rw[dec_f h,zc,if_neg h,if_neg h]
theorem qyt(s:Seg)(r:Int):qne s r=some (if r<0 then s.2.2.1 else s.2.1,if r<0 then s.2.1 else s.2.2.1):=qxq s r
theorem qEH{r:Int}(h : -1000<=r/\r<=1000):qmz r=some (amt r):=by
 unfold qmz amt; rw[wi (by omega)]
theorem qu8(hp:RB p)(hs:n.2.1.length<=32)(hq:n.2.2.1.length<=24)(h1:p.1.length=n.2.1.length)(h2:p.2.1.length=n.2.2.1.length)(k:Int):qkn n p k=some (comeF n p k,qmH n p k):=by
 unfold qkn;have e1:iter (fun x=>qdK n p k x.1 x.2.1 x.2.2) (0,0,0)=some (sumTo (segIn n p k) n.2.1.length,sumTo (qcM n p k) n.2.1.length):=by
  refine qbn (step:=fun x:Int×Int×Int=>qdK n p k x.1 x.2.1 x.2.2) n.2.1.length (fun i=>(sumTo (segIn n p k) i,sumTo (qcM n p k) i,(i:Int))) (fun i hi=>?_) ?_
  ·show qdK n p k (sumTo (segIn n p k) i) (sumTo (qcM n p k) i) (i:Int)=some (.inl (sumTo (segIn n p k) i+segIn n p k i,sumTo (qcM n p k) i+qcM n p k i,((i+1:Nat):Int)));have b1:=qeZ (qp8 (n:=n) hp k) i;have b2:=qeZ (qmI (n:=n) hp k) i;have b3:=qp8 (n:=n) hp k i;have b4:=qmI (n:=n) hp k i;have hr:=hp.s i;unfold qdK;rw[Sq.dlt hi,zb,gd_t (inB_t hi),gd_t (inB_t (show i<p.1.length by omega)),za,qyt]
   have ef:frm n p i=if p.1.getD i 0<0 then(n.2.1.getD i ([],0,0,0,0,0,[])).2.2.1 else(n.2.1.getD i ([],0,0,0,0,0,[])).2.1:=rfl
   have et:tow n p i=if p.1.getD i 0<0 then(n.2.1.getD i ([],0,0,0,0,0,[])).2.1 else(n.2.1.getD i ([],0,0,0,0,0,[])).2.2.1:=rfl
   have er:rate p i=p.1.getD i 0:=rfl;simp only[z7];have hB:inB (i:Int) p.1.length=true:=inB_t (by omega)
   rw[<-ef,<-et,<-er,qEH hr];simp only[z7,gd_t hB];by_cases h0:rate p i=0
   ·have z1:segIn n p k i=0:=by unfold segIn amt; split <;> omega
    have z2:qcM n p k i=0:=by unfold qcM amt; split <;> omega
    rw[dec_t h0,zb,z7,z1,z2,w1 hi,zS2,zS2]
   ·rw[dec_f h0,zc];have s1:(bif decide (frm n p i=k) then some (wi64 (sumTo (qcM n p k) i+amt (rate p i))) else some (sumTo (qcM n p k) i))=some (sumTo (qcM n p k) i+qcM n p k i):=by
     by_cases hc:frm n p i=k
     ·have:qcM n p k i=amt (rate p i):=if_pos hc;rw[dec_t hc,zb,<-this,wi (by omega)]
     ·have:qcM n p k i=0:=if_neg hc;rw[dec_f hc,zc,this,zS2]
    have s2:(bif decide (tow n p i=k) then some (wi64 (sumTo (segIn n p k) i+amt (rate p i))) else some (sumTo (segIn n p k) i))=some (sumTo (segIn n p k) i+segIn n p k i):=by
     by_cases hc:tow n p i=k
     ·have:segIn n p k i=amt (rate p i):=if_pos hc;rw[dec_t hc,zb,<-this,wi (by omega)]
     ·have:segIn n p k i=0:=if_neg hc;rw[dec_f hc,zc,this,zS2]
    rw[s1,z7,s2,z7,z7,w1 hi]
  ·show qdK n p k _ _ ((n.2.1.length:Nat):Int)=_;unfold qdK;rw[dec_f]; rfl
 rw[e1,z7];have e2:iter (fun x2=>qdL n p k x2.1 x2.2.1 x2.2.2) (sumTo (segIn n p k) n.2.1.length,sumTo (qcM n p k) n.2.1.length,0)=some (comeF n p k,qmH n p k):=by
  have:=qbn (step:=fun x2:Int×Int×Int=>qdL n p k x2.1 x2.2.1 x2.2.2) (e:=(comeF n p k,qmH n p k)) n.2.2.1.length (fun i=>(sumTo (segIn n p k) n.2.1.length+sumTo (qja n p k) i,sumTo (qcM n p k) n.2.1.length+sumTo (qfR n p k) i,(i:Int))) (fun i hi=>?_) ?_
  ·refine Eq.trans ?_ this
   simp only[sumTo,zS2]; rfl
  ·have b1:=qeZ (qp8 (n:=n) hp k) n.2.1.length;have b2:=qeZ (qmI (n:=n) hp k) n.2.1.length;have b3:=qeZ (qsL (n:=n) hp k) i;have b4:=qeZ (qqE (n:=n) hp k) i;have b5:=qsL (n:=n) hp k i;have b6:=qqE (n:=n) hp k i;show qdL n p k (sumTo (segIn n p k) n.2.1.length+sumTo (qja n p k) i) (sumTo (qcM n p k) n.2.1.length+sumTo (qfR n p k) i) (i:Int)=some (.inl (sumTo (segIn n p k) n.2.1.length+(sumTo (qja n p k) i+qja n p k i),sumTo (qcM n p k) n.2.1.length+(sumTo (qfR n p k) i+qfR n p k i),((i+1:Nat):Int)));have hr:=hp.q i;unfold qdL;have hB:inB (i:Int) p.2.1.length=true:=inB_t (by omega)
   have eq:prate p i=p.2.1.getD i 0:=rfl;rw[Sq.dlt hi,zb,gd_t (inB_t hi),za,gd_t hB,gd_t hB,<-eq,w1 hi]
   by_cases hc:(n.2.2.1.getD i po0).2.1=k
   ·have z1:qja n p k i=max 0 (prate p i):=if_pos hc;have z2:qfR n p k i=max 0 (0-prate p i):=if_pos hc;have hc':((n.2.2.1.getD i ([],0,0)).2).1=k:=hc;rw[dec_t hc',zb,z7,wi (show -9223372036854775808<=0-prate p i/\0-prate p i<=9223372036854775807 by omega),<-z1,<-z2,wi (by omega),wi (by omega),Int.add_assoc,Int.add_assoc]
   ·have z1:qja n p k i=0:=if_neg hc;have z2:qfR n p k i=0:=if_neg hc;have hc':¬((n.2.2.1.getD i ([],0,0)).2).1=k:=hc;rw[dec_f hc',zc,z7,z1,z2,zS2,zS2]
  ·show qdL n p k _ _ ((n.2.2.1.length:Nat):Int)=_;unfold qdL;rw[dec_f]; rfl
 rw[e2]; rfl
/-! ### The order -/
def blk(n:Net)(p:Pl)(there:List Bool)(k:Nat)(i:Nat):Bool:=!decide (rate p i=0)&&(decide (tow n p i=(k:Int))&&!there.getD (frm n p i).toNat false)
def freeB(n:Net)(p:Pl)(there:List Bool)(k:Nat):Bool:=!there.getD k false&&!(List.range n.2.1.length).any (blk n p there k)
def nextF(n:Net)(p:Pl)(there:List Bool):Option Nat:=(List.range n.1.length).find? (freeB n p there)
def topo(n:Net)(p:Pl):Nat->List Bool->List Int
 | 0,_=>[]
 | f+1,there=>match nextF n p there with
  | none=>[]
  | some k=>(k:Int)::topo n p f (there.set k true)
def ordL(n:Net)(p:Pl):List Int:=topo n p n.1.length (List.replicate n.1.length false)
theorem qCH(f:Nat):∀there,(topo n p f there).length<=f:=by
 induction f with
 | zero=>intro _; exact zP _
 | succ f ih=>
  intro there;unfold topo;split
  ·exact zN _
  ·rw[zf]; have:=ih (there.set (by assumption) true); omega
theorem qwi{there:List Bool}(h:∀j,j<n.1.length->freeB n p there j=false):nextF n p there=none:=by
 unfold nextF;rw[List.find?_eq_none]
 intro x hx;rw[h x (zU.1 hx)]; simp
theorem qzr{q:Nat->Bool}{k m:Nat}(hk:k<m)(h:∀j,j<k->q j=false)(hq:q k=true):(List.range m).find? q=some k:=by
 rw[List.find?_range_eq_some]
 refine⟨hq,zU.2 hk,fun j hj=>?_⟩
 rw[h j hj]; rfl
theorem qA0{there:List Bool}{k:Nat}(hk:k<n.1.length)(h:∀j,j<k->freeB n p there j=false)(hq:freeB n p there k=true):nextF n p there=some k:=qzr hk h hq
theorem qp9{there:List Bool}(h:nextF n p there=none):∀f,topo n p f there=[]
 | 0=>rfl
 | f+1=>by unfold topo; rw[h]
theorem count_set{l:List Bool}{k:Nat}(hk:k<l.length)(h:l.getD k false=false):(l.set k true).count false+1=l.count false:=by
 rw[gD_eq hk] at h;have:=List.count_set (l:=l) (a:=true) (b:=false) hk;rw[this,h];have:0<l.count false:=List.count_pos_iff.2 (h ▸ zc3 hk);simp; omega
theorem qwj{l:List Bool}{k:Nat}(hk:k<l.length)(h:l.getD k false=false):0<l.count false:=by
 have:=count_set hk h; omega
theorem qyu(hn:VNet n)(h1:p.1.length=n.2.1.length){there:List Bool}(ht:there.length=n.1.length)(k:Nat)(out:List Int):
  iter (fun x=>qcn n p (k:Int) x.1 x.2.1 x.2.2) (0,out,there)=some (bif (List.range n.2.1.length).any (blk n p there k) then .inl (out,there) else .inr (out,there)):=by
 have hs:=hn.small.sg;have:=qa1 (step:=fun x:Int×List Int×List Bool=>qcn n p (k:Int) x.1 x.2.1 x.2.2) n.2.1.length (fun i=>((i:Int),out,there)) (fun i=>!blk n p there k i) (fin:=.inr (out,there)) (bad:=.inl (out,there)) (fun i hi _ hq=>?_) (fun i hi _ hq=>?_) (fun _=>?_)
 ·have e:(List.range n.2.1.length).all (fun i=>!blk n p there k i)=!(List.range n.2.1.length).any (blk n p there k):=by simp[zc1]
  rw[e] at this;refine Eq.trans this ?_
  cases(List.range n.2.1.length).any (blk n p there k) <;> rfl
 ·show qcn n p (k:Int) (i:Int) out there=_;unfold qcn;have hf:=qyq (p:=p) hn.kn hi;have ef:frm n p i=if p.1.getD i 0<0 then(n.2.1.getD i ([],0,0,0,0,0,[])).2.2.1 else(n.2.1.getD i ([],0,0,0,0,0,[])).2.1:=rfl
  have et:tow n p i=if p.1.getD i 0<0 then(n.2.1.getD i ([],0,0,0,0,0,[])).2.1 else(n.2.1.getD i ([],0,0,0,0,0,[])).2.2.1:=rfl
  have er:rate p i=p.1.getD i 0:=rfl;have hB:inB (i:Int) p.1.length=true:=inB_t (by omega)
  rw[Sq.dlt hi,zb,gd_t (inB_t hi),gd_t hB,za,qxq,z7,gd_t hB,<-ef,<-et,<-er,w1 hi,gd_t (qar.2 (by omega))]
  unfold blk at hq;simp only[Bool.not_and,zg2] at hq;cases hr:decide (rate p i=0) with
  | true=>simp only[zg,zc,z7]
  | false=>
   rw[hr] at hq;simp only[zu1,zb];cases ht2:decide (tow n p i=(k:Int)) with
   | false=>simp only[zc,z7]
   | true=>
    rw[ht2] at hq;simp only[zj2,zg] at hq;simp only[zb,hq,zg,z7,zc]
 ·show qcn n p (k:Int) (i:Int) out there=_;unfold qcn;have hf:=qyq (p:=p) hn.kn hi;have ef:frm n p i=if p.1.getD i 0<0 then(n.2.1.getD i ([],0,0,0,0,0,[])).2.2.1 else(n.2.1.getD i ([],0,0,0,0,0,[])).2.1:=rfl
  have et:tow n p i=if p.1.getD i 0<0 then(n.2.1.getD i ([],0,0,0,0,0,[])).2.1 else(n.2.1.getD i ([],0,0,0,0,0,[])).2.2.1:=rfl
  have er:rate p i=p.1.getD i 0:=rfl;have hB:inB (i:Int) p.1.length=true:=inB_t (by omega)
  rw[Sq.dlt hi,zb,gd_t (inB_t hi),gd_t hB,za,qxq,z7,gd_t hB,<-ef,<-et,<-er,gd_t (qar.2 (by omega))]
  have hq':blk n p there k i=true:=by revert hq; cases blk n p there k i <;> simp
  unfold blk at hq';rw[z8,z8] at hq';obtain⟨a,b,c⟩:=hq';rw[a,b,c]; rfl
 ·show qcn n p (k:Int) ((n.2.1.length:Nat):Int) out there=_;unfold qcn;rw[dec_f]; rfl
theorem qCI(hn:VNet n)(h1:p.1.length=n.2.1.length):∀(f:Nat) (there:List Bool) (out:List Int),there.length=n.1.length->there.count false<=f->out.length+f<=100->∀m k:Nat,k+m=n.1.length->(∀j,j<k->freeB n p there j=false)->
  iter (fun x=>qaX n p x.1 x.2.1 x.2.2) ((k:Int),out,there)=some (out++topo n p f there):=by
 have hN:=hn.small.no;intro f;induction f with
 | zero=>
  intro there out ht hc ho m;induction m with
  | zero=>
   intro k hk hf;rw[qas (e:=out) (by show qaX n p ((k:Nat):Int) out there=_; unfold qaX; rw[dec_f]; rfl),qp9 (qwi fun j hj=>hf j (by omega)),zG]
  | succ m ih=>
   intro k hk hf;have hk':k<n.1.length:=by omega
   have hth:there.getD k false=true:=by
    cases hg:there.getD k false with
    | true=>rfl
    | false=>have:=qwj (by omega) hg; omega
   have hfk:freeB n p there k=false:=by unfold freeB; rw[hth]; rfl
   rw[qaJ (y:=(((k+1:Nat):Int),out,there)) (by
    show qaX n p ((k:Nat):Int) out there=_; unfold qaX;rw[dec_t,zb,gd_t (inB_t (by omega)),za,hth,zb,z7,w1 hk'])]
   refine ih (k+1) (by omega) fun j hj=>?_
   rcases zH2 j k with h | h
   ·exact hf j h
   ·rw[show j=k by omega]; exact hfk
 | succ f ihf=>
  intro there out ht hc ho m;induction m with
  | zero=>
   intro k hk hf;rw[qas (e:=out) (by show qaX n p ((k:Nat):Int) out there=_; unfold qaX; rw[dec_f]; rfl),qp9 (qwi fun j hj=>hf j (by omega)),zG]
  | succ m ih=>
   intro k hk hf;have hk':k<n.1.length:=by omega
   have go:freeB n p there k=false->∀j,j<k+1->freeB n p there j=false:=fun hfk j hj=>by
    rcases zH2 j k with h | h
    ·exact hf j h
    ·rw[show j=k by omega]; exact hfk
   cases hth:there.getD k false with
   | true=>
    have hfk:freeB n p there k=false:=by unfold freeB; rw[hth]; rfl
    rw[qaJ (y:=(((k+1:Nat):Int),out,there)) (by
     show qaX n p ((k:Nat):Int) out there=_; unfold qaX;rw[dec_t,zb,gd_t (inB_t (by omega)),za,hth,zb,z7,w1 hk'])]
    exact ih (k+1) (by omega) (go hfk)
   | false=>
    cases hb:(List.range n.2.1.length).any (blk n p there k) with
    | true=>
     have hfk:freeB n p there k=false:=by unfold freeB; rw[hth,hb]; rfl
     rw[qaJ (y:=(((k+1:Nat):Int),out,there)) (by
      show qaX n p ((k:Nat):Int) out there=_; unfold qaX;rw[dec_t,zb,gd_t (inB_t (by omega)),za,hth,zc,qyu hn h1 ht k out,hb,z7,zb,za1,z7,w1 hk'])]
     exact ih (k+1) (by omega) (go hfk)
    | false=>
     have hfk:freeB n p there k=true:=by unfold freeB; rw[hth,hb]; rfl
     rw[qaJ (y:=((0:Int),out++[(k:Int)],there.set k true)) (by
      show qaX n p ((k:Nat):Int) out there=_; unfold qaX;rw[dec_t,zb,gd_t (inB_t (by omega)),za,hth,zc,qyu hn h1 ht k out,hb,z7,zc,Sum.elim_inr,gd_t (inB_t (by show k<there.length; omega)),gd_t (qaF (by show(out.length+1)*8<=_; omega))]; rfl)]
     have hcs:=count_set (l:=there) (k:=k) (by omega) hth
     have:=ihf (there.set k true) (out++[(k:Int)]) (by rw[zs1]; exact ht) (by omega) (by rw[ze]; simp only[zf,zo]; omega) n.1.length 0 (by omega) (fun j hj=>by omega)
     refine Eq.trans this ?_
     rw[topo,qA0 hk' hf hfk,zw]; rfl
theorem qA1(hn:VNet n)(h1:p.1.length=n.2.1.length):qmZ n p=some (ordL n p):=by
 have hN:=hn.small.no;unfold qmZ;rw[gd_t (qkF (by omega)),za]
 have:=qCI hn h1 n.1.length (List.replicate n.1.length false) [] (by simp) (by simp) (by simp; omega) n.1.length 0 (by omega) (fun j hj=>by omega)
 have this:iter (fun x=>qaX n p x.1 x.2.1 x.2.2) ((0:Int),[],List.replicate n.1.length false)=some (ordL n p):=this
 rw[this]; rfl
end
section
variable {n:Net} {p:Pl}
theorem qA2(hn:VNet n)(h1:p.1.length=n.2.1.length){there:List Bool}(ht:there.length=n.1.length)(k:Nat)(out:List Int):
  iter (fun x=>qdi n p (k:Int) x.1 x.2.1 x.2.2.1 x.2.2.2) (!there.getD k false,0,out,there)=some (freeB n p there k,out,there):=by
 have hs:=hn.small.sg;have:=qbn (step:=fun x:Bool×Int×List Int×List Bool=>qdi n p (k:Int) x.1 x.2.1 x.2.2.1 x.2.2.2) (e:=(freeB n p there k,out,there)) n.2.1.length (fun i=>(!there.getD k false&&!(List.range i).any (blk n p there k),(i:Int),out,there)) (fun i hi=>?_) ?_
 ·refine Eq.trans ?_ this
  simp only[List.range_zero,List.any_nil,zu1,zk2]; rfl
 ·show qdi n p (k:Int) (!there.getD k false&&!(List.range i).any (blk n p there k)) (i:Int) out there=some (.inl (!there.getD k false&&!(List.range (i+1)).any (blk n p there k),((i+1:Nat):Int),out,there));unfold qdi;have hf:=qyq (p:=p) hn.kn hi;have ef:frm n p i=if p.1.getD i 0<0 then(n.2.1.getD i ([],0,0,0,0,0,[])).2.2.1 else(n.2.1.getD i ([],0,0,0,0,0,[])).2.1:=rfl
  have et:tow n p i=if p.1.getD i 0<0 then(n.2.1.getD i ([],0,0,0,0,0,[])).2.1 else(n.2.1.getD i ([],0,0,0,0,0,[])).2.2.1:=rfl
  have er:rate p i=p.1.getD i 0:=rfl;have hB:inB (i:Int) p.1.length=true:=inB_t (by omega)
  have hT:inB (frm n p i) there.length=true:=qar.2 (by omega)
  rw[Sq.dlt hi,zb,gd_t (inB_t hi),gd_t hB,za,qyt,w1 hi,List.range_succ,List.any_append]
  simp only[z7,gd_t hB];rw[<-ef,<-et,<-er];simp only[gd_t hT,List.any_cons,List.any_nil,Bool.or_false];generalize hz:(List.range i).any (blk n p there k)=Z;rw[show blk n p there k i=(!decide (rate p i=0)&&(decide (tow n p i=(k:Int))&&!there.getD (frm n p i).toNat false)) from rfl]
  cases there.getD k false <;> cases Z <;> cases decide (rate p i=0) <;> cases decide (tow n p i=(k:Int)) <;> cases there.getD (frm n p i).toNat false <;> rfl
 ·show qdi n p (k:Int) _ ((n.2.1.length:Nat):Int) out there=_;unfold qdi;rw[dec_f]; rfl
def nx(n:Net)(p:Pl)(there:List Bool)(v:Nat):Int:=match(List.range v).find? (freeB n p there) with
 | none=>-1
 | some k=>(k:Int)
theorem qEI{there:List Bool}{v:Nat}:nx n p there (v+1)=if nx n p there v<0/\freeB n p there v=true then(v:Int) else nx n p there v:=by
 unfold nx;rw[List.range_succ,List.find?_append]
 cases h:(List.range v).find? (freeB n p there) with
 | some k=>simp only[Option.some_or]; rw[if_neg (by omega)]
 | none=>
  simp only[Option.none_or];cases hf:freeB n p there v with
  | true=>simp[List.find?_cons,hf]
  | false=>simp[List.find?_cons,hf]
theorem qqF(hn:VNet n)(h1:p.1.length=n.2.1.length){there:List Bool}(ht:there.length=n.1.length)(out:List Int):
  iter (fun x=>qdj n p x.1 x.2.1 x.2.2.1 x.2.2.2) (-1,0,out,there)=some (nx n p there n.1.length,out,there):=by
 have hs:=hn.small.no;refine qbn (step:=fun x:Int×Int×List Int×List Bool=>qdj n p x.1 x.2.1 x.2.2.1 x.2.2.2) n.1.length (fun i=>(nx n p there i,(i:Int),out,there)) (fun i hi=>?_) ?_
 ·show qdj n p (nx n p there i) (i:Int) out there=some (.inl (nx n p there (i+1),((i+1:Nat):Int),out,there));unfold qdj;rw[dec_t (show(i:Int)<(n.1.length:Int) by omega),zb,gd_t (inB_t (by omega)),za,qA2 hn h1 ht i out,z7,w1 hi,qEI]
  simp only;cases hf:freeB n p there i with
  | false=>rw[if_neg (by simp)]; rfl
  | true=>
   simp only[zb,z7];by_cases h:nx n p there i<0
   ·rw[dec_t h,if_pos ⟨h,trivial⟩]; rfl
   ·rw[dec_f h,if_neg (fun hh=>h hh.1)]; rfl
 ·show qdj n p (nx n p there n.1.length) ((n.1.length:Nat):Int) out there=_;unfold qdj;rw[dec_f]; rfl
theorem qwk{there:List Bool}{k:Nat}(h:nextF n p there=some k):k<n.1.length/\there.getD k false=false:=by
 unfold nextF at h;have h1:=List.mem_of_find?_eq_some h
 have h2:=List.find?_some h
 refine⟨zU.1 h1,?_⟩
 unfold freeB at h2;cases hg:there.getD k false with
 | false=>rfl
 | true=>rw[hg] at h2; cases h2
theorem qzs(hn:VNet n)(h1:p.1.length=n.2.1.length):∀(f:Nat) (there:List Bool) (out:List Int),there.length=n.1.length->there.count false<=f->out.length+f<=100->
  iter (fun x=>qcv n p x.1 x.2) (out,there)=some (out++topo n p f there):=by
 intro f;induction f with
 | zero=>
  intro there out ht hc ho;have hnone:nextF n p there=none:=by
   cases h:nextF n p there with
   | none=>rfl
   | some k=>have:=qwk h; have:=qwj (by omega) this.2; omega
  rw[qas (e:=out) (by
   show qcv n p out there=_; unfold qcv;rw[qqF hn h1 ht out,z7,show nx n p there n.1.length=-1 by unfold nx; unfold nextF at hnone; rw[hnone]]; rfl),qp9 hnone,zG]
 | succ f ih=>
  intro there out ht hc ho;cases h:nextF n p there with
  | none=>
   rw[qas (e:=out) (by
    show qcv n p out there=_; unfold qcv;rw[qqF hn h1 ht out,z7,show nx n p there n.1.length=-1 by unfold nx; unfold nextF at h; rw[h]]; rfl),qp9 h,zG]
  | some k=>
   have hk:=qwk h;rw[qaJ (y:=(out++[(k:Int)],there.set k true)) (by
    show qcv n p out there=_; unfold qcv;rw[qqF hn h1 ht out,z7,show nx n p there n.1.length=(k:Int) by unfold nx; unfold nextF at h; rw[h]]
    simp only;rw[dec_f,zc,gd_t (qaF (by omega)),gd_t (inB_t (by omega)),za])]
   have hcs:=count_set (l:=there) (k:=k) (by omega) hk.2
   rw[ih (there.set k true) (out++[(k:Int)]) (by rw[zs1]; exact ht) (by omega) (by rw[ze]; simp only[zf,zo]; omega),topo,h,zw]; rfl
theorem qA3(hn:VNet n)(h1:p.1.length=n.2.1.length):qk3 n p=some (ordL n p):=by
 have hN:=hn.small.no;unfold qk3;rw[gd_t (qkF (by omega)),za]
 have:=qzs hn h1 n.1.length (List.replicate n.1.length false) [] (by simp) (by simp) (by simp; omega)
 rw[this]; rfl
/-! ### Checks -/
def szB(n:Net)(p:Pl):Bool:=decide (p.1.length=n.2.1.length)&&(decide (p.2.1.length=n.2.2.1.length)&&decide (p.2.2.length=n.2.2.2.1.length))
def rtB(n:Net)(p:Pl)(i:Nat):Bool:=rg (0-min 1000 (n.2.1.getD i sg0).2.2.2.1) (min 1000 (n.2.1.getD i sg0).2.2.2.1) (rate p i)
def qq1(n:Net)(p:Pl):Bool:=(List.range n.2.1.length).all (rtB n p)
def qmJ(p:Pl):Bool:=p.2.1.all (rg (-1000) 1000)
def balB(n:Net)(p:Pl):Bool:=(List.range n.1.length).all fun k=>decide (comeF n p (k:Int)=qmH n p (k:Int))
def qbm(n:Net)(p:Pl):Int:=if qbs n≠0 then qbs n else
 bif szB n p then(bif qq1 n p&&qmJ p then(bif balB n p then(bif Nat.beq (ordL n p).length n.1.length then 0 else 13) else 12) else 1) else 9
theorem qsM:szB n p=true↔p.1.length=n.2.1.length/\p.2.1.length=n.2.2.1.length/\p.2.2.length=n.2.2.2.1.length:=by
 unfold szB; simp only[z8,zz]
theorem qhO{a b x:Int}:rg a b x=true↔a<=x/\x<=b:=by unfold rg; rw[z8,zz,zz]
theorem qxr(hn:VNet n){i:Nat}(hi:i<n.2.1.length):1<=(n.2.1.getD i sg0).2.2.2.1/\(n.2.1.getD i sg0).2.2.2.1<=1000000:=by
 have h:=hn.pr;unfold prB at h;rw[z8,zq] at h;have:=h.1 _ (qbu (d:=sg0) hi);unfold pipeB at this;simp only[z8] at this;exact qhO.1 this.1.2.1
theorem RB.of(hs:szB n p=true)(h1:qq1 n p=true)(h2:qmJ p=true):RB p:=by
 obtain⟨s1,s2,s3⟩:=qsM.1 hs;refine⟨fun i=>?_,fun i=>?_⟩
 ·rcases zH2 i p.1.length with h | h
  ·have:=zq.1 h1 i (zU.2 (by omega))
   unfold rtB at this;rw[qhO] at this; omega
  ·unfold rate; rw[qtE h]; omega
 ·rcases zH2 i p.2.1.length with h | h
  ·have:=zq.1 h2 _ (qbu (d:=0) h);rw[qhO] at this; unfold prate; omega
  ·unfold prate; rw[qtE h]; omega
theorem qsN(r m:Int)(h:0<=m/\m<=1000000):qiJ r m=some (rg (0-m) m r):=by
 unfold qiJ rg;rw[wi (by omega)]
 cases decide (0-m<=r) <;> rfl
theorem qCJ(hn:VNet n){k:Int}(h:¬(0<=k/\k<n.1.length)):comeF n p k=0/\qmH n p k=0:=by
 have a1:sumTo (segIn n p k) n.2.1.length=0:=qkw _ fun i hi=>if_neg fun(e:tow n p i=k)=>h (e ▸ qFF (p:=p) hn.kn hi)
 have a2:sumTo (qcM n p k) n.2.1.length=0:=qkw _ fun i hi=>if_neg fun(e:frm n p i=k)=>h (e ▸ qyq (p:=p) hn.kn hi)
 have a3:sumTo (qja n p k) n.2.2.1.length=0:=qkw _ fun i hi=>if_neg fun(e:(n.2.2.1.getD i po0).2.1=k)=>h (e ▸ hn.kn.p i hi)
 have a4:sumTo (qfR n p k) n.2.2.1.length=0:=qkw _ fun i hi=>if_neg fun(e:(n.2.2.1.getD i po0).2.1=k)=>h (e ▸ hn.kn.p i hi)
 unfold comeF qmH;rw[a1,a2,a3,a4]; exact⟨rfl,rfl⟩
theorem bal24(hn:VNet n):((List.range 24).all fun i=>decide (((m24 fun k=>comeF n p k).getD i 0)=((m24 fun k=>qmH n p k).getD i 0)))=balB n p:=by
 unfold balB;rw[zT,zq,zq];constructor
 ·intro h k hk;have hk:=zU.1 hk;have:=h k (zU.2 (by have:=hn.small.no; omega))
  rwa[qjS _ (by have:=hn.small.no; omega),qjS _ (by have:=hn.small.no; omega)] at this
 ·intro h k hk;have hk:=zU.1 hk;rw[qjS _ hk,qjS _ hk];by_cases hl:k<n.1.length
  ·exact h k (zU.2 hl)
  ·have:=qCJ (p:=p) hn (k:=(k:Int)) (by omega)
   rw[this.1,this.2]; rfl
theorem qbd(n:Net):(Y6 n)=n:=rfl
theorem qFG:(ordL n p).length<=n.1.length:=qCH _ _
theorem qjy(n:Net)(p:Pl):qgQ n p=some (qbm n p):=by
 unfold qgQ qbm;rw[qcK,z7];by_cases h0:qbs n=0
 ·rw[if_neg (fun h=>h h0),dec_t h0,zg,zc]
  have hn:=VNet.of h0;have es:(
    bif !decide ((p.1.length:Int)=(n.2.1.length:Int)) then some true
    else bif !decide ((p.2.1.length:Int)=(n.2.2.1.length:Int)) then some true
    else some (!decide ((p.2.2.length:Int)=(n.2.2.2.1.length:Int))))=some (!szB n p):=by
   unfold szB;rw[show decide ((p.1.length:Int)=(n.2.1.length:Int))=decide (p.1.length=n.2.1.length) by congr 1; rw[Int.natCast_inj],
    show decide ((p.2.1.length:Int)=(n.2.2.1.length:Int))=decide (p.2.1.length=n.2.2.1.length) by congr 1; rw[Int.natCast_inj],
    show decide ((p.2.2.length:Int)=(n.2.2.2.1.length:Int))=decide (p.2.2.length=n.2.2.2.1.length) by congr 1; rw[Int.natCast_inj]]
   cases decide (p.1.length=n.2.1.length) <;> cases decide (p.2.1.length=n.2.2.1.length) <;> cases decide (p.2.2.length=n.2.2.2.1.length) <;> rfl
  rw[es,z7];cases hz:szB n p with
  | false=>rfl
  | true=>
   obtain⟨s1,s2,s3⟩:=qsM.1 hz;have m1:=hn.small.sg;have m2:=hn.small.po;simp only[zg,zc,zb];have e1:iter (fun x=>qif n p x) 0=some (bif qq1 n p then .inl () else .inr 1):=by
    refine qa1 (step:=fun x=>qif n p x) n.2.1.length (fun i=>(i:Int)) (rtB n p) (fin:=.inl ()) (bad:=.inr 1) (fun i hi _ hq=>?_) (fun i hi _ hq=>?_) (fun _=>?_)
    all_goals unfold qif
    ·have hc:=qxr hn hi;have e:((((n.2.1.getD i ([],0,0,0,0,0,[])).2).2).2).1=(n.2.1.getD i sg0).2.2.2.1:=rfl;have e':p.1.getD i 0=rate p i:=rfl;rw[Sq.dlt hi,zb,gd_t (inB_t hi),gd_t (inB_t (show i<p.1.length by omega)),za,e,e',qsN _ _ (by omega),z7]
     unfold rtB at hq;rw[hq,w1 hi]; rfl
    ·have hc:=qxr hn hi;have e:((((n.2.1.getD i ([],0,0,0,0,0,[])).2).2).2).1=(n.2.1.getD i sg0).2.2.2.1:=rfl;have e':p.1.getD i 0=rate p i:=rfl;rw[Sq.dlt hi,zb,gd_t (inB_t hi),gd_t (inB_t (show i<p.1.length by omega)),za,e,e',qsN _ _ (by omega),z7]
     unfold rtB at hq;rw[hq]; rfl
    ·rw[dec_f]; rfl
   rw[e1,z7];cases hr:qq1 n p with
   | false=>rfl
   | true=>
    simp only[zb,za1,zL];rw[qoH p.2.1 (fun x=>!rg (-1000) 1000 x) _ (fun x _=>by
     show(qjl x).bind _=_;unfold qjl;rw[qsN _ _ (by omega)]; rfl) (by omega),z7]
    have ep:(p.2.1.any fun x=>!rg (-1000) 1000 x)=!qmJ p:=by unfold qmJ; simp[zc1]
    rw[ep];cases hq:qmJ p with
    | false=>rfl
    | true=>
     simp only[zg,zc,zb];rw[show((p.1,p.2.1,p.2.2):Pl)=p from rfl,qbd,qys hn (RB.of hz hr hq) s1 s2,z7,bal24 hn]
     cases hb:balB n p with
     | false=>rfl
     | true=>
      simp only[zg,zc,zb];rw[qA1 hn s1,z7];have:=qFG (n:=n) (p:=p);cases ho:Nat.beq (ordL n p).length n.1.length with
      | true=>have:=zd ho; rw[dec_f]; rfl
      | false=>
       have:(ordL n p).length≠n.1.length:=fun e=>by rw[e,z33] at ho; cases ho
       rw[dec_t]; rfl
 ·rw[if_pos h0,dec_f h0]; rfl
end
section
variable {n:Net} {p:Pl}
theorem natdec(a b:Nat):decide ((a:Int)=(b:Int))=decide (a=b):=by congr 1; rw[Int.natCast_inj]
theorem qqG(n:Net)(p:Pl):qgY n p=some (qbm n p):=by
 unfold qgY qbm;rw[qbd,qcL,z7];by_cases h0:qbs n=0
 ·rw[if_neg (fun h=>h h0),dec_t h0,zg,zc]
  have hn:=VNet.of h0;have es:(
    bif !decide ((p.1.length:Int)=(n.2.1.length:Int)) then some true
    else bif !decide ((p.2.1.length:Int)=(n.2.2.1.length:Int)) then some true
    else some (!decide ((p.2.2.length:Int)=(n.2.2.2.1.length:Int))))=some (!szB n p):=by
   unfold szB;rw[natdec,natdec,natdec];cases decide (p.1.length=n.2.1.length) <;> cases decide (p.2.1.length=n.2.2.1.length) <;> cases decide (p.2.2.length=n.2.2.2.1.length) <;> rfl
  rw[es,z7];cases hz:szB n p with
  | false=>rfl
  | true=>
   obtain⟨s1,s2,s3⟩:=qsM.1 hz;have m1:=hn.small.sg;have m2:=hn.small.po;simp only[zg,zc,zb];have key:∀i,i<n.2.1.length->(bif decide (p.1.getD i 0<wi64 (0-(min 1000 (((((n.2.1.getD i ([],0,0,0,0,0,[])).2).2).2).1)))) then some true
     else some (decide (min 1000 (((((n.2.1.getD i ([],(0,(0,(0,(0,(0,[]))))))).2).2).2).1)<p.1.getD i 0)))=some (!rtB n p i):=by
    intro i hi;have hc:=qxr hn hi;have e:((((n.2.1.getD i ([],0,0,0,0,0,[])).2).2).2).1=(n.2.1.getD i sg0).2.2.2.1:=rfl;rw[e,wi (by omega)]
    unfold rtB rg rate;by_cases a:p.1.getD i 0<0-min 1000 (n.2.1.getD i sg0).2.2.2.1
    ·rw[dec_t a,dec_f (show ¬(0-min 1000 (n.2.1.getD i sg0).2.2.2.1<=p.1.getD i 0) by omega)]; rfl
    ·rw[dec_f a,dec_t (show(0-min 1000 (n.2.1.getD i sg0).2.2.2.1<=p.1.getD i 0) by omega),zc,zL]
     by_cases b:min 1000 (n.2.1.getD i sg0).2.2.2.1<p.1.getD i 0
     ·rw[dec_t b,dec_f]; rfl
     ·rw[dec_f b,dec_t]; rfl
   have e1:iter (fun x=>qhh n p x) 0=some (bif qq1 n p then .inl () else .inr 1):=by
    unfold qq1;rw[<-s1];refine qa1 (step:=fun x=>qhh n p x) p.1.length (fun i=>(i:Int)) (rtB n p) (fin:=.inl ()) (bad:=.inr 1) (fun i hi _ hq=>?_) (fun i hi _ hq=>?_) (fun _=>?_)
    all_goals unfold qhh
    ·rw[Sq.dlt hi,zb,gd_t (inB_t hi),gd_t (inB_t (show i<n.2.1.length by omega)),za,key i (by omega),hq,z7,w1 hi]; rfl
    ·rw[Sq.dlt hi,zb,gd_t (inB_t hi),gd_t (inB_t (show i<n.2.1.length by omega)),za,key i (by omega),hq,z7]; rfl
    ·rw[dec_f]; rfl
   rw[e1,z7];cases hr:qq1 n p with
   | false=>rfl
   | true=>
    simp only[zb,za1,zL];have key2:∀x:Int,(bif decide (x < -1000) then some true else some (decide (1000<x)))=some (!rg (-1000) 1000 x):=by
     intro x;unfold rg;by_cases a:x < -1000
     ·rw[dec_t a,dec_f (show ¬(-1000<=x) by omega)]; rfl
     ·rw[dec_f a,dec_t (show -1000<=x by omega),zc,zL]
      by_cases b:1000<x
      ·rw[dec_t b,dec_f]; rfl
      ·rw[dec_f b,dec_t]; rfl
    have e2:iter (fun x2=>qhi p x2) 0=some (bif qmJ p then .inl () else .inr 1):=by
     refine scanL (step:=fun x2=>qhi p x2) p.2.1 0 (rg (-1000) 1000) (bad:=1) (fun i hi hq=>?_) (fun i hi hq=>?_) ?_
     all_goals unfold qhi
     ·rw[Sq.dlt hi,zb,gd_t (inB_t hi),za,key2,hq,z7,w1 hi]; rfl
     ·rw[Sq.dlt hi,zb,gd_t (inB_t hi),za,key2,hq,z7]; rfl
     ·rw[dec_f]; rfl
    rw[e2,z7];cases hq:qmJ p with
    | false=>rfl
    | true=>
     simp only[zb,za1];have hp:=RB.of hz hr hq;have e3:iter (fun x3=>qhj n p x3) 0=some (bif balB n p then .inl () else .inr 12):=by
      refine qa1 (step:=fun x=>qhj n p x) n.1.length (fun i=>(i:Int)) (fun k=>decide (comeF n p (k:Int)=qmH n p (k:Int))) (fin:=.inl ()) (bad:=.inr 12) (fun i hi _ hq=>?_) (fun i hi _ hq=>?_) (fun _=>?_)
      all_goals unfold qhj
      ·rw[dec_t (show(i:Int)<(n.1.length:Int) by omega),zb,qbd,show((p.1,p.2.1,p.2.2):Pl)=p from rfl,qu8 hp m1 m2 s1 s2,z7]
       simp only;rw[hq,w1 hi (by have:=hn.small.no; omega)]; rfl
      ·rw[dec_t (show(i:Int)<(n.1.length:Int) by omega),zb,qbd,show((p.1,p.2.1,p.2.2):Pl)=p from rfl,qu8 hp m1 m2 s1 s2,z7]
       simp only;rw[hq]; rfl
      ·rw[dec_f]; rfl
     rw[e3,z7];cases hb:balB n p with
     | false=>rfl
     | true=>
      simp only[zb,za1];rw[show((p.1,p.2.1,p.2.2):Pl)=p from rfl,qA3 hn s1,z7,natdec]
      cases ho:Nat.beq (ordL n p).length n.1.length with
      | true=>have:=zd ho; rw[dec_t this]; rfl
      | false=>
       have:(ordL n p).length≠n.1.length:=fun e=>by rw[e,z33] at ho; cases ho
       rw[dec_f this]; rfl
 ·rw[if_pos h0,dec_f h0]; rfl
structure VPl(n:Net)(p:Pl):Prop where
 net:qbs n=0
 sz:szB n p=true
 rt:qq1 n p=true
 pr:qmJ p=true
theorem VPl.of(h:qbm n p=0):VPl n p:=by
 unfold qbm at h;by_cases h0:qbs n=0
 ·rw[if_neg (fun h=>h h0)] at h
  obtain⟨h1,h⟩:=qoj (by decide) h
  obtain⟨h2,h⟩:=qoj (by decide) h
  rw[z8] at h2;exact⟨h0,h1,h2.1,h2.2⟩
 ·rw[if_pos h0] at h; exact absurd h h0
theorem VPl.rb(h:VPl n p):RB p:=RB.of h.sz h.rt h.pr
theorem VPl.len(h:VPl n p):p.1.length=n.2.1.length/\p.2.1.length=n.2.2.1.length/\p.2.2.length=n.2.2.2.1.length:=qsM.1 h.sz
def thr(n:Net)(p:Pl)(k:Int):Int×Int:=if qbm n p≠0 then(0,qbm n p) else bif kn n k then(comeF n p k,0) else(0,8)
theorem knD(n:Net)(k:Int):(bif decide (k<0) then some true else some (decide ((n.1.length:Int)<=k)))=some (!kn n k):=by
 unfold kn;by_cases a:k<0
 ·rw[dec_t a,dec_f (show ¬0<=k by omega)]; rfl
 ·rw[dec_f a,dec_t (show 0<=k by omega),zc,zL]
  by_cases b:(n.1.length:Int)<=k
  ·rw[dec_t b,dec_f]; rfl
  ·rw[dec_f b,dec_t]; rfl
theorem qFH(n:Net)(p:Pl)(k:Int):qjm n p k=some (thr n p k):=by
 unfold qjm thr;rw[qbd,show((p.1,p.2.1,p.2.2):Pl)=p from rfl,qjy,z7]
 by_cases h:qbm n p=0
 ·rw[dec_t h,if_neg (fun e=>e h),zg,zc,knD,z7]
  have hv:=VPl.of h;have hn:=VNet.of hv.net;cases hk:kn n k with
  | false=>rfl
  | true=>
   have hk:=qtK.1 hk;have:=hn.small.no;obtain⟨k',rfl⟩:∃k':Nat,k=(k':Int):=⟨k.toNat,by omega⟩
   simp only[zg,zc,zb];rw[qys hn hv.rb hv.len.1 hv.len.2.1,z7,gd_t (inB_t (by omega)),za]
   simp only;rw[qjS _ (by omega)]
 ·rw[dec_f h,if_pos h]; rfl
theorem qA4(n:Net)(p:Pl)(k:Int):qio n p k=some (thr n p k):=by
 unfold qio thr;rw[qbd,show((p.1,p.2.1,p.2.2):Pl)=p from rfl,qqG,z7]
 by_cases h:qbm n p=0
 ·rw[dec_t h,if_neg (fun e=>e h),zg,zc,knD,z7]
  have hv:=VPl.of h;have hn:=VNet.of hv.net;cases hk:kn n k with
  | false=>rfl
  | true=>
   simp only[zg,zc,zb];rw[qu8 hv.rb hn.small.sg hn.small.po hv.len.1 hv.len.2.1,z7]
 ·rw[dec_f h,if_pos h]; rfl
/-! ### Lineups -/
def nz(l:List Int):List Bool:=l.map fun r=>!decide (r=0)
theorem qkx(l:List Int):(nz l).length=l.length:=zQ ..
def need(p:Pl):List Bool:=nz p.1++nz p.2.1
theorem qxs{l:List Int}{i:Nat}(h:i<l.length):nz (l.take (i+1))=nz (l.take i)++[!decide (l.getD i 0=0)]:=by
 unfold nz; rw[qdP 0 h,zQ1]; rfl
theorem qyv(l:List Int)(h:l.length<=1000000):qhH l=some (nz l):=by
 unfold qhH;have:=qbn (step:=fun x:Int×List Bool=>qcF l x.1 x.2) (e:=nz l) l.length (fun i=>((i:Int),nz (l.take i))) (fun i hi=>?_) ?_
 ·have this:iter (fun x=>qcF l x.1 x.2) ((0:Int),[])=some (nz l):=this
  rw[this]; rfl
 ·show qcF l (i:Int) (nz (l.take i))=some (.inl (((i+1:Nat):Int),nz (l.take (i+1))));unfold qcF;rw[Sq.dlt hi,zb,gd_t (inB_t hi),gd_t (qaF (by rw[qkx,zm]; omega)),za,w1 hi,qxs hi]
 ·show qcF l ((l.length:Nat):Int) (nz (l.take l.length))=_;unfold qcF;rw[dec_f,zF1]; rfl
theorem qyw(p:Pl)(h1:p.1.length<=1000000)(h2:p.2.1.length<=1000000):qgZ p=some (nz p.1,nz p.2.1):=by
 unfold qgZ;have e1:=qbn (step:=fun x:Int×List Bool=>qdk p x.1 x.2) (e:=nz p.1) p.1.length (fun i=>((i:Int),nz (p.1.take i))) (fun i hi=>?_) ?_
 ·have e1:iter (fun x=>qdk p x.1 x.2) ((0:Int),[])=some (nz p.1):=e1
  rw[e1,z7];have e2:=qbn (step:=fun x2:Int×List Bool×List Bool=>qdl p x2.1 x2.2.1 x2.2.2) (e:=(nz p.1,nz p.2.1)) p.2.1.length (fun i=>((i:Int),nz p.1,nz (p.2.1.take i))) (fun i hi=>?_) ?_
  ·have e2:iter (fun x2=>qdl p x2.1 x2.2.1 x2.2.2) ((0:Int),nz p.1,[])=some (nz p.1,nz p.2.1):=e2
   rw[e2]; rfl
  ·show qdl p (i:Int) (nz p.1) (nz (p.2.1.take i))=some (.inl (((i+1:Nat):Int),nz p.1,nz (p.2.1.take (i+1))));unfold qdl;rw[Sq.dlt hi,zb,gd_t (inB_t hi),gd_t (qaF (by rw[qkx,zm]; omega)),za,w1 hi,qxs hi]
  ·show qdl p ((p.2.1.length:Nat):Int) (nz p.1) (nz (p.2.1.take p.2.1.length))=_;unfold qdl;rw[dec_f,zF1]; rfl
 ·show qdk p (i:Int) (nz (p.1.take i))=some (.inl (((i+1:Nat):Int),nz (p.1.take (i+1))));unfold qdk;rw[Sq.dlt hi,zb,gd_t (inB_t hi),gd_t (qaF (by rw[qkx,zm]; omega)),za,w1 hi,qxs hi]
 ·show qdk p ((p.1.length:Nat):Int) (nz (p.1.take p.1.length))=_;unfold qdk;rw[dec_f,zF1]; rfl
theorem qA5(a b:List Bool)(h1:a.length<=1000000)(h2:b.length<=1000000):qko (a,b)=some (a++b):=by
 unfold qko;rw[gd_t (qaF (by simp only; omega)),gd_t (qaF (by simp only[zF]; omega))]; rfl
theorem qtL(a b:List Bool)(h1:a.length<=1000000)(h2:b.length<=1000000):qfa (a,b)=some (a++b):=qA5 a b h1 h2
theorem qA6(n:Net)(p:Pl):qgR n p=some (if qbm n p≠0 then(qbm n p,[],[]) else(0,nz p.1,nz p.2.1)):=by
 unfold qgR;rw[qbd,qcK,z7,show((p.1,p.2.1,p.2.2):Pl)=p from rfl,qjy,z7]
 by_cases h0:qbs n=0
 ·rw[dec_t h0,zg,zc];by_cases h:qbm n p=0
  ·have hv:=VPl.of h;have hn:=VNet.of h0;have:=hv.len;have:=hn.small.sg;have:=hn.small.po;rw[dec_t h,if_neg (fun e=>e h),zg,zc,qyv _ (by omega),z7,qyv _ (by omega)]; rfl
  ·rw[dec_f h,if_pos h]; rfl
 ·have e:qbm n p=qbs n:=by unfold qbm; rw[if_pos h0]
  rw[dec_f h0,e,if_pos h0]; rfl
end
abbrev Vl:=Int×Int×Bool×Bool
abbrev Dk:=List Vl×Pl
abbrev v0:Vl:=(0,0,false,false)
def qcx(v:Vl):Bool:=rg 1 60 v.1&&rg 0 v.1 v.2.1
def qeh(v:Vl):Bool:=qcx v&&(decide (v.2.1=v.1)&&v.2.2.1)
def vlB(n:Net)(l:List Vl):Bool:=decide (l.length=n.2.1.length+n.2.2.1.length)&&l.all qcx
def rdyB(d:Dk):Bool:=(List.range (need d.2).length).all fun i=>!(need d.2).getD i false || qeh (d.1.getD i v0)
def qmK(n:Net)(p:Pl)(i:Nat):Bool:=p.2.2.getD i false&&decide (comeF n p (n.2.2.2.1.getD i sta0).2.1=0)
def idleB(n:Net)(p:Pl):Bool:=(List.range n.2.2.2.1.length).any (qmK n p)
def qe3(n:Net)(d:Dk):Int:=if qbs n≠0 then qbs n else
 bif vlB n d.1 then(if qbm n d.2≠0 then qbm n d.2 else bif rdyB d then(bif idleB n d.2 then 21 else 0) else 21) else 20
section
variable {n:Net} {p:Pl}
theorem valid_eq(v:Vl):qet v=some (qcx v):=by
 unfold qet qcx rg;cases decide (1<=v.1) <;> cases decide (v.1<=60) <;> cases decide (0<=v.2.1) <;> rfl
theorem rvalid_eq(v:Vl):qfP v=some (qcx v):=valid_eq v
theorem qA7(v:Vl):qm0 v=some (qcx v&&decide (v.2.1=v.1)):=by
 unfold qm0;rw[show((v.1,v.2.1,v.2.2.1,v.2.2.2):Vl)=v from rfl,valid_eq,z7]
 cases qcx v <;> rfl
theorem qu9(v:Vl):qkp v=some (qcx v&&decide (v.2.1=v.1)):=qA7 v
theorem qva(v:Vl):qj8 v=some (qeh v):=by
 unfold qj8 qeh;rw[show((v.1,v.2.1,v.2.2.1,v.2.2.2):Vl)=v from rfl,qA7,z7]
 cases qcx v <;> cases decide (v.2.1=v.1) <;> rfl
theorem qA8(h:qbm n p=0){i:Nat}(hi:i<n.2.2.2.1.length):thr n p (n.2.2.2.1.getD i sta0).2.1=(comeF n p (n.2.2.2.1.getD i sta0).2.1,0):=by
 unfold thr;have hn:=VNet.of (VPl.of h).net;rw[if_neg (fun e=>e h),qtK.2 (hn.kn.t i hi)]; rfl
theorem qsO(h:qbm n p=0){i:Nat}(hi:i<n.2.2.2.1.length):qiL n p (i:Int)=some (!decide (comeF n p (n.2.2.2.1.getD i sta0).2.1=0)):=by
 unfold qiL;rw[gd_t (inB_t hi),za,qbd,qFH,z7,show((n.2.2.2.1.getD i ([],0,0,0,0)).2).1=(n.2.2.2.1.getD i sta0).2.1 from rfl,show((p.1,p.2.1,p.2.2):Pl)=p from rfl,qA8 h hi]; rfl
theorem qyx(h:qbm n p=0):qj9 n p=some (idleB n p):=by
 have hv:=VPl.of h;have hn:=VNet.of hv.net;have hl:=hv.len.2.2;have hs:=hn.small.st;unfold qj9;have:=scanN (ε:=Unit⊕Bool) (step:=fun x=>qkN n p x) n.2.2.2.1.length (qmK n p) (fin:=.inl ()) (bad:=.inr true) (fun i hi hq=>?_) (fun i hi hq=>?_) ?_
 ·rw[this,z7]; unfold idleB;cases(List.range n.2.2.2.1.length).any (qmK n p) <;> rfl
 all_goals unfold qkN
 ·rw[dec_t (show(i:Int)<(p.2.2.length:Int) by omega),zb,gd_t (inB_t (by omega)),za,dec_t (show(i:Int)<(n.2.2.2.1.length:Int) by omega),qbd,show((p.1,p.2.1,p.2.2):Pl)=p from rfl,qsO h hi,w1 hi]
  unfold qmK at hq;cases hp:p.2.2.getD i false with
  | false=>rfl
  | true=>
   rw[hp,zL] at hq;simp only[zb,z7,hq,zu1,zg,zc]
 ·rw[dec_t (show(i:Int)<(p.2.2.length:Int) by omega),zb,gd_t (inB_t (by omega)),za,dec_t (show(i:Int)<(n.2.2.2.1.length:Int) by omega),qbd,show((p.1,p.2.1,p.2.2):Pl)=p from rfl,qsO h hi]
  unfold qmK at hq;rw[z8] at hq;rw[hq.1];simp only[zb,z7,hq.2,zg,zu1]
 ·rw[dec_f]; rfl
theorem qxt(h:qbm n p=0):qkq n p=some (!idleB n p):=by
 have hv:=VPl.of h;have hn:=VNet.of hv.net;have hl:=hv.len.2.2;have hs:=hn.small.st;unfold qkq;have:=scanN (ε:=Unit⊕Bool) (step:=fun x=>qmB n p x) n.2.2.2.1.length (qmK n p) (fin:=.inl ()) (bad:=.inr false) (fun i hi hq=>?_) (fun i hi hq=>?_) ?_
 ·rw[this,z7]; unfold idleB;cases(List.range n.2.2.2.1.length).any (qmK n p) <;> rfl
 all_goals unfold qmB
 ·rw[Sq.dlt hi,zb,gd_t (inB_t (by omega)),za,gd_t (inB_t hi),qbd,show((p.1,p.2.1,p.2.2):Pl)=p from rfl,show((n.2.2.2.1.getD i ([],0,0,0,0)).2).1=(n.2.2.2.1.getD i sta0).2.1 from rfl,qA4,qA8 h hi,w1 hi]
  unfold qmK at hq;cases hp:p.2.2.getD i false with
  | false=>rfl
  | true=>
   rw[hp,zL] at hq;simp only[zb,z7,hq,dec_t,zg,zc,za1]
 ·rw[Sq.dlt hi,zb,gd_t (inB_t (by omega)),za,gd_t (inB_t hi),qbd,show((p.1,p.2.1,p.2.2):Pl)=p from rfl,show((n.2.2.2.1.getD i ([],0,0,0,0)).2).1=(n.2.2.2.1.getD i sta0).2.1 from rfl,qA4,qA8 h hi]
  unfold qmK at hq;rw[z8] at hq;rw[hq.1];simp only[zb,z7,hq.2,dec_t,zg,zc,Sum.elim_inr]
 ·rw[dec_f]; rfl
theorem qvb(h:szB n p=true):(need p).length=n.2.1.length+n.2.2.1.length:=by
 have:=qsM.1 h;unfold need; rw[ze,qkx,qkx]; omega
theorem qFI(d:Dk)(hl:(need d.2).length<=d.1.length)(hs:d.1.length<=1000):iter (fun x=>qco d (need d.2) x.1 x.2) (0,need d.2)=some (bif rdyB d then .inl () else .inr 21):=by
 refine qa1 (step:=fun x:Int×List Bool=>qco d (need d.2) x.1 x.2) (need d.2).length (fun i=>((i:Int),need d.2)) (fun i=>!(need d.2).getD i false || qeh (d.1.getD i v0)) (fin:=.inl ()) (bad:=.inr 21) (fun i hi _ hq=>?_) (fun i hi _ hq=>?_) (fun _=>?_)
 ·show qco d (need d.2) (i:Int) (need d.2)=_;unfold qco;rw[dec_t (show(i:Int)<((need d.2).length:Int) by omega),zb,gd_t (inB_t hi),gd_t (inB_t (by omega)),za,show(d.1.getD i (0,0,false,false))=d.1.getD i v0 from rfl,qva,w1 hi]
  cases hp:(need d.2).getD i false with
  | false=>rfl
  | true=>
   rw[hp] at hq;simp only[zg,zj2] at hq;rw[hq]; rfl
 ·show qco d (need d.2) (i:Int) (need d.2)=_;unfold qco;rw[dec_t (show(i:Int)<((need d.2).length:Int) by omega),zb,gd_t (inB_t hi),gd_t (inB_t (by omega)),za,show(d.1.getD i (0,0,false,false))=d.1.getD i v0 from rfl,qva]
  rw[z22] at hq;have h1:(need d.2).getD i false=true:=by simpa using hq.1
  rw[h1,hq.2]; rfl
 ·show qco d (need d.2) (((need d.2).length:Nat):Int) (need d.2)=_;unfold qco;rw[dec_f]; rfl
theorem qEJ(d:Dk)(hl:(need d.2).length<=d.1.length)(hs:d.1.length<=1000):iter (fun x=>qbS d x.1 x.2) (0,need d.2)=some (bif rdyB d then .inl () else .inr 21):=by
 refine qa1 (step:=fun x:Int×List Bool=>qbS d x.1 x.2) (need d.2).length (fun i=>((i:Int),need d.2)) (fun i=>!(need d.2).getD i false || qeh (d.1.getD i v0)) (fin:=.inl ()) (bad:=.inr 21) (fun i hi _ hq=>?_) (fun i hi _ hq=>?_) (fun _=>?_)
 ·show qbS d (i:Int) (need d.2)=_;unfold qbS;have hB:inB (i:Int) d.1.length=true:=inB_t (by omega)
  rw[dec_t (show(i:Int)<((need d.2).length:Int) by omega),zb,gd_t (inB_t hi)]
  simp only[gd_t hB,za];rw[show(d.1.getD i (0,0,false,false))=d.1.getD i v0 from rfl,qu9,w1 hi]
  cases hp:(need d.2).getD i false with
  | false=>rfl
  | true=>
   rw[hp] at hq;simp only[zg,zj2] at hq;unfold qeh at hq;rw[z8,z8] at hq;rw[hq.1,hq.2.1,hq.2.2]; rfl
 ·show qbS d (i:Int) (need d.2)=_;unfold qbS;have hB:inB (i:Int) d.1.length=true:=inB_t (by omega)
  rw[dec_t (show(i:Int)<((need d.2).length:Int) by omega),zb,gd_t (inB_t hi)]
  simp only[gd_t hB,za];rw[show(d.1.getD i (0,0,false,false))=d.1.getD i v0 from rfl,qu9]
  rw[z22] at hq;have h1:(need d.2).getD i false=true:=by simpa using hq.1
  have h2:=hq.2;unfold qeh at h2;rw[h1];revert h2;cases qcx (d.1.getD i v0) <;> cases decide ((d.1.getD i v0).2.1=(d.1.getD i v0).1) <;> cases(d.1.getD i v0).2.2.1 <;> intro h2 <;> first | rfl | cases h2
 ·show qbS d (((need d.2).length:Nat):Int) (need d.2)=_;unfold qbS;rw[dec_f]; rfl
theorem qvc(hn:VNet n):qhE n=some ((n.2.1.length+n.2.2.1.length:Nat):Int):=by
 have:=hn.small.sg;have:=hn.small.po;unfold qhE;rw[wi (by omega)]; rfl
theorem qA9(hn:VNet n):qdJ n=some ((n.2.1.length+n.2.2.1.length:Nat):Int):=qvc hn
theorem qjz(n:Net)(d:Dk):qka n d=some (qe3 n d):=by
 unfold qka qe3;rw[qbd,qcK,z7];by_cases h0:qbs n=0
 ·have hn:=VNet.of h0;have m1:=hn.small.sg;have m2:=hn.small.po;rw[dec_t h0,if_neg (fun e=>e h0),zg,zc,qvc hn,z7,natdec]
  have e1:(bif !decide (d.1.length=n.2.1.length+n.2.2.1.length) then some true
    else(qat d.1 (fun h=>(qhG h.1).bind fun y=>some y)).bind fun r3=>some r3)=some (!vlB n d.1):=by
   unfold vlB;by_cases hl:d.1.length=n.2.1.length+n.2.2.1.length
   ·rw[dec_t hl,zg,zc,qla d.1 (fun v=>!qcx v) _ (fun v _=>by
     show(qhG v).bind _=_;unfold qhG;rw[show((v.1,v.2.1,v.2.2.1,v.2.2.2):Vl)=v from rfl,valid_eq]; rfl) (by omega),z7,zL]
    congr 1;simp[zc1]
   ·rw[dec_f hl]; rfl
  rw[e1,z7];cases hv:vlB n d.1 with
  | false=>rfl
  | true=>
   have hl:d.1.length=n.2.1.length+n.2.2.1.length:=by
    unfold vlB at hv; rw[z8,zz] at hv; exact hv.1
   simp only[zg,zc,zb];rw[show((d.2.1,d.2.2.1,d.2.2.2):Pl)=d.2 from rfl,qjy,z7,qA6,z7]
   by_cases hp:qbm n d.2=0
   ·have hz:=(VPl.of hp).sz;have hnl:=qvb hz;have hzl:=(VPl.of hp).len;rw[dec_t hp,if_neg (fun e=>e hp),if_neg (fun e=>e hp)]
    simp only[zg,zc,zG2];rw[qtL _ _ (by rw[qkx]; omega) (by rw[qkx]; omega),z7,show nz d.2.1++nz d.2.2.1=need d.2 from rfl,qFI d (by omega) (by omega),z7]
    cases rdyB d with
    | false=>rfl
    | true=>
     simp only[zb,za1];rw[qyx hp,z7];cases idleB n d.2 <;> rfl
   ·rw[dec_f hp,if_pos hp,if_pos hp]; rfl
 ·rw[dec_f h0,if_pos h0]; rfl
theorem qnq(n:Net)(d:Dk):qi1 n d=some (qe3 n d):=by
 unfold qi1 qe3;rw[qbd,qcL,z7];by_cases h0:qbs n=0
 ·have hn:=VNet.of h0;have m1:=hn.small.sg;have m2:=hn.small.po;rw[dec_t h0,if_neg (fun e=>e h0),zg,zc]
  have e1:qju n d.1=some (bif vlB n d.1 then 0 else 20):=by
   unfold qju vlB;rw[qbd,qA9 hn,z7,natdec];by_cases hl:d.1.length=n.2.1.length+n.2.2.1.length
   ·rw[dec_t hl,zg,zc,zL];have:=scanL (step:=fun x=>qi0 d.1 x) d.1 v0 qcx (bad:=(20:Int)) (fun i hi hq=>?_) (fun i hi hq=>?_) ?_
    ·rw[this,z7];cases d.1.all qcx <;> rfl
    all_goals unfold qi0
    ·rw[Sq.dlt hi,zb,gd_t (inB_t hi),za,rvalid_eq,z7,hq,w1 hi]; rfl
    ·rw[Sq.dlt hi,zb,gd_t (inB_t hi),za,rvalid_eq,z7,hq]; rfl
    ·rw[dec_f]; rfl
   ·rw[dec_f hl]; rfl
  rw[e1,z7];cases hv:vlB n d.1 with
  | false=>rfl
  | true=>
   have hl:d.1.length=n.2.1.length+n.2.2.1.length:=by
    unfold vlB at hv; rw[z8,zz] at hv; exact hv.1
   simp only[zb,zG2,zg,zc];rw[show((d.2.1,d.2.2.1,d.2.2.2):Pl)=d.2 from rfl,qqG,z7]
   by_cases hp:qbm n d.2=0
   ·have hz:=(VPl.of hp).sz;have hnl:=qvb hz;have hzl:=(VPl.of hp).len;rw[dec_t hp,if_neg (fun e=>e hp)]
    simp only[zg,zc];rw[qyw _ (by omega) (by omega),z7,qA5 _ _ (by rw[qkx]; omega) (by rw[qkx]; omega),z7,show nz d.2.1++nz d.2.2.1=need d.2 from rfl,qEJ d (by omega) (by omega),z7]
    cases rdyB d with
    | false=>rfl
    | true=>
     simp only[zb,za1];rw[qxt hp,z7];cases idleB n d.2 <;> rfl
   ·rw[dec_f hp,if_pos hp]; rfl
 ·rw[dec_f h0,if_pos h0]; rfl
end
abbrev Hop:=Int×Bool
abbrev Pth:=Int×Int×List Hop×Int
abbrev Stp:=Int×Int×Int×Pth
structure DkS(d:Dk):Prop where
 v:d.1.length<=100000
 r:d.2.1.length<=100000
 p:d.2.2.1.length<=100000
 b:d.2.2.2.length<=100000
theorem qFJ(l:List Vl)(h:l.length<=100000):qa8 l=some l:=by
 unfold qa8;rw[gd_t (qaF (by omega)),zF]
theorem qD2(l:List Int)(h:l.length<=100000):qck l=some l:=by
 unfold qck;rw[gd_t (qaF (by omega)),zF]
theorem qFK(l:List Bool)(h:l.length<=100000):qcQ l=some l:=by
 unfold qcQ;rw[gd_t (qaF (by omega)),zF]
theorem qBa{d:Dk}(h:DkS d):qiF d=some d:=by
 unfold qiF;rw[qFJ _ h.v,z7,qD2 _ h.r,z7,qD2 _ h.p,z7,qFK _ h.b]; rfl
theorem qCK{p:Pl}(h1:p.1.length<=100000)(h2:p.2.1.length<=100000)(h3:p.2.2.length<=100000):qhg p=some p:=by
 unfold qhg;rw[gd_t (qaF (by omega)),gd_t (qaF (by omega)),gd_t (qaF (by omega))]; rfl
theorem qqa{d:Dk}(h:DkS d):qeW d=some d:=by
 unfold qeW;have:=h.v;rw[gd_t (qaF (by omega)),show((d.2.1,d.2.2.1,d.2.2.2):Pl)=d.2 from rfl,qCK h.r h.p h.b]; rfl
/-! ### Kinds -/
def bareP(x:Pth):Bool:=decide (x.1=0)&&(decide (x.2.1=0)&&(decide ((x.2.2.1.length:Int)=0)&&decide (x.2.2.2=0)))
def qq2(s:Stp):Bool:=bif decide (s.1=1) || (decide (s.1=2) || (decide (s.1=3) || decide (s.1=4))) then decide (s.2.2.1=0)&&bareP s.2.2.2
 else bif decide (s.1=5) then decide (s.2.1=0)&&decide (s.2.2.2.2.2.2=0) else bif decide (s.1=6) then decide (s.2.1=0)&&bareP s.2.2.2 else false
theorem qyy(k:Int):Option.bind (α:=Bool) (bif decide (k=1) then some (decide (k=1)) else(
  Option.bind (α:=Bool) (bif decide (k=2) then some (decide (k=2)) else(
  Option.bind (α:=Bool) (bif decide (k=3) then some (decide (k=3)) else some (decide (k=4))) fun s2=>some s2)) fun s3=>some s3)) some=some (decide (k=1) || (decide (k=2) || (decide (k=3) || decide (k=4)))):=by
 cases decide (k=1) <;> cases decide (k=2) <;> cases decide (k=3) <;> cases decide (k=4) <;> rfl
theorem bareX(x:Pth):(bif decide (x.1=0) then bif decide (x.2.1=0) then bif decide ((x.2.2.1.length:Int)=0) then some (decide (x.2.2.2=0)) else some false else some false else some false)=some (bareP x):=by
 unfold bareP;cases decide (x.1=0) <;> cases decide (x.2.1=0) <;> cases decide ((x.2.2.1.length:Int)=0) <;> rfl
theorem qEK(x:Pth):qnf x=some (bareP x):=bareX x
theorem qBb{A B:Type}{x:Option A}{a:A}{f:A->Option B}(h:Option.bind x some=some a):Option.bind x f=f a:=by
 rw[show x=some a by rw[<-h]; cases x <;> rfl]; rfl
theorem qCL(s:Stp):qm1 s=some (qq2 s):=by
 unfold qm1 qq2;have eb:(bif decide (s.2.2.2.1=0) then bif decide (s.2.2.2.2.1=0) then bif decide ((s.2.2.2.2.2.1.length:Int)=0) then some (decide (s.2.2.2.2.2.2=0)) else some false else some false else some false)=some (bareP s.2.2.2):=bareX s.2.2.2;rw[eb,z7];refine(qBb (qyy s.1)).trans ?_
 cases decide (s.1=1) || (decide (s.1=2) || (decide (s.1=3) || decide (s.1=4))) <;> cases decide (s.2.2.1=0) <;> cases decide (s.1=5) <;> cases decide (s.2.1=0) <;> cases decide (s.1=6) <;> rfl
theorem qBc(s:Stp):qjw s=some (qq2 s):=by
 unfold qjw qq2;refine(qBb (qyy s.1)).trans ?_
 rw[show((s.2.2.2.1,s.2.2.2.2.1,s.2.2.2.2.2.1,s.2.2.2.2.2.2):Pth)=s.2.2.2 from rfl,qEK,z7]
 cases decide (s.1=1) || (decide (s.1=2) || (decide (s.1=3) || decide (s.1=4))) <;> cases decide (s.2.2.1=0) <;> cases decide (s.1=5) <;> cases decide (s.2.1=0) <;> cases decide (s.1=6) <;> rfl
/-! ### Paths -/
def sgH(n:Net)(h:Hop):Seg:=n.2.1.getD h.1.toNat sg0
def hopF(n:Net)(h:Hop):Int:=if h.2=true then(sgH n h).2.2.1 else(sgH n h).2.1
def hopT(n:Net)(h:Hop):Int:=if h.2=true then(sgH n h).2.1 else(sgH n h).2.2.1
def hopOk(n:Net)(h:Hop):Bool:=decide (0<=h.1)&&decide (h.1<(n.2.1.length:Int))
def walk(n:Net):List Hop->Int->List Int->Option Int
 | [],at',_=>some at'
 | h::r,at',ps=>bif hopOk n h&&(decide (hopF n h=at')&&!decide (hopT n h∈ps)) then walk n r (hopT n h) (ps++[hopT n h]) else none
def qeN(n:Net)(i:Int):Int:=(n.2.2.1.getD i.toNat po0).2.1
def isPt(n:Net)(i:Int):Bool:=decide (0<=i)&&decide (i<(n.2.2.1.length:Int))
def pathB(n:Net)(x:Pth):Bool:=(isPt n x.1&&(isPt n x.2.1&&(!decide (x.1=x.2.1)&&(decide (1<=x.2.2.2)&&(decide (x.2.2.2<=1000)&&decide (x.2.2.1.length<=32))))))&&
 (match walk n x.2.2.1 (qeN n x.1) [qeN n x.1] with
  | some a=>decide (a=qeN n x.2.1)
  | none=>false)
section
variable {n:Net}
theorem qBd{h:Hop}:hopOk n h=true↔0<=h.1/\h.1<(n.2.1.length:Int):=by unfold hopOk; rw[z8,zz,zz]
theorem qrx{i:Int}:isPt n i=true↔0<=i/\i<(n.2.2.1.length:Int):=by unfold isPt; rw[z8,zz,zz]
theorem qyz{h:Hop}(ho:hopOk n h=true):qm2 n h=some (hopF n h,hopT n h):=by
 have:=qBd.1 ho;unfold qm2;rw[gd_t (qar.2 (by omega))]
 unfold hopF hopT sgH;cases h.2 <;> rfl
theorem qBe{h:Hop}(ho:hopOk n h=true):qqz n h=some (hopF n h,hopT n h):=qyz ho
theorem qEL(l:List Int)(v:Int)(hl:l.length<=1000000):qcp l v=some (decide (v∈l)):=by
 unfold qcp qe2;have h:iter (fun x=>qbc l v x) 0=some (if l.findIdx (fun x=>decide (v=x))<l.length then .inr ((l.findIdx (fun x=>decide (v=x)):Nat):Int) else .inl ()):=by
  refine qeK (step:=fun y=>qbc l v y) (ε:=Unit⊕Int) l 0 (fun x=>decide (v=x)) (fin:=.inl ()) (fun i=>.inr (i:Int)) (fun i hi hq=>?_) (fun i hi hq=>?_) ?_
  ·unfold qbc;rw[Sq.dlt hi,zb,gd_t (inB_t hi),za,hq,zc,w1 hi]
  ·unfold qbc;rw[Sq.dlt hi,zb,gd_t (inB_t hi),za,hq,zb]
  ·unfold qbc;rw[dec_f]; rfl
 rw[h,z7];by_cases hf:l.findIdx (fun x=>decide (v=x))<l.length
 ·have hm:v∈l:=by
   obtain⟨x,hx,he⟩:=zw2.1 hf;rw[zx he]; exact hx
  rw[if_pos hf,dec_t hm];show some (decide ((0:Int)<=_))=_;rw[dec_t]
 ·have hm:¬v∈l:=fun hm=>hf (zw2.2 ⟨v,hm,by simp⟩)
  rw[if_neg hf,dec_f hm]; rfl
theorem hopD(h:Hop)(ps:List Int):(bif decide (h.1<0) then some (true,ps) else some (decide ((n.2.1.length:Int)<=h.1),ps))=some (!hopOk n h,ps):=by
 unfold hopOk;by_cases a:h.1<0
 ·rw[dec_t a,dec_f (show ¬0<=h.1 by omega)]; rfl
 ·rw[dec_f a,dec_t (show 0<=h.1 by omega),zc,zL]
  by_cases b:(n.2.1.length:Int)<=h.1
  ·rw[dec_t b,dec_f]; rfl
  ·rw[dec_f b,dec_t]; rfl
theorem drop_cons{A:Type}{l:List A}{i:Nat}(d:A)(h:i<l.length):l.drop i=l.getD i d::l.drop (i+1):=by
 rw[z51 h,gD_eq h]
def wres(o:Option Int):Int⊕Bool:=match o with
 | some a=>.inl a
 | none=>.inr false
theorem qCM(x:Pth)(hx:x.2.2.1.length<=1000):∀(m i:Nat) (a:Int) (ps:List Int),i+m=x.2.2.1.length->ps.length<=i+1->
  iter (fun y=>qdc n x y.1 y.2.1 y.2.2) (a,(i:Int),ps)=some (wres (walk n (x.2.2.1.drop i) a ps)):=by
 intro m;induction m with
 | zero=>
  intro i a ps hi hp;rw[qas (e:=.inl a) (by show qdc n x a (i:Int) ps=_; unfold qdc; rw[dec_f]; rfl),z21 (by omega)]; rfl
 | succ m ih=>
  intro i a ps hi hp;have hi':i<x.2.2.1.length:=by omega
  have hstep:qdc n x a (i:Int) ps=(bif hopOk n (x.2.2.1.getD i (0,false))&&(decide (hopF n (x.2.2.1.getD i (0,false))=a)&&!decide (hopT n (x.2.2.1.getD i (0,false))∈ps)) then some (.inl (hopT n (x.2.2.1.getD i (0,false)),((i+1:Nat):Int),ps++[hopT n (x.2.2.1.getD i (0,false))])) else some (.inr (.inr false))):=by
   unfold qdc;rw[dec_t (show(i:Int)<(x.2.2.1.length:Int) by omega),zb,gd_t (inB_t hi'),za]
   generalize x.2.2.1.getD i (0,false)=h;rw[hopD h ps,z7];cases ho:hopOk n h with
   | false=>rfl
   | true=>
    simp only[zg,zc,zL];rw[show((h.1,h.2):Hop)=h from rfl,qyz ho,z7]
    cases hf:decide (hopF n h=a) with
    | false=>rfl
    | true=>
     simp only[zg,zc,zL];rw[qEL ps _ (by omega),z7,z7]
     cases hm:decide (hopT n h∈ps) with
     | true=>rfl
     | false=>
      simp only[zc,zu1,zb];rw[gd_t (qaF (by omega)),w1 hi']
  rw[drop_cons (0,false) hi'];unfold walk;cases hc:(hopOk n (x.2.2.1.getD i (0,false))&&(decide (hopF n (x.2.2.1.getD i (0,false))=a)&&!decide (hopT n (x.2.2.1.getD i (0,false))∈ps))) with
  | false=>rw[hc] at hstep; rw[qas hstep]; rfl
  | true=>
   rw[hc] at hstep;rw[qaJ hstep,ih (i+1) _ _ (by omega) (by rw[ze]; simp only[zf,zo]; omega)]; rfl
theorem qCN(r:Int×Int)(ps:List Int)(hp:ps.length<=2000):iter (fun y=>qbT r y.1 y.2) (0,ps)=some (bif decide (r.2∈ps) then .inr false else .inl ps):=by
 have:=qa1 (step:=fun y:Int×List Int=>qbT r y.1 y.2) ps.length (fun i=>((i:Int),ps)) (fun i=>!decide (ps.getD i 0=r.2)) (fin:=.inl ps) (bad:=.inr false) (fun i hi _ hq=>?_) (fun i hi _ hq=>?_) (fun _=>?_)
 ·refine Eq.trans this ?_
  have e:(List.range ps.length).all (fun i=>!decide (ps.getD i 0=r.2))=!decide (r.2∈ps):=by
   rw[zT,zq];simp only[zt,z52];constructor
   ·intro h hm;obtain⟨k,hk,e⟩:=qv8 0 hm;exact h k (zU.2 hk) e
   ·intro h k hk e;exact h (e ▸ qbu (zU.1 hk))
  rw[e];cases decide (r.2∈ps) <;> rfl
 ·show qbT r (i:Int) ps=_;unfold qbT;have hq:decide (ps.getD i 0=r.2)=false:=by simpa using hq
  rw[Sq.dlt hi,zb,gd_t (inB_t hi),za,hq,w1 hi]; rfl
 ·show qbT r (i:Int) ps=_;unfold qbT;have hq:decide (ps.getD i 0=r.2)=true:=by simpa using hq
  rw[Sq.dlt hi,zb,gd_t (inB_t hi),za,hq]; rfl
 ·show qbT r ((ps.length:Nat):Int) ps=_;unfold qbT;rw[dec_f]; rfl
theorem qBf(x:Pth)(hx:x.2.2.1.length<=1000):∀(m i:Nat) (a:Int) (ps:List Int),i+m=x.2.2.1.length->ps.length<=i+1->
  iter (fun y=>qdm n x y.1 y.2.1 y.2.2) (a,(i:Int),ps)=some (wres (walk n (x.2.2.1.drop i) a ps)):=by
 intro m;induction m with
 | zero=>
  intro i a ps hi hp;rw[qas (e:=.inl a) (by show qdm n x a (i:Int) ps=_; unfold qdm; rw[dec_f]; rfl),z21 (by omega)]; rfl
 | succ m ih=>
  intro i a ps hi hp;have hi':i<x.2.2.1.length:=by omega
  have hstep:qdm n x a (i:Int) ps=(bif hopOk n (x.2.2.1.getD i (0,false))&&(decide (hopF n (x.2.2.1.getD i (0,false))=a)&&!decide (hopT n (x.2.2.1.getD i (0,false))∈ps)) then some (.inl (hopT n (x.2.2.1.getD i (0,false)),((i+1:Nat):Int),ps++[hopT n (x.2.2.1.getD i (0,false))])) else some (.inr (.inr false))):=by
   unfold qdm;have hB:inB (i:Int) x.2.2.1.length=true:=inB_t hi';rw[dec_t (show(i:Int)<(x.2.2.1.length:Int) by omega),zb]
   simp only[gd_t hB,za];rw[hopD (x.2.2.1.getD i (0,false)) ps,z7];cases ho:hopOk n (x.2.2.1.getD i (0,false)) with
   | false=>rfl
   | true=>
    simp only[zg,zc,zL];rw[qbd,qBe ho,z7];cases hf:decide (hopF n (x.2.2.1.getD i (0,false))=a) with
    | false=>rfl
    | true=>
     simp only[zg,zc,zL];rw[qCN _ _ (by omega),z7]
     simp only;cases hm:decide (hopT n (x.2.2.1.getD i (0,false))∈ps) with
     | true=>rfl
     | false=>
      simp only[zc,zu1,zb,za1];rw[gd_t (qaF (by omega)),w1 hi']
  rw[drop_cons (0,false) hi'];unfold walk;cases hc:(hopOk n (x.2.2.1.getD i (0,false))&&(decide (hopF n (x.2.2.1.getD i (0,false))=a)&&!decide (hopT n (x.2.2.1.getD i (0,false))∈ps))) with
  | false=>rw[hc] at hstep; rw[qas hstep]; rfl
  | true=>
   rw[hc] at hstep;rw[qaJ hstep,ih (i+1) _ _ (by omega) (by rw[ze]; simp only[zf,zo]; omega)]; rfl
theorem notlt(a b:Int):decide (a<b)=!decide (b<=a):=by
 by_cases h:a<b
 ·rw[dec_t h,dec_f]; rfl
 ·rw[dec_f h,dec_t]; rfl
theorem qCO(x:Pth):qkR n x=some (pathB n x):=by
 unfold qkR pathB qii;have e0:∀i:Int,(bif decide (0<=i) then some (decide (i<(n.2.2.1.length:Int))) else some false)=some (isPt n i):=fun i=>by unfold isPt; cases decide (0<=i) <;> rfl
 rw[e0,z7,e0,z7,notlt x.2.2.2 1,notlt 1000 x.2.2.2,notlt 32 (x.2.2.1.length:Int),show decide ((x.2.2.1.length:Int)<=32)=decide (x.2.2.1.length<=32) by congr 1; rw[eq_iff_iff]; omega]
 cases h1:isPt n x.1 with
 | false=>rfl
 | true=>
 cases h2:isPt n x.2.1 with
 | false=>rfl
 | true=>
 cases h3:decide (x.1=x.2.1) with
 | true=>rfl
 | false=>
 cases h4:decide (1<=x.2.2.2) with
 | false=>rfl
 | true=>
 cases h5:decide (x.2.2.2<=1000) with
 | false=>rfl
 | true=>
 cases h6:decide (x.2.2.1.length<=32) with
 | false=>rfl
 | true=>
  have h6:=zx h6;have a1:=qrx.1 h1;have a2:=qrx.1 h2;simp only[zg,zc,zL,zu1,z7];rw[gd_t (qar.2 (by omega))]
  have:=qCM (n:=n) x (by omega) x.2.2.1.length 0 (qeN n x.1) [qeN n x.1] (by omega) (by simp)
  rw[show((n.2.2.1.getD x.1.toNat ([],0,0)).2).1=qeN n x.1 from rfl,show((n.2.2.1.getD x.2.1.toNat ([],0,0)).2).1=qeN n x.2.1 from rfl]
  have this:iter (fun y=>qdc n x y.1 y.2.1 y.2.2) (qeN n x.1,(0:Int),[qeN n x.1])=some (wres (walk n x.2.2.1 (qeN n x.1) [qeN n x.1])):=this
  rw[this,z7];cases walk n x.2.2.1 (qeN n x.1) [qeN n x.1] with
  | none=>rfl
  | some a=>
   show gd _ _=_;rw[gd_t (qar.2 (by omega))]
theorem qBg(x:Pth):qk6 n x=some (pathB n x):=by
 unfold qk6 pathB;have e0:∀i:Int,decide (i<0)=(decide (i<0)&&!isPt n i):=fun i=>by
  unfold isPt;by_cases a:i<0
  ·rw[dec_t a,dec_f (show ¬0<=i by omega)]; rfl
  ·rw[dec_f a]; rfl
 rw[notlt x.2.2.2 1,notlt 1000 x.2.2.2,notlt 32 (x.2.2.1.length:Int),show decide ((x.2.2.1.length:Int)<=32)=decide (x.2.2.1.length<=32) by congr 1; rw[eq_iff_iff]; omega,notlt x.1 0,notlt x.2.1 0,
  show decide ((n.2.2.1.length:Int)<=x.1)=!decide (x.1<(n.2.2.1.length:Int)) by rw[notlt,zg2],show decide ((n.2.2.1.length:Int)<=x.2.1)=!decide (x.2.1<(n.2.2.1.length:Int)) by rw[notlt,zg2]]
 have f1:isPt n x.1=(decide (0<=x.1)&&decide (x.1<(n.2.2.1.length:Int))):=rfl;have f2:isPt n x.2.1=(decide (0<=x.2.1)&&decide (x.2.1<(n.2.2.1.length:Int))):=rfl;rw[f1,f2];cases g1:decide (0<=x.1) with
 | false=>rfl
 | true=>
 cases h1:decide (x.1<(n.2.2.1.length:Int)) with
 | false=>rfl
 | true=>
 cases g2:decide (0<=x.2.1) with
 | false=>rfl
 | true=>
 cases h2:decide (x.2.1<(n.2.2.1.length:Int)) with
 | false=>rfl
 | true=>
 cases h3:decide (x.1=x.2.1) with
 | true=>rfl
 | false=>
 cases h4:decide (1<=x.2.2.2) with
 | false=>rfl
 | true=>
 cases h5:decide (x.2.2.2<=1000) with
 | false=>rfl
 | true=>
 cases h6:decide (x.2.2.1.length<=32) with
 | false=>rfl
 | true=>
  have h6:=zx h6;have a1:=zx g1;have a2:=zx g2;have a3:=zx h1;have a4:=zx h2;simp only[zg,zc,zL,zu1,z7];rw[gd_t (qar.2 (by omega))]
  have:=qBf (n:=n) x (by omega) x.2.2.1.length 0 (qeN n x.1) [qeN n x.1] (by omega) (by simp)
  rw[show((n.2.2.1.getD x.1.toNat ([],0,0)).2).1=qeN n x.1 from rfl,show((n.2.2.1.getD x.2.1.toNat ([],0,0)).2).1=qeN n x.2.1 from rfl]
  have this:iter (fun y=>qdm n x y.1 y.2.1 y.2.2) (qeN n x.1,(0:Int),[qeN n x.1])=some (wres (walk n x.2.2.1 (qeN n x.1) [qeN n x.1])):=this
  rw[this,z7];cases walk n x.2.2.1 (qeN n x.1) [qeN n x.1] with
  | none=>rfl
  | some a=>
   show gd _ _=_;rw[gd_t (qar.2 (by omega))]
theorem qCP(h0:qbs n=0)(x:Pth):qkS n x=some (pathB n x):=by
 unfold qkS;rw[qbd,qcK,z7,dec_t h0,zb,show((x.1,x.2.1,x.2.2.1,x.2.2.2):Pth)=x from rfl,qCO]; rfl
theorem qBh(h0:qbs n=0)(x:Pth):qk7 n x=some (pathB n x):=by
 unfold qk7;rw[qbd,qcL,z7,dec_t h0,zb,show((x.1,x.2.1,x.2.2.1,x.2.2.2):Pth)=x from rfl,qBg]; rfl
end
structure VDk(n:Net)(d:Dk):Prop where
 net:qbs n=0
 len:d.1.length=n.2.1.length+n.2.2.1.length
 val:d.1.all qcx=true
 pl:qbm n d.2=0
 rdy:rdyB d=true
 idl:idleB n d.2=false
def along(p:Pl)(h:Hop):Int:=if h.2=true then 0-p.1.getD h.1.toNat 0 else p.1.getD h.1.toNat 0
def sgn(h:Hop)(v:Int):Int:=if h.2=true then 0-v else v
def qsP(n:Net)(d:Dk)(x:Pth):Bool:=qeh (d.1.getD (n.2.1.length+x.1.toNat) v0)&&(qeh (d.1.getD (n.2.1.length+x.2.1.toNat) v0)&&x.2.2.1.all fun h=>qeh (d.1.getD h.1.toNat v0))
def ptOk(p:Pl)(x:Pth)(v:Int):Bool:=decide (0<=p.2.1.getD x.1.toNat 0)&&(decide (0<=0-p.2.1.getD x.2.1.toNat 0)&&(decide (0<=p.2.1.getD x.1.toNat 0+v)&&decide (0<=0-p.2.1.getD x.2.1.toNat 0+v)))
def hpOk(p:Pl)(v:Int)(h:Hop):Bool:=decide (0<=along p h)&&decide (0<=along p h+v)
def growB(n:Net)(d:Dk)(x:Pth)(v:Int):Bool:=qsP n d x&&(ptOk d.2 x v&&x.2.2.1.all (hpOk d.2 v))
def growR(l:List Hop)(v:Int)(r:List Int):List Int:=l.foldl (fun r h=>r.set h.1.toNat (r.getD h.1.toNat 0+sgn h v)) r
def growQ(x:Pth)(v:Int)(q:List Int):List Int:=(q.set x.1.toNat (q.getD x.1.toNat 0+v)).set x.2.1.toNat ((q.set x.1.toNat (q.getD x.1.toNat 0+v)).getD x.2.1.toNat 0-v)
def growP(x:Pth)(v:Int)(p:Pl):Pl:=(growR x.2.2.1 v p.1,growQ x v p.2.1,p.2.2)
theorem qsQ(l:List Hop)(v:Int):∀r,(growR l v r).length=r.length:=by
 induction l with
 | nil=>intro r; rfl
 | cons h l ih=>intro r; exact(ih _).trans (zs1 ..)
theorem qtM{l:List Hop}{i:Nat}(hi:i<l.length)(v:Int)(r:List Int):growR (l.take (i+1)) v r=(growR (l.take i) v r).set (l.getD i (0,false)).1.toNat ((growR (l.take i) v r).getD (l.getD i (0,false)).1.toNat 0+sgn (l.getD i (0,false)) v):=by
 unfold growR;rw[qdP (0,false) hi,List.foldl_append]; rfl
theorem qsR{k:Nat}(v:Int):∀(l:List Hop) (r:List Int),(∀h∈l,h.1.toNat≠k)->(growR l v r).getD k 0=r.getD k 0
 | [],_,_=>rfl
 | h::l,r,hl=>by
  show(growR l v _).getD k 0=_;rw[qsR v l _ fun h' hh=>hl h' (by simp[hh]),qle,if_neg (fun e=>hl h (by simp) e.1)]
theorem qCQ(v:Int)(hv : -1000<=v/\v<=1000){b:Int}:∀(l:List Hop) (r:List Int),(∀k,-b<=r.getD k 0/\r.getD k 0<=b)->∀k,-b-1000*l.length<=(growR l v r).getD k 0/\(growR l v r).getD k 0<=b+1000*l.length:=by
 intro l;induction l generalizing b with
 | nil=>intro r h k; have:=h k; simpa[growR] using this
 | cons h l ih=>
  intro r hr k;have:=ih (b:=b+1000) (r.set h.1.toNat (r.getD h.1.toNat 0+sgn h v)) (fun j=>by
   rw[qle];have h1:=hr h.1.toNat;have h2:=hr j;split
   ·unfold sgn; split <;> omega
   ·omega) k
  rw[show growR (h::l) v r=growR l v (r.set h.1.toNat (r.getD h.1.toNat 0+sgn h v)) from rfl,zf]
  omega
theorem qsS{A:Type}(f g:A->Bool):∀l:List A,(l.any fun h=>!(f h&&g h))=!(l.all f&&l.all g)
 | []=>rfl
 | a::l=>by
  rw[List.any_cons,z41,z41,qsS f g l];cases f a <;> cases g a <;> cases l.all f <;> cases l.all g <;> rfl
theorem qBi(x:Pth)(v:Int)(q:List Int):(growQ x v q).length=q.length:=by unfold growQ; rw[zs1,zs1]
section
variable {n:Net}
theorem VDk.of{d:Dk}(h:qe3 n d=0):VDk n d:=by
 unfold qe3 at h;by_cases h0:qbs n=0
 ·rw[if_neg (fun e=>e h0)] at h
  obtain⟨h1,h⟩:=qoj (by decide) h
  unfold vlB at h1;rw[z8,zz] at h1;by_cases hp:qbm n d.2=0
  ·rw[if_neg (fun e=>e hp)] at h
   obtain⟨h2,h⟩:=qoj (by decide) h
   cases hi:idleB n d.2 with
   | true=>rw[hi] at h; cases h
   | false=>exact⟨h0,h1.1,h1.2,hp,h2,hi⟩
  ·rw[if_pos hp] at h; exact absurd h hp
 ·rw[if_pos h0] at h; exact absurd h h0
theorem VDk.to{d:Dk}(h:VDk n d):qe3 n d=0:=by
 unfold qe3 vlB;rw[if_neg (fun e=>e h.net),dec_t h.len,h.val,if_neg (fun e=>e h.pl),h.rdy,h.idl]; rfl
theorem VDk.sz{d:Dk}(h:VDk n d):d.2.1.length=n.2.1.length/\d.2.2.1.length=n.2.2.1.length/\d.2.2.2.length=n.2.2.2.1.length:=(VPl.of h.pl).len
theorem VDk.small{d:Dk}(h:VDk n d):DkS d:=by
 have hn:=(VNet.of h.net).small;have:=h.len; have:=h.sz; have:=hn.sg; have:=hn.po; have:=hn.st;exact⟨by omega,by omega,by omega,by omega⟩
structure VPa(n:Net)(x:Pth):Prop where
 i:0<=x.1/\x.1<(n.2.2.1.length:Int)
 o:0<=x.2.1/\x.2.1<(n.2.2.1.length:Int)
 ne:x.1≠x.2.1
 hl:x.2.2.1.length<=32
 h:∀h∈x.2.2.1,0<=h.1/\h.1<(n.2.1.length:Int)
 d:∀i j,i<j->j<x.2.2.1.length->(x.2.2.1.getD i (0,false)).1≠(x.2.2.1.getD j (0,false)).1
theorem qxu:∀ {l:List Hop} {a:Int} {ps:List Int} {b:Int},walk n l a ps=some b->∀h∈l,(0<=h.1/\h.1<(n.2.1.length:Int))/\hopT n h∉ps
 | [],_,_,_,_=>fun h hh=>by cases hh
 | h::l,a,ps,b,hw=>by
  unfold walk at hw;cases hc:(hopOk n h&&(decide (hopF n h=a)&&!decide (hopT n h∈ps))) with
  | false=>rw[hc] at hw; cases hw
  | true=>
   rw[hc,zb] at hw;rw[z8,z8] at hc;intro h' hh;rcases zy.1 hh with rfl | hh
   ·exact⟨qBd.1 hc.1,by simpa using hc.2.2⟩
   ·have:=qxu hw h' hh;exact⟨this.1,fun hm=>this.2 (List.mem_append_left _ hm)⟩
theorem qBj:∀ {l:List Hop} {a:Int} {ps:List Int} {b:Int},a∈ps->walk n l a ps=some b->∀i j,i<j->j<l.length->(l.getD i (0,false)).1≠(l.getD j (0,false)).1
 | [],_,_,_,_,_=>fun i j _ hj=>by cases hj
 | h::l,a,ps,b,ha,hw=>by
  unfold walk at hw;cases hc:(hopOk n h&&(decide (hopF n h=a)&&!decide (hopT n h∈ps))) with
  | false=>rw[hc] at hw; cases hw
  | true=>
   rw[hc,zb] at hw;rw[z8,z8,zz] at hc;have hrec:=qBj (List.mem_append_right ps (zZ.2 rfl)) hw;have all:=qxu hw;intro i j hij hj;cases j with
   | zero=>omega
   | succ j=>
    cases i with
    | succ i=>exact hrec i j (by omega) (by simpa using hj)
    | zero=>
     show h.1≠(l.getD j (0,false)).1;intro e;have hm:l.getD j (0,false)∈l:=qbu (by simpa using hj)
     refine(all _ hm).2 ?_
     have es:sgH n (l.getD j (0,false))=sgH n h:=by unfold sgH; rw[e]
     have:hopT n (l.getD j (0,false))=hopT n h\/hopT n (l.getD j (0,false))=hopF n h:=by
      unfold hopT hopF;rw[es];cases(l.getD j (0,false)).2 <;> cases h.2 <;> simp
     rcases this with h1 | h1
     ·rw[h1]; exact List.mem_append_right _ (zZ.2 rfl)
     ·rw[h1,hc.2.1]; exact List.mem_append_left _ ha
theorem VPa.of{x:Pth}(h:pathB n x=true):VPa n x:=by
 unfold pathB at h;simp only[z8,zt,zz,z52] at h;obtain⟨⟨h1,h2,h3,h4,h5,h6⟩,hw⟩:=h;split at hw
 ·rename_i a ha;exact⟨qrx.1 h1,qrx.1 h2,h3,h6,fun h hh=>(qxu ha h hh).1,qBj (zZ.2 rfl) ha⟩
 ·cases hw
theorem qvd{d:Dk}{i:Int}(h0:0<=i)(h1:i<(d.1.length:Int)):qfT i d=some (qeh (d.1.getD i.toNat v0)):=by
 unfold qfT;rw[gd_t (qar.2 ⟨h0,h1⟩),show(d.1.getD i.toNat (0,0,false,false))=d.1.getD i.toNat v0 from rfl,qva]; rfl
theorem VDk.rate{d:Dk}(h:VDk n d)(k:Nat) : -1000<=d.2.1.getD k 0/\d.2.1.getD k 0<=1000:=(VPl.of h.pl).rb.s k
theorem VDk.prate{d:Dk}(h:VDk n d)(k:Nat) : -1000<=d.2.2.1.getD k 0/\d.2.2.1.getD k 0<=1000:=(VPl.of h.pl).rb.q k
theorem qCR{d:Dk}(hd:VDk n d){h:Hop}(hh:0<=h.1/\h.1<(n.2.1.length:Int)):qm3 d.2 h=some (along d.2 h):=by
 have:=hd.sz;have hr:=hd.rate h.1.toNat;unfold qm3 along;rw[gd_t (qar.2 (by omega)),gd_t (qar.2 (by omega)),wi (by omega)]
 cases h.2 <;> rfl
theorem qCS{d:Dk}(hd:VDk n d){v:Int}(hv : -1000<=v/\v<=1000){h:Hop}(hh:0<=h.1/\h.1<(n.2.1.length:Int)):qfU h d d v=some (!(qeh (d.1.getD h.1.toNat v0)&&hpOk d.2 v h)):=by
 have hr:=hd.rate h.1.toNat;have hb : -1000<=along d.2 h/\along d.2 h<=1000:=by unfold along; split <;> omega
 have hl:=hd.len;unfold qfU;rw[show((h.1,h.2):Hop)=h from rfl,qCR hd hh,z7,qvd hh.1 (by omega),z7,wi (by omega)]
 unfold hpOk;rw[notlt (along d.2 h) 0,notlt (along d.2 h+v) 0];cases qeh (d.1.getD h.1.toNat v0) <;> cases decide (0<=along d.2 h) <;> cases decide (0<=along d.2 h+v) <;> rfl
theorem qCT{d:Dk}(hd:VDk n d){x:Pth}(hx:VPa n x){v:Int}(hv : -1000<=v/\v<=1000):qm4 n d x v=some (growB n d x v):=by
 have hz:=hd.sz;have hl:=hd.len;have hi:=hx.i;have ho:=hx.o;have b1:=hd.prate x.1.toNat;have b2:=hd.prate x.2.1.toNat;have hn:=(VNet.of hd.net).small;have m1:=hn.sg;have m2:=hn.po;unfold qm4;rw[gd_t (qar.2 (by omega)),gd_t (qar.2 (by omega)),wi (by omega),wi (by omega),show((d.1,d.2.1,d.2.2.1,d.2.2.2):Dk)=d from rfl,
  qvd (by omega) (by omega),qvd (by omega) (by omega),z7,z7,show(((n.2.1.length:Int)+x.1).toNat)=n.2.1.length+x.1.toNat by omega,show(((n.2.1.length:Int)+x.2.1).toNat)=n.2.1.length+x.2.1.toNat by omega,
  wi (show -9223372036854775808<=0-d.2.2.1.getD x.2.1.toNat 0/\0-d.2.2.1.getD x.2.1.toNat 0<=9223372036854775807 by omega),wi (by omega),wi (by omega)]
 have eh:=qoJ x.2.2.1 (fun h=>!(qeh (d.1.getD h.1.toNat v0)&&hpOk d.2 v h)) (fun h=>(qfU h.1 d d v).bind fun y=>some y) (fun h hh=>by
  show(qfU h d d v).bind _=_;rw[qCS hd hv (hx.h h hh)]; rfl) (by have:=hx.hl; omega)
 unfold growB qsP ptOk;have el:(x.2.2.1.any fun h=>!(qeh (d.1.getD h.1.toNat v0)&&hpOk d.2 v h))=!((x.2.2.1.all fun h=>qeh (d.1.getD h.1.toNat v0))&&x.2.2.1.all (hpOk d.2 v)):=by
  exact qsS _ _ _
 rw[notlt (d.2.2.1.getD x.1.toNat 0) 0,notlt (0-d.2.2.1.getD x.2.1.toNat 0) 0,notlt (d.2.2.1.getD x.1.toNat 0+v) 0,notlt (0-d.2.2.1.getD x.2.1.toNat 0+v) 0];cases qeh (d.1.getD (n.2.1.length+x.1.toNat) v0) with
 | false=>rfl
 | true=>
 cases qeh (d.1.getD (n.2.1.length+x.2.1.toNat) v0) with
 | false=>rfl
 | true=>
 cases decide (0<=d.2.2.1.getD x.1.toNat 0) with
 | false=>simp
 | true=>
 cases decide (0<=0-d.2.2.1.getD x.2.1.toNat 0) with
 | false=>simp
 | true=>
 cases decide (0<=d.2.2.1.getD x.1.toNat 0+v) with
 | false=>simp
 | true=>
 cases decide (0<=0-d.2.2.1.getD x.2.1.toNat 0+v) with
 | false=>simp
 | true=>
  simp only[zg,zc,z7,zL];rw[eh,z7,el,zg2]
theorem qEM{x:Pth}{v:Int}(hv : -1000<=v/\v<=1000){p:Pl}(hr:∀k,-1000<=p.1.getD k 0/\p.1.getD k 0<=1000)(hq:∀k,-1000<=p.2.1.getD k 0/\p.2.1.getD k 0<=1000)(hx:VPa n x)(l1:p.1.length=n.2.1.length)(l2:p.2.1.length=n.2.2.1.length)(d:List Vl):
  qm5 x v d p.1 p.2.1 p.2.2=some (d,growP x v p):=by
 have hi:=hx.i;have ho:=hx.o;have b1:=hq x.1.toNat;unfold qm5;have hB:inB x.1 p.2.1.length=true:=qar.2 (by omega)
 have hC:inB x.2.1 (p.2.1.set x.1.toNat (wi64 ((p.2.1.getD x.1.toNat 0)+v))).length=true:=qar.2 (by rw[zs1]; omega)
 rw[gd_t hB,gd_t hB,gd_t hC,gd_t hC,wi (by omega)]
 have b2 : -2000<=(p.2.1.set x.1.toNat (p.2.1.getD x.1.toNat 0+v)).getD x.2.1.toNat 0/\(p.2.1.set x.1.toNat (p.2.1.getD x.1.toNat 0+v)).getD x.2.1.toNat 0<=2000:=by
  rw[qle]; have:=hq x.2.1.toNat; split <;> omega
 rw[wi (by omega),show((p.2.1.set x.1.toNat (p.2.1.getD x.1.toNat 0+v)).set x.2.1.toNat ((p.2.1.set x.1.toNat (p.2.1.getD x.1.toNat 0+v)).getD x.2.1.toNat 0-v))=growQ x v p.2.1 from rfl]
 have:=qbn (step:=fun x2:Int×List Vl×List Int×List Int×List Bool=>qdI x v x2.1 x2.2.1 x2.2.2.1 x2.2.2.2.1 x2.2.2.2.2) (e:=(d,growP x v p)) x.2.2.1.length (fun i=>((i:Int),d,growR (x.2.2.1.take i) v p.1,growQ x v p.2.1,p.2.2)) (fun i hi'=>?_) ?_
 ·have this:iter (fun x2=>qdI x v x2.1 x2.2.1 x2.2.2.1 x2.2.2.2.1 x2.2.2.2.2) ((0:Int),d,p.1,growQ x v p.2.1,p.2.2)=some (d,growP x v p):=this
  rw[this]; rfl
 ·show qdI x v (i:Int) d (growR (x.2.2.1.take i) v p.1) (growQ x v p.2.1) p.2.2=some (.inl (((i+1:Nat):Int),d,growR (x.2.2.1.take (i+1)) v p.1,growQ x v p.2.1,p.2.2));unfold qdI;have hl:=hx.hl;have hh:=hx.h _ (qbu (d:=(0,false)) hi');have hb:=qCQ v hv (b:=1000) (x.2.2.1.take i) p.1 hr (x.2.2.1.getD i (0,false)).1.toNat;rw[zm] at hb;have hD:inB (x.2.2.1.getD i (0,false)).1 (growR (x.2.2.1.take i) v p.1).length=true:=qar.2 (by rw[qsQ]; omega)
  have es:qjn ((x.2.2.1.getD i (0,false)).1,(x.2.2.1.getD i (0,false)).2) v=some (sgn (x.2.2.1.getD i (0,false)) v):=by
   unfold qjn sgn; rw[wi (by omega)]; simp only; cases(x.2.2.1.getD i (0,false)).2 <;> rfl
  have hs : -1000<=sgn (x.2.2.1.getD i (0,false)) v/\sgn (x.2.2.1.getD i (0,false)) v<=1000:=by unfold sgn; split <;> omega
  rw[dec_t (show(i:Int)<(x.2.2.1.length:Int) by omega),zb,gd_t (inB_t hi'),za,gd_t hD,es,z7,gd_t hD,w1 hi',wi (by omega),qtM hi']
 ·show qdI x v ((x.2.2.1.length:Nat):Int) d (growR (x.2.2.1.take x.2.2.1.length) v p.1) (growQ x v p.2.1) p.2.2=_;unfold qdI;rw[dec_f,zF1]; rfl
end
def cmdV(v:Vl)(w:Bool):Vl:=(v.1,v.2.1,w,v.2.2.2)
def movO(v:Vl)(t:Int):Int:=bif v.2.2.2 then v.2.1 else(if v.2.1<(bif v.2.2.1 then v.1 else 0) then min (bif v.2.2.1 then v.1 else 0) (v.2.1+t) else max (bif v.2.2.1 then v.1 else 0) (v.2.1-t))
def movV(v:Vl)(t:Int):Vl:=(v.1,movO v t,v.2.2.1,v.2.2.2)
def absP(s:Stp):Pth:=(s.2.2.2.1,s.2.2.2.2.1,s.2.2.2.2.2.1,max s.2.2.1 (0-s.2.2.1))
def turnS(n:Net)(d:Dk)(s:Stp):Dk×Int:=bif !(decide (0<=s.2.1)&&decide (s.2.1<(d.1.length:Int))) then(d,8) else
 bif decide (s.1=2)&&(need d.2).getD s.2.1.toNat false then(d,22) else((d.1.set s.2.1.toNat (cmdV (d.1.getD s.2.1.toNat v0) (decide (s.1=1))),d.2),0)
def setP(p:Pl)(i:Nat)(b:Bool):Pl:=(p.1,p.2.1,p.2.2.set i b)
def runS(n:Net)(d:Dk)(s:Stp):Dk×Int:=bif !(decide (0<=s.2.1)&&decide (s.2.1<(n.2.2.2.1.length:Int))) then(d,8) else
 bif decide (s.1=3)&&decide (comeF n d.2 (n.2.2.2.1.getD s.2.1.toNat sta0).2.1=0) then(d,22) else((d.1,setP d.2 s.2.1.toNat (decide (s.1=3))),0)
def chgS(n:Net)(d:Dk)(s:Stp):Dk×Int:=bif !rg (-1000) 1000 s.2.2.1 then(d,23) else
 bif !pathB n (absP s) then(d,23) else bif !growB n d (absP s) s.2.2.1 then(d,22) else
 (if qbm n (growP (absP s) s.2.2.1 d.2)≠0 then(d,qbm n (growP (absP s) s.2.2.1 d.2)) else bif idleB n (growP (absP s) s.2.2.1 d.2) then(d,22) else((d.1,growP (absP s) s.2.2.1 d.2),0))
def waitS(d:Dk)(s:Stp):Dk×Int:=bif !rg 1 100 s.2.2.1 then(d,1) else((d.1.map fun v=>movV v s.2.2.1,d.2),0)
def stepS(n:Net)(d:Dk)(s:Stp):Dk×Int:=bif !qq2 s then(d,22) else
 bif decide (s.1=1) || decide (s.1=2) then turnS n d s else bif decide (s.1=3) || decide (s.1=4) then runS n d s else bif decide (s.1=5) then chgS n d s else waitS d s
def appS(n:Net)(d:Dk)(s:Stp):Dk×Int:=if qe3 n d≠0 then(d,qe3 n d) else stepS n d s
section
variable {n:Net}
theorem oob(a b:Int):(bif decide (a<0) then some true else some (decide (b<=a)))=some (!(decide (0<=a)&&decide (a<b))):=by
 rw[notlt a 0,notlt a b];cases decide (0<=a) <;> cases decide (b<=a) <;> rfl
theorem oob4{A:Type}(a b:Int)(x:A):(bif decide (a<0) then some (true,x) else some (decide (b<=a),x))=some (!(decide (0<=a)&&decide (a<b)),x):=by
 rw[notlt a 0,notlt a b];cases decide (0<=a) <;> cases decide (b<=a) <;> rfl
theorem qve{a b:Int}:(decide (0<=a)&&decide (a<b))=true↔0<=a/\a<b:=by rw[z8,zz,zz]
theorem qD3{v:Vl}(h:qcx v=true)(w:Bool):qih v w=some (cmdV v w,0):=by
 unfold qih;rw[show((v.1,v.2.1,v.2.2.1,v.2.2.2):Vl)=v from rfl,valid_eq,z7,h]; rfl
theorem qEN{v:Vl}(h:qcx v=true)(w:Bool):qk5 v w=some (cmdV v w,0):=qD3 h w
theorem VDk.val1{d:Dk}(hd:VDk n d){i:Nat}(hi:i<d.1.length):qcx (d.1.getD i v0)=true:=zq.1 hd.val _ (qbu hi)
theorem VDk.needl{d:Dk}(hd:VDk n d):(need d.2).length=d.1.length:=by rw[qvb (VPl.of hd.pl).sz,hd.len]
def inner(r:Dk×Int)(o:Option (Int×List Vl×List Int×List Int×List Bool)):Prop:=∃y,o=some y/\y.1=r.2/\(r.2=0->y.2=r.1)
theorem qBk{d:Dk}(hd:VDk n d)(s:Stp):inner (turnS n d s) (qmf n s d.1 d.2.1 d.2.2.1 d.2.2.2):=by
 unfold turnS qmf;rw[oob4,z7];simp only;cases hb:(decide (0<=s.2.1)&&decide (s.2.1<(d.1.length:Int))) with
 | false=>exact⟨_,rfl,rfl,fun e=>by cases e⟩
 | true=>
  have hb:=qve.1 hb;have hz:=hd.sz;have hs:=(VNet.of hd.net).small;have m1:=hs.sg;have m2:=hs.po;have hl:=hd.len;simp only[zg,zc];have e1:∀(q:Bool),(bif decide (s.1=2) then
    (qgR (Y6 n) (d.2.1,d.2.2.1,d.2.2.2)).bind fun r=>
     bif !decide (r.1=0) then some (.inr (r.1,d.1,d.2.1,d.2.2.1,d.2.2.2))
     else(qfa (r.2.1,r.2.2)).bind fun r2=>
      gd (inB s.2.1 r2.length) (bif r2.getD s.2.1.toNat false then some (.inr (22,d.1,d.2.1,d.2.2.1,d.2.2.2)) else some (.inl (d.1,d.2.1,d.2.2.1,d.2.2.2)))
    else(some (.inl (d.1,d.2.1,d.2.2.1,d.2.2.2)):Option (Dk⊕(Int×Dk))))=some (bif decide (s.1=2)&&(need d.2).getD s.2.1.toNat false then .inr (22,d) else .inl d):=by
   intro q;cases decide (s.1=2) with
   | false=>rfl
   | true=>
    rw[zb,qbd,show((d.2.1,d.2.2.1,d.2.2.2):Pl)=d.2 from rfl,qA6,z7,if_neg (fun e=>e hd.pl)]
    simp only[zG2,zg,zc,zL];rw[qtL _ _ (by rw[qkx]; omega) (by rw[qkx]; omega),z7,show nz d.2.1++nz d.2.2.1=need d.2 from rfl,gd_t (qar.2 (by rw[hd.needl]; omega))]
    cases(need d.2).getD s.2.1.toNat false <;> rfl
  rw[e1 true,z7];cases(decide (s.1=2)&&(need d.2).getD s.2.1.toNat false) with
  | true=>exact⟨_,rfl,rfl,fun e=>by cases e⟩
  | false=>
   simp only[zc,za1];rw[gd_t (qar.2 (by omega)),show(d.1.getD s.2.1.toNat (0,0,false,false))=d.1.getD s.2.1.toNat v0 from rfl,qD3 (hd.val1 (by omega)),z7,gd_t (qar.2 (by omega))]
   exact⟨_,rfl,rfl,fun _=>rfl⟩
theorem qCU{d:Dk}(hd:VDk n d)(s:Stp):qng d s=some (turnS n d s):=by
 unfold turnS qng;rw[oob,z7];cases hb:(decide (0<=s.2.1)&&decide (s.2.1<(d.1.length:Int))) with
 | false=>rfl
 | true=>
  have hb:=qve.1 hb;have hz:=hd.sz;have hs:=(VNet.of hd.net).small;have m1:=hs.sg;have m2:=hs.po;have hl:=hd.len;simp only[zg,zc];have e1:(bif decide (s.1=2) then
    (qgZ (d.2.1,d.2.2.1,d.2.2.2)).bind fun r=>(qko (r.1,r.2)).bind fun r2=>gd (inB s.2.1 r2.length) (some (r2.getD s.2.1.toNat false))
    else some false)=some (decide (s.1=2)&&(need d.2).getD s.2.1.toNat false):=by
   cases decide (s.1=2) with
   | false=>rfl
   | true=>
    rw[zb,show((d.2.1,d.2.2.1,d.2.2.2):Pl)=d.2 from rfl,qyw _ (by omega) (by omega),z7,qA5 _ _ (by rw[qkx]; omega) (by rw[qkx]; omega),z7,show nz d.2.1++nz d.2.2.1=need d.2 from rfl,gd_t (qar.2 (by rw[hd.needl]; omega))]; rfl
  rw[e1,z7];cases(decide (s.1=2)&&(need d.2).getD s.2.1.toNat false) with
  | true=>rfl
  | false=>
   simp only[zc];rw[show((d.1,d.2.1,d.2.2.1,d.2.2.2):Dk)=d from rfl,qqa hd.small,z7,gd_t (qar.2 (by omega)),show(d.1.getD s.2.1.toNat (0,0,false,false))=d.1.getD s.2.1.toNat v0 from rfl,qEN (hd.val1 (by omega)),z7,gd_t (qar.2 (by omega))]
theorem qCV(p:Pl)(i:Nat)(b:Bool):qbm n (setP p i b)=qbm n p:=by
 have e1:szB n (setP p i b)=szB n p:=by unfold szB setP; rw[zs1]
 have e2:∀f th,topo n (setP p i b) f th=topo n p f th:=by
  intro f;induction f with
  | zero=>intro _; rfl
  | succ f ih=>
   intro th;unfold topo;rw[show nextF n (setP p i b) th=nextF n p th from rfl]
   cases nextF n p th with
   | none=>rfl
   | some k=>exact congrArg _ (ih _)
 unfold qbm;rw[e1,show ordL n (setP p i b)=ordL n p from e2 _ _]; rfl
theorem qBl{d:Dk}(hd:VDk n d){i:Nat}(hi:i<n.2.2.2.1.length)(b:Bool):idleB n (setP d.2 i b)=(b&&decide (comeF n d.2 (n.2.2.2.1.getD i sta0).2.1=0)):=by
 have hn:=hd.idl;unfold idleB at hn ⊢;have hz:=hd.sz;rw[zi2] at hn;have key:∀j,j<n.2.2.2.1.length->qmK n (setP d.2 i b) j=(decide (j=i)&&(b&&decide (comeF n d.2 (n.2.2.2.1.getD i sta0).2.1=0))):=by
  intro j hj;have h1:=hn j (zU.2 hj);unfold qmK at h1 ⊢;have e:comeF n (setP d.2 i b) (n.2.2.2.1.getD j sta0).2.1=comeF n d.2 (n.2.2.2.1.getD j sta0).2.1:=rfl;rw[e,show(setP d.2 i b).2.2=d.2.2.2.set i b from rfl,qle]
  by_cases hji:i=j
  ·subst hji; rw[if_pos ⟨rfl,by omega⟩,dec_t rfl]; rfl
  ·rw[if_neg (fun h=>hji h.1),dec_f (show ¬j=i from fun h=>hji h.symm)]
   revert h1; cases(d.2.2.2.getD j false&&decide (comeF n d.2 (n.2.2.2.1.getD j sta0).2.1=0)) <;> simp
 rw[zT,zo2];constructor
 ·rintro⟨j,hj,h⟩
  rw[key j (zU.1 hj),z8] at h;exact h.2
 ·intro h;exact⟨i,zU.2 hi,by rw[key i hi,h,dec_t rfl]; rfl⟩
theorem qD4{d:Dk}(hd:VDk n d)(s:Stp):inner (runS n d s) (qpp n s d.1 d.2.1 d.2.2.1 d.2.2.2):=by
 unfold runS qpp;rw[oob4,z7];simp only;cases hb:(decide (0<=s.2.1)&&decide (s.2.1<(n.2.2.2.1.length:Int))) with
 | false=>exact⟨_,rfl,rfl,fun e=>by cases e⟩
 | true=>
  have hb:=qve.1 hb;have hz:=hd.sz;obtain⟨i,hi⟩:∃i:Nat,s.2.1=(i:Int):=⟨s.2.1.toNat,by omega⟩
  simp only[zg,zc];rw[hi,za,qbd,show((d.2.1,d.2.2.1,d.2.2.2):Pl)=d.2 from rfl,qsO hd.pl (by omega),z7,zg2]
  cases hk:decide (s.1=3) with
  | false=>
   simp only[zc,z7,z73];rw[gd_t (inB_t (by omega))]
   exact⟨_,rfl,rfl,fun _=>rfl⟩
  | true=>
   simp only[zb,z7,zL];cases decide (comeF n d.2 (n.2.2.2.1.getD i sta0).2.1=0) with
   | true=>exact⟨_,rfl,rfl,fun e=>by cases e⟩
   | false=>
    simp only[zc];rw[gd_t (inB_t (by omega))]
    exact⟨_,rfl,rfl,fun _=>rfl⟩
theorem qCW{d:Dk}(hd:VDk n d)(s:Stp):qnh n d s=some (runS n d s):=by
 unfold runS qnh;rw[oob,z7];cases hb:(decide (0<=s.2.1)&&decide (s.2.1<(n.2.2.2.1.length:Int))) with
 | false=>rfl
 | true=>
  have hb:=qve.1 hb;have hz:=hd.sz;obtain⟨i,hi⟩:∃i:Nat,s.2.1=(i:Int):=⟨s.2.1.toNat,by omega⟩
  simp only[zg,zc];rw[hi,za,show((d.1,d.2.1,d.2.2.1,d.2.2.2):Dk)=d from rfl,qqa hd.small,z7,gd_t (inB_t (by omega)),qbd,
   show((d.2.1,(d.2.2.1,d.2.2.2.set i (decide (s.1=3)))):Pl)=setP d.2 i (decide (s.1=3)) from rfl,qxt (by rw[qCV]; exact hd.pl),z7,zg2,qBl hd (by omega)]
  cases(decide (s.1=3)&&decide (comeF n d.2 (n.2.2.2.1.getD i sta0).2.1=0)) <;> rfl
/-! ### Waiting -/
theorem qmL{v:Vl}:qcx v=true↔1<=v.1/\v.1<=60/\0<=v.2.1/\v.2.1<=v.1:=by
 unfold qcx; rw[z8,qhO,qhO,and_assoc]
theorem qCX{A:Type}(c:Bool)(x:A):(bif c then x else x)=x:=by cases c <;> rfl
theorem qEO{v:Vl}(h:qcx v=true){t:Int}(ht:1<=t/\t<=100):qm6 v t=some (movV v t,0):=by
 have hv:=qmL.1 h;unfold qm6;rw[show((v.1,v.2.1,v.2.2.1,v.2.2.2):Vl)=v from rfl,valid_eq,z7,h,dec_f (show ¬t<0 by omega),dec_f (show ¬400<t by omega)]
 simp only[zg,zc,z7];have e:qkU v t=some (movV v t):=by
  unfold qkU qqr;rw[wi (by omega),wi (by omega)]
  have eg:(bif v.2.2.1 then some v.1 else some 0)=some (bif v.2.2.1 then v.1 else 0):=by cases v.2.2.1 <;> rfl
  simp only;rw[eg,z7];have em:(bif v.2.2.2 then some v.2.1 else Option.bind (α:=Int) (bif decide (v.2.1<(bif v.2.2.1 then v.1 else 0)) then some (min (bif v.2.2.1 then v.1 else 0) (v.2.1+t)) else some (max (bif v.2.2.1 then v.1 else 0) (v.2.1-t))) fun s=>some s)=some (movO v t):=by
   unfold movO;cases v.2.2.2 with
   | true=>rfl
   | false=>
    simp only[zc];by_cases hc:v.2.1<(bif v.2.2.1 then v.1 else 0)
    ·rw[dec_t hc,if_pos hc]; rfl
    ·rw[dec_f hc,if_neg hc]; rfl
  rw[em,z7];by_cases hc:movO v t=v.2.1
  ·rw[show movV v t=v by unfold movV; rw[hc],hc]; exact qCX _ _
  ·rw[dec_f hc,z73,zr2]; rfl
 rw[e]; rfl
theorem qBm{v:Vl}(h:qcx v=true){t:Int}(ht:0<=t):qcx (movV v t)=true:=by
 rw[qmL] at h ⊢;unfold movV movO;simp only;cases v.2.2.2 <;> cases v.2.2.1 <;> simp only[zb,zc] <;> (try split) <;> omega
theorem qCY{v:Vl}(h:qcx v=true):movV v 0=v:=by
 rw[qmL] at h;have:movO v 0=v.2.1:=by
  unfold movO;cases v.2.2.2 <;> cases v.2.2.1 <;> simp only[zb,zc] <;> (try split) <;> omega
 unfold movV; rw[this]
theorem qCZ{v:Vl}(h:qcx v=true)(i:Nat):qnk (movV v (i:Int))=some (movV v ((i+1:Nat):Int),0):=by
 have hm:=qBm h (t:=(i:Int)) (by omega)
 have hm2:=qmL.1 hm;rw[qmL] at h;unfold qnk;rw[show(((movV v (i:Int)).1,(movV v (i:Int)).2.1,(movV v (i:Int)).2.2.1,(movV v (i:Int)).2.2.2):Vl)=movV v (i:Int) from rfl,rvalid_eq,z7,hm,wi (by omega),wi (by omega)]
 unfold movV movO at hm2 ⊢;simp only at hm2 ⊢;cases h1:v.2.2.2 <;> cases h2:v.2.2.1 <;> simp only[h1,h2,zb,zc,zg,zu1,z7] at hm2 ⊢
 ·by_cases hz:v.2.1<0
  ·omega
  ·rw[if_neg hz] at hm2;rw[if_neg hz,if_neg hz];by_cases hc:0<max 0 (v.2.1-(i:Int))
   ·rw[dec_t hc,zb,z7,z7,show max 0 (v.2.1-(i:Int))-1=max 0 (v.2.1-((i+1:Nat):Int)) by omega]
   ·rw[dec_f hc,zc,z7,z7,show max 0 (v.2.1-(i:Int))=max 0 (v.2.1-((i+1:Nat):Int)) by omega]
 ·by_cases hz:v.2.1<v.1
  ·rw[if_pos hz] at hm2;rw[if_pos hz,if_pos hz];by_cases hc:min v.1 (v.2.1+(i:Int))<v.1
   ·rw[dec_t hc,zb,z7,show min v.1 (v.2.1+(i:Int))+1=min v.1 (v.2.1+((i+1:Nat):Int)) by omega]
   ·rw[dec_f hc,zc,z7,show min v.1 (v.2.1+(i:Int))=min v.1 (v.2.1+((i+1:Nat):Int)) by omega]
  ·rw[if_neg hz] at hm2;rw[if_neg hz,if_neg hz,dec_f (show ¬max v.1 (v.2.1-(i:Int))<v.1 by omega),zc,z7,show max v.1 (v.2.1-(i:Int))=max v.1 (v.2.1-((i+1:Nat):Int)) by omega]
theorem qC0{v:Vl}(h:qcx v=true){t:Int}(ht:1<=t/\t<=100):qnl v t=some (movV v t,0):=by
 obtain⟨m,rfl⟩:∃m:Nat,t=(m:Int):=⟨t.toNat,by omega⟩
 unfold qnl;rw[show((v.1,v.2.1,v.2.2.1,v.2.2.2):Vl)=v from rfl,rvalid_eq,z7,h,dec_f (show ¬(m:Int)<0 by omega),dec_f (show ¬400<(m:Int) by omega)]
 simp only[zg,zc,z7];have:=qbn (step:=fun x:Int×Int×Int×Bool×Bool=>qdM (m:Int) x.1 x.2.1 x.2.2.1 x.2.2.2.1 x.2.2.2.2) (e:=movV v (m:Int)) m (fun i=>((i:Int),movV v (i:Int))) (fun i hi=>?_) ?_
 ·have this:iter (fun x=>qdM (m:Int) x.1 x.2.1 x.2.2.1 x.2.2.2.1 x.2.2.2.2) ((0:Int),movV v 0)=some (movV v (m:Int)):=this
  rw[qCY h] at this;rw[show((0,v.1,v.2.1,v.2.2.1,v.2.2.2):Int×Vl)=(0,v) from rfl,this]; rfl
 ·show qdM (m:Int) (i:Int) (movV v (i:Int)).1 (movV v (i:Int)).2.1 (movV v (i:Int)).2.2.1 (movV v (i:Int)).2.2.2=_;unfold qdM;rw[dec_t (show(i:Int)<(m:Int) by omega),zb,show(((movV v (i:Int)).1,(movV v (i:Int)).2.1,(movV v (i:Int)).2.2.1,(movV v (i:Int)).2.2.2):Vl)=movV v (i:Int) from rfl,qCZ h,z7,w1 hi]
 ·show qdM (m:Int) (m:Int) (movV v (m:Int)).1 (movV v (m:Int)).2.1 (movV v (m:Int)).2.2.1 (movV v (m:Int)).2.2.2=_;unfold qdM;rw[dec_f]; rfl
theorem rg1(v:Int):(bif decide (v<1) then some true else some (decide (100<v)))=some (!rg 1 100 v):=by
 unfold rg; rw[notlt v 1,notlt 100 v];cases decide (1<=v) <;> cases decide (v<=100) <;> rfl
theorem rg14{A:Type}(v:Int)(x:A):(bif decide (v<1) then some (true,x) else some (decide (100<v),x))=some (!rg 1 100 v,x):=by
 unfold rg; rw[notlt v 1,notlt 100 v];cases decide (1<=v) <;> cases decide (v<=100) <;> rfl
theorem qEP{d:Dk}(hd:VDk n d)(s:Stp)(m:Net):inner (waitS d s) (qpw m s d.1 d.2.1 d.2.2.1 d.2.2.2):=by
 unfold waitS qpw;rw[rg14,z7];simp only;cases hr:rg 1 100 s.2.2.1 with
 | false=>exact⟨_,rfl,rfl,fun e=>by cases e⟩
 | true=>
  have ht:=qhO.1 hr;have hl:=hd.small.v;simp only[zg,zc];have:=qbn (step:=fun x:Int×List Vl×List Int×List Int×List Bool=>qey s (false,d) x.1 x.2.1 x.2.2.1 x.2.2.2.1 x.2.2.2.2) (e:=.inl (d.1.map fun v=>movV v s.2.2.1,d.2)) d.1.length (fun i=>((i:Int),mix (d.1.map fun v=>movV v s.2.2.1) d.1 i,d.2)) (fun i hi=>?_) ?_
  ·have this:iter (fun x=>qey s (false,d.1,d.2.1,d.2.2.1,d.2.2.2) x.1 x.2.1 x.2.2.1 x.2.2.2.1 x.2.2.2.2) ((0:Int),mix (d.1.map fun v=>movV v s.2.2.1) d.1 0,d.2)=some (.inl (d.1.map fun v=>movV v s.2.2.1,d.2)):=this
   rw[mix_0] at this;rw[show((0,d.1,d.2.1,d.2.2.1,d.2.2.2):Int×Dk)=(0,d.1,d.2) from rfl,this]
   exact⟨_,rfl,rfl,fun _=>rfl⟩
  ·show qey s (false,d) (i:Int) (mix (d.1.map fun v=>movV v s.2.2.1) d.1 i) d.2.1 d.2.2.1 d.2.2.2=_
   unfold qey;have hm:(d.1.map fun v=>movV v s.2.2.1).length=d.1.length:=zQ ..
   have hg:(mix (d.1.map fun v=>movV v s.2.2.1) d.1 i).getD i (0,0,false,false)=d.1.getD i v0:=by rw[qyg hm rfl,if_neg (by omega)]
   have hB:inB (i:Int) (mix (d.1.map fun v=>movV v s.2.2.1) d.1 i).length=true:=inB_t (by rw[qqk hm rfl]; exact hi)
   rw[dec_t (show(i:Int)<(d.1.length:Int) by omega),zb,gd_t hB,za,hg,
    show(((d.1.getD i v0).1,(((d.1.getD i v0).2).1,((((d.1.getD i v0).2).2).1,(((d.1.getD i v0).2).2).2))):Vl)=d.1.getD i v0 from rfl,qEO (hd.val1 hi) ht,z7,gd_t hB]
   simp only[zG2,zg,zc];rw[w1 hi,show(((movV (d.1.getD i v0) s.2.2.1).1,(movV (d.1.getD i v0) s.2.2.1).2.1,(movV (d.1.getD i v0) s.2.2.1).2.2.1,(movV (d.1.getD i v0) s.2.2.1).2.2.2):Vl)=movV (d.1.getD i v0) s.2.2.1 from rfl,
    qAO hm rfl v0 hi (by rw[qsc _ _ _ v0 _ hi])]
  ·show qey s (false,d) ((d.1.length:Nat):Int) (mix (d.1.map fun v=>movV v s.2.2.1) d.1 d.1.length) d.2.1 d.2.2.1 d.2.2.2=_
   unfold qey;have hm:(d.1.map fun v=>movV v s.2.2.1).length=d.1.length:=zQ ..
   rw[dec_f (show ¬((d.1.length:Nat):Int)<(d.1.length:Int) by omega),mix_n hm rfl]; rfl
end
section
variable {n:Net}
theorem rgk1(v:Int):(bif decide (v < -1000) then some true else some (decide (1000<v)))=some (!rg (-1000) 1000 v):=by
 unfold rg; rw[notlt v (-1000),notlt 1000 v];cases decide (-1000<=v) <;> cases decide (v<=1000) <;> rfl
theorem rgk4{A:Type}(v:Int)(x:A):(bif decide (v < -1000) then some (true,x) else some (decide (1000<v),x))=some (!rg (-1000) 1000 v,x):=by
 unfold rg; rw[notlt v (-1000),notlt 1000 v];cases decide (-1000<=v) <;> cases decide (v<=1000) <;> rfl
theorem qBn{d:Dk}(hd:VDk n d)(s:Stp):inner (chgS n d s) (qkT n s d.1 d.2.1 d.2.2.1 d.2.2.2):=by
 unfold chgS qkT;rw[rgk4,z7];simp only;cases hr:rg (-1000) 1000 s.2.2.1 with
 | false=>exact⟨_,rfl,rfl,fun e=>by cases e⟩
 | true=>
  have hv:=qhO.1 hr;simp only[zg,zc];rw[wi (by omega),qbd,show((s.2.2.2.1,s.2.2.2.2.1,s.2.2.2.2.2.1,max s.2.2.1 (0-s.2.2.1)):Pth)=absP s from rfl,qCP hd.net,z7]
  cases hp:pathB n (absP s) with
  | false=>exact⟨_,rfl,rfl,fun e=>by cases e⟩
  | true=>
   have hx:=VPa.of hp;simp only[zg,zc];rw[show((d.1,d.2.1,d.2.2.1,d.2.2.2):Dk)=d from rfl,qCT hd hx hv,z7]
   cases hg:growB n d (absP s) s.2.2.1 with
   | false=>exact⟨_,rfl,rfl,fun e=>by cases e⟩
   | true=>
    simp only[zg,zc];rw[qEM hv hd.rate hd.prate hx hd.sz.1 hd.sz.2.1,z7];simp only;rw[show(((growP (absP s) s.2.2.1 d.2).1,(growP (absP s) s.2.2.1 d.2).2.1,(growP (absP s) s.2.2.1 d.2).2.2):Pl)=growP (absP s) s.2.2.1 d.2 from rfl,qjy,z7]
    by_cases hc:qbm n (growP (absP s) s.2.2.1 d.2)=0
    ·rw[dec_t hc,if_neg (fun e=>e hc),zg,zc,qyx hc,z7]
     cases idleB n (growP (absP s) s.2.2.1 d.2) with
     | true=>exact⟨_,rfl,rfl,fun e=>by cases e⟩
     | false=>exact⟨_,rfl,rfl,fun _=>rfl⟩
    ·rw[dec_f hc,if_pos hc];exact⟨_,rfl,rfl,fun e=>absurd e hc⟩
theorem qBo{d:Dk}(hd:VDk n d){x:Pth}(hx:VPa n x):qk8 n d x=some (qsP n d x):=by
 have hn:=(VNet.of hd.net).small;have m1:=hn.sg;have m2:=hn.po;have hl:=hd.len;have hi:=hx.i;have ho:=hx.o;have h3:=hx.hl;unfold qk8;rw[wi (by omega),wi (by omega)]
 have e1:=qbn (step:=fun y:Int×List Int=>qdn x y.1 y.2) (e:=[(n.2.1.length:Int)+x.1,(n.2.1.length:Int)+x.2.1]++x.2.2.1.map (·.1)) x.2.2.1.length (fun i=>((i:Int),[(n.2.1.length:Int)+x.1,(n.2.1.length:Int)+x.2.1]++(x.2.2.1.take i).map (·.1))) (fun i hi'=>?_) ?_
 ·have e1:iter (fun y=>qdn x y.1 y.2) ((0:Int),[(n.2.1.length:Int)+x.1,(n.2.1.length:Int)+x.2.1])=some ([(n.2.1.length:Int)+x.1,(n.2.1.length:Int)+x.2.1]++x.2.2.1.map (·.1)):=e1
  rw[e1,z7];have hlen:([(n.2.1.length:Int)+x.1,(n.2.1.length:Int)+x.2.1]++x.2.2.1.map (·.1)).length=2+x.2.2.1.length:=by simp; omega
  have hin:∀k∈[(n.2.1.length:Int)+x.1,(n.2.1.length:Int)+x.2.1]++x.2.2.1.map (·.1),0<=k/\k<(d.1.length:Int):=by
   intro k hk;simp only[zp1,zF,zy,zW] at hk;rcases hk with rfl | rfl | ⟨h,hh,rfl⟩
   ·omega
   ·omega
   ·have:=hx.h h hh; omega
  have hall:([(n.2.1.length:Int)+x.1,(n.2.1.length:Int)+x.2.1]++x.2.2.1.map (·.1)).all (fun k=>qeh (d.1.getD k.toNat v0))=qsP n d x:=by
   unfold qsP;simp only[zp1,zF,z41,List.all_map];rw[show(((n.2.1.length:Int)+x.1).toNat)=n.2.1.length+x.1.toNat by omega,show(((n.2.1.length:Int)+x.2.1).toNat)=n.2.1.length+x.2.1.toNat by omega]; rfl
  generalize hL:[(n.2.1.length:Int)+x.1,(n.2.1.length:Int)+x.2.1]++x.2.2.1.map (·.1)=L at hlen hin hall;have key:∀i,i<L.length->(gd (inB (i:Int) L.length) (gd (inB (L.getD i 0) d.1.length) ((qkp (d.1.getD (L.getD i 0).toNat (0,0,false,false))).bind fun r=>
    bif !r then some (true,L) else gd (inB (i:Int) L.length) (gd (inB (L.getD i 0) d.1.length) (some ((!((((d.1.getD (L.getD i 0).toNat (0,(0,(false,false)))).2).2).1)),L))))):Option (Bool×List Int))=some (!qeh (d.1.getD (L.getD i 0).toNat v0),L):=by
   intro i hi';have hk:=hin _ (qbu (d:=0) hi');have hB:inB (L.getD i 0) d.1.length=true:=qar.2 hk;rw[gd_t (inB_t hi'),gd_t (inB_t hi'),gd_t hB,gd_t hB,show(d.1.getD (L.getD i 0).toNat (0,0,false,false))=d.1.getD (L.getD i 0).toNat v0 from rfl,qu9,z7]
   unfold qeh;cases(qcx (d.1.getD (L.getD i 0).toNat v0)) <;> cases(decide ((d.1.getD (L.getD i 0).toNat v0).2.1=(d.1.getD (L.getD i 0).toNat v0).1)) <;> rfl
  have e2:=qa1 (step:=fun y:Int×List Int=>qbU d y.1 y.2) L.length (fun i=>((i:Int),L)) (fun i=>qeh (d.1.getD (L.getD i 0).toNat v0)) (fin:=.inl ()) (bad:=.inr false) (fun i hi' _ hq=>?_) (fun i hi' _ hq=>?_) (fun _=>?_)
  ·have e2:iter (fun y=>qbU d y.1 y.2) ((0:Int),L)=some (bif (List.range L.length).all fun i=>qeh (d.1.getD (L.getD i 0).toNat v0) then .inl () else .inr false):=e2
   rw[e2,z7,qtI L 0 (fun k=>qeh (d.1.getD k.toNat v0)),hall]
   cases qsP n d x <;> rfl
  ·show qbU d (i:Int) L=_;unfold qbU;rw[dec_t (show(i:Int)<(L.length:Int) by omega),zb,za,key i hi',hq,w1 hi']; rfl
  ·show qbU d (i:Int) L=_;unfold qbU;rw[dec_t (show(i:Int)<(L.length:Int) by omega),zb,za,key i hi',hq]; rfl
  ·show qbU d ((L.length:Nat):Int) L=_;unfold qbU;rw[dec_f]; rfl
 ·show qdn x (i:Int) ([(n.2.1.length:Int)+x.1,(n.2.1.length:Int)+x.2.1]++(x.2.2.1.take i).map (·.1))=some (.inl (((i+1:Nat):Int),[(n.2.1.length:Int)+x.1,(n.2.1.length:Int)+x.2.1]++(x.2.2.1.take (i+1)).map (·.1)));unfold qdn;rw[dec_t (show(i:Int)<(x.2.2.1.length:Int) by omega),zb,gd_t (inB_t hi'),gd_t (qaF (by rw[ze,zQ,zm]; simp only[zf,zo]; omega)),za,w1 hi',qdP (0,false) hi',zQ1,zw]; rfl
 ·show qdn x ((x.2.2.1.length:Nat):Int) ([(n.2.1.length:Int)+x.1,(n.2.1.length:Int)+x.2.1]++(x.2.2.1.take x.2.2.1.length).map (·.1))=_;unfold qdn;rw[dec_f,zF1]; rfl
theorem qC1{d:Dk}(hd:VDk n d){x:Pth}(hx:VPa n x){s:Stp}(hv : -1000<=s.2.2.1/\s.2.2.1<=1000)(q:List Int)(b:List Bool):
  iter (fun x5=>qcr d s x5.1 x5.2.1 x5.2.2.1 x5.2.2.2.1 x5.2.2.2.2.1 x5.2.2.2.2.2.1 x5.2.2.2.2.2.2.1 x5.2.2.2.2.2.2.2.1 x5.2.2.2.2.2.2.2.2.1 x5.2.2.2.2.2.2.2.2.2) (0,[],[],[],[],x.2.2.1,d.1,d.2.1,q,b)=
   some (bif x.2.2.1.all (hpOk d.2 s.2.2.1) then .inl ([],[],[],[],d.1,growR x.2.2.1 s.2.2.1 d.2.1,q,b) else .inr (22,d)):=by
 have h3:=hx.hl;have hz:=hd.sz;have:=qa1 (step:=fun x5:Int×List Vl×List Int×List Int×List Bool×List Hop×List Vl×List Int×List Int×List Bool=>qcr d s x5.1 x5.2.1 x5.2.2.1 x5.2.2.2.1 x5.2.2.2.2.1 x5.2.2.2.2.2.1 x5.2.2.2.2.2.2.1 x5.2.2.2.2.2.2.2.1 x5.2.2.2.2.2.2.2.2.1 x5.2.2.2.2.2.2.2.2.2) x.2.2.1.length (fun i=>((i:Int),[],[],[],[],x.2.2.1,d.1,growR (x.2.2.1.take i) s.2.2.1 d.2.1,q,b)) (fun i=>hpOk d.2 s.2.2.1 (x.2.2.1.getD i (0,false)))
  (fin:=.inl ([],[],[],[],d.1,growR x.2.2.1 s.2.2.1 d.2.1,q,b)) (bad:=.inr (22,d)) (fun i hi _ hq=>?_) (fun i hi _ hq=>?_) (fun _=>?_)
 ·rw[qtI x.2.2.1 (0,false) (hpOk d.2 s.2.2.1)] at this;exact this
 ·show qcr d s (i:Int) [] [] [] [] x.2.2.1 d.1 (growR (x.2.2.1.take i) s.2.2.1 d.2.1) q b=some (.inl (((i+1:Nat):Int),[],[],[],[],x.2.2.1,d.1,growR (x.2.2.1.take (i+1)) s.2.2.1 d.2.1,q,b));have hh:=hx.h _ (qbu (d:=(0,false)) hi);have hr:=hd.rate (x.2.2.1.getD i (0,false)).1.toNat;have hA:inB (x.2.2.1.getD i (0,false)).1 d.2.1.length=true:=qar.2 (by omega)
  have hC:inB (x.2.2.1.getD i (0,false)).1 (growR (x.2.2.1.take i) s.2.2.1 d.2.1).length=true:=qar.2 (by rw[qsQ]; omega)
  have hg:(growR (x.2.2.1.take i) s.2.2.1 d.2.1).getD (x.2.2.1.getD i (0,false)).1.toNat 0=d.2.1.getD (x.2.2.1.getD i (0,false)).1.toNat 0:=qsR _ _ _ fun h hm=>by
   obtain⟨j,hj,rfl⟩:=qv8 (0,false) hm;rw[zm] at hj;rw[qAN,if_pos (by omega)]
   have:=hx.d j i (by omega) hi
   have:=hx.h _ (qbu (d:=(0,false)) (show j<x.2.2.1.length by omega))
   omega
  unfold qcr;rw[Sq.dlt hi,zb,gd_t (inB_t hi),za]
  unfold hpOk along at hq;rw[z8,zz,zz] at hq;rw[qtM hi,hg];unfold sgn;cases hb:(x.2.2.1.getD i (0,false)).2 with
  | true=>
   rw[hb,if_pos rfl] at hq;simp only[zb,z7,gd_t hA,if_true];rw[wi (by omega),wi (by omega),dec_f (show ¬ -1*d.2.1.getD (x.2.2.1.getD i (0,false)).1.toNat 0<0 by omega),dec_f (show ¬ -1*d.2.1.getD (x.2.2.1.getD i (0,false)).1.toNat 0+s.2.2.1<0 by omega),zc,z7]
   simp only[zc];rw[gd_t hC,w1 hi,wi (by omega),show -1*(-1*d.2.1.getD (x.2.2.1.getD i (0,false)).1.toNat 0+s.2.2.1)=d.2.1.getD (x.2.2.1.getD i (0,false)).1.toNat 0+(0-s.2.2.1) by omega]
  | false=>
   rw[hb,if_neg (by simp)] at hq
   simp only[zc,z7,gd_t hA];rw[wi (by omega),wi (by omega),dec_f (show ¬1*d.2.1.getD (x.2.2.1.getD i (0,false)).1.toNat 0<0 by omega),dec_f (show ¬1*d.2.1.getD (x.2.2.1.getD i (0,false)).1.toNat 0+s.2.2.1<0 by omega),zc,z7]
   simp only[zc];rw[gd_t hC,w1 hi,wi (by omega),if_neg (by simp),show 1*(1*d.2.1.getD (x.2.2.1.getD i (0,false)).1.toNat 0+s.2.2.1)=d.2.1.getD (x.2.2.1.getD i (0,false)).1.toNat 0+s.2.2.1 by omega]
 ·show qcr d s (i:Int) [] [] [] [] x.2.2.1 d.1 (growR (x.2.2.1.take i) s.2.2.1 d.2.1) q b=some (.inr (.inr (22,d)));have hh:=hx.h _ (qbu (d:=(0,false)) hi);have hr:=hd.rate (x.2.2.1.getD i (0,false)).1.toNat;have hA:inB (x.2.2.1.getD i (0,false)).1 d.2.1.length=true:=qar.2 (by omega)
  unfold qcr;rw[Sq.dlt hi,zb,gd_t (inB_t hi),za]
  unfold hpOk along at hq;rw[Bool.and_eq_false_iff,z52,z52] at hq;cases hb:(x.2.2.1.getD i (0,false)).2 with
  | true=>
   rw[hb,if_pos rfl] at hq;simp only[zb,z7,gd_t hA];rw[wi (by omega),wi (by omega)]
   by_cases h0 : -1*d.2.1.getD (x.2.2.1.getD i (0,false)).1.toNat 0<0
   ·rw[dec_t h0]; rfl
   ·rw[dec_f h0,dec_t (show -1*d.2.1.getD (x.2.2.1.getD i (0,false)).1.toNat 0+s.2.2.1<0 by omega)]; rfl
  | false=>
   rw[hb,if_neg (by simp)] at hq
   simp only[zc,z7,gd_t hA];rw[wi (by omega),wi (by omega)]
   by_cases h0:1*d.2.1.getD (x.2.2.1.getD i (0,false)).1.toNat 0<0
   ·rw[dec_t h0]; rfl
   ·rw[dec_f h0,dec_t (show 1*d.2.1.getD (x.2.2.1.getD i (0,false)).1.toNat 0+s.2.2.1<0 by omega)]; rfl
 ·show qcr d s ((x.2.2.1.length:Nat):Int) [] [] [] [] x.2.2.1 d.1 (growR (x.2.2.1.take x.2.2.1.length) s.2.2.1 d.2.1) q b=_;unfold qcr;rw[dec_f,zF1]; rfl
end
section
variable {n:Net}
theorem qC2(x:Pth)(h:x.2.2.1.length<=100000):qni x=some (x.1,x.2.1,x.2.2.2,x.2.2.1):=by
 unfold qni;rw[gd_t (qaF (by omega))]; rfl
theorem qC3{d:Dk}(hd:VDk n d){x:Pth}(hx:VPa n x){v:Int}(hv : -1000<=v/\v<=1000){A:Type}(X:A):
  (bif decide ((growQ x v d.2.2.1).getD x.1.toNat 0<0) then some (true,X) else
   (bif decide (0<(growQ x v d.2.2.1).getD x.2.1.toNat 0) then some (true,X) else
    (bif decide (d.2.2.1.getD x.1.toNat 0<0) then some (true,X) else some (decide (0<d.2.2.1.getD x.2.1.toNat 0),X))))=some (!ptOk d.2 x v,X):=by
 have hz:=hd.sz;have hi:=hx.i;have ho:=hx.o;have hne:=hx.ne;have e1:(growQ x v d.2.2.1).getD x.1.toNat 0=d.2.2.1.getD x.1.toNat 0+v:=by
  unfold growQ;rw[qle,if_neg (by omega),qle,if_pos (by omega)]
 have e2:(growQ x v d.2.2.1).getD x.2.1.toNat 0=d.2.2.1.getD x.2.1.toNat 0-v:=by
  unfold growQ;rw[qle,if_pos (by rw[zs1]; omega),qle,if_neg (by omega)]
 rw[e1,e2];unfold ptOk;by_cases a:d.2.2.1.getD x.1.toNat 0+v<0
 ·rw[dec_t a,dec_f (show ¬0<=d.2.2.1.getD x.1.toNat 0+v by omega)]; simp
 ·rw[dec_f a,dec_t (show 0<=d.2.2.1.getD x.1.toNat 0+v by omega),zc]
  by_cases b:0<d.2.2.1.getD x.2.1.toNat 0-v
  ·rw[dec_t b,dec_f (show ¬0<=0-d.2.2.1.getD x.2.1.toNat 0+v by omega)]; simp
  ·rw[dec_f b,dec_t (show 0<=0-d.2.2.1.getD x.2.1.toNat 0+v by omega),zc]
   by_cases c:d.2.2.1.getD x.1.toNat 0<0
   ·rw[dec_t c,dec_f (show ¬0<=d.2.2.1.getD x.1.toNat 0 by omega)]; rfl
   ·rw[dec_f c,dec_t (show 0<=d.2.2.1.getD x.1.toNat 0 by omega),zc]
    by_cases e:0<d.2.2.1.getD x.2.1.toNat 0
    ·rw[dec_t e,dec_f (show ¬0<=0-d.2.2.1.getD x.2.1.toNat 0 by omega)]; rfl
    ·rw[dec_f e,dec_t (show 0<=0-d.2.2.1.getD x.2.1.toNat 0 by omega)]; rfl
theorem qC4{d:Dk}(hd:VDk n d)(s:Stp)(hs:s.2.2.2.2.2.1.length<=100000):qnj n d s=some (chgS n d s):=by
 unfold chgS qnj;rw[rgk1,z7];cases hr:rg (-1000) 1000 s.2.2.1 with
 | false=>rfl
 | true=>
  have hv:=qhO.1 hr;simp only[zg,zc];rw[show((s.2.2.2.1,s.2.2.2.2.1,s.2.2.2.2.2.1,s.2.2.2.2.2.2):Pth)=s.2.2.2 from rfl,qC2 _ hs,z7,wi (by omega)]
  simp only;rw[qbd,show((s.2.2.2.1,s.2.2.2.2.1,s.2.2.2.2.2.1,max s.2.2.1 (0-s.2.2.1)):Pth)=absP s from rfl,qBh hd.net,z7]
  cases hp:pathB n (absP s) with
  | false=>rfl
  | true=>
   have hx:=VPa.of hp;have hi:=hx.i;have ho:=hx.o;have hz:=hd.sz;simp only[zg,zc];rw[show((d.1,d.2.1,d.2.2.1,d.2.2.2):Dk)=d from rfl,qqa hd.small,z7,qBo hd hx,z7]
   unfold growB;cases hrd:qsP n d (absP s) with
   | false=>rfl
   | true=>
    simp only[zg,zc,zL];have b1:=hd.prate (absP s).1.toNat;have b2 : -2000<=(d.2.2.1.set (absP s).1.toNat (d.2.2.1.getD (absP s).1.toNat 0+s.2.2.1)).getD (absP s).2.1.toNat 0/\(d.2.2.1.set (absP s).1.toNat (d.2.2.1.getD (absP s).1.toNat 0+s.2.2.1)).getD (absP s).2.1.toNat 0<=2000:=by
     rw[qle]; have:=hd.prate (absP s).2.1.toNat; split <;> omega
    have i1:s.2.2.2.1=(absP s).1:=rfl;have i2:s.2.2.2.2.1=(absP s).2.1:=rfl;have i3:s.2.2.2.2.2.1=(absP s).2.2.1:=rfl;rw[i1,i2,i3];have hB:inB (absP s).1 d.2.2.1.length=true:=qar.2 (by omega)
    have hC:inB (absP s).2.1 d.2.2.1.length=true:=qar.2 (by omega)
    rw[wi (show -9223372036854775808<=d.2.2.1.getD (absP s).1.toNat 0+s.2.2.1/\d.2.2.1.getD (absP s).1.toNat 0+s.2.2.1<=9223372036854775807 by omega),wi (by omega)]
    simp only[zs1,gd_t hB,gd_t hC];rw[show((d.2.2.1.set (absP s).1.toNat (d.2.2.1.getD (absP s).1.toNat 0+s.2.2.1)).set (absP s).2.1.toNat ((d.2.2.1.set (absP s).1.toNat (d.2.2.1.getD (absP s).1.toNat 0+s.2.2.1)).getD (absP s).2.1.toNat 0-s.2.2.1))=growQ (absP s) s.2.2.1 d.2.2.1 from rfl,
     qC3 hd hx hv,z7]
    simp only;cases hpo:ptOk d.2 (absP s) s.2.2.1 with
    | false=>rfl
    | true=>
     simp only[zg,zc,zL];rw[qC1 hd hx hv,z7];cases hh:(absP s).2.2.1.all (hpOk d.2 s.2.2.1) with
     | false=>rfl
     | true=>
      simp only[zb,za1,zg,zc];rw[show((growR (absP s).2.2.1 s.2.2.1 d.2.1,growQ (absP s) s.2.2.1 d.2.2.1,d.2.2.2):Pl)=growP (absP s) s.2.2.1 d.2 from rfl,qqG,z7]
      by_cases hc:qbm n (growP (absP s) s.2.2.1 d.2)=0
      ·rw[dec_t hc,if_neg (fun e=>e hc),zg,zc,qxt hc,z7,zg2]
       cases idleB n (growP (absP s) s.2.2.1 d.2) <;> rfl
      ·rw[dec_f hc,if_pos hc]; rfl
theorem qir{r:Dk×Int}{o:Option (Int×List Vl×List Int×List Int×List Bool)}(h:inner r o):inner r (o.bind fun y=>some (y.1,y.2.1,y.2.2.1,y.2.2.2.1,y.2.2.2.2)):=by
 obtain⟨y,e,h1,h2⟩:=h;exact⟨y,by rw[e]; rfl,h1,h2⟩
theorem qC5{d:Dk}(hd:VDk n d)(s:Stp):inner (stepS n d s) (qm7 n s d.1 d.2.1 d.2.2.1 d.2.2.2):=by
 unfold stepS qm7;rw[show((Y7 s):Stp)=s from rfl,qCL,z7,qbd]
 cases hb:qq2 s with
 | false=>exact⟨_,rfl,rfl,fun e=>by cases e⟩
 | true=>
  simp only[zg,zc];by_cases k1:s.1=1
  ·rw[k1]; exact qir (qBk hd s)
  by_cases k2:s.1=2
  ·rw[k2]; exact qir (qBk hd s)
  by_cases k3:s.1=3
  ·rw[k3]; exact qir (qD4 hd s)
  by_cases k4:s.1=4
  ·rw[k4]; exact qir (qD4 hd s)
  by_cases k5:s.1=5
  ·rw[k5]; exact qir (qBn hd s)
  by_cases k6:s.1=6
  ·rw[k6]; exact qir (qEP hd s n)
  ·unfold qq2 at hb;rw[dec_f k1,dec_f k2,dec_f k3,dec_f k4,dec_f k5,dec_f k6] at hb;cases hb
def Er(d:Dk)(r:Dk×Int):Prop:=r.2=0\/r.1=d
theorem Er.bif{d:Dk}{c:Bool}{x y:Dk×Int}(h:Er d x)(h':Er d y):Er d (bif c then x else y):=by cases c; exact h'; exact h
theorem Er.ite{d:Dk}{c:Prop}[Decidable c]{x y:Dk×Int}(h:Er d x)(h':Er d y):Er d (if c then x else y):=by split; exact h; exact h'
theorem qEQ(d:Dk)(s:Stp):Er d (stepS n d s):=by
 unfold stepS turnS runS chgS waitS;have r:∀k,Er d (d,k):=fun k=>.inr rfl
 have z:∀x,Er d (x,0):=fun x=>.inl rfl
 exact .bif (r _) (.bif (.bif (r _) (.bif (r _) (z _))) (.bif (.bif (r _) (.bif (r _) (z _))) (.bif (.bif (r _) (.bif (r _) (.bif (r _) (.ite (r _) (.bif (r _) (z _)))))) (.bif (r _) (z _)))))
theorem qC6(d:Dk)(s:Stp)(h:(stepS n d s).2≠0):(stepS n d s).1=d:=(qEQ d s).resolve_left h
theorem qC7{d:Dk}(hz:DkS d)(s:Stp):qm8 n d s=some ((appS n d s).2,(appS n d s).1):=by
 unfold qm8 appS;rw[qbd,show((d.1,d.2.1,d.2.2.1,d.2.2.2):Dk)=d from rfl,qjz,z7,qBa hz,z7,z7]
 by_cases hc:qe3 n d=0
 ·have hd:=VDk.of hc;rw[dec_t hc,if_neg (fun e=>e hc),zg,zc,show((Y7 s):Stp)=s from rfl]
  obtain⟨y,e,h1,h2⟩:=qC5 hd s;rw[e,z7,h1];by_cases h0:(stepS n d s).2=0
  ·rw[dec_t h0,zg,zc];have:=h2 h0;rw[h0,this]
  ·rw[dec_f h0,zu1,zb,z7];exact congrArg some (Prod.ext rfl (qC6 d s h0).symm)
 ·rw[dec_f hc,if_pos hc]; rfl
theorem qC8{d:Dk}(hd:VDk n d)(s:Stp):(Option.bind (α:=Bool) (bif decide (s.2.2.1<1) then some true else some (decide (100<s.2.2.1))) fun s4=>
  bif s4 then some ((d.1,d.2.1,d.2.2.1,d.2.2.2),1) else(qeW (d.1,d.2.1,d.2.2.1,d.2.2.2)).bind fun r6=>
   (iter (fun x5=>qcw s x5.1 x5.2.1 x5.2.2.1 x5.2.2.2.1 x5.2.2.2.2) (0,r6.1,r6.2.1,r6.2.2.1,r6.2.2.2)).bind fun s5=>some ((s5.1,s5.2.1,s5.2.2.1,s5.2.2.2),0))=some (waitS d s):=by
 unfold waitS;rw[rg1,z7];cases hr:rg 1 100 s.2.2.1 with
 | false=>rfl
 | true=>
  have ht:=qhO.1 hr;have hl:=hd.small.v;simp only[zg,zc];rw[show((d.1,d.2.1,d.2.2.1,d.2.2.2):Dk)=d from rfl,qqa hd.small,z7]
  have:=qbn (step:=fun x:Int×List Vl×List Int×List Int×List Bool=>qcw s x.1 x.2.1 x.2.2.1 x.2.2.2.1 x.2.2.2.2) (e:=(d.1.map fun v=>movV v s.2.2.1,d.2)) d.1.length (fun i=>((i:Int),mix (d.1.map fun v=>movV v s.2.2.1) d.1 i,d.2)) (fun i hi=>?_) ?_
  ·have this:iter (fun x=>qcw s x.1 x.2.1 x.2.2.1 x.2.2.2.1 x.2.2.2.2) ((0:Int),mix (d.1.map fun v=>movV v s.2.2.1) d.1 0,d.2)=some (d.1.map fun v=>movV v s.2.2.1,d.2):=this
   rw[mix_0] at this;rw[show((0,d.1,d.2.1,d.2.2.1,d.2.2.2):Int×Dk)=(0,d.1,d.2) from rfl,this]; rfl
  ·show qcw s (i:Int) (mix (d.1.map fun v=>movV v s.2.2.1) d.1 i) d.2.1 d.2.2.1 d.2.2.2=_
   unfold qcw;have hm:(d.1.map fun v=>movV v s.2.2.1).length=d.1.length:=zQ ..
   have hg:(mix (d.1.map fun v=>movV v s.2.2.1) d.1 i).getD i (0,0,false,false)=d.1.getD i v0:=by rw[qyg hm rfl,if_neg (by omega)]
   have hB:inB (i:Int) (mix (d.1.map fun v=>movV v s.2.2.1) d.1 i).length=true:=inB_t (by rw[qqk hm rfl]; exact hi)
   rw[dec_t (show(i:Int)<((mix (d.1.map fun v=>movV v s.2.2.1) d.1 i).length:Int) by rw[qqk hm rfl]; omega),zb,gd_t hB,za,hg,qC0 (hd.val1 hi) ht,z7,gd_t hB,w1 hi,
    qAO hm rfl v0 hi (by rw[qsc _ _ _ v0 _ hi])]
  ·show qcw s ((d.1.length:Nat):Int) (mix (d.1.map fun v=>movV v s.2.2.1) d.1 d.1.length) d.2.1 d.2.2.1 d.2.2.2=_
   unfold qcw;have hm:(d.1.map fun v=>movV v s.2.2.1).length=d.1.length:=zQ ..
   rw[mix_n hm rfl,dec_f (show ¬((d.1.length:Nat):Int)<((d.1.map fun v=>movV v s.2.2.1).length:Int) by omega)]; rfl
theorem qBp{d:Dk}(s:Stp)(hs:s.2.2.2.2.2.1.length<=100000):qi2 n d s=some (appS n d s):=by
 unfold qi2 appS;rw[qbd,show((Y7 s):Stp)=s from rfl,show((d.1,d.2.1,d.2.2.1,d.2.2.2):Dk)=d from rfl,qnq,z7]
 by_cases hc:qe3 n d=0
 ·have hd:=VDk.of hc;rw[dec_t hc,if_neg (fun e=>e hc),zg,zc,qBc,z7]
  unfold stepS;cases hb:qq2 s with
  | false=>rfl
  | true=>
   simp only[zg,zc];have e1:∀a b:Int,(bif decide (s.1=a) then some (decide (s.1=a)) else some (decide (s.1=b)))=some (decide (s.1=a) || decide (s.1=b)):=fun a b=>by cases decide (s.1=a) <;> rfl
   rw[e1,z7,e1,z7,qCU hd,qCW hd,qC4 hd s hs,z7,z7,z7];cases(decide (s.1=1) || decide (s.1=2)) with
   | true=>rfl
   | false=>
    cases(decide (s.1=3) || decide (s.1=4)) with
    | true=>rfl
    | false=>
     cases decide (s.1=5) with
     | true=>rfl
     | false=>exact qC8 hd s
 ·rw[dec_f hc,if_pos hc]; rfl
end
structure Ln(d e:Dk):Prop where
 v:e.1.length=d.1.length
 r:e.2.1.length=d.2.1.length
 p:e.2.2.1.length=d.2.2.1.length
 b:e.2.2.2.length=d.2.2.2.length
theorem Ln.refl(d:Dk):Ln d d:=⟨rfl,rfl,rfl,rfl⟩
theorem Ln.trans{a b c:Dk}(h:Ln a b)(h':Ln b c):Ln a c:=⟨h'.v.trans h.v,h'.r.trans h.r,h'.p.trans h.p,h'.b.trans h.b⟩
theorem Ln.bif{d:Dk}{c:Bool}{x y:Dk×Int}(h:Ln d x.1)(h':Ln d y.1):Ln d (bif c then x else y).1:=by cases c; exact h'; exact h
theorem Ln.ite{d:Dk}{c:Prop}[Decidable c]{x y:Dk×Int}(h:Ln d x.1)(h':Ln d y.1):Ln d (if c then x else y).1:=by split; exact h; exact h'
theorem DkS.ln{d e:Dk}(h:DkS d)(hl:Ln d e):DkS e:=⟨by rw[hl.v]; exact h.v,by rw[hl.r]; exact h.r,by rw[hl.p]; exact h.p,by rw[hl.b]; exact h.b⟩
abbrev s0:Stp:=(0,0,0,0,0,[],0)
section
variable {n:Net}
theorem qER(d:Dk)(s:Stp):Ln d (stepS n d s).1:=by
 unfold stepS turnS runS chgS waitS;have r:∀k:Int,Ln d (d,k).1:=fun k=>.refl d
 exact .bif (r _) (.bif (.bif (r _) (.bif (r _) ⟨zs1 ..,rfl,rfl,rfl⟩)) (.bif (.bif (r _) (.bif (r _) ⟨rfl,rfl,rfl,zs1 ..⟩))
  (.bif (.bif (r _) (.bif (r _) (.bif (r _) (.ite (r _) (.bif (r _) ⟨rfl,qsQ ..,qBi ..,rfl⟩))))) (.bif (r _) ⟨zQ ..,rfl,rfl,rfl⟩))))
theorem qD5(d:Dk)(s:Stp):Ln d (appS n d s).1:=.ite (.refl d) (qER d s)
def runL(n:Net):Dk->Int->List Stp->Dk×Int×Int
 | d,i,[]=>(d,i,0)
 | d,i,s::r=>if(appS n d s).2≠0 then(d,i,(appS n d s).2) else runL n (appS n d s).1 (i+1) r
def tk(s:Stp):Int:=bif decide (s.1=6)&&rg 1 100 s.2.2.1 then s.2.2.1 else 0
theorem sameV(a:List Vl)(h:a.length<=100000):qnm a a=some true:=by
 unfold qnm;rw[dec_t rfl];have:=qa1 (step:=fun x=>qgv a a x) a.length (fun i=>(i:Int)) (fun _=>true) (fin:=.inl ()) (bad:=.inr false) (fun i hi _ hq=>?_) (fun i hi _ hq=>by cases hq) (fun _=>?_)
 ·have e:(List.range a.length).all (fun _=>true)=true:=by simp
  rw[e] at this;have this:iter (fun x=>qgv a a x) 0=some (.inl ()):=this
  rw[this]; rfl
 ·unfold qgv;rw[Sq.dlt hi,zb,gd_t (inB_t hi),gd_t (inB_t hi),dec_t rfl,dec_t rfl,w1 hi]
  rw[zd3,zd3]; rfl
 ·unfold qgv;rw[dec_f]; rfl
theorem sameI(a:List Int)(h:a.length<=100000):qdo a a=some true:=by
 unfold qdo;rw[dec_t rfl];have:=qa1 (step:=fun x=>qdw a a x) a.length (fun i=>(i:Int)) (fun _=>true) (fin:=.inl ()) (bad:=.inr false) (fun i hi _ hq=>?_) (fun i hi _ hq=>by cases hq) (fun _=>?_)
 ·have e:(List.range a.length).all (fun _=>true)=true:=by simp
  rw[e] at this;have this:iter (fun x=>qdw a a x) 0=some (.inl ()):=this
  rw[this]; rfl
 ·unfold qdw;rw[Sq.dlt hi,zb,gd_t (inB_t hi),gd_t (inB_t hi),dec_t rfl,w1 hi]; rfl
 ·unfold qdw;rw[dec_f]; rfl
theorem sameB(a:List Bool)(h:a.length<=100000):qgw a a=some true:=by
 unfold qgw;rw[dec_t rfl];have:=qa1 (step:=fun x=>qc9 a a x) a.length (fun i=>(i:Int)) (fun _=>true) (fin:=.inl ()) (bad:=.inr false) (fun i hi _ hq=>?_) (fun i hi _ hq=>by cases hq) (fun _=>?_)
 ·have e:(List.range a.length).all (fun _=>true)=true:=by simp
  rw[e] at this;have this:iter (fun x=>qc9 a a x) 0=some (.inl ()):=this
  rw[this]; rfl
 ·unfold qc9;rw[Sq.dlt hi,zb,gd_t (inB_t hi),gd_t (inB_t hi),zd3,w1 hi]; rfl
 ·unfold qc9;rw[dec_f]; rfl
theorem sameP{p:Pl}(h1:p.1.length<=100000)(h2:p.2.1.length<=100000)(h3:p.2.2.length<=100000):qhl p p=some true:=by
 unfold qhl;rw[sameI _ h1,z7,sameI _ h2,z7,sameB _ h3]; rfl
theorem sameD{d:Dk}(h:DkS d):qnn d d=some true:=by
 unfold qnn;rw[sameV _ h.v,z7,show((d.2.1,d.2.2.1,d.2.2.2):Pl)=d.2 from rfl,sameP h.r h.p h.b]; rfl
end
structure GN(n:Net):Prop where
 no:n.1.length<=24
 sg:n.2.1.length<=32
 p1:1<=n.2.2.1.length
 po:n.2.2.1.length<=24
 st:n.2.2.2.1.length<=12
 kn:KnP n
theorem GN.of{k:Nat}{n:Net}(h:NetP k n):GN n:=by
 have h6:=h.k6;have e:n.1.length=k:=by rw[h.nodes,qqC]
 refine⟨by omega,by have:=h.segs.len; omega,by have:=h.some'; omega,by have:=h.ports.len; omega,by have:=h.stats.len; omega,⟨fun i hi=>?_,fun i hi=>?_,fun i hi=>?_⟩⟩
 ·have:=h.segs.rng _ (qbu (d:=sg0) hi);exact⟨⟨this.f0,by rw[e]; exact this.f1⟩,this.t0,by rw[e]; exact this.t1⟩
 ·have:=h.ports.rng _ (qbu (d:=po0) hi);exact⟨this.1,by rw[e]; exact this.2.1⟩
 ·have:=h.stats.rng _ (qbu (d:=sta0) hi);exact⟨this.1,by rw[e]; exact this.2.1⟩
structure PlS(n:Net)(p:Pl):Prop where
 r:p.1.length=n.2.1.length
 q:p.2.1.length=n.2.2.1.length
 b:p.2.2.length=n.2.2.2.1.length
theorem PlS.small{n:Net}(hn:GN n){p:Pl}(h:PlS n p):p.1.length<=32/\p.2.1.length<=24/\p.2.2.length<=12:=by
 have:=h.r; have:=h.q; have:=h.b; have:=hn.sg; have:=hn.po; have:=hn.st; omega
section
variable {n:Net}
def qBq(n:Net)(l:List Int):Prop:=∀x∈l,0<=x/\x<(n.2.1.length:Int)
theorem qBq.more{l:List Int}(h:qBq n l){x:Int}(hx:0<=x/\x<(n.2.1.length:Int)):qBq n (l++[x]):=fun y hy=>by
 rcases zI.1 hy with hy | hy
 ·exact h y hy
 ·rw[zZ.1 hy]; exact hx
def other(n:Net)(x a:Int):Int:=(n.2.1.getD x.toNat sg0).2.1+(n.2.1.getD x.toNat sg0).2.2.1-a
end
section
variable {n:Net}
structure DkN(n:Net)(d:Dk):Prop where
 v:d.1.length=n.2.1.length+n.2.2.1.length
 p:PlS n d.2
theorem DkN.small(hn:GN n){d:Dk}(h:DkN n d):DkS d:=by
 have:=h.p.small hn; have:=h.v; have:=hn.sg; have:=hn.po;exact⟨by omega,by omega,by omega,by omega⟩
theorem DkN.ln{d e:Dk}(h:DkN n d)(hl:Ln d e):DkN n e:=⟨hl.v.trans h.v,⟨hl.r.trans h.p.r,hl.p.trans h.p.q,hl.b.trans h.p.b⟩⟩
/-! ### Dividing a plan -/
def qBr(n:Net)(l:List Hop):Prop:=∀h∈l,hopOk n h=true
theorem qBr.more{l:List Hop}(h:qBr n l){x:Hop}(hx:hopOk n x=true):qBr n (l++[x]):=fun y hy=>by
 rcases zI.1 hy with hy | hy
 ·exact h y hy
 ·rw[zZ.1 hy]; exact hx
end
theorem qFL:∀k:Fin 100,qkI (wu64 1) (wu64 ((k.val:Nat):Int))=some (0,((k.val:Nat):Int)):=by decide +kernel
theorem qFM(v:Vl)(k:Nat)(hk:k<=1000):∀(f m:Nat) (l:List Vl),k<=m+f->1<=m->m<=k->l.length=k->(∀i,i<m->l[i]? = some v)->
  iter (fun x2=>qac x2.1 x2.2) ((m:Int),l)=some (List.replicate k v):=by
 have fin:∀(l:List Vl),l.length=k->(∀i,i<k->l[i]? = some v)->l=List.replicate k v:=fun l hl h=>by
  refine zR1 fun i=>?_
  by_cases hi:i<k
  ·rw[h i hi,List.getElem?_replicate,if_pos hi]
  ·rw[zy1 (by omega),zy1 (by simp; omega)]
 intro f;induction f with
 | zero=>
  intro m l hf h1 hm hl h;have:m=k:=by omega
  subst this;rw[<-fin l hl h];exact qas (by show qac (m:Int) l=_; unfold qac; rw[dec_f]; rfl)
 | succ f ih=>
  intro m l hf h1 hm hl h;by_cases he:m=k
  ·subst he;rw[<-fin l hl h];exact qas (by show qac (m:Int) l=_; unfold qac; rw[dec_f]; rfl)
  ·have hlt:(l.take m).length=m:=by rw[zm]; omega
   have hst:qac (m:Int) l=some (.inl (((m+min m (k-m):Nat):Int),cpyD l m (l.take m))):=by
    unfold qac;rw[dec_t (show(m:Int)<(l.length:Int) by omega),zb,gd_t (by rw[dec_t,inR_t (by omega) (by omega)]; rfl),gd_t (by rw[dec_t]; exact inR_t (a:=0) (by omega) (by omega)),za,
     gd_t (by rw[dec_t rfl,dec_t (show m<=l.length by omega),dec_t (show 0<l.length by omega)]; rfl),hlt,hl]
    rw[show wi64 ((m:Int)+Int.ofNat (min m (k-m)))=((m+min m (k-m):Nat):Int) by rw[show Int.ofNat (min m (k-m))=((min m (k-m):Nat):Int) from rfl,wi (by omega)]; omega]
   rw[qaJ hst];refine ih _ _ (by omega) (by omega) (by omega) (by rw[quj _ _ (by omega)]; exact hl) fun i hi=>?_
   rw[quk _ _ (by omega),hlt]
   by_cases hc:m<=i/\i<m+min m (l.length-m)
   ·rw[if_pos hc,zr,if_pos (by omega)]
    exact h _ (by omega)
   ·rw[if_neg hc];rw[hl] at hc;exact h i (by omega)
theorem qFN(v:Vl){k:Nat}(h1:1<=k)(h2:k<100):qa6 [v] (k:Int)=some (List.replicate k v):=by
 unfold qa6;rw[dec_f (show ¬(k:Int)<0 by omega),zc,z7,show(([v].length:Nat):Int)=1 from rfl,qFL ⟨k,h2⟩,z7,dec_f (show ¬(0:Int)<0 by omega),zc,dec_f (show ¬9223372036854775807<(k:Int) by omega),z7]
 simp only[zc,z7];rw[wi (by omega),gd_t (qkF (by omega)),za,zc2,gd_t (by rw[dec_t]; rfl),show Int.ofNat (min [v].length (k-0))=((1:Nat):Int) by simp only[zf,zo]; rw[ze1 (by omega)]; rfl]
 rw[qFM v k (by omega) k 1 _ (by omega) (by omega) h1 (by rw[quj _ _ (by omega),zc2]) fun i hi=>?_]
 ·rfl
 ·rw[quk _ _ (by omega),if_pos (by simp; omega),show i-0=0 by omega]; rfl
def idleS(n:Net)(t:Int):Dk×Int:=if qbs n≠0 then(([],[],[],[]),qbs n) else
 bif rg 1 60 t then((List.replicate (n.2.1.length+n.2.2.1.length) (t,0,false,false),List.replicate n.2.1.length 0,List.replicate n.2.2.1.length 0,List.replicate n.2.2.2.1.length false),0) else(([],[],[],[]),20)
theorem valid0(t:Int):qcx (t,0,false,false)=rg 1 60 t:=by
 unfold qcx rg;simp only;by_cases h:1<=t
 ·rw[dec_t h,dec_t (show(0:Int)<=t by omega),zL]; simp
 ·rw[dec_f h]; rfl
theorem qES(n:Net)(t:Int)(h1:qbs n=0->1<=n.2.1.length+n.2.2.1.length):qpe n t=some (idleS n t):=by
 unfold qpe idleS;rw[qbd,qcK,z7,valid_eq,z7,valid0];by_cases h0:qbs n=0
 ·have hn:=VNet.of h0;have m1:=hn.small.sg;have m2:=hn.small.po;have m3:=hn.small.st;have hh:=h1 h0;rw[dec_t h0,if_neg (fun e=>e h0),zg,zc]
  cases rg 1 60 t with
  | false=>rfl
  | true=>
   simp only[zg,zc,zb];rw[gd_t (qkF (by omega)),gd_t (qkF (by omega)),gd_t (qkF (by omega)),qvc hn,z7,qFN _ hh (by omega),z7]
   simp only[za]
 ·rw[dec_f h0,if_pos h0]; rfl
theorem qFO(l:List Int):qqm l=some (decide ((l.length:Int)<=400)):=rfl
end Go.Proofs.YtmdijohmddokhaaGreatDoor
