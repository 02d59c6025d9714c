/- Lemmas. No condition. -/
import Derived.Test.YtmdijohmddokhaaGreatDoorQw
import Derived.Test.YtmdijohmddokhaaGreatDoorSqZ
namespace Go.Proofs.YtmdijohmddokhaaGreatDoor
open Go Go.Sq
theorem qyZ:qd3=some true:=by kernel_rfl
def i64P(x:Int):Prop:=-9223372036854775808<=x/\x<=9223372036854775807
theorem qEQ{x n:Int}(hx:i64P x)(h1:1<=n)(h2:n<=4611686018427387904):qq7 x n=some (x%n):=by
 unfold i64P at hx;have e:=Int.emod_add_mul_ediv x n;have b1:=Int.emod_nonneg x (show n≠0 by omega)
 have b2:=Int.emod_lt_of_pos x (show 0<n by omega)
 unfold qq7;rw[dec_f (show ¬n<1 by omega),dec_f (show ¬n=0 by omega)]
 simp only[zb,zk1,gd_tt];by_cases h0:0<=x
 ·rw[Int.tmod_eq_emod_of_nonneg h0,dec_f (by omega)]; rfl
 ·have e2:Int.tmod x n=if x%n=0 then 0 else x%n-n:=by
   rw[Int.tmod_eq_emod];by_cases hd:n∣x
   ·rw[if_pos (.inr hd),if_pos (Int.emod_eq_zero_of_dvd hd)];rw[Int.emod_eq_zero_of_dvd hd]; rfl
   ·rw[if_neg (by simp[hd]; omega),if_neg (fun hh=>hd (Int.dvd_of_emod_eq_zero hh))]
    congr 1; omega
  rw[e2];by_cases hz:x%n=0
  ·rw[if_pos hz,dec_f (by omega),hz]; rfl
  ·rw[if_neg hz,dec_t (by omega)]
   simp only[za];rw[show x%n-n+n=x%n by omega,wi (by omega)]
structure SrcOk(s:List Int)(p:Int):Prop where
 len:s.length<=2000
 el:∀x∈s,i64P x
 p0:0<=p
 p1:p<=2000
theorem qER{l:List Int}(hl:∀x∈l,i64P x):∃s,qq6 l=some (s,0)/\SrcOk s 0:=by
 refine⟨l.take 2000,?_,by rw[zo]; omega,fun x hx=>hl x (zN1 hx),by omega,by omega⟩
 unfold qq6;have hm:min (l.length:Int) 2000=((min l.length 2000:Nat):Int):=by omega
 rw[hm];rw[gd_t (show cutG none (some (.i64,((min l.length 2000:Nat):Int))) l.length=true by
  unfold cutG; simp only[z8,zi]; omega)]
 rw[z9];congr 2;by_cases h:l.length<=2000
 ·rw[z61 h,zB (zZ _),zB h]
 ·rw[Nat.min_eq_right (by omega)]
theorem qES{s:List Int}{p:Int}(h:SrcOk s p):∃r p',qi8 s p=some (r,s,p')/\i64P r/\SrcOk s p':=by
 have h0:=h.p0; have h1:=h.p1; have hl:=h.len;unfold qi8;by_cases hp:(s.length:Int)<=p
 ·rw[dec_t hp];exact⟨0,p,rfl,by unfold i64P; omega,h⟩
 ·obtain⟨k,rfl⟩:∃k:Nat,p=(k:Int):=⟨p.toNat,by omega⟩
  have hk:k<s.length:=by omega
  rw[dec_f hp,show wi64 ((k:Int)+1)=(k:Int)+1 from wi (by omega),show(k:Int)+1-1=(k:Int) by omega,show wi64 (k:Int)=(k:Int) from wi (by omega)]
  simp only[zb,gd_t (inB_t hk)];exact⟨_,_,rfl,h.el _ (qbc hk),⟨hl,h.el,by omega,by omega⟩⟩
theorem n_eq{n:Int}{s:List Int}{p:Int}(h:SrcOk s p)(h1:1<=n)(h2:n<=4611686018427387904):∃r p',qac n s p=some (r,s,p')/\0<=r/\r<n/\SrcOk s p':=by
 obtain⟨r,p',q1,q2,q3⟩:=qES h;refine⟨r%n,p',?_,Int.emod_nonneg r (show n≠0 by omega),Int.emod_lt_of_pos r (show 0<n by omega),q3⟩
 unfold qac;rw[q1];simp only[z7,qEQ q2 h1 h2]
theorem qB7{lo hi:Int}{s:List Int}{p:Int}(h:SrcOk s p)(h0 : -1000000<=lo)(h1:lo<=hi)(h2:hi<=1000000):∃r p',qa6 lo hi s p=some (r,s,p')/\lo<=r/\r<=hi/\SrcOk s p':=by
 unfold qa6;rw[show wi64 (hi-lo)=hi-lo from wi (by omega),show wi64 (hi-lo+1)=hi-lo+1 from wi (by omega)]
 obtain⟨r,p',q1,q2,q3,q4⟩:=n_eq (n:=hi-lo+1) h (by omega) (by omega)
 refine⟨lo+r,p',?_,by omega,by omega,q4⟩
 rw[q1];simp only[z7];rw[wi (by omega)]
theorem qDW{l s:List Int}{p:Int}(h:SrcOk s p)(h1:l≠[])(h2:l.length<=1000000):∃r p',qaq l s p=some (r,s,p')/\r∈l/\SrcOk s p':=by
 have hp:=List.length_pos_iff.2 h1;obtain⟨r,p',q1,q2,q3,q4⟩:=n_eq (n:=(l.length:Int)) h (by omega) (by omega)
 obtain⟨k,rfl⟩:∃k:Nat,r=(k:Int):=⟨r.toNat,by omega⟩
 have hk:k<l.length:=by omega
 refine⟨l.getD k 0,p',?_,qbc hk,q4⟩
 unfold qaq;rw[q1];simp only[z7,gd_t (inB_t hk),z9]
set_option linter.unusedVariables false
abbrev Str:=List UInt8
theorem qsw{A:Type}(l:List A)(d:A)(q:A->Bool):(List.range l.length).all (fun i=>q (l.getD i d))=l.all q:=by
 rw[zX,qoQ,zm];constructor
 ·intro h x hx;obtain⟨k,hk,rfl⟩:=qoR d hx;exact h k hk
 ·intro h i hi;exact h _ (qbc hi)
theorem scan{A ε:Type}(l:List A)(d:A){step:Int->Option (Int⊕ε)}(q:A->Bool){fin bad:ε}
  (h1:∀i,i<l.length->q (l.getD i d)=true->step (i:Int)=some (.inl ((i+1:Nat):Int)))
  (h2:∀i,i<l.length->q (l.getD i d)=false->step (i:Int)=some (.inr bad)) (h3:step (l.length:Int)=some (.inr fin)):iter step 0=some (bif l.all q then fin else bad):=by
 have:=qbt (step:=step) l.length (fun i=>(i:Int)) (fun i=>q (l.getD i d)) (fin:=fin) (bad:=bad) (fun i hi _ hq=>h1 i hi hq) (fun i hi _ hq=>h2 i hi hq) (fun _=>h3)
 rw[qsw] at this;exact this
theorem w1{i n:Nat}(h:i<n)(hn:n<=4611686018427387904):wi64 ((i:Int)+1)=((i+1:Nat):Int):=by rw[wi (by omega)]; omega
theorem inB0{n:Nat}(h:0<n):inB 0 n=true:=qae.2 ⟨by omega,by omega⟩
theorem qgd{A ε:Type}(l:List A)(d:A){step:Int->Option (Int⊕ε)}(q:A->Bool){fin:ε}(hit:Nat->ε)
  (h1:∀i,i<l.length->q (l.getD i d)=false->step (i:Int)=some (.inl ((i+1:Nat):Int)))
  (h2:∀i,i<l.length->q (l.getD i d)=true->step (i:Int)=some (.inr (hit i))) (h3:step (l.length:Int)=some (.inr fin)):
  iter step 0=some (if l.findIdx q<l.length then hit (l.findIdx q) else fin):=by
 have hlt:∀i,i<l.findIdx q->i<l.length/\q (l.getD i d)=false:=by
  intro i hi;have hl:i<l.length:=zn1 hi List.findIdx_le_length;refine⟨hl,?_⟩
  rw[gD_eq hl];exact List.not_of_lt_findIdx hi
 refine qbl (l.findIdx q) (fun i=>(i:Int)) (fun i hi=>h1 i (hlt i hi).1 (hlt i hi).2) ?_
 by_cases hf:l.findIdx q<l.length
 ·rw[if_pos hf];exact h2 _ hf (by rw[gD_eq hf]; exact List.findIdx_getElem (w:=hf))
 ·rw[if_neg hf];have:l.findIdx q=l.length:=Nat.le_antisymm List.findIdx_le_length (Nat.le_of_not_lt hf);show step ((l.findIdx q:Nat):Int)=_;rw[this]; exact h3
theorem eqU(b c:UInt8)(n:Int)(h:(c.toNat:Int)=n):decide ((Int.ofNat b.toNat)=n)=(b==c):=by
 rw[zX,zz,zZ2];simp only[zE1];constructor
 ·intro e; exact UInt8.toNat_inj.1 (by omega)
 ·rintro rfl; exact h
def fch(b:UInt8):Bool:=Nat.ble 97 b.toNat&&Nat.ble b.toNat 122
def nch(b:UInt8):Bool:=fch b || (Nat.ble 48 b.toNat&&Nat.ble b.toNat 57) || b==45
def nameB(s:Str):Bool:=Nat.ble 1 s.length&&Nat.ble s.length 12&&fch (s.headD 0)&&s.all nch
theorem place_eq(b:UInt8):qfl (Int.ofNat b.toNat)=some (bif fch b then 1 else bif nch b then 2 else 0):=by
 have h1:decide (97<=(Int.ofNat b.toNat))=Nat.ble 97 b.toNat:=by rw[zX,zz,zf1]; simp only[zE1]; omega
 have h2:decide ((Int.ofNat b.toNat)<=122)=Nat.ble b.toNat 122:=by rw[zX,zz,zf1]; simp only[zE1]; omega
 have h3:decide (48<=(Int.ofNat b.toNat))=Nat.ble 48 b.toNat:=by rw[zX,zz,zf1]; simp only[zE1]; omega
 have h4:decide ((Int.ofNat b.toNat)<=57)=Nat.ble b.toNat 57:=by rw[zX,zz,zf1]; simp only[zE1]; omega
 unfold qfl nch fch;rw[h1,h2,h3,h4,eqU _ 45 45 rfl];cases Nat.ble 97 b.toNat <;> cases Nat.ble b.toNat 122 <;> cases Nat.ble 48 b.toNat <;> cases Nat.ble b.toNat 57 <;> cases b==45 <;> rfl
theorem nch_f{b:UInt8}(h:fch b=true):nch b=true:=by unfold nch; rw[h]; rfl
theorem qB8(s:Str)(hl:s.length<=1000000):qcE s=some (nameB s):=by
 have h:iter (fun x=>qcc s x) 0=some (bif s.all nch then .inl () else .inr false):=by
  refine scan s 0 nch (fun i hi hq=>?_) (fun i hi hq=>?_) ?_
  ·unfold qcc;rw[dec_t (by omega),za,gd_t (inB_t hi),z9,place_eq,z7,hq,w1 hi (by omega)]
   cases fch (s.getD i 0) <;> rfl
  ·unfold qcc;rw[dec_t (by omega),za,gd_t (inB_t hi),z9,place_eq,z7,hq]
   cases hf:fch (s.getD i 0) with
   | true=>rw[nch_f hf] at hq; cases hq
   | false=>rfl
  ·unfold qcc;rw[dec_f (by omega)]; rfl
 unfold qcE nameB;by_cases h1:s.length<1
 ·rw[dec_t (show(s.length:Int)<1 by omega),show Nat.ble 1 s.length=false by rw[zK,ne_eq,zf1]; omega]; rfl
 ·rw[dec_f (show ¬(s.length:Int)<1 by omega),zb,show Nat.ble 1 s.length=true by rw[zf1]; omega]
  by_cases h2:12<s.length
  ·rw[dec_t (show 12<(s.length:Int) by omega),show Nat.ble s.length 12=false by rw[zK,ne_eq,zf1]; omega]; rfl
  ·rw[dec_f (show ¬12<(s.length:Int) by omega),zb,show Nat.ble s.length 12=true by rw[zf1]; omega,gd_t (inB0 (by omega)),place_eq,z7,h]
   have hh:s.getD 0 0=s.headD 0:=by cases s <;> rfl
   rw[hh];cases fch (s.headD 0) with
   | false=>cases nch (s.headD 0) <;> rfl
   | true=>cases s.all nch <;> rfl
theorem rname_eq(s:Str)(hl:s.length<=1000000):qcs s=some (nameB s):=by
 have k1:∀b:UInt8,decide ((Int.ofNat b.toNat)<97)=!Nat.ble 97 b.toNat:=by
  intro b; rw[zX,zz,zu,zK,ne_eq,zf1]; simp only[zE1]; omega
 have k2:∀b:UInt8,decide (122<(Int.ofNat b.toNat))=!Nat.ble b.toNat 122:=by
  intro b; rw[zX,zz,zu,zK,ne_eq,zf1]; simp only[zE1]; omega
 have k3:∀b:UInt8,decide ((Int.ofNat b.toNat)<48)=!Nat.ble 48 b.toNat:=by
  intro b; rw[zX,zz,zu,zK,ne_eq,zf1]; simp only[zE1]; omega
 have k4:∀b:UInt8,decide (57<(Int.ofNat b.toNat))=!Nat.ble b.toNat 57:=by
  intro b; rw[zX,zz,zu,zK,ne_eq,zf1]; simp only[zE1]; omega
 have step:∀i,i<s.length->qch s (i:Int)=some (bif nch (s.getD i 0) then .inl ((i+1:Nat):Int) else .inr (.inr false)):=by
  intro i hi;unfold qch;simp only[gd_t (inB_t hi),z9];rw[dec_t (show(i:Int)<(s.length:Int) by omega),za,k1,k2,k3,k4,eqU _ 45 45 rfl,w1 hi (by omega)]
  unfold nch fch;cases Nat.ble 97 (s.getD i 0).toNat <;> cases Nat.ble (s.getD i 0).toNat 122 <;> cases Nat.ble 48 (s.getD i 0).toNat <;> cases Nat.ble (s.getD i 0).toNat 57 <;> cases s.getD i 0==45 <;> rfl
 have h:iter (fun x=>qch s x) 0=some (bif s.all nch then .inl () else .inr false):=by
  refine scan s 0 nch (fun i hi hq=>?_) (fun i hi hq=>?_) ?_
  ·rw[step i hi,hq]; rfl
  ·rw[step i hi,hq]; rfl
  ·unfold qch;rw[dec_f (by omega)]; rfl
 unfold qcs nameB;by_cases h1:s.length<1
 ·rw[dec_t (show(s.length:Int)<1 by omega),show Nat.ble 1 s.length=false by rw[zK,ne_eq,zf1]; omega]; rfl
 ·rw[dec_f (show ¬(s.length:Int)<1 by omega),zb,show Nat.ble 1 s.length=true by rw[zf1]; omega]
  by_cases h2:12<s.length
  ·rw[dec_t (show 12<(s.length:Int) by omega),show Nat.ble s.length 12=false by rw[zK,ne_eq,zf1]; omega]; rfl
  ·rw[dec_f (show ¬12<(s.length:Int) by omega),zb,show Nat.ble s.length 12=true by rw[zf1]; omega,gd_t (inB0 (by omega)),gd_t (inB0 (by omega)),k1,k2,h]
   have hh:s.getD 0 0=s.headD 0:=by cases s <;> rfl
   rw[hh];unfold fch;cases Nat.ble 97 (s.headD 0).toNat <;> cases Nat.ble (s.headD 0).toNat 122 <;> cases s.all nch <;> rfl
theorem qsx(s:Str):qcE s=some (nameB s):=by
 by_cases hl:s.length<=1000000
 ·exact qB8 s hl
 ·unfold qcE nameB;rw[dec_f (show ¬(s.length:Int)<1 by omega),zb,dec_t (show 12<(s.length:Int) by omega),show Nat.ble s.length 12=false by rw[zK,ne_eq,zf1]; omega]
  cases Nat.ble 1 s.length <;> rfl
theorem qvO(s:Str):qcs s=some (nameB s):=by
 by_cases hl:s.length<=1000000
 ·exact rname_eq s hl
 ·unfold qcs nameB;rw[dec_f (show ¬(s.length:Int)<1 by omega),zb,dec_t (show 12<(s.length:Int) by omega),show Nat.ble s.length 12=false by rw[zK,ne_eq,zf1]; omega]
  cases Nat.ble 1 s.length <;> rfl
/-! ### Sources -/
theorem srcN{n:Int}{s:List Int}{p:Int}(h:SrcOk s p)(h1:1<=n)(h2:n<=4611686018427387904):Ok (qac n s p) fun q=>q.2.1=s/\SrcOk s q.2.2/\0<=q.1/\q.1<n:=by
 obtain⟨r,p',q1,q2,q3,q4⟩:=n_eq h h1 h2;exact⟨_,q1,rfl,q4,q2,q3⟩
theorem srcR{lo hi:Int}{s:List Int}{p:Int}(h:SrcOk s p)(h0 : -1000000<=lo)(h1:lo<=hi)(h2:hi<=1000000):Ok (qa6 lo hi s p) fun q=>q.2.1=s/\SrcOk s q.2.2/\lo<=q.1/\q.1<=hi:=by
 obtain⟨r,p',q1,q2,q3,q4⟩:=qB7 h h0 h1 h2;exact⟨_,q1,rfl,q4,q2,q3⟩
theorem srcP{l s:List Int}{p:Int}(h:SrcOk s p)(h1:l≠[])(h2:l.length<=1000000):Ok (qaq l s p) fun q=>q.2.1=s/\SrcOk s q.2.2/\q.1∈l:=by
 obtain⟨r,p',q1,q2,q3⟩:=qDW h h1 h2;exact⟨_,q1,rfl,q3,q2⟩
/-! ### Names -/
def nm(c:UInt8)(i:Nat):List UInt8:=[c,UInt8.ofNat (97+i)]
theorem qB9:∀i:Fin 26,qbC [wu8 (wi64 (97+(Int.tmod ((i.val:Nat):Int) 26)))]=[UInt8.ofNat (97+i.val)]:=by decide +kernel
theorem name_eq(c:UInt8)(i:Nat)(h:i<26):qiu [c] (i:Int)=some (nm c i):=by
 unfold qiu;rw[qB9 ⟨i,h⟩];rfl
theorem qET{c:UInt8}{i j:Nat}(hi:i<26)(hj:j<26)(h:nm c i=nm c j):i=j:=by
 have key:∀a b:Fin 26,UInt8.ofNat (97+a.val)=UInt8.ofNat (97+b.val)->a=b:=by decide +kernel
 unfold nm at h;have h2:UInt8.ofNat (97+i)=UInt8.ofNat (97+j):=by simpa using h
 have:=key ⟨i,hi⟩ ⟨j,hj⟩ h2;exact congrArg Fin.val this
def nms(c:UInt8)(n:Nat):List (List UInt8):=(List.range n).map (nm c)
theorem qqc(c:UInt8)(n:Nat):(nms c n).length=n:=by simp[nms]
theorem qq8(c:UInt8)(n:Nat):nms c (n+1)=nms c n++[nm c n]:=by unfold nms; rw[List.range_succ]; simp
theorem qpE(c:UInt8){n:Nat}(h:n<=26):(nms c n).Nodup:=by
 unfold nms;refine List.Pairwise.map _ (S:=fun a b=>a≠b) (R:=fun a b=>a<n/\b<n/\a≠b) (fun a b hab e=>?_) ?_
 ·exact hab.2.2 (qET (by omega) (by omega) e)
 ·refine List.Pairwise.imp_of_mem (R:=fun a b=>a≠b) (fun ha hb hab=>?_) List.nodup_range
  exact⟨zM.1 ha,zM.1 hb,hab⟩
theorem qDX{c:UInt8}{n:Nat}{x:List UInt8}(h:x∈nms c n):∃i,i<n/\x=nm c i:=by
 obtain⟨i,hi,rfl⟩:=zV.1 h;exact⟨i,zM.1 hi,rfl⟩
/-! ### Segments -/
abbrev Pt:=Int×Int×Int
abbrev Seg:=List UInt8×Int×Int×Int×Int×Int×List Pt
abbrev Port:=List UInt8×Int×Int
abbrev Stat:=List UInt8×Int×Int×Int×Int
abbrev Net:=List (List UInt8)×List Seg×List Port×List Stat×Int×Int
def p0:Pt:=(0,0,0)
structure PtsP(cap:Int)(x:List Pt):Prop where
 l2:2<=x.length
 l8:x.length<=8
 rng:∀y∈x,-500<=y.2.1/\y.2.1<=5000/\0<=y.2.2/\y.2.2<=100000000
 inc:∀i,i+1<x.length->(x.getD i p0).1<(x.getD (i+1) p0).1
 fst:(x.getD 0 p0).1=0
 lst:(x.getD (x.length-1) p0).1=cap
structure SegP(k:Nat)(s:Seg):Prop where
 f0:0<=s.2.1
 f1:s.2.1<k
 t0:0<=s.2.2.1
 t1:s.2.2.1<k
 ne:s.2.1≠s.2.2.1
 cap:1<=s.2.2.2.1/\s.2.2.2.1<=1000000
 res:0<=s.2.2.2.2.1/\s.2.2.2.2.1<=1000
 wav:0<=s.2.2.2.2.2.1/\s.2.2.2.2.2.1<=100000
 pts:PtsP s.2.2.2.1 s.2.2.2.2.2.2
structure PreP(cap at':Int)(x:List Pt):Prop where
 l1:1<=x.length
 l7:x.length<=7
 rng:∀y∈x,-500<=y.2.1/\y.2.1<=5000/\0<=y.2.2/\y.2.2<=100000000
 inc:∀i,i+1<x.length->(x.getD i p0).1<(x.getD (i+1) p0).1
 fst:(x.getD 0 p0).1=0
 lst:(x.getD (x.length-1) p0).1=at'
 a0:0<=at'
 a1:at'<cap
theorem qq9{A:Type}{x y:List A}{i:Nat}{d:A}(h:i<x.length):(x++y).getD i d=x.getD i d:=by
 rw[zh,zT h,<-zh]
theorem qxV{A:Type}{x:List A}{y d:A}{i:Nat}(h:i=x.length):(x++[y]).getD i d=y:=by
 subst h; rw[zh,zY (by omega)]; simp
theorem PreP.more{cap a b:Int}{x:List Pt}(h:PreP cap a x)(hb:a<b){y:Pt}(hy:y.1=b)(hr : -500<=y.2.1/\y.2.1<=5000/\0<=y.2.2/\y.2.2<=100000000):
  (∀z∈x++[y],-500<=z.2.1/\z.2.1<=5000/\0<=z.2.2/\z.2.2<=100000000)/\(∀i,i+1<(x++[y]).length->((x++[y]).getD i p0).1<((x++[y]).getD (i+1) p0).1)/\((x++[y]).getD 0 p0).1=0/\((x++[y]).getD ((x++[y]).length-1) p0).1=b:=by
 have hl:=h.l1;have e1:(x++[y]).length=x.length+1:=by simp
 refine⟨fun z hz=>?_,fun i hi=>?_,?_,?_⟩
 ·rcases zA.1 hz with hz | hz
  ·exact h.rng z hz
  ·rw[zO.1 hz]; exact hr
 ·rw[e1] at hi;by_cases h2:i+1<x.length
  ·rw[qq9 (by omega),qq9 h2]; exact h.inc i h2
  ·rw[qq9 (by omega),qxV (by omega),hy]
   have:=h.lst;rw[show x.length-1=i by omega] at this
   omega
 ·rw[qq9 (by omega)]; exact h.fst
 ·rw[e1,qxV (by omega),hy]
theorem qDo{k i j:Nat}(c:Nat)(hc:c<26)(hi:i<k)(hj:j<k)(hne:i≠j)(hk:k<=100){s:List Int}{p:Int}(h:SrcOk s p):
  Ok (qdz (c:Int) (i:Int) (j:Int) s p) fun q=>q.2.1=s/\SrcOk s q.2.2/\q.1.1=nm 103 c/\SegP k q.1:=by
 unfold qdz;refine Ok.bind (srcN h (n:=4) (by omega) (by omega)) ?_
 rintro⟨r,s',p'⟩ ⟨e,h,h0,h1⟩
 have e:s'=s:=e;subst e
 try simp only at h
 refine Ok.bind (Q:=fun z:Int×Int=>0<=z.1/\z.1<k/\0<=z.2/\z.2<k/\z.1≠z.2) (Ok.bif (fun _=>.ret ⟨by simp only; omega,by simp only; omega,by simp only; omega,by simp only; omega,by simp only; omega⟩) fun _=>.ret ⟨by simp only; omega,by simp only; omega,by simp only; omega,by simp only; omega,by simp only; omega⟩) ?_
 rintro⟨f,t⟩ ⟨z1,z2,z3,z4,z5⟩
 refine Ok.eq (name_eq 103 c hc) ?_
 refine Ok.bind (srcP h (by simp) (by simp)) ?_
 rintro⟨cap,s2,p2⟩ ⟨e,h,hcap⟩
 have e:s2=s':=e;subst e
 try simp only at h hcap
 refine Ok.bind (srcP h (by simp) (by simp)) ?_
 rintro⟨res,s3,p3⟩ ⟨e,h,hres⟩
 have e:s3=s2:=e;subst e
 try simp only at h hres
 refine Ok.bind (srcP h (by simp) (by simp)) ?_
 rintro⟨wav,s4,p4⟩ ⟨e,h,hwav⟩
 have e:s4=s3:=e;subst e
 try simp only at h hwav
 refine Ok.bind (srcP h (by simp) (by simp)) ?_
 rintro⟨lim,s5,p5⟩ ⟨e,h,hlim⟩
 have e:s5=s4:=e;subst e
 try simp only at h hlim
 refine Ok.bind (srcR h (by omega) (by omega) (by omega)) ?_
 rintro⟨hh,s6,p6⟩ ⟨e,h,hh0,hh1⟩
 have e:s6=s5:=e;subst e
 try simp only at h hh0 hh1
 have bcap:1<=cap/\cap<=1000:=by simp at hcap; omega
 have blim:1000000<=lim/\lim<=100000000:=by simp at hlim; omega
 refine Ok.bind (Q:=fun q:List Int×Int×List Pt=>q.1=s6/\SrcOk s6 q.2.1/\∃a,PreP cap a q.2.2) ?_ ?_
 ·refine Ok.loop (fun x:Int×List Int×Int×List Pt=>x.2.1=s6/\SrcOk s6 x.2.2.1/\PreP cap x.1 x.2.2.2) (fun x=>7-x.2.2.2.length) ⟨rfl,h,⟨by simp,by simp,fun y hy=>by rw[zO.1 hy]; simp only; omega,fun i hi=>by simp at hi,rfl,rfl,by simp,by simp only; omega⟩⟩ ?_
  rintro⟨at',s7,p7,x⟩ ⟨e,h,hx⟩
  have e:s7=s6:=e;subst e
  try simp only at h hx
  unfold qiv;simp only;refine Ok.bind (Q:=fun q:Bool×List Int×Int×List Pt=>q.2.1=s7/\SrcOk s7 q.2.2.1/\q.2.2.2=x/\(q.1=true->x.length<7)) (Ok.bif (fun hc=>?_) fun _=>.ret ⟨rfl,h,rfl,fun h=>by cases h⟩) ?_
  ·have hc:=zj hc;refine Ok.bind (srcN h (n:=3) (by omega) (by omega)) ?_
   rintro⟨r,s8,p8⟩ ⟨e,h,_,_⟩
   exact .ret ⟨e,h,rfl,fun _=>by omega⟩
  ·rintro⟨b,s8,p8,x'⟩ ⟨e,h,e2,hb⟩
   have e:s8=s7:=e;have e2:x'=x:=e2;subst e e2
   try simp only at h hb
   refine Ok.bif (fun hbt=>?_) fun _=>.ret ⟨rfl,h,at',hx⟩
   have hx7:=hb hbt;refine Ok.bind (srcR h (by omega) (by omega) (by omega)) ?_
   rintro⟨d,s9,p9⟩ ⟨e,h,d0,d1⟩
   have e:s9=s8:=e;subst e
   try simp only at h d0 d1
   have ha0:=hx.a0;have ha1:=hx.a1;rw[show wi64 (at'+d)=at'+d from wi (by omega)]
   refine Ok.bif (fun _=>.ret ⟨rfl,h,at',hx⟩) fun hc=>?_
   have hc:=zQ hc
   try simp only at hc
   refine Ok.bind (srcR h (by omega) (by omega) (by omega)) ?_
   rintro⟨g,s10,p10⟩ ⟨e,h,g0,g1⟩
   have e:s10=s9:=e;subst e
   try simp only at h g0 g1
   refine Ok.bind (srcP h (by simp) (by simp)) ?_
   rintro⟨m,s11,p11⟩ ⟨e,h,hm⟩
   have e:s11=s10:=e;subst e
   try simp only at h hm
   refine Ok.bind (srcN h (n:=3) (by omega) (by omega)) ?_
   rintro⟨w,s12,p12⟩ ⟨e,h,w0,w1⟩
   have e:s12=s11:=e;subst e
   try simp only at h w0 w1
   have hm:m=1\/m=10:=by simp at hm; omega
   have hgm : -500<=g*m/\g*m<=5000:=by rcases hm with rfl | rfl <;> omega
   refine Ok.gd (qav (by simp only; omega)) ?_
   simp only;rw[show wi64 (g*m)=g*m from wi (by omega),show wi64 (w*1000)=w*1000 from wi (by omega),show wi64 (lim-w*1000)=lim-w*1000 from wi (by omega)]
   obtain⟨y1,y2,y3,y4⟩:=hx.more (b:=at'+d) (by omega) (y:=(at'+d,g*m,lim-w*1000)) rfl (by simp only; omega)
   exact .ret ⟨⟨rfl,h,⟨by simp,by simp only[zd,zf,zx]; omega,y1,y2,y3,y4,by simp only; omega,by simp only; omega⟩⟩,by simp only[zd,zf,zx]; omega⟩
 ·rintro⟨s7,p7,x⟩ ⟨e,h,a,hx⟩
  have e:s7=s6:=e;subst e
  try simp only at h hx
  refine Ok.bind (srcR h (by omega) (by omega) (by omega)) ?_
  rintro⟨g,s8,p8⟩ ⟨e,h,g0,g1⟩
  have e:s8=s7:=e;subst e
  try simp only at h g0 g1
  have h7:=hx.l7;have h1':=hx.l1;refine Ok.gd (qav (by simp only; omega)) ?_
  obtain⟨y1,y2,y3,y4⟩:=hx.more (b:=cap) hx.a1 (y:=(cap,g,lim)) rfl (by simp only; omega)
  refine .ret ⟨rfl,h,rfl,⟨z1,z2,z3,z4,z5,by simp only; omega,by simp at hres; simp only; omega,by simp at hwav; simp only; omega,⟨?_,?_,y1,y2,y3,y4⟩⟩⟩
  ·simp only[zd,zf,zx]; omega
  ·simp only[zd,zf,zx]; omega
structure qxW(k i:Nat)(l:List Port):Prop where
 len:l.length<=i
 nam:l.map (·.1)=nms 113 l.length
 rng:∀p∈l,0<=p.2.1/\p.2.1<k/\0<=p.2.2/\p.2.2<=100000000
structure qxX(i:Nat)(l:List Stat):Prop where
 len:l.length<=i
 nam:l.map (·.1)=nms 115 l.length
 dif:(l.map (·.2.1)).Nodup
 rng:∀t∈l,0<=t.2.1/\t.2.1<i/\(0<=t.2.2.1/\t.2.2.1<=100000000)/\(0<=t.2.2.2.1/\t.2.2.2.1<=100000)/\(0<=t.2.2.2.2/\t.2.2.2.2<=100000000)
structure SegsP(k:Nat)(l:List Seg):Prop where
 len:l.length<=8
 nam:l.map (·.1)=nms 103 l.length
 rng:∀s∈l,SegP k s
structure NetP(k:Nat)(n:Net):Prop where
 k2:2<=k
 k6:k<=6
 nodes:n.1=nms 110 k
 segs:SegsP k n.2.1
 segk:k-1<=n.2.1.length
 ports:qxW k k n.2.2.1
 some':2<=n.2.2.1.length
 stats:qxX k n.2.2.2.1
 vap : -100000<=n.2.2.2.2.1/\n.2.2.2.2.1<=100000000
 set:0<=n.2.2.2.2.2/\n.2.2.2.2.2<=100
theorem SegsP.more{k:Nat}{l:List Seg}(h:SegsP k l)(hl:l.length<=7){x:Seg}(hn:x.1=nm 103 l.length)(hx:SegP k x):SegsP k (l++[x]):=by
 refine⟨by simp; omega,?_,fun s hs=>?_⟩
 ·rw[zL1,h.nam,zd];show _=nms 103 (l.length+1);rw[qq8]; simp[hn]
 ·rcases zA.1 hs with hs | hs
  ·exact h.rng s hs
  ·rw[zO.1 hs]; exact hx
theorem qEU{s:List Int}{p:Int}(h:SrcOk s p):Ok (qfb s p) fun q=>q.2.1=s/\SrcOk s q.2.2/\∃k,NetP k q.1:=by
 unfold qfb;refine Ok.bind (srcP h (by simp) (by simp)) ?_
 rintro⟨vap,s1,p1⟩ ⟨e,h,hvap⟩
 replace e:s1=s:=e;subst e
 try simp only at h hvap
 refine Ok.bind (srcP h (by simp) (by simp)) ?_
 rintro⟨set',s2,p2⟩ ⟨e,h,hset⟩
 replace e:s2=s1:=e;subst e
 try simp only at h hset
 refine Ok.bind (srcR h (by omega) (by omega) (by omega)) ?_
 rintro⟨kk,s3,p3⟩ ⟨e,h,hk2,hk6⟩
 replace e:s3=s2:=e;subst e
 try simp only at h hk2 hk6
 obtain⟨k,rfl⟩:∃k:Nat,kk=(k:Int):=⟨kk.toNat,by omega⟩
 have hk2':2<=k:=by omega
 have hk6':k<=6:=by omega
 refine Ok.bind (Q:=fun n:List (List UInt8)=>n=nms 110 k) ?_ ?_
 ·refine Ok.loop (fun x:Int×List (List UInt8)=>∃i:Nat,i<=k/\x.1=((k-i:Nat):Int)/\x.2=nms 110 i) (fun x=>x.1.toNat) ⟨0,by omega,rfl,rfl⟩ ?_
  rintro⟨a,b⟩ ⟨i,hi,e1,e2⟩
  replace e1:a=((k-i:Nat):Int):=e1;replace e2:b=nms 110 i:=e2;subst e1 e2;unfold qix;simp only;refine Ok.bif (fun hc=>?_) fun hc=>?_
  ·have hc:=zj hc;rw[qqc];refine Ok.eq (name_eq 110 i (by omega)) (Ok.gd (qav (by omega)) ?_)
   rw[show wi64 (((k-i:Nat):Int)-1)=((k-(i+1):Nat):Int) by rw[wi (by omega)]; omega]
   exact .ret ⟨⟨i+1,by omega,rfl,(qq8 _ _).symm⟩,by simp only[z9]; omega⟩
  ·have hc:=zQ hc;have:i=k:=by omega
   subst this;exact .ret rfl
 rintro nodes rfl
 refine Ok.bind (Q:=fun q:List Int×Int×List (List UInt8)×List Seg=>q.1=s3/\SrcOk s3 q.2.1/\q.2.2.1=nms 110 k/\SegsP k q.2.2.2/\q.2.2.2.length<=5/\k-1<=q.2.2.2.length) ?_ ?_
 ·refine Ok.loop (fun x:Int×List Int×Int×List (List UInt8)×List Seg=>x.2.1=s3/\SrcOk s3 x.2.2.1/\x.2.2.2.1=nms 110 k/\SegsP k x.2.2.2.2/\x.1=(x.2.2.2.2.length:Int)/\x.2.2.2.2.length<=k-1) (fun x=>k-x.2.2.2.2.length) ⟨rfl,h,rfl,⟨by simp,rfl,fun s hs=>by simp at hs⟩,rfl,by simp⟩ ?_
  rintro⟨i,s4,p4,n2,n3⟩ ⟨e,h,e2,hs,ei,hl⟩
  replace e:s4=s3:=e;replace e2:n2=nms 110 k:=e2;replace ei:i=(n3.length:Int):=ei;subst e e2 ei
  try simp only at h hs hl
  unfold qiy;simp only[qqc];rw[show wi64 ((k:Int)-1)=((k-1:Nat):Int) by rw[wi (by omega)]; omega]
  refine Ok.bif (fun hc=>?_) fun hc=>?_
  ·have hc:=zj hc;rw[show wi64 ((n3.length:Int)+1)=((n3.length+1:Nat):Int) by rw[wi (by omega)]; rfl]
   refine Ok.bind (qDo (k:=k) n3.length (by omega) (i:=n3.length) (j:=n3.length+1) (by omega) (by omega) (by omega) (by omega) h) ?_
   rintro⟨sg,s5,p5⟩ ⟨e,h,e1,hsg⟩
   replace e:s5=s4:=e;subst e
   try simp only at h e1 hsg
   refine Ok.gd (qav (by(try simp only); omega)) ?_
   exact .ret ⟨⟨rfl,h,rfl,hs.more (by omega) (x:=sg) e1 hsg,by simp,by simp; omega⟩,by simp; omega⟩
  ·have hc:=zQ hc;exact .ret ⟨rfl,h,rfl,hs,by(try simp only); omega,by(try simp only); omega⟩
 rintro⟨s4,p4,n2,n3⟩ ⟨e,h,e2,hs,hl,hlk⟩
 replace e:s4=s3:=e;replace e2:n2=nms 110 k:=e2;subst e e2
 try simp only at h hs hl hlk
 refine Ok.bind (srcN h (n:=4) (by omega) (by omega)) ?_
 rintro⟨m,s5,p5⟩ ⟨e,h,hm0,hm1⟩
 replace e:s5=s4:=e;subst e
 try simp only at h hm0 hm1
 refine Ok.bind (Q:=fun q:List Int×Int×List (List UInt8)×List Seg=>q.1=s5/\SrcOk s5 q.2.1/\q.2.2.1=nms 110 k/\SegsP k q.2.2.2/\k-1<=q.2.2.2.length) ?_ ?_
 ·refine Ok.loop (fun x:Int×List Int×Int×List (List UInt8)×List Seg=>x.2.1=s5/\SrcOk s5 x.2.2.1/\x.2.2.2.1=nms 110 k/\SegsP k x.2.2.2.2/\0<=x.1/\x.1+x.2.2.2.2.length<=8/\k-1<=x.2.2.2.2.length) (fun x=>x.1.toNat) ⟨rfl,h,rfl,hs,hm0,by(try simp only); omega,hlk⟩ ?_
  rintro⟨i,s6,p6,n4,n5⟩ ⟨e,h,e2,hs,hi0,hi1,hlk⟩
  replace e:s6=s5:=e;replace e2:n4=nms 110 k:=e2;subst e e2
  try simp only at h hs hi0 hi1 hlk
  unfold qiz;simp only[qqc];rw[show wi64 ((k:Int)-1)=((k-1:Nat):Int) by rw[wi (by omega)]; omega]
  refine Ok.bif (fun hc=>?_) fun hc=>?_
  ·have hc:=zj hc;refine Ok.bind (srcN h (n:=((k-1:Nat):Int)) (by omega) (by omega)) ?_
   rintro⟨a,s7,p7⟩ ⟨e,h,ha0,ha1⟩
   replace e:s7=s6:=e;subst e
   try simp only at h ha0 ha1
   rw[show wi64 (a+1)=a+1 from wi (by omega)]
   refine Ok.bind (srcR h (lo:=a+1) (hi:=((k-1:Nat):Int)) (by omega) (by omega) (by omega)) ?_
   rintro⟨b,s8,p8⟩ ⟨e,h,hb0,hb1⟩
   replace e:s8=s7:=e;subst e
   try simp only at h hb0 hb1
   obtain⟨a,rfl⟩:∃n:Nat,a=(n:Int):=⟨a.toNat,by omega⟩
   obtain⟨b,rfl⟩:∃n:Nat,b=(n:Int):=⟨b.toNat,by omega⟩
   refine Ok.bind (qDo (k:=k) n5.length (by omega) (i:=a) (j:=b) (by omega) (by omega) (by omega) (by omega) h) ?_
   rintro⟨sg,s9,p9⟩ ⟨e,h,e1,hsg⟩
   replace e:s9=s8:=e;subst e
   try simp only at h e1 hsg
   refine Ok.gd (qav (by(try simp only); omega)) ?_
   rw[show wi64 (i-1)=i-1 from wi (by omega)]
   exact .ret ⟨⟨rfl,h,rfl,hs.more (by omega) (x:=sg) e1 hsg,by(try simp only); omega,by simp; omega,by simp; omega⟩,by(try simp only); omega⟩
  ·exact .ret ⟨rfl,h,rfl,hs,hlk⟩
 rintro⟨s6,p6,n4,n5⟩ ⟨e,h,e2,hs,hlk⟩
 replace e:s6=s5:=e;replace e2:n4=nms 110 k:=e2;subst e e2
 try simp only at h hs
 refine Ok.bind (Q:=fun q:List Int×Int×List (List UInt8)×List Seg×List Port×List Stat=>q.1=s6/\SrcOk s6 q.2.1/\q.2.2.1=nms 110 k/\q.2.2.2.1=n5/\qxW k k q.2.2.2.2.1/\2<=q.2.2.2.2.1.length/\qxX k q.2.2.2.2.2) ?_ ?_
 ·refine Ok.loop (fun x:Int×List Int×Int×List (List UInt8)×List Seg×List Port×List Stat=>∃i:Nat,x.1=(i:Int)/\i<=k/\x.2.1=s6/\SrcOk s6 x.2.2.1/\x.2.2.2.1=nms 110 k/\x.2.2.2.2.1=n5/\qxW k i x.2.2.2.2.2.1/\((1<=i->1<=x.2.2.2.2.2.1.length)/\(i=k->2<=x.2.2.2.2.2.1.length))/\qxX i x.2.2.2.2.2.2) (fun x=>k-x.1.toNat) ⟨0,rfl,by omega,rfl,h,rfl,rfl,⟨by simp,rfl,fun p hp=>by simp at hp⟩,⟨by omega,by omega⟩,⟨by simp,rfl,by simp,fun p hp=>by simp at hp⟩⟩ ?_
  rintro⟨i',s7,p7,n6,n7,n8,n9⟩ ⟨i,ei,hik,e,h,e2,e3,hP,hP1,hT⟩
  replace ei:i'=(i:Int):=ei;replace e:s7=s6:=e;replace e2:n6=nms 110 k:=e2;replace e3:n7=n5:=e3;subst ei e e2 e3
  try simp only at h hP hP1 hT
  unfold qiA;simp only[qqc];rw[show wi64 ((k:Int)-1)=((k-1:Nat):Int) by rw[wi (by omega)]; omega]
  refine Ok.bif (fun hc=>?_) fun hc=>?_
  ·have hc:=zj hc;have hik:i<k:=by omega
   have hpl:=hP.len;have htl:=hT.len;refine Ok.bind (Q:=fun q:Bool×List Int×Int×List (List UInt8)×List Seg×List Port×List Stat=>q.2.1=s7/\SrcOk s7 q.2.2.1/\q.2.2.2=(nms 110 k,n7,n8,n9)/\(i=0\/i=k-1->q.1=true)) (Ok.bif (fun _=>.ret ⟨rfl,h,rfl,fun _=>rfl⟩) fun hc2=>Ok.bif (fun _=>.ret ⟨rfl,h,rfl,fun _=>rfl⟩) fun hc3=>?_) ?_
   ·have hc2:=zQ hc2;have hc3:=zQ hc3;refine Ok.bind (srcN h (n:=2) (by omega) (by omega)) ?_
    rintro⟨r,s8,p8⟩ ⟨e,h,_,_⟩
    exact .ret ⟨e,h,rfl,fun h0=>by omega⟩
   rintro⟨b,s8,p8,rest⟩ ⟨e,h,e2,hb⟩
   replace e:s8=s7:=e;replace e2:rest=(nms 110 k,n7,n8,n9):=e2;subst e e2
   try simp only at h hb
   try simp only
   refine Ok.bind (Q:=fun q:List Int×Int×List (List UInt8)×List Seg×List Port×List Stat=>q.1=s8/\SrcOk s8 q.2.1/\q.2.2.1=nms 110 k/\q.2.2.2.1=n7/\qxW k (i+1) q.2.2.2.2.1/\(1<=q.2.2.2.2.1.length/\(i+1=k->2<=q.2.2.2.2.1.length))/\q.2.2.2.2.2=n9) (Ok.bif (fun _=>?_) fun hbf=>?_) ?_
   ·refine Ok.eq (name_eq 113 n8.length (by omega)) ?_
    refine Ok.bind (srcP h (by simp) (by simp)) ?_
    rintro⟨r,s9,p9⟩ ⟨e,h,hr⟩
    replace e:s9=s8:=e;subst e
    try simp only at h hr
    refine Ok.gd (qav (by omega)) ?_
    refine .ret ⟨rfl,h,rfl,rfl,⟨by simp; omega,?_,fun p hp=>?_⟩,⟨by simp,fun hk=>by have:=hP1.1 (by omega); simp; omega⟩,rfl⟩
    ·simp only[zL1,hP.nam,zd];show _=nms 113 (n8.length+1);rw[qq8]; rfl
    ·rcases zA.1 hp with hp | hp
     ·exact hP.rng p hp
     ·rw[zO.1 hp];simp at hr;simp only; omega
   ·refine .ret ⟨rfl,h,rfl,rfl,⟨by(try simp only); omega,hP.nam,hP.rng⟩,?_,rfl⟩
    have hbn:¬(i=0\/i=k-1):=fun h0=>by have:=hb h0; rw[this] at hbf; cases hbf
    exact⟨hP1.1 (by omega),fun hk=>by omega⟩
   rintro⟨s9,p9,n10,n11,n12,n13⟩ ⟨e,h,e2,e3,hP',hP1',e4⟩
   replace e:s9=s8:=e;replace e2:n10=nms 110 k:=e2;replace e3:n11=n7:=e3;replace e4:n13=n9:=e4;subst e e2 e3 e4
   try simp only at h hP' hP1'
   try simp only
   refine Ok.bind (Q:=fun q:Bool×List Int×Int×List (List UInt8)×List Seg×List Port×List Stat=>q.2.1=s9/\SrcOk s9 q.2.2.1/\q.2.2.2=(nms 110 k,n11,n12,n13)) (Ok.bif (fun _=>?_) fun _=>.ret ⟨rfl,h,rfl⟩) ?_
   ·refine Ok.bind (srcN h (n:=3) (by omega) (by omega)) ?_
    rintro⟨r,s10,p10⟩ ⟨e,h,_,_⟩
    exact .ret ⟨e,h,rfl⟩
   rintro⟨b2,s10,p10,rest⟩ ⟨e,h,e2⟩
   replace e:s10=s9:=e;replace e2:rest=(nms 110 k,n11,n12,n13):=e2;subst e e2
   try simp only at h
   try simp only
   refine Ok.bind (Q:=fun q:List Int×Int×List (List UInt8)×List Seg×List Port×List Stat=>q.1=s10/\SrcOk s10 q.2.1/\q.2.2.1=nms 110 k/\q.2.2.2.1=n11/\q.2.2.2.2.1=n12/\qxX (i+1) q.2.2.2.2.2) (Ok.bif (fun _=>?_) fun _=>?_) ?_
   ·refine Ok.eq (name_eq 115 n13.length (by omega)) ?_
    refine Ok.bind (srcP h (by simp) (by simp)) ?_
    rintro⟨a,s11,p11⟩ ⟨e,h,ha⟩
    replace e:s11=s10:=e;subst e
    try simp only at h ha
    refine Ok.bind (srcP h (by simp) (by simp)) ?_
    rintro⟨b,s12,p12⟩ ⟨e,h,hb⟩
    replace e:s12=s11:=e;subst e
    try simp only at h hb
    refine Ok.bind (srcP h (by simp) (by simp)) ?_
    rintro⟨c,s13,p13⟩ ⟨e,h,hc'⟩
    replace e:s13=s12:=e;subst e
    try simp only at h hc'
    refine Ok.gd (qav (by omega)) ?_
    refine .ret ⟨rfl,h,rfl,rfl,rfl,⟨by simp; omega,?_,?_,fun t ht=>?_⟩⟩
    ·simp only[zL1,hT.nam,zd];show _=nms 115 (n13.length+1);rw[qq8]; rfl
    ·simp only[zL1,za1,zI1];refine List.nodup_append.2 ⟨hT.dif,by simp,fun x hx y hy e=>?_⟩
     obtain⟨t,ht,rfl⟩:=zV.1 hx;have:=(hT.rng t ht).2.1;simp at hy;omega
    ·rcases zA.1 ht with ht | ht
     ·have:=hT.rng t ht;omega
     ·rw[zO.1 ht];simp at ha hb hc';simp only; omega
   ·exact .ret ⟨rfl,h,rfl,rfl,rfl,⟨by(try simp only); omega,hT.nam,hT.dif,fun t ht=>by have:=hT.rng t ht; omega⟩⟩
   rintro⟨s11,p11,m1,m2,m3,m4⟩ ⟨e,h,e2,e3,e4,hT'⟩
   replace e:s11=s10:=e;replace e2:m1=nms 110 k:=e2;replace e3:m2=n11:=e3;replace e4:m3=n12:=e4;subst e e2 e3 e4
   try simp only at h hT'
   rw[show wi64 ((i:Int)+1)=((i+1:Nat):Int) by rw[wi (by omega)]; rfl]
   exact .ret ⟨⟨i+1,rfl,by omega,rfl,h,rfl,rfl,hP',⟨fun _=>hP1'.1,hP1'.2⟩,hT'⟩,by simp only[z9]; omega⟩
  ·have hc:=zQ hc;have:i=k:=by omega
   subst this;exact .ret ⟨rfl,h,rfl,rfl,hP,hP1.2 rfl,hT⟩
 rintro⟨s7,p7,m1,m2,m3,m4⟩ ⟨e,h,e2,e3,hP,hP1,hT⟩
 replace e:s7=s6:=e;replace e2:m1=nms 110 k:=e2;replace e3:m2=n5:=e3;subst e e2 e3;refine .ret ⟨rfl,h,k,⟨hk2',hk6',rfl,hs,hlk,hP,hP1,hT,?_,?_⟩⟩
 ·simp at hvap; simp only; omega
 ·simp at hset; simp only; omega
theorem qy0{A:Type}(l:List A)(d:A)(p:A->Bool)(i:Nat)(hi:i<=l.length):decide (l.findIdx p<i)=(List.range i).any fun k=>p (l.getD k d):=by
 rw[zX,zz,zA2];constructor
 ·intro h;have hl:l.findIdx p<l.length:=by omega
  exact⟨_,zM.2 h,by rw[gD_eq hl]; exact List.findIdx_getElem (w:=hl)⟩
 ·rintro⟨k,hk,hp⟩
  have hk:=zM.1 hk;refine Nat.lt_of_not_le fun hle=>?_
  have:=List.not_of_lt_findIdx (p:=p) (xs:=l) (i:=k) (by omega)
  rw[gD_eq (by omega)] at hp
  exact absurd hp (by simpa using this)
theorem qfs{A:Type}(l:List A)(p:A->Bool):decide (l.findIdx p<l.length)=l.any p:=by
 rw[zX,zz,zj2,zA2]
theorem scanN{ε:Type}(n:Nat){step:Int->Option (Int⊕ε)}(q:Nat->Bool){fin bad:ε}
  (h1:∀i,i<n->q i=false->step (i:Int)=some (.inl ((i+1:Nat):Int)))
  (h2:∀i,i<n->q i=true->step (i:Int)=some (.inr bad)) (h3:step (n:Int)=some (.inr fin)):iter step 0=some (bif (List.range n).any q then bad else fin):=by
 have:=qbt (step:=step) n (fun i=>(i:Int)) (fun i=>!q i) (fin:=fin) (bad:=bad) (fun i hi _ hq=>h1 i hi (by simpa using hq)) (fun i hi _ hq=>h2 i hi (by simpa using hq)) (fun _=>h3)
 have e:(List.range n).all (fun i=>!q i)=!(List.range n).any q:=by simp[z91]
 rw[e] at this;refine this.trans ?_
 cases(List.range n).any q <;> rfl
theorem qec(s:List (List UInt8×Int×Int×Int×Int×Int×List (Int×Int×Int)))(p:(List UInt8×Int×Int×Int×Int×Int×List (Int×Int×Int))->Bool)(f:(List UInt8×Int×Int×Int×Int×Int×List (Int×Int×Int))×Unit->Option Bool)(hf:∀x∈s,f (x,())=some (p x))(hl:s.length<=1000000):qas s f=some (if s.findIdx p<s.length then((s.findIdx p:Nat):Int) else -1):=by
 unfold qas;have h:iter (fun x=>qaf s f x) 0=some (if s.findIdx p<s.length then .inr ((s.findIdx p:Nat):Int) else .inl ()):=by
  refine qgd (step:=fun y=>qaf s f y) (ε:=Unit⊕Int) s ([],0,0,0,0,0,[]) p (fin:=.inl ()) (fun i=>.inr (i:Int)) (fun i hi hq=>?_) (fun i hi hq=>?_) ?_
  ·unfold qaf;rw[dec_t (show(i:Int)<(s.length:Int) by omega),za,gd_t (inB_t hi),z9,hf _ (qbc hi),z7,hq,zb,w1 hi (by omega)]
  ·unfold qaf;rw[dec_t (show(i:Int)<(s.length:Int) by omega),za,gd_t (inB_t hi),z9,hf _ (qbc hi),z7,hq,za]
  ·unfold qaf;rw[dec_f (by omega)]; rfl
 rw[h,z7];by_cases hf:s.findIdx p<s.length
 ·rw[if_pos hf,if_pos hf]; rfl
 ·rw[if_neg hf,if_neg hf]; rfl
theorem qed(s:List (List UInt8×Int×Int×Int×Int×Int×List (Int×Int×Int)))(p:(List UInt8×Int×Int×Int×Int×Int×List (Int×Int×Int))->Bool)(f:(List UInt8×Int×Int×Int×Int×Int×List (Int×Int×Int))×Unit->Option Bool)(hf:∀x∈s,f (x,())=some (p x))(hl:s.length<=1000000):qam s f=some (s.any p):=by
 unfold qam;rw[qec s p f hf hl,z7,<-qfs];by_cases hf:s.findIdx p<s.length
 ·rw[if_pos hf,dec_t hf,dec_t (by omega)]
 ·rw[if_neg hf,dec_f hf,dec_f (by omega)]
theorem qqd(s:List (List UInt8))(p:(List UInt8)->Bool)(f:(List UInt8)×Unit->Option Bool)(hf:∀x∈s,f (x,())=some (p x))(hl:s.length<=1000000):qbg s f=some (if s.findIdx p<s.length then((s.findIdx p:Nat):Int) else -1):=by
 unfold qbg;have h:iter (fun x=>qax s f x) 0=some (if s.findIdx p<s.length then .inr ((s.findIdx p:Nat):Int) else .inl ()):=by
  refine qgd (step:=fun y=>qax s f y) (ε:=Unit⊕Int) s [] p (fin:=.inl ()) (fun i=>.inr (i:Int)) (fun i hi hq=>?_) (fun i hi hq=>?_) ?_
  ·unfold qax;rw[dec_t (show(i:Int)<(s.length:Int) by omega),za,gd_t (inB_t hi),z9,hf _ (qbc hi),z7,hq,zb,w1 hi (by omega)]
  ·unfold qax;rw[dec_t (show(i:Int)<(s.length:Int) by omega),za,gd_t (inB_t hi),z9,hf _ (qbc hi),z7,hq,za]
  ·unfold qax;rw[dec_f (by omega)]; rfl
 rw[h,z7];by_cases hf:s.findIdx p<s.length
 ·rw[if_pos hf,if_pos hf]; rfl
 ·rw[if_neg hf,if_neg hf]; rfl
theorem qj7(s:List (List UInt8))(p:(List UInt8)->Bool)(f:(List UInt8)×Unit->Option Bool)(hf:∀x∈s,f (x,())=some (p x))(hl:s.length<=1000000):qay s f=some (s.any p):=by
 unfold qay;rw[qqd s p f hf hl,z7,<-qfs];by_cases hf:s.findIdx p<s.length
 ·rw[if_pos hf,dec_t hf,dec_t (by omega)]
 ·rw[if_neg hf,dec_f hf,dec_f (by omega)]
theorem qcA(s:List (List UInt8×Int×Int×Int×Int))(p:(List UInt8×Int×Int×Int×Int)->Bool)(f:(List UInt8×Int×Int×Int×Int)×Unit->Option Bool)(hf:∀x∈s,f (x,())=some (p x))(hl:s.length<=1000000):qaa s f=some (if s.findIdx p<s.length then((s.findIdx p:Nat):Int) else -1):=by
 unfold qaa;have h:iter (fun x=>qag s f x) 0=some (if s.findIdx p<s.length then .inr ((s.findIdx p:Nat):Int) else .inl ()):=by
  refine qgd (step:=fun y=>qag s f y) (ε:=Unit⊕Int) s ([],0,0,0,0) p (fin:=.inl ()) (fun i=>.inr (i:Int)) (fun i hi hq=>?_) (fun i hi hq=>?_) ?_
  ·unfold qag;rw[dec_t (show(i:Int)<(s.length:Int) by omega),za,gd_t (inB_t hi),z9,hf _ (qbc hi),z7,hq,zb,w1 hi (by omega)]
  ·unfold qag;rw[dec_t (show(i:Int)<(s.length:Int) by omega),za,gd_t (inB_t hi),z9,hf _ (qbc hi),z7,hq,za]
  ·unfold qag;rw[dec_f (by omega)]; rfl
 rw[h,z7];by_cases hf:s.findIdx p<s.length
 ·rw[if_pos hf,if_pos hf]; rfl
 ·rw[if_neg hf,if_neg hf]; rfl
theorem qiN(s:List (List UInt8×Int×Int×Int×Int))(p:(List UInt8×Int×Int×Int×Int)->Bool)(f:(List UInt8×Int×Int×Int×Int)×Unit->Option Bool)(hf:∀x∈s,f (x,())=some (p x))(hl:s.length<=1000000):qaC s f=some (s.any p):=by
 unfold qaC;rw[qcA s p f hf hl,z7,<-qfs];by_cases hf:s.findIdx p<s.length
 ·rw[if_pos hf,dec_t hf,dec_t (by omega)]
 ·rw[if_neg hf,dec_f hf,dec_f (by omega)]
theorem qw3(s:List (Int))(p:(Int)->Bool)(f:(Int)×Unit->Option Bool)(hf:∀x∈s,f (x,())=some (p x))(hl:s.length<=1000000):qbZ s f=some (if s.findIdx p<s.length then((s.findIdx p:Nat):Int) else -1):=by
 unfold qbZ;have h:iter (fun x=>qaL s f x) 0=some (if s.findIdx p<s.length then .inr ((s.findIdx p:Nat):Int) else .inl ()):=by
  refine qgd (step:=fun y=>qaL s f y) (ε:=Unit⊕Int) s 0 p (fin:=.inl ()) (fun i=>.inr (i:Int)) (fun i hi hq=>?_) (fun i hi hq=>?_) ?_
  ·unfold qaL;rw[dec_t (show(i:Int)<(s.length:Int) by omega),za,gd_t (inB_t hi),z9,hf _ (qbc hi),z7,hq,zb,w1 hi (by omega)]
  ·unfold qaL;rw[dec_t (show(i:Int)<(s.length:Int) by omega),za,gd_t (inB_t hi),z9,hf _ (qbc hi),z7,hq,za]
  ·unfold qaL;rw[dec_f (by omega)]; rfl
 rw[h,z7];by_cases hf:s.findIdx p<s.length
 ·rw[if_pos hf,if_pos hf]; rfl
 ·rw[if_neg hf,if_neg hf]; rfl
theorem qoq(s:List (Int))(p:(Int)->Bool)(f:(Int)×Unit->Option Bool)(hf:∀x∈s,f (x,())=some (p x))(hl:s.length<=1000000):qaE s f=some (s.any p):=by
 unfold qaE;rw[qw3 s p f hf hl,z7,<-qfs];by_cases hf:s.findIdx p<s.length
 ·rw[if_pos hf,dec_t hf,dec_t (by omega)]
 ·rw[if_neg hf,dec_f hf,dec_f (by omega)]
theorem qhh(s:List (List UInt8×Int×Int))(p:(List UInt8×Int×Int)->Bool)(f:(List UInt8×Int×Int)×Unit->Option Bool)(hf:∀x∈s,f (x,())=some (p x))(hl:s.length<=1000000):qaF s f=some (if s.findIdx p<s.length then((s.findIdx p:Nat):Int) else -1):=by
 unfold qaF;have h:iter (fun x=>qan s f x) 0=some (if s.findIdx p<s.length then .inr ((s.findIdx p:Nat):Int) else .inl ()):=by
  refine qgd (step:=fun y=>qan s f y) (ε:=Unit⊕Int) s ([],0,0) p (fin:=.inl ()) (fun i=>.inr (i:Int)) (fun i hi hq=>?_) (fun i hi hq=>?_) ?_
  ·unfold qan;rw[dec_t (show(i:Int)<(s.length:Int) by omega),za,gd_t (inB_t hi),z9,hf _ (qbc hi),z7,hq,zb,w1 hi (by omega)]
  ·unfold qan;rw[dec_t (show(i:Int)<(s.length:Int) by omega),za,gd_t (inB_t hi),z9,hf _ (qbc hi),z7,hq,za]
  ·unfold qan;rw[dec_f (by omega)]; rfl
 rw[h,z7];by_cases hf:s.findIdx p<s.length
 ·rw[if_pos hf,if_pos hf]; rfl
 ·rw[if_neg hf,if_neg hf]; rfl
theorem qmG(s:List (List UInt8×Int×Int))(p:(List UInt8×Int×Int)->Bool)(f:(List UInt8×Int×Int)×Unit->Option Bool)(hf:∀x∈s,f (x,())=some (p x))(hl:s.length<=1000000):qaK s f=some (s.any p):=by
 unfold qaK;rw[qhh s p f hf hl,z7,<-qfs];by_cases hf:s.findIdx p<s.length
 ·rw[if_pos hf,dec_t hf,dec_t (by omega)]
 ·rw[if_neg hf,dec_f hf,dec_f (by omega)]
theorem qkU(s:List (Int×Int×Bool×Bool))(p:(Int×Int×Bool×Bool)->Bool)(f:(Int×Int×Bool×Bool)×Unit->Option Bool)(hf:∀x∈s,f (x,())=some (p x))(hl:s.length<=1000000):qaO s f=some (if s.findIdx p<s.length then((s.findIdx p:Nat):Int) else -1):=by
 unfold qaO;have h:iter (fun x=>qal s f x) 0=some (if s.findIdx p<s.length then .inr ((s.findIdx p:Nat):Int) else .inl ()):=by
  refine qgd (step:=fun y=>qal s f y) (ε:=Unit⊕Int) s (0,0,false,false) p (fin:=.inl ()) (fun i=>.inr (i:Int)) (fun i hi hq=>?_) (fun i hi hq=>?_) ?_
  ·unfold qal;rw[dec_t (show(i:Int)<(s.length:Int) by omega),za,gd_t (inB_t hi),z9,hf _ (qbc hi),z7,hq,zb,w1 hi (by omega)]
  ·unfold qal;rw[dec_t (show(i:Int)<(s.length:Int) by omega),za,gd_t (inB_t hi),z9,hf _ (qbc hi),z7,hq,za]
  ·unfold qal;rw[dec_f (by omega)]; rfl
 rw[h,z7];by_cases hf:s.findIdx p<s.length
 ·rw[if_pos hf,if_pos hf]; rfl
 ·rw[if_neg hf,if_neg hf]; rfl
theorem qkV(s:List (Int×Int×Bool×Bool))(p:(Int×Int×Bool×Bool)->Bool)(f:(Int×Int×Bool×Bool)×Unit->Option Bool)(hf:∀x∈s,f (x,())=some (p x))(hl:s.length<=1000000):qat s f=some (s.any p):=by
 unfold qat;rw[qkU s p f hf hl,z7,<-qfs];by_cases hf:s.findIdx p<s.length
 ·rw[if_pos hf,dec_t hf,dec_t (by omega)]
 ·rw[if_neg hf,dec_f hf,dec_f (by omega)]
theorem qor(s:List (Int×Bool))(p:(Int×Bool)->Bool)(f:(Int×Bool)×Unit->Option Bool)(hf:∀x∈s,f (x,())=some (p x))(hl:s.length<=1000000):qa4 s f=some (if s.findIdx p<s.length then((s.findIdx p:Nat):Int) else -1):=by
 unfold qa4;have h:iter (fun x=>qar s f x) 0=some (if s.findIdx p<s.length then .inr ((s.findIdx p:Nat):Int) else .inl ()):=by
  refine qgd (step:=fun y=>qar s f y) (ε:=Unit⊕Int) s (0,false) p (fin:=.inl ()) (fun i=>.inr (i:Int)) (fun i hi hq=>?_) (fun i hi hq=>?_) ?_
  ·unfold qar;rw[dec_t (show(i:Int)<(s.length:Int) by omega),za,gd_t (inB_t hi),z9,hf _ (qbc hi),z7,hq,zb,w1 hi (by omega)]
  ·unfold qar;rw[dec_t (show(i:Int)<(s.length:Int) by omega),za,gd_t (inB_t hi),z9,hf _ (qbc hi),z7,hq,za]
  ·unfold qar;rw[dec_f (by omega)]; rfl
 rw[h,z7];by_cases hf:s.findIdx p<s.length
 ·rw[if_pos hf,if_pos hf]; rfl
 ·rw[if_neg hf,if_neg hf]; rfl
theorem qos(s:List (Int×Bool))(p:(Int×Bool)->Bool)(f:(Int×Bool)×Unit->Option Bool)(hf:∀x∈s,f (x,())=some (p x))(hl:s.length<=1000000):qaW s f=some (s.any p):=by
 unfold qaW;rw[qor s p f hf hl,z7,<-qfs];by_cases hf:s.findIdx p<s.length
 ·rw[if_pos hf,dec_t hf,dec_t (by omega)]
 ·rw[if_neg hf,dec_f hf,dec_f (by omega)]
abbrev pt0:Pt:=(0,0,0)
abbrev sg0:Seg:=([],0,0,0,0,0,[])
abbrev po0:Port:=([],0,0)
abbrev sta0:Stat:=([],0,0,0,0)
def rg(lo hi n:Int):Bool:=decide (lo<=n)&&decide (n<=hi)
def limB(n:Net):Bool:=Nat.ble 1 n.1.length&&(Nat.ble n.1.length 24&&(Nat.ble n.2.1.length 32&&(Nat.ble n.2.2.1.length 24&&Nat.ble n.2.2.2.1.length 12)))&&n.2.1.all fun s=>Nat.ble 2 s.2.2.2.2.2.2.length&&Nat.ble s.2.2.2.2.2.2.length 8
def nmsOf(n:Net):List (List Str):=[n.1,n.2.1.map (·.1),n.2.2.1.map (·.1),n.2.2.2.1.map (·.1)]
def formB(n:Net):Bool:=(nmsOf n).all fun l=>l.all nameB
def twL(l:List Str):Bool:=(List.range l.length).any fun i=>(List.range i).any fun k=>decide (l.getD i []=l.getD k [])
def twS(l:List Stat):Bool:=(List.range l.length).any fun i=>(List.range i).any fun k=>decide ((l.getD k sta0).2.1=(l.getD i sta0).2.1)
def twB(n:Net):Bool:=(nmsOf n).any twL || twS n.2.2.2.1
def kn(n:Net)(k:Int):Bool:=decide (0<=k)&&decide (k<(n.1.length:Int))
def knB(n:Net):Bool:=n.2.1.all (fun s=>kn n s.2.1&&kn n s.2.2.1)&&(n.2.2.1.all (fun p=>kn n p.2.1)&&n.2.2.2.1.all (fun s=>kn n s.2.1))
def ptB(l:List Pt)(i:Nat):Bool:=rg (-500) 5000 (l.getD i pt0).2.1&&(rg 0 100000000 (l.getD i pt0).2.2&&(Nat.beq i 0 || decide ((l.getD (i-1) pt0).1<(l.getD i pt0).1)))
def pipeB(s:Seg):Bool:=!decide (s.2.1=s.2.2.1)&&(rg 1 1000000 s.2.2.2.1&&(rg 0 1000 s.2.2.2.2.1&&rg 0 100000 s.2.2.2.2.2.1))&&((List.range s.2.2.2.2.2.2.length).all (ptB s.2.2.2.2.2.2)&&(decide ((s.2.2.2.2.2.2.getD 0 pt0).1=0)&&decide ((s.2.2.2.2.2.2.getD (s.2.2.2.2.2.2.length-1) pt0).1=s.2.2.2.1)))
def stB(s:Stat):Bool:=rg 0 100000000 s.2.2.1&&(rg 0 100000 s.2.2.2.1&&rg 0 100000000 s.2.2.2.2)
def prB(n:Net):Bool:=n.2.1.all pipeB&&(n.2.2.1.all (fun p=>rg 0 100000000 p.2.2)&&(n.2.2.2.1.all stB&&(rg (-100000) 100000000 n.2.2.2.2.1&&rg 0 100 n.2.2.2.2.2)))
def qbi(n:Net):Int:=bif limB n then(bif formB n then(bif twB n then 7 else bif knB n then(bif prB n then 0 else 9) else 8) else 3) else 4
structure Small(n:Net):Prop where
 no1:1<=n.1.length
 no:n.1.length<=24
 sg:n.2.1.length<=32
 po:n.2.2.1.length<=24
 st:n.2.2.2.1.length<=12
 pt:∀s∈n.2.1,2<=s.2.2.2.2.2.2.length/\s.2.2.2.2.2.2.length<=8
theorem qra(n:Net):limB n=true↔Small n:=by
 unfold limB;simp only[z8,zf1,zm];constructor
 ·rintro⟨⟨h1,h2,h3,h4,h5⟩,h6⟩; exact⟨h1,h2,h3,h4,h5,h6⟩
 ·rintro⟨h1,h2,h3,h4,h5,h6⟩; exact⟨⟨h1,h2,h3,h4,h5⟩,h6⟩
theorem qj8(n lo hi:Int):qb0 n lo hi=some (rg lo hi n):=by
 unfold qb0 rg;cases decide (lo<=n) <;> rfl
theorem qgi(n lo hi:Int):qbD n lo hi=some (rg lo hi n):=by
 unfold qbD rg;cases decide (lo<=n) <;> rfl
theorem dlt{a b:Nat}:decide ((a:Int)<(b:Int))=Nat.blt a b:=by
 rw[zX,zz,zN]; omega
theorem bltn(a b:Nat):Nat.blt a b=!Nat.ble b a:=by
 rw[zX,zN,zu];constructor
 ·intro h; exact zK.2 fun hh=>by have:=zI hh; omega
 ·intro h; rcases zm2 a b with h' | h'
  ·exact h'
  ·rw[zC1 h'] at h; cases h
theorem qAx(n:Net):qeA n=some (limB n):=by
 unfold qeA limB;have e1:decide ((n.1.length:Int)<1)=!Nat.ble 1 n.1.length:=by rw[<-bltn]; exact dlt (b:=1)
 have e2:decide (24<(n.1.length:Int))=!Nat.ble n.1.length 24:=by rw[<-bltn]; exact dlt (a:=24)
 have e3:decide (32<(n.2.1.length:Int))=!Nat.ble n.2.1.length 32:=by rw[<-bltn]; exact dlt (a:=32)
 have e4:decide (24<(n.2.2.1.length:Int))=!Nat.ble n.2.2.1.length 24:=by rw[<-bltn]; exact dlt (a:=24)
 have e5:decide (12<(n.2.2.2.1.length:Int))=!Nat.ble n.2.2.2.1.length 12:=by rw[<-bltn]; exact dlt (a:=12)
 rw[e1,e2,e3,e4,e5];cases h1:Nat.ble 1 n.1.length
 ·rfl
 cases h2:Nat.ble n.1.length 24
 ·rfl
 cases h3:Nat.ble n.2.1.length 32
 ·rfl
 cases h4:Nat.ble n.2.2.1.length 24
 ·rfl
 cases h5:Nat.ble n.2.2.2.1.length 12
 ·rfl
 have h3:=zI h3;simp only[zg,zb,z7,zu2,zG];rw[qed n.2.1 (fun s=>!(Nat.ble 2 s.2.2.2.2.2.2.length&&Nat.ble s.2.2.2.2.2.2.length 8)) _ (fun x _=>by
  unfold qhm;have f1:decide ((x.2.2.2.2.2.2.length:Int)<2)=!Nat.ble 2 x.2.2.2.2.2.2.length:=by rw[<-bltn]; exact dlt (b:=2)
  have f2:decide (8<(x.2.2.2.2.2.2.length:Int))=!Nat.ble x.2.2.2.2.2.2.length 8:=by rw[<-bltn]; exact dlt (a:=8)
  simp only[f1,f2];cases Nat.ble 2 x.2.2.2.2.2.2.length <;> cases Nat.ble x.2.2.2.2.2.2.length 8 <;> rfl) (by omega),z7]
 congr 1;simp[z91]
theorem quK{n:Net}(h1:n.2.1.length<=1000)(h2:n.2.2.1.length<=1000)(h3:n.2.2.2.1.length<=1000):qcb n=some (n.1,n.2.1.map (·.1),n.2.2.1.map (·.1),n.2.2.2.1.map (·.1)):=by
 unfold qcb;have k1:=qbl (step:=fun x:Int×List (List UInt8)=>qeX n x.1 x.2) n.2.1.length (fun i=>((i:Int),(n.2.1.map (·.1)).take i)) (e:=n.2.1.map (·.1)) (fun i hi=>by
  unfold qeX;simp only[dec_t (show(i:Int)<(n.2.1.length:Int) by omega),za,gd_t (inB_t hi),z9]
  rw[gd_t (qav (by rw[zo]; omega)),w1 hi (by omega),qez ([]:List UInt8) (by simpa using hi),qlM (·.1) n.2.1 i sg0 [] hi]) (by
  unfold qeX;simp only[dec_f (show ¬(n.2.1.length:Int)<(n.2.1.length:Int) by omega),zb]
  rw[zB (by simp)])
 rw[show((((0:Nat):Int),(n.2.1.map (·.1)).take 0):Int×List (List UInt8))=(0,[]) from rfl] at k1
 rw[k1,z7];generalize n.2.1.map (·.1)=A;have k2:=qbl (step:=fun x:Int×List (List UInt8)×List (List UInt8)=>qeY n x.1 x.2.1 x.2.2) n.2.2.1.length (fun i=>((i:Int),A,(n.2.2.1.map (·.1)).take i)) (e:=(A,n.2.2.1.map (·.1))) (fun i hi=>by
  unfold qeY;simp only[dec_t (show(i:Int)<(n.2.2.1.length:Int) by omega),za,gd_t (inB_t hi),z9]
  rw[gd_t (qav (by rw[zo]; omega)),w1 hi (by omega),qez ([]:List UInt8) (by simpa using hi),qlM (·.1) n.2.2.1 i po0 [] hi]) (by
  unfold qeY;simp only[dec_f (show ¬(n.2.2.1.length:Int)<(n.2.2.1.length:Int) by omega),zb]
  rw[zB (by simp)])
 rw[show((((0:Nat):Int),A,(n.2.2.1.map (·.1)).take 0):Int×List (List UInt8)×List (List UInt8))=(0,A,[]) from rfl] at k2
 rw[k2,z7];simp only;generalize n.2.2.1.map (·.1)=B;have k3:=qbl (step:=fun x:Int×List (List UInt8)×List (List UInt8)×List (List UInt8)=>qeZ n x.1 x.2.1 x.2.2.1 x.2.2.2) n.2.2.2.1.length (fun i=>((i:Int),A,B,(n.2.2.2.1.map (·.1)).take i)) (e:=(A,B,n.2.2.2.1.map (·.1))) (fun i hi=>by
  unfold qeZ;simp only[dec_t (show(i:Int)<(n.2.2.2.1.length:Int) by omega),za,gd_t (inB_t hi),z9]
  rw[gd_t (qav (by rw[zo]; omega)),w1 hi (by omega),qez ([]:List UInt8) (by simpa using hi),qlM (·.1) n.2.2.2.1 i sta0 [] hi]) (by
  unfold qeZ;simp only[dec_f (show ¬(n.2.2.2.1.length:Int)<(n.2.2.2.1.length:Int) by omega),zb]
  rw[zB (by simp)])
 rw[show((((0:Nat):Int),A,B,(n.2.2.2.1.map (·.1)).take 0):Int×List (List UInt8)×List (List UInt8)×List (List UInt8))=(0,A,B,[]) from rfl] at k3
 rw[k3]; rfl
theorem qw4:@qop=@qcb:=rfl
theorem sidx(s:List Str)(v:Str)(hl:s.length<=1000000):qaz s v=some (if s.findIdx (fun x=>decide (v=x))<s.length then((s.findIdx (fun x=>decide (v=x)):Nat):Int) else -1):=by
 unfold qaz;have h:iter (fun x=>qaH s v x) 0=some (if s.findIdx (fun x=>decide (v=x))<s.length then .inr ((s.findIdx (fun x=>decide (v=x)):Nat):Int) else .inl ()):=by
  refine qgd (step:=fun y=>qaH s v y) (ε:=Unit⊕Int) s [] (fun x=>decide (v=x)) (fin:=.inl ()) (fun i=>.inr (i:Int)) (fun i hi hq=>?_) (fun i hi hq=>?_) ?_
  ·unfold qaH;rw[dec_t (show(i:Int)<(s.length:Int) by omega),za,gd_t (inB_t hi),z9,hq,zb,w1 hi (by omega)]
  ·unfold qaH;rw[dec_t (show(i:Int)<(s.length:Int) by omega),za,gd_t (inB_t hi),z9,hq,za]
  ·unfold qaH;rw[dec_f (by omega)]; rfl
 rw[h,z7];by_cases hf:s.findIdx (fun x=>decide (v=x))<s.length
 ·rw[if_pos hf,if_pos hf]; rfl
 ·rw[if_neg hf,if_neg hf]; rfl
theorem qxY{A:Type}(l:List A)(d:A)(p:A->Bool)(i:Nat)(hi:i<l.length)(hp:p (l.getD i d)=true):
  decide ((if l.findIdx p<l.length then((l.findIdx p:Nat):Int) else -1)<(i:Int))=(List.range i).any fun k=>p (l.getD k d):=by
 have h1:l.findIdx p<l.length:=zj2.2 ⟨_,qbc hi,hp⟩;rw[if_pos h1,<-qy0 l d p i (by omega)]
 rw[zX,zz,zz]; omega
abbrev nm4(a b c d:List Str):List (List Str):=[a,b,c,d]
theorem range4{q:List Str->Bool}(a b c d:List Str):(List.range 4).all (fun i=>q ((nm4 a b c d).getD i []))=(nm4 a b c d).all q:=qsw (nm4 a b c d) [] q
theorem range4n{q:List Str->Bool}(a b c d:List Str):(List.range 4).all (fun i=>!q ((nm4 a b c d).getD i []))=!(nm4 a b c d).any q:=by
 rw[range4 (q:=fun l=>!q l)]; simp[z91]
theorem len4{a b c d:List Str}{m:Nat}(ha:a.length<=m)(hb:b.length<=m)(hc:c.length<=m)(hd:d.length<=m)(i:Nat):((nm4 a b c d).getD i []).length<=m:=by
 rcases i with _ | _ | _ | _ | i
 ·exact ha
 ·exact hb
 ·exact hc
 ·exact hd
 ·show([]:List Str).length<=m; simp
noncomputable def qAy(l:List Str)(x:Int):Option (Int⊕(Unit⊕Bool)):=
 bif decide (x<(l.length:Int)) then(gd (inB x l.length)<|(qaz l (l.getD x.toNat [])).bind fun r2=>bif decide (r2<x) then(some (.inr (.inr true))) else(some (.inl (wi64 (x+1))))) else(some (.inr (.inl ())))
section
variable {a b c d:List Str} (ha:a.length<=100) (hb:b.length<=100) (hc:c.length<=100) (hd:d.length<=100)
include ha hb hc hd
theorem qCa:iter (fun x:Int=>qe9 (a,b,c,d) x) 0=some (bif (nm4 a b c d).all (fun l=>l.all nameB) then .inl () else .inr 3):=by
 have:=qbt (step:=fun x:Int=>qe9 (a,b,c,d) x) 4 (fun i=>(i:Int)) (fun i=>((nm4 a b c d).getD i []).all nameB) (fin:=.inl ()) (bad:=.inr 3) (fun i hi _ hq=>?_) (fun i hi _ hq=>?_) (fun _=>?_)
 ·rw[range4 (q:=fun l=>l.all nameB)] at this; exact this
 all_goals unfold qe9
 ·rw[dec_t (show(i:Int)<4 by omega),za,gd_t (inB_t hi),z9]
  show(qay ((nm4 a b c d).getD i []) _).bind _=_;rw[qj7 _ (fun s=>!nameB s) _ (fun x _=>by show(qc6 x).bind _=_; unfold qc6; rw[qsx]; rfl) (zF (len4 ha hb hc hd i) (by omega)),z7]
  rw[z91] at hq;simp only[zu,Bool.not_eq_eq_eq_not,zg] at hq;rw[hq,zb,w1 hi (by omega)]
 ·rw[dec_t (show(i:Int)<4 by omega),za,gd_t (inB_t hi),z9]
  show(qay ((nm4 a b c d).getD i []) _).bind _=_;rw[qj7 _ (fun s=>!nameB s) _ (fun x _=>by show(qc6 x).bind _=_; unfold qc6; rw[qsx]; rfl) (zF (len4 ha hb hc hd i) (by omega)),z7]
  rw[z91] at hq;simp only[zu,Bool.not_eq_eq_eq_not,zk1] at hq;rw[hq,za]
 ·rw[dec_f (by omega)]; rfl
theorem qEV:iter (fun x:Int=>qe1 (a,b,c,d) x) 0=some (bif (nm4 a b c d).any twL then .inr true else .inl ()):=by
 have hin:∀i:Nat,i<4->iter (fun x=>qe0 (a,b,c,d) (i:Int) x) 0=some (bif twL ((nm4 a b c d).getD i []) then .inr true else .inl ()):=by
  intro i hi;have hl:=len4 ha hb hc hd i;have e:∀x:Int,qe0 (a,b,c,d) (i:Int) x=qAy ((nm4 a b c d).getD i []) x:=by
   intro x; unfold qe0; rw[z9]; rfl
  simp only[e];generalize (nm4 a b c d).getD i []=l at hl ⊢;have hidx:∀k,k<l.length->qaz l (l.getD k [])=some (if l.findIdx (fun x=>decide (l.getD k []=x))<l.length then((l.findIdx (fun x=>decide (l.getD k []=x)):Nat):Int) else -1):=fun k _=>sidx l _ (by omega)
  have:=scanN (ε:=Unit⊕Bool) (step:=fun x=>qAy l x) l.length (fun i=>(List.range i).any fun k=>decide (l.getD i []=l.getD k [])) (fin:=.inl ()) (bad:=.inr true) (fun k hk hq=>?_) (fun k hk hq=>?_) ?_
  ·exact this
  all_goals unfold qAy
  ·rw[dec_t (show(k:Int)<(l.length:Int) by omega),za,gd_t (inB_t hk),z9,hidx k hk,z7,qxY l [] _ k hk (by simp),hq,zb,w1 hk (by omega)]
  ·rw[dec_t (show(k:Int)<(l.length:Int) by omega),za,gd_t (inB_t hk),z9,hidx k hk,z7,qxY l [] _ k hk (by simp),hq,za]
  ·rw[dec_f (by omega)]; rfl
 have:=qbt (step:=fun x:Int=>qe1 (a,b,c,d) x) 4 (fun i=>(i:Int)) (fun i=>!twL ((nm4 a b c d).getD i [])) (fin:=.inl ()) (bad:=.inr true) (fun i hi _ hq=>?_) (fun i hi _ hq=>?_) (fun _=>?_)
 ·rw[range4n] at this;refine this.trans ?_
  cases(nm4 a b c d).any twL <;> rfl
 all_goals unfold qe1
 ·rw[dec_t (show(i:Int)<4 by omega),za,gd_t (inB_t hi),hin i hi,z7]
  simp only[zu] at hq;rw[hq,w1 hi (by omega)]; rfl
 ·rw[dec_t (show(i:Int)<4 by omega),za,gd_t (inB_t hi),hin i hi,z7]
  simp only[Bool.not_eq_false'] at hq;rw[hq]; rfl
 ·rw[dec_f (by omega)]; rfl
end
theorem qEW(n:Net)(hs:n.2.2.2.1.length<=100):iter (fun x=>qe2 n x) 0=some (bif twS n.2.2.2.1 then .inr true else .inl ()):=by
 generalize hl:n.2.2.2.1=l at hs;have hidx:∀k,k<l.length->∀f:Stat×Unit->Option Bool,(∀x,f (x,())=some (decide (x.2.1=(l.getD k sta0).2.1)))->qaa l f=some (if l.findIdx (fun x=>decide (x.2.1=(l.getD k sta0).2.1))<l.length then((l.findIdx (fun x=>decide (x.2.1=(l.getD k sta0).2.1)):Nat):Int) else -1):=fun k _ f hf=>qcA l _ f (fun x _=>hf x) (by omega)
 have:=scanN (ε:=Unit⊕Bool) (step:=fun x=>qe2 n x) l.length (fun i=>(List.range i).any fun k=>decide ((l.getD k sta0).2.1=(l.getD i sta0).2.1)) (fin:=.inl ()) (bad:=.inr true) (fun k hk hq=>?_) (fun k hk hq=>?_) ?_
 ·exact this
 all_goals unfold qe2; simp only[hl]
 ·rw[dec_t (show(k:Int)<(l.length:Int) by omega),za,gd_t (inB_t hk),z9,hidx k hk _ (fun x=>rfl),z7,qxY l sta0 _ k hk (by simp),hq,zb,w1 hk (by omega)]
 ·rw[dec_t (show(k:Int)<(l.length:Int) by omega),za,gd_t (inB_t hk),z9,hidx k hk _ (fun x=>rfl),z7,qxY l sta0 _ k hk (by simp),hq,za]
 ·rw[dec_f (by omega)]; rfl
theorem qCb{n:Net}(h:Small n):qfG n=some (twB n):=by
 obtain⟨h1,h2,h3,h4,h5,h6⟩:=h;unfold qfG;show(qcb n).bind _=_;rw[quK (by omega) (by omega) (by omega),z7]
 rw[qEV (by omega) (by simp; omega) (by simp; omega) (by simp; omega),z7]
 unfold twB;show Sum.elim _ _ (bif (nmsOf n).any twL then _ else _)=_;cases(nmsOf n).any twL with
 | true=>rfl
 | false=>
  simp only[zb,zb1,zt2];rw[qEW n (by omega),z7]
  cases twS n.2.2.2.1 <;> rfl
theorem qCc{n:Net}(h:Small n):qfI n=some (knB n):=by
 obtain⟨h1,h2,h3,h4,h5,h6⟩:=h;unfold qfI;have a1:∀i,(((n.2.1.take i).flatMap fun s=>[s.2.1,s.2.2.1]):List Int).length<=2*i:=by
  intro i;rw[List.length_flatMap];have:∀l:List Seg,(l.map fun s=>([s.2.1,s.2.2.1]:List Int).length).sum=2*l.length:=by
   intro l; induction l with
   | nil=>rfl
   | cons x l ih=>rw[za1,List.sum_cons,ih]; show 2+2*l.length=2*(l.length+1); omega
  rw[this,zo]; omega
 have k1:=qbl (step:=fun x:Int×List Int=>qe3 n x.1 x.2) n.2.1.length (fun i=>((i:Int),(n.2.1.take i).flatMap fun s=>[s.2.1,s.2.2.1])) (e:=n.2.1.flatMap fun s=>[s.2.1,s.2.2.1]) (fun i hi=>by
  unfold qe3;have:=a1 i;simp only[dec_t (show(i:Int)<(n.2.1.length:Int) by omega),za,gd_t (inB_t hi),z9]
  rw[gd_t (qav (by omega)),w1 hi (by omega),qez sg0 hi,List.flatMap_append]; simp) (by
  unfold qe3;simp only[dec_f (show ¬(n.2.1.length:Int)<(n.2.1.length:Int) by omega),zb]
  rw[zB (by simp)])
 rw[show((((0:Nat):Int),(n.2.1.take 0).flatMap fun s=>[s.2.1,s.2.2.1]):Int×List Int)=(0,[]) from rfl] at k1
 rw[k1,z7];have a2:=a1 n.2.1.length;rw[zB (zZ _)] at a2;generalize hA:(n.2.1.flatMap fun s=>[s.2.1,s.2.2.1])=A at a2
 have k2:=qbl (step:=fun x:Int×List Int=>qe4 n x.1 x.2) n.2.2.1.length (fun i=>((i:Int),A++(n.2.2.1.map (·.2.1)).take i)) (e:=A++n.2.2.1.map (·.2.1)) (fun i hi=>by
  unfold qe4;simp only[dec_t (show(i:Int)<(n.2.2.1.length:Int) by omega),za,gd_t (inB_t hi),z9]
  rw[gd_t (qav (by simp; omega)),w1 hi (by omega),qez (0:Int) (by simpa using hi),qlM (·.2.1) n.2.2.1 i po0 0 hi,zp]) (by
  unfold qe4;simp only[dec_f (show ¬(n.2.2.1.length:Int)<(n.2.2.1.length:Int) by omega),zb]
  rw[zB (by simp)])
 rw[show((((0:Nat):Int),A++(n.2.2.1.map (·.2.1)).take 0):Int×List Int)=(0,A) by simp] at k2
 rw[k2,z7];have a3:(A++n.2.2.1.map (·.2.1)).length<=200:=by simp; omega
 generalize hB:A++n.2.2.1.map (·.2.1)=B at a3;have k3:=qbl (step:=fun x:Int×List Int=>qe5 n x.1 x.2) n.2.2.2.1.length (fun i=>((i:Int),B++(n.2.2.2.1.map (·.2.1)).take i)) (e:=B++n.2.2.2.1.map (·.2.1)) (fun i hi=>by
  unfold qe5;simp only[dec_t (show(i:Int)<(n.2.2.2.1.length:Int) by omega),za,gd_t (inB_t hi),z9]
  rw[gd_t (qav (by simp; omega)),w1 hi (by omega),qez (0:Int) (by simpa using hi),qlM (·.2.1) n.2.2.2.1 i sta0 0 hi,zp]) (by
  unfold qe5;simp only[dec_f (show ¬(n.2.2.2.1.length:Int)<(n.2.2.2.1.length:Int) by omega),zb]
  rw[zB (by simp)])
 rw[show((((0:Nat):Int),B++(n.2.2.2.1.map (·.2.1)).take 0):Int×List Int)=(0,B) by simp] at k3
 rw[k3,z7];rw[qoq _ (fun k=>!kn n k) _ (fun x _=>by
  show(qfH x n).bind _=_;unfold qfH kn;have e1:decide (x<0)=!decide (0<=x):=by rw[zX]; simp
  have e2:decide ((n.1.length:Int)<=x)=!decide (x<(n.1.length:Int)):=by rw[zX]; simp
  rw[e1,e2];cases decide (0<=x) <;> cases decide (x<(n.1.length:Int)) <;> rfl) (by simp; omega),z7]
 congr 1;subst hB hA;unfold knB;rw[z91,z91,z91];rw[List.any_append,List.any_append,List.any_flatMap,List.any_map,List.any_map];simp[Function.comp_def,Bool.and_assoc]
theorem qDY{s:Seg}(h1:2<=s.2.2.2.2.2.2.length)(h2:s.2.2.2.2.2.2.length<=8):qgZ s=some (pipeB s):=by
 unfold qgZ pipeB;have hl:iter (fun x=>qfK s x) 0=some (bif (List.range s.2.2.2.2.2.2.length).all (ptB s.2.2.2.2.2.2) then .inl () else .inr false):=by
  have:=qbt (step:=fun x=>qfK s x) s.2.2.2.2.2.2.length (fun i=>(i:Int)) (ptB s.2.2.2.2.2.2) (fin:=.inl ()) (bad:=.inr false) (fun i hi _ hq=>?_) (fun i hi _ hq=>?_) (fun _=>?_)
  ·exact this
  all_goals unfold qfK
  ·rw[dec_t (show(i:Int)<(s.2.2.2.2.2.2.length:Int) by omega),za,gd_t (inB_t hi),qj8,z7,qj8,z7,z9]
   unfold ptB at hq;simp only[z8] at hq;rw[hq.1,hq.2.1];simp only[zg,zb];rcases z12 i with rfl | hp
   ·rfl
   ·rw[dec_t (show(0:Int)<(i:Int) by omega),za,show wi64 ((i:Int)-1)=((i-1:Nat):Int) by rw[wi (by omega)]; omega,gd_t (inB_t (show i-1<_ by omega)),z9,z7]
    have h3:=hq.2.2;simp only[zg1,zi] at h3;have h3:=h3.resolve_left (fun e=>by have:=zc e; omega)
    rw[dec_f (Int.not_le.2 h3),zb,w1 hi (by omega)]
  ·rw[dec_t (show(i:Int)<(s.2.2.2.2.2.2.length:Int) by omega),za,gd_t (inB_t hi),qj8,z7,qj8,z7,z9]
   unfold ptB at hq;cases e1:rg (-500) 5000 (s.2.2.2.2.2.2.getD i pt0).2.1 with
   | false=>rfl
   | true=>
    cases e2:rg 0 100000000 (s.2.2.2.2.2.2.getD i pt0).2.2 with
    | false=>rfl
    | true=>
     rw[e1,e2] at hq;simp only[zG,z62,z72] at hq;have hp:i≠0:=fun e=>by rw[e] at hq; cases hq.1
     simp only[zg,zb];rw[dec_t (show(0:Int)<(i:Int) by omega),za,show wi64 ((i:Int)-1)=((i-1:Nat):Int) by rw[wi (by omega)]; omega,gd_t (inB_t (show i-1<_ by omega)),z9,z7,dec_t (Int.not_lt.1 hq.2)]
     rfl
  ·rw[dec_f (by omega)]; rfl
 rw[hl,qj8,qj8,qj8];simp only[z7];cases decide (s.2.1=s.2.2.1) with
 | true=>rfl
 | false=>
 cases rg 1 1000000 s.2.2.2.1 with
 | false=>rfl
 | true=>
 cases rg 0 1000 s.2.2.2.2.1 with
 | false=>rfl
 | true=>
 cases rg 0 100000 s.2.2.2.2.2.1 with
 | false=>rfl
 | true=>
 cases(List.range s.2.2.2.2.2.2.length).all (ptB s.2.2.2.2.2.2) with
 | false=>rfl
 | true=>
  show(gd (inB 0 s.2.2.2.2.2.2.length) _)=_;rw[gd_t (inB0 (by omega)),show wi64 ((s.2.2.2.2.2.2.length:Int)-1)=((s.2.2.2.2.2.2.length-1:Nat):Int) by rw[wi (by omega)]; omega,gd_t (inB_t (show s.2.2.2.2.2.2.length-1<_ by omega)),z9]
  cases decide ((s.2.2.2.2.2.2.getD 0 (0,0,0)).1=0) <;> rfl
theorem qAz{n:Net}(h:Small n):qeC n=some (prB n):=by
 obtain⟨h1,h2,h3,h4,h5,h6⟩:=h;unfold qeC prB;rw[qed n.2.1 (fun s=>!pipeB s) _ (fun x hx=>by show(qe6 x).bind _=_; unfold qe6; show((qgZ x).bind _).bind _=_; rw[qDY (h6 x hx).1 (h6 x hx).2]; rfl) (by omega),z7]
 rw[qmG n.2.2.1 (fun p=>!rg 0 100000000 p.2.2) _ (fun x hx=>by show(qe7 x).bind _=_; unfold qe7; rw[qj8]; rfl) (by omega),z7]
 rw[qiN n.2.2.2.1 (fun p=>!stB p) _ (fun x hx=>by
  show(qe8 x).bind _=_; unfold qe8 stB; rw[qj8,qj8,qj8];cases rg 0 100000000 x.2.2.1 <;> cases rg 0 100000 x.2.2.2.1 <;> cases rg 0 100000000 x.2.2.2.2 <;> rfl) (by omega),z7,qj8,qj8]
 rw[z91,z91,z91];cases n.2.1.any (fun s=>!pipeB s) <;> cases n.2.2.1.any (fun p=>!rg 0 100000000 p.2.2) <;> cases n.2.2.2.1.any (fun p=>!stB p) <;> cases rg (-100000) 100000000 n.2.2.2.2.1 <;> rfl
theorem qft(n:Net):qbH n=some (qbi n):=by
 unfold qbH qbi;show(qeA n).bind _=_;rw[qAx,z7];cases hl:limB n with
 | false=>rfl
 | true=>
  have hs:=(qra n).1 hl;show(qcb n).bind _=_;rw[quK (by have:=hs.sg; omega) (by have:=hs.po; omega) (by have:=hs.st; omega),z7]
  rw[qCa (by have:=hs.no; omega) (by have:=hs.sg; simp; omega) (by have:=hs.po; simp; omega) (by have:=hs.st; simp; omega),z7]
  show Sum.elim _ _ (bif formB n then _ else _)=_;cases formB n with
  | false=>rfl
  | true=>
   show(qfG n).bind _=_;rw[qCb hs,z7];cases twB n with
   | true=>rfl
   | false=>
    show(qfI n).bind _=_;rw[qCc hs,z7];cases knB n with
    | false=>rfl
    | true=>
     show(qeC n).bind _=_;rw[qAz hs,z7];cases prB n <;> rfl
theorem scanL{A:Type}{ε:Type}(l:List A)(d:A){step:Int->Option (Int⊕(Unit⊕ε))}(q:A->Bool){bad:ε}
  (h1:∀i,i<l.length->q (l.getD i d)=true->step (i:Int)=some (.inl ((i+1:Nat):Int)))
  (h2:∀i,i<l.length->q (l.getD i d)=false->step (i:Int)=some (.inr (.inr bad))) (h3:step (l.length:Int)=some (.inr (.inl ()))):iter step 0=some (bif l.all q then .inl () else .inr bad):=
 scan l d q h1 h2 h3
theorem qDp(l:List Str)(i:Nat)(hi:i<l.length)(hl:l.length<=1000):iter (fun x=>qgC l (i:Int) x) 0=some (bif (List.range i).any (fun k=>decide (l.getD i []=l.getD k [])) then .inr true else .inl ()):=by
 have:=scanN (ε:=Unit⊕Bool) (step:=fun x=>qgC l (i:Int) x) i (fun k=>decide (l.getD i []=l.getD k [])) (fin:=.inl ()) (bad:=.inr true) (fun k hk hq=>?_) (fun k hk hq=>?_) ?_
 ·exact this
 all_goals unfold qgC
 ·rw[dec_t (show(k:Int)<(i:Int) by omega),za,gd_t (inB_t hi),gd_t (inB_t (show k<l.length by omega)),z9,z9,hq,zb,w1 hk (by omega)]
 ·rw[dec_t (show(k:Int)<(i:Int) by omega),za,gd_t (inB_t hi),gd_t (inB_t (show k<l.length by omega)),z9,z9,hq,za]
 ·rw[dec_f (by omega)]; rfl
theorem qvP(l:List Str)(hl:l.length<=1000):qkC l=some (twL l):=by
 unfold qkC;have:=scanN (ε:=Unit⊕Bool) (step:=fun x=>qjr l x) l.length (fun i=>(List.range i).any fun k=>decide (l.getD i []=l.getD k [])) (fin:=.inl ()) (bad:=.inr true) (fun k hk hq=>?_) (fun k hk hq=>?_) ?_
 ·rw[this,z7]; unfold twL;cases(List.range l.length).any fun i=>(List.range i).any fun k=>decide (l.getD i []=l.getD k []) <;> rfl
 all_goals unfold qjr
 ·rw[dec_t (show(k:Int)<(l.length:Int) by omega),za,qDp l k hk hl,z7,hq,w1 hk (by omega)]; rfl
 ·rw[dec_t (show(k:Int)<(l.length:Int) by omega),za,qDp l k hk hl,z7,hq]; rfl
 ·rw[dec_f (by omega)]; rfl
theorem qtz{s:Seg}(h1:2<=s.2.2.2.2.2.2.length)(h2:s.2.2.2.2.2.2.length<=8):qfy s=some (pipeB s):=by
 unfold qfy pipeB;have hl:iter (fun x=>qf8 s x) 0=some (bif (List.range s.2.2.2.2.2.2.length).all (ptB s.2.2.2.2.2.2) then .inl () else .inr false):=by
  have:=qbt (step:=fun x=>qf8 s x) s.2.2.2.2.2.2.length (fun i=>(i:Int)) (ptB s.2.2.2.2.2.2) (fin:=.inl ()) (bad:=.inr false) (fun i hi _ hq=>?_) (fun i hi _ hq=>?_) (fun _=>?_)
  ·exact this
  all_goals unfold qf8
  ·rw[dec_t (show(i:Int)<(s.2.2.2.2.2.2.length:Int) by omega),za,gd_t (inB_t hi),z9]
   unfold ptB at hq;simp only[z8] at hq;simp only[qgi,z7];rcases z12 i with rfl | hp
   ·rw[dec_f (by omega),zb]
    have e1:=hq.1;have e2:=hq.2.1;simp only[pt0] at e1 e2;rw[e1,e2]; rfl
   ·have e1:=hq.1;have e2:=hq.2.1;simp only[pt0] at e1 e2;rw[dec_t (show(0:Int)<(i:Int) by omega),za,show wi64 ((i:Int)-1)=((i-1:Nat):Int) by rw[wi (by omega)]; omega,gd_t (inB_t (show i-1<_ by omega)),z9]
    have h3:=hq.2.2;simp only[zg1,zi] at h3;have h3:=h3.resolve_left (fun e=>by have:=zc e; omega)
    rw[dec_f (Int.not_le.2 h3),zb,e1,e2,w1 hi (by omega)]; rfl
  ·rw[dec_t (show(i:Int)<(s.2.2.2.2.2.2.length:Int) by omega),za,gd_t (inB_t hi),z9]
   unfold ptB at hq;simp only[qgi,z7];simp only[pt0] at hq;rcases z12 i with rfl | hp
   ·rw[dec_f (by omega),zb]
    cases e1:rg (-500) 5000 (s.2.2.2.2.2.2.getD 0 (0,0,0)).2.1 with
    | false=>rfl
    | true=>
     cases e2:rg 0 100000000 (s.2.2.2.2.2.2.getD 0 (0,0,0)).2.2 with
     | false=>rfl
     | true=>rw[e1,e2] at hq; cases hq
   ·rw[dec_t (show(0:Int)<(i:Int) by omega),za,show wi64 ((i:Int)-1)=((i-1:Nat):Int) by rw[wi (by omega)]; omega,gd_t (inB_t (show i-1<_ by omega)),z9]
    cases hd:decide ((s.2.2.2.2.2.2.getD i (0,0,0)).1<=(s.2.2.2.2.2.2.getD (i-1) (0,0,0)).1) with
    | true=>rfl
    | false=>
     have hd:=zQ hd;rw[show decide ((s.2.2.2.2.2.2.getD (i-1) (0,0,0)).1<(s.2.2.2.2.2.2.getD i (0,0,0)).1)=true from dec_t (by omega),Bool.or_true] at hq
     cases e1:rg (-500) 5000 (s.2.2.2.2.2.2.getD i (0,0,0)).2.1 with
     | false=>rfl
     | true=>
      cases e2:rg 0 100000000 (s.2.2.2.2.2.2.getD i (0,0,0)).2.2 with
      | false=>rfl
      | true=>rw[e1,e2] at hq; cases hq
  ·rw[dec_f (by omega)]; rfl
 rw[hl];simp only[qgi,z7];rw[show wi64 ((s.2.2.2.2.2.2.length:Int)-1)=((s.2.2.2.2.2.2.length-1:Nat):Int) by rw[wi (by omega)]; omega,gd_t (inB0 (show 0<s.2.2.2.2.2.2.length by omega)),gd_t (inB_t (show s.2.2.2.2.2.2.length-1<s.2.2.2.2.2.2.length by omega)),z9]
 cases decide (s.2.1=s.2.2.1) <;> cases rg 1 1000000 s.2.2.2.1 <;> cases rg 0 1000 s.2.2.2.2.1 <;> cases rg 0 100000 s.2.2.2.2.2.1 <;> cases decide ((s.2.2.2.2.2.2.getD 0 (0,0,0)).1=0) <;> cases decide ((s.2.2.2.2.2.2.getD (s.2.2.2.2.2.2.length-1) (0,0,0)).1=s.2.2.2.1) <;> cases(List.range s.2.2.2.2.2.2.length).all (ptB s.2.2.2.2.2.2) <;> rfl
section
variable {a b c d:List Str} (ha:a.length<=100) (hb:b.length<=100) (hc:c.length<=100) (hd:d.length<=100)
include ha hb hc hd
theorem qCd:iter (fun x3=>qgD x3.1 x3.2.1 x3.2.2.1 x3.2.2.2.1 x3.2.2.2.2) (a,b,c,d,(0:Int))=some (bif (nm4 a b c d).all (fun l=>l.all nameB) then .inl () else .inr 3):=by
 have hin:∀i:Nat,i<4->iter (fun x2=>qdF a b c d (i:Int) x2.1 x2.2.1 x2.2.2.1 x2.2.2.2.1 x2.2.2.2.2) (a,b,c,d,(0:Int))=some (bif ((nm4 a b c d).getD i []).all nameB then .inl (a,b,c,d) else .inr 3):=by
  intro i hi;have hl:=len4 ha hb hc hd i;have e:∀x:Int,qdF a b c d (i:Int) a b c d x=qdF ((nm4 a b c d).getD i []) [] [] [] 0 a b c d x:=by
   intro x; unfold qdF; rw[z9]; rfl
  have:=qbt (ε:=(List Str×List Str×List Str×List Str)⊕Int) (step:=fun x2:List Str×List Str×List Str×List Str×Int=>qdF a b c d (i:Int) x2.1 x2.2.1 x2.2.2.1 x2.2.2.2.1 x2.2.2.2.2) ((nm4 a b c d).getD i []).length (fun k=>(a,b,c,d,(k:Int))) (fun k=>nameB (((nm4 a b c d).getD i []).getD k [])) (fin:=.inl (a,b,c,d)) (bad:=.inr 3) (fun k hk _ hq=>?_) (fun k hk _ hq=>?_) (fun _=>?_)
  ·rw[qsw] at this; exact this
  all_goals simp only[e]; generalize (nm4 a b c d).getD i []=l at*
  ·show(bif decide ((k:Int)<(l.length:Int)) then(gd (inB (k:Int) l.length)<|(qcs (l.getD (k:Int).toNat [])).bind fun r4=>bif !r4 then _ else _) else _)=_
   rw[dec_t (show(k:Int)<(l.length:Int) by omega),za,gd_t (inB_t hk),z9,qvO,z7,hq,w1 hk (by omega)]; rfl
  ·show(bif decide ((k:Int)<(l.length:Int)) then(gd (inB (k:Int) l.length)<|(qcs (l.getD (k:Int).toNat [])).bind fun r4=>bif !r4 then _ else _) else _)=_
   rw[dec_t (show(k:Int)<(l.length:Int) by omega),za,gd_t (inB_t hk),z9,qvO,z7,hq]; rfl
  ·show(bif decide ((l.length:Int)<(l.length:Int)) then _ else _)=_;rw[dec_f (by omega)]; rfl
 have:=qbt (ε:=Unit⊕Int) (step:=fun x3:List Str×List Str×List Str×List Str×Int=>qgD x3.1 x3.2.1 x3.2.2.1 x3.2.2.2.1 x3.2.2.2.2) 4 (fun i=>(a,b,c,d,(i:Int))) (fun i=>((nm4 a b c d).getD i []).all nameB) (fin:=.inl ()) (bad:=.inr 3) (fun i hi _ hq=>?_) (fun i hi _ hq=>?_) (fun _=>?_)
 ·rw[range4 (q:=fun l=>l.all nameB)] at this; exact this
 all_goals unfold qgD
 ·simp only;rw[dec_t (show(i:Int)<4 by omega),za,gd_t (inB_t hi),hin i hi,z7,hq]
  simp only[za,zb1];rw[w1 hi (by omega)]
 ·simp only;rw[dec_t (show(i:Int)<4 by omega),za,gd_t (inB_t hi),hin i hi,z7,hq]; rfl
 ·simp only;rw[dec_f (by omega)]; rfl
theorem qDZ:iter (fun x3=>qgE x3.1 x3.2.1 x3.2.2.1 x3.2.2.2.1 x3.2.2.2.2) (a,b,c,d,(0:Int))=some (bif (nm4 a b c d).any twL then .inr 7 else .inl ()):=by
 have:=qbt (ε:=Unit⊕Int) (step:=fun x3:List Str×List Str×List Str×List Str×Int=>qgE x3.1 x3.2.1 x3.2.2.1 x3.2.2.2.1 x3.2.2.2.2) 4 (fun i=>(a,b,c,d,(i:Int))) (fun i=>!twL ((nm4 a b c d).getD i [])) (fin:=.inl ()) (bad:=.inr 7) (fun i hi _ hq=>?_) (fun i hi _ hq=>?_) (fun _=>?_)
 ·rw[range4n] at this;refine this.trans ?_
  cases(nm4 a b c d).any twL <;> rfl
 all_goals unfold qgE; simp only
 ·rw[dec_t (show(i:Int)<4 by omega),za,gd_t (inB_t hi),z9]
  have:=len4 ha hb hc hd i;rw[qvP ((nm4 a b c d).getD i []) (by omega),z7]
  simp only[zu] at hq;rw[hq,w1 hi (by omega)]; rfl
 ·rw[dec_t (show(i:Int)<4 by omega),za,gd_t (inB_t hi),z9]
  have:=len4 ha hb hc hd i;rw[qvP ((nm4 a b c d).getD i []) (by omega),z7]
  simp only[Bool.not_eq_false'] at hq;rw[hq]; rfl
 ·rw[dec_f (by omega)]; rfl
end
theorem qD0(n:Net)(hs:n.2.2.2.1.length<=100):iter (fun x=>qgG n x) 0=some (bif twS n.2.2.2.1 then .inr 7 else .inl ()):=by
 have hin:∀i:Nat,i<n.2.2.2.1.length->iter (fun x=>qgF n (i:Int) x) 0=some (bif (List.range i).any (fun k=>decide ((n.2.2.2.1.getD k sta0).2.1=(n.2.2.2.1.getD i sta0).2.1)) then .inr 7 else .inl ()):=by
  intro i hi;have:=scanN (ε:=Unit⊕Int) (step:=fun x=>qgF n (i:Int) x) i (fun k=>decide ((n.2.2.2.1.getD k sta0).2.1=(n.2.2.2.1.getD i sta0).2.1)) (fin:=.inl ()) (bad:=.inr 7) (fun k hk hq=>?_) (fun k hk hq=>?_) ?_
  ·exact this
  all_goals unfold qgF
  ·rw[dec_t (show(k:Int)<(i:Int) by omega),za,gd_t (inB_t hi),gd_t (inB_t (show k<n.2.2.2.1.length by omega)),z9,z9,dec_f (fun e=>zQ hq e.symm),zb,w1 hk (by omega)]
  ·rw[dec_t (show(k:Int)<(i:Int) by omega),za,gd_t (inB_t hi),gd_t (inB_t (show k<n.2.2.2.1.length by omega)),z9,z9,dec_t (zj hq).symm,za]
  ·rw[dec_f (by omega)]; rfl
 have:=scanN (ε:=Unit⊕Int) (step:=fun x=>qgG n x) n.2.2.2.1.length (fun i=>(List.range i).any fun k=>decide ((n.2.2.2.1.getD k sta0).2.1=(n.2.2.2.1.getD i sta0).2.1)) (fin:=.inl ()) (bad:=.inr 7) (fun k hk hq=>?_) (fun k hk hq=>?_) ?_
 ·exact this
 all_goals unfold qgG
 ·rw[dec_t (show(k:Int)<(n.2.2.2.1.length:Int) by omega),za,hin k hk,z7,hq,w1 hk (by omega)]; rfl
 ·rw[dec_t (show(k:Int)<(n.2.2.2.1.length:Int) by omega),za,hin k hk,z7,hq]; rfl
 ·rw[dec_f (by omega)]; rfl
theorem rgk(n:Net)(h:1<=n.1.length)(h2:n.1.length<=24)(k:Int):rg 0 (wi64 ((n.1.length:Int)-1)) k=kn n k:=by
 unfold rg kn;rw[wi (by omega)]
 congr 1;rw[zX,zz,zz]; omega
theorem qiO(n:Net):qd6 n=some (qbi n):=by
 unfold qd6 qbi;simp only[qgi,z7];have e0:rg 1 24 (n.1.length:Int)=(Nat.ble 1 n.1.length&&Nat.ble n.1.length 24):=by
  unfold rg; rw[zX]; simp only[z8,zi,zf1]; omega
 have e3:decide (32<(n.2.1.length:Int))=!Nat.ble n.2.1.length 32:=by rw[<-bltn]; exact dlt (a:=32)
 have e4:decide (24<(n.2.2.1.length:Int))=!Nat.ble n.2.2.1.length 24:=by rw[<-bltn]; exact dlt (a:=24)
 have e5:decide (12<(n.2.2.2.1.length:Int))=!Nat.ble n.2.2.2.1.length 12:=by rw[<-bltn]; exact dlt (a:=12)
 rw[e0,e3,e4,e5];unfold limB;cases h1:Nat.ble 1 n.1.length
 ·rfl
 cases h2:Nat.ble n.1.length 24
 ·rfl
 cases h3:Nat.ble n.2.1.length 32
 ·rfl
 cases h4:Nat.ble n.2.2.1.length 24
 ·rfl
 cases h5:Nat.ble n.2.2.2.1.length 12
 ·rfl
 have g1:=zI h1;have g2:=zI h2;have g3:=zI h3;have g4:=zI h4;have g5:=zI h5;simp only[zg,zb,z7,zu2,zG];have k0:=scanL (ε:=Int) (step:=fun x=>qeJ n x) n.2.1 sg0 (fun s=>Nat.ble 2 s.2.2.2.2.2.2.length&&Nat.ble s.2.2.2.2.2.2.length 8) (bad:=4) (fun i hi hq=>by
  unfold qeJ;rw[dec_t (show(i:Int)<(n.2.1.length:Int) by omega),za,gd_t (inB_t hi),qgi,z7,z9]
  simp only[z8,zf1] at hq;rw[show rg 2 8 ((n.2.1.getD i sg0).2.2.2.2.2.2.length:Int)=true by unfold rg; rw[dec_t (by omega),dec_t (by omega)]; rfl,w1 hi (by omega)]; rfl) (fun i hi hq=>by
  unfold qeJ;rw[dec_t (show(i:Int)<(n.2.1.length:Int) by omega),za,gd_t (inB_t hi),qgi,z7,z9]
  rw[show rg 2 8 ((n.2.1.getD i sg0).2.2.2.2.2.2.length:Int)=false by
   rw[<-hq]; unfold rg; rw[zX]; simp only[z8,zi,zf1]; omega]; rfl) (by
  unfold qeJ;rw[dec_f (by omega)]; rfl)
 rw[k0,z7];cases hp:n.2.1.all (fun s=>Nat.ble 2 s.2.2.2.2.2.2.length&&Nat.ble s.2.2.2.2.2.2.length 8) with
 | false=>rfl
 | true=>
 have hs:Small n:=(qra n).1 (by unfold limB; rw[h1,h2,h3,h4,h5,hp]; rfl)
 simp only[za,zb1];rw[qw4];show(qcb n).bind _=_;rw[quK (by omega) (by omega) (by omega),z7]
 simp only;rw[qCd (by omega) (by simp; omega) (by simp; omega) (by simp; omega),z7]
 show Sum.elim _ _ (bif formB n then _ else _)=_;cases formB n with
 | false=>rfl
 | true=>
 simp only[za,zb1];rw[qDZ (by omega) (by simp; omega) (by simp; omega) (by simp; omega),z7]
 unfold twB;show Sum.elim _ _ (bif (nmsOf n).any twL then _ else _)=_;cases(nmsOf n).any twL with
 | true=>rfl
 | false=>
 simp only[zb,zb1,zt2];rw[qD0 n (by omega),z7]
 cases twS n.2.2.2.1 with
 | true=>rfl
 | false=>
 simp only[zb,zb1];have k6:=scanL (ε:=Int) (step:=fun x=>qeK n x) n.2.1 sg0 (fun s=>kn n s.2.1&&kn n s.2.2.1) (bad:=8) (fun i hi hq=>by
  unfold qeK;rw[dec_t (show(i:Int)<(n.2.1.length:Int) by omega),za,gd_t (inB_t hi),qgi,z7,qgi,z7,z9,rgk n g1 g2,rgk n g1 g2]
  simp only[z8] at hq;rw[hq.1,hq.2,w1 hi (by omega)]; rfl) (fun i hi hq=>by
  unfold qeK;rw[dec_t (show(i:Int)<(n.2.1.length:Int) by omega),za,gd_t (inB_t hi),qgi,z7,qgi,z7,z9,rgk n g1 g2,rgk n g1 g2]
  revert hq
  cases kn n (n.2.1.getD i sg0).2.1 <;> cases kn n (n.2.1.getD i sg0).2.2.1 <;> intro hq <;> first | rfl | cases hq) (by
  unfold qeK;rw[dec_f (by omega)]; rfl)
 rw[k6,z7];unfold knB;cases n.2.1.all (fun s=>kn n s.2.1&&kn n s.2.2.1) with
 | false=>rfl
 | true=>
 simp only[za,zb1,zG];have k7:=scanL (ε:=Int) (step:=fun x=>qeL n x) n.2.2.1 po0 (fun s=>kn n s.2.1) (bad:=8) (fun i hi hq=>by
  unfold qeL;rw[dec_t (show(i:Int)<(n.2.2.1.length:Int) by omega),za,gd_t (inB_t hi),qgi,z7,z9,rgk n g1 g2,hq,w1 hi (by omega)]; rfl) (fun i hi hq=>by
  unfold qeL;rw[dec_t (show(i:Int)<(n.2.2.1.length:Int) by omega),za,gd_t (inB_t hi),qgi,z7,z9,rgk n g1 g2,hq]; rfl) (by
  unfold qeL;rw[dec_f (by omega)]; rfl)
 rw[k7,z7];cases n.2.2.1.all (fun s=>kn n s.2.1) with
 | false=>rfl
 | true=>
 simp only[za,zb1,zG];have k8:=scanL (ε:=Int) (step:=fun x=>qeM n x) n.2.2.2.1 sta0 (fun s=>kn n s.2.1) (bad:=8) (fun i hi hq=>by
  unfold qeM;rw[dec_t (show(i:Int)<(n.2.2.2.1.length:Int) by omega),za,gd_t (inB_t hi),qgi,z7,z9,rgk n g1 g2,hq,w1 hi (by omega)]; rfl) (fun i hi hq=>by
  unfold qeM;rw[dec_t (show(i:Int)<(n.2.2.2.1.length:Int) by omega),za,gd_t (inB_t hi),qgi,z7,z9,rgk n g1 g2,hq]; rfl) (by
  unfold qeM;rw[dec_f (by omega)]; rfl)
 rw[k8,z7];cases n.2.2.2.1.all (fun s=>kn n s.2.1) with
 | false=>rfl
 | true=>
 simp only[za,zb1];unfold prB;have k9:=scanL (ε:=Int) (step:=fun x=>qeN n x) n.2.1 sg0 pipeB (bad:=9) (fun i hi hq=>by
  unfold qeN;rw[dec_t (show(i:Int)<(n.2.1.length:Int) by omega),za,gd_t (inB_t hi),z9]
  have:=hs.pt _ (qbc (d:=sg0) hi);show(qfy (n.2.1.getD i sg0)).bind _=_;rw[qtz this.1 this.2,z7,hq,w1 hi (by omega)]; rfl) (fun i hi hq=>by
  unfold qeN;rw[dec_t (show(i:Int)<(n.2.1.length:Int) by omega),za,gd_t (inB_t hi),z9]
  have:=hs.pt _ (qbc (d:=sg0) hi);show(qfy (n.2.1.getD i sg0)).bind _=_;rw[qtz this.1 this.2,z7,hq]; rfl) (by
  unfold qeN;rw[dec_f (by omega)]; rfl)
 rw[k9,z7];cases n.2.1.all pipeB with
 | false=>rfl
 | true=>
 simp only[za,zb1,zG];have k10:=scanL (ε:=Int) (step:=fun x=>qd4 n x) n.2.2.1 po0 (fun p=>rg 0 100000000 p.2.2) (bad:=9) (fun i hi hq=>by
  unfold qd4;rw[dec_t (show(i:Int)<(n.2.2.1.length:Int) by omega),za,gd_t (inB_t hi),qgi,z7,z9,hq,w1 hi (by omega)]; rfl) (fun i hi hq=>by
  unfold qd4;rw[dec_t (show(i:Int)<(n.2.2.1.length:Int) by omega),za,gd_t (inB_t hi),qgi,z7,z9,hq]; rfl) (by
  unfold qd4;rw[dec_f (by omega)]; rfl)
 rw[k10,z7];cases n.2.2.1.all (fun p=>rg 0 100000000 p.2.2) with
 | false=>rfl
 | true=>
 simp only[za,zb1,zG];have k11:=scanL (ε:=Int) (step:=fun x=>qd5 n x) n.2.2.2.1 sta0 stB (bad:=9) (fun i hi hq=>by
  unfold qd5;unfold stB at hq;simp only[z8,sta0] at hq;simp only[qgi,z7];rw[dec_t (show(i:Int)<(n.2.2.2.1.length:Int) by omega),za,gd_t (inB_t hi),z9,hq.1,hq.2.1,hq.2.2,w1 hi (by omega)]; rfl) (fun i hi hq=>by
  unfold qd5;unfold stB at hq;simp only[sta0] at hq;simp only[qgi,z7];rw[dec_t (show(i:Int)<(n.2.2.2.1.length:Int) by omega),za,gd_t (inB_t hi),z9]
  revert hq
  cases rg 0 100000000 (n.2.2.2.1.getD i ([],0,0,0,0)).2.2.1 <;> cases rg 0 100000 (n.2.2.2.1.getD i ([],0,0,0,0)).2.2.2.1 <;> cases rg 0 100000000 (n.2.2.2.1.getD i ([],0,0,0,0)).2.2.2.2 <;> intro hq <;> first | rfl | cases hq) (by
  unfold qd5;rw[dec_f (by omega)]; rfl)
 rw[k11,z7];cases n.2.2.2.1.all stB with
 | false=>rfl
 | true=>
 simp only[za,zb1,zG,z7];cases rg (-100000) 100000000 n.2.2.2.2.1 <;> cases rg 0 100 n.2.2.2.2.2 <;> rfl
theorem qrb(c:UInt8)(hc:c∈[(110:UInt8),103,113,115,112]){m:Nat}(hm:m<=26):(nms c m).all nameB=true:=by
 have key:∀c∈[(110:UInt8),103,113,115,112],∀i∈List.range 26,nameB (nm c i)=true:=by decide +kernel
 rw[zm];intro x hx;obtain⟨j,hj,rfl⟩:=qDX hx;exact key c hc j (zM.2 (by omega))
theorem qpF{l:List Str}(h:l.Nodup):twL l=false:=by
 unfold twL;rw[zQ1];intro i hi;rw[zd2,zQ1];intro k hk;have hi:=zM.1 hi;have hk:=zM.1 hk;rw[zi];intro he;rw[zh,zh,zl (by omega),zl (by omega)] at he
 have:=(List.getElem_inj h (h₀:=hi) (h₁:=(by omega:k<l.length))).1 he
 omega
theorem rg_t{lo hi x:Int}(h:lo<=x/\x<=hi):rg lo hi x=true:=by
 unfold rg;rw[z41 h.1,z41 h.2]; rfl
theorem qEX{k:Nat}{s:Seg}(h:SegP k s):pipeB s=true:=by
 have a1:=h.pts.l2;unfold pipeB;rw[zH2 h.ne,rg_t h.cap,rg_t h.res,rg_t h.wav];have e1:(s.2.2.2.2.2.2.getD 0 pt0).1=0:=h.pts.fst;have e2:(s.2.2.2.2.2.2.getD (s.2.2.2.2.2.2.length-1) pt0).1=s.2.2.2.1:=h.pts.lst;rw[z41 e1,z41 e2];simp only[zk1,Bool.and_self,zG,zu2];rw[zm];intro i hi;have hi:=zM.1 hi;have hr:=h.pts.rng _ (qbc (d:=pt0) hi);unfold ptB;rw[rg_t ⟨hr.1,hr.2.1⟩,rg_t ⟨hr.2.2.1,hr.2.2.2⟩];simp only[zG];cases i with
 | zero=>rfl
 | succ j=>
  have:=h.pts.inc j hi;have e3:(s.2.2.2.2.2.2.getD (j+1-1) pt0).1<(s.2.2.2.2.2.2.getD (j+1) pt0).1:=this;rw[z41 e3,Bool.or_true]
theorem chk0{k:Nat}{n:Net}(h:NetP k n):qbi n=0:=by
 have a1:=h.k2; have a2:=h.k6; have a3:=h.segs.len; have a4:=h.ports.len; have a5:=h.stats.len; have a6:=h.some';have e:n.1.length=k:=by rw[h.nodes,qqc]
 have hl:limB n=true:=(qra n).2 ⟨by omega,by omega,by omega,by omega,by omega,fun s hs=>⟨(h.segs.rng s hs).pts.l2,(h.segs.rng s hs).pts.l8⟩⟩
 have hf:formB n=true:=by
  unfold formB nmsOf;rw[h.nodes,h.segs.nam,h.ports.nam,h.stats.nam];simp only[z31,List.all_nil];rw[qrb 110 (by decide) (by omega),qrb 103 (by decide) (by omega),qrb 113 (by decide) (by omega),qrb 115 (by decide) (by omega)]; rfl
 have ht:twB n=false:=by
  unfold twB nmsOf;rw[h.nodes,h.segs.nam,h.ports.nam,h.stats.nam];simp only[List.any_cons,List.any_nil];rw[qpF (qpE 110 (by omega)),qpF (qpE 103 (by omega)),qpF (qpE 113 (by omega)),qpF (qpE 115 (by omega))]
  simp only[Bool.or_self,zt2];unfold twS;rw[zQ1];intro i hi;rw[zd2,zQ1];intro q hq;have hi:=zM.1 hi;have hq:=zM.1 hq;rw[zi];intro he;have hd:=h.stats.dif;have e1:∀j (hj:j<n.2.2.2.1.length),(n.2.2.2.1.getD j sta0).2.1=(n.2.2.2.1.map (·.2.1))[j]'(by simpa using hj):=fun j hj=>by
   rw[List.getElem_map,zh,zl hj]; rfl
  rw[e1 q (by omega),e1 i hi] at he
  have:=(List.getElem_inj hd).1 he;omega
 have hk:knB n=true:=by
  unfold knB kn;rw[z8,z8,zm,zm,zm];refine⟨fun s hs=>?_,fun s hs=>?_,fun s hs=>?_⟩
  ·have:=h.segs.rng s hs;have b1:=this.f0; have b2:=this.f1; have b3:=this.t0; have b4:=this.t1;rw[z41 b1,z41 b3,z41 (by omega),z41 (by omega)]; rfl
  ·have:=h.ports.rng s hs;rw[z41 this.1,z41 (by omega)]; rfl
  ·have:=h.stats.rng s hs;rw[z41 this.1,z41 (by omega)]; rfl
 have hp:prB n=true:=by
  unfold prB;rw[rg_t h.vap,rg_t h.set,zm.2 fun s hs=>qEX (h.segs.rng s hs),zm.2 fun s hs=>rg_t (h.ports.rng s hs).2.2,zm.2 fun s hs=>?_]
  ·rfl
  ·have:=h.stats.rng s hs;unfold stB;rw[rg_t this.2.2.1,rg_t this.2.2.2.1,rg_t this.2.2.2.2]; rfl
 unfold qbi;rw[hl,hf,ht,hk,hp]; rfl
abbrev Pl:=List Int×List Int×List Bool
def sumTo(f:Nat->Int):Nat->Int
 | 0=>0
 | n+1=>sumTo f n+f n
theorem qes{f:Nat->Int}{b:Int}(h:∀i,0<=f i/\f i<=b):∀n:Nat,0<=sumTo f n/\sumTo f n<=b*n
 | 0=>⟨Int.le_refl _,by simp[sumTo]⟩
 | n+1=>by
  have h1:=qes h n;have h2:=h n;have e:b*((n+1:Nat):Int)=b*n+b:=by rw[Int.natCast_add,Int.mul_add]; simp
  rw[e];simp only[sumTo]; omega
theorem qet{f:Nat->Int}:∀n:Nat,(∀i,i<n->f i=0)->sumTo f n=0
 | 0,_=>rfl
 | n+1,h=>by simp only[sumTo]; rw[qet n fun i hi=>h i (by omega),h n (by omega)]; rfl
def rate(p:Pl)(i:Nat):Int:=p.1.getD i 0
def prate(p:Pl)(i:Nat):Int:=p.2.1.getD i 0
def frm(n:Net)(p:Pl)(i:Nat):Int:=if rate p i<0 then(n.2.1.getD i sg0).2.2.1 else(n.2.1.getD i sg0).2.1
def tow(n:Net)(p:Pl)(i:Nat):Int:=if rate p i<0 then(n.2.1.getD i sg0).2.1 else(n.2.1.getD i sg0).2.2.1
def amt(x:Int):Int:=max x (0-x)
def segIn(n:Net)(p:Pl)(k:Int)(i:Nat):Int:=if tow n p i=k then amt (rate p i) else 0
def qco(n:Net)(p:Pl)(k:Int)(i:Nat):Int:=if frm n p i=k then amt (rate p i) else 0
def qhJ(n:Net)(p:Pl)(k:Int)(i:Nat):Int:=if(n.2.2.1.getD i po0).2.1=k then max 0 (prate p i) else 0
def qey(n:Net)(p:Pl)(k:Int)(i:Nat):Int:=if(n.2.2.1.getD i po0).2.1=k then max 0 (0-prate p i) else 0
def comeF(n:Net)(p:Pl)(k:Int):Int:=sumTo (segIn n p k) n.2.1.length+sumTo (qhJ n p k) n.2.2.1.length
def qj9(n:Net)(p:Pl)(k:Int):Int:=sumTo (qco n p k) n.2.1.length+sumTo (qey n p k) n.2.2.1.length
structure RB(p:Pl):Prop where
 s:∀i,-1000<=rate p i/\rate p i<=1000
 q:∀i,-1000<=prate p i/\prate p i<=1000
section
variable {n:Net} {p:Pl}
theorem qpG(h:RB p)(k:Int)(i:Nat):0<=segIn n p k i/\segIn n p k i<=1000:=by
 have:=h.s i; unfold segIn amt; split <;> omega
theorem qmH(h:RB p)(k:Int)(i:Nat):0<=qco n p k i/\qco n p k i<=1000:=by
 have:=h.s i; unfold qco amt; split <;> omega
theorem qsy(h:RB p)(k:Int)(i:Nat):0<=qhJ n p k i/\qhJ n p k i<=1000:=by
 have:=h.q i; unfold qhJ; split <;> omega
theorem qqe(h:RB p)(k:Int)(i:Nat):0<=qey n p k i/\qey n p k i<=1000:=by
 have:=h.q i; unfold qey; split <;> omega
end
structure KnP(n:Net):Prop where
 s:∀i,i<n.2.1.length->(0<=(n.2.1.getD i sg0).2.1/\(n.2.1.getD i sg0).2.1<n.1.length)/\(0<=(n.2.1.getD i sg0).2.2.1/\(n.2.1.getD i sg0).2.2.1<n.1.length)
 p:∀i,i<n.2.2.1.length->0<=(n.2.2.1.getD i po0).2.1/\(n.2.2.1.getD i po0).2.1<n.1.length
 t:∀i,i<n.2.2.2.1.length->0<=(n.2.2.2.1.getD i sta0).2.1/\(n.2.2.2.1.getD i sta0).2.1<n.1.length
theorem qtA{n:Net}{k:Int}:kn n k=true↔0<=k/\k<n.1.length:=by
 unfold kn; rw[z8,zz,zz]
theorem KnP.of{n:Net}(h:knB n=true):KnP n:=by
 unfold knB at h;simp only[z8,zm] at h;exact⟨fun i hi=>by have:=h.1 _ (qbc (d:=sg0) hi); rwa[qtA,qtA] at this,fun i hi=>by have:=h.2.1 _ (qbc (d:=po0) hi); rwa[qtA] at this,fun i hi=>by have:=h.2.2 _ (qbc (d:=sta0) hi); rwa[qtA] at this⟩
structure VNet(n:Net):Prop where
 small:Small n
 kn:KnP n
 pr:prB n=true
theorem qn4{c:Bool}{a b:Int}(hb:b≠0)(h:(bif c then a else b)=0):c=true/\a=0:=by
 cases c
 ·exact absurd h hb
 ·exact⟨rfl,h⟩
theorem VNet.of{n:Net}(h:qbi n=0):VNet n:=by
 unfold qbi at h;obtain⟨h1,h⟩:=qn4 (by decide) h
 obtain⟨h2,h⟩:=qn4 (by decide) h
 cases h3:twB n with
 | true=>rw[h3] at h; cases h
 | false=>
  rw[h3] at h; simp only[zb] at h;obtain⟨h4,h⟩:=qn4 (by decide) h
  obtain⟨h5,h⟩:=qn4 (by decide) h
  exact⟨(qra n).1 h1,KnP.of h4,h5⟩
theorem qxZ{n:Net}{p:Pl}(h:KnP n){i:Nat}(hi:i<n.2.1.length):0<=frm n p i/\frm n p i<n.1.length:=by
 have:=h.s i hi; unfold frm; split <;> omega
theorem qEY{n:Net}{p:Pl}(h:KnP n){i:Nat}(hi:i<n.2.1.length):0<=tow n p i/\tow n p i<n.1.length:=by
 have:=h.s i hi; unfold tow; split <;> omega
/-! ### The program's sums -/
def m24(f:Nat->Int):List Int:=(List.range 24).map f
theorem qw5(f:Nat->Int):(m24 f).length=24:=by simp[m24]
theorem qjx(f:Nat->Int){k:Nat}(h:k<24):(m24 f).getD k 0=f k:=qB1 f 24 k h
theorem qhi{f g:Nat->Int}(h:∀k,k<24->f k=g k):m24 f=m24 g:=z82 fun k hk=>h k (zM.1 hk)
theorem qD1(f:Nat->Int){k:Nat}(hk:k<24)(x:Int):(m24 f).set k ((m24 f).getD k 0+x)=m24 fun j=>f j+(if k=j then x else 0):=by
 refine qDg 0 (by simp[qw5]) fun j hj=>?_
 rw[zS,qw5] at hj;rw[qhC,qjx _ hj,qw5];by_cases e:k=j
 ·subst e; rw[if_pos ⟨rfl,hk⟩,qjx _ hk,qjx _ hk,if_pos rfl]
 ·rw[if_neg (fun h=>e h.1),qjx _ hj,if_neg e]; omega
def addF(f:Nat->Int)(k x:Int):Nat->Int:=fun j=>f j+(if k=(j:Int) then x else 0)
theorem qx0(f:Nat->Int)(x:Int):m24 (addF f (-1) x)=m24 f:=qhi fun k _=>by unfold addF; rw[if_neg (by omega)]; omega
theorem m24_set'(f:Nat->Int){k:Int}(h0:0<=k)(h1:k<24){x:Int}(hb:∀j,j<24->-1000000<=f j/\f j<=1000000)(hx : -1000000<=x/\x<=1000000):(m24 f).set k.toNat (wi64 ((m24 f).getD k.toNat 0+x))=m24 (addF f k x):=by
 obtain⟨k',rfl⟩:∃k':Nat,k=(k':Int):=⟨k.toNat,by omega⟩
 rw[z9,show wi64 ((m24 f).getD k' 0+x)=(m24 f).getD k' 0+x by
  rw[qjx _ (by omega)]; have:=hb k' (by omega); exact wi (by omega),qD1 f (by omega)]
 refine qhi fun j hj=>?_
 unfold addF;by_cases e:k'=j
 ·rw[if_pos e,if_pos (by omega)]
 ·rw[if_neg e,if_neg (by omega)]
def bd6(f:Nat->Int):Prop:=∀j,j<24->-1000000<=f j/\f j<=1000000
theorem qDq{f g:Nat->Int}(hf:bd6 f)(hg:bd6 g){a b r:Int}(ha : -1<=a/\a<24)(hb:0<=b/\b<24)(hr : -1000<=r/\r<=1000):
  qdx a b r (m24 f,m24 g)=some (m24 (addF f (if r<0 then a else b) (amt r)),m24 (addF g (if r<0 then b else a) (amt r))):=by
 unfold qdx;by_cases h:r<0
 ·rw[dec_t h,if_pos h,if_pos h,za,show wi64 (0-r)=amt r by unfold amt; rw[wi (by omega)]; omega]
  have hx : -1000000<=amt r/\amt r<=1000000:=by unfold amt; omega
  simp only[z7];have hB:inB b 24=true:=qae.2 (by omega)
  rw[dec_t hb.1,za,gd_t hB,gd_t hB,m24_set' g hb.1 hb.2 hg hx,z7];by_cases h0:0<=a
  ·have hA:inB a 24=true:=qae.2 (by omega)
   rw[dec_t h0,za,gd_t hA,gd_t hA,m24_set' f h0 ha.2 hf hx]
  ·rw[dec_f h0,zb,show a=-1 by omega,qx0]
 ·rw[dec_f h,if_neg h,if_neg h,zb];have hx : -1000000<=r/\r<=1000000:=by omega
  rw[show amt r=r by unfold amt; omega]
  have hB:inB b 24=true:=qae.2 (by omega)
  simp only[z7];by_cases h0:0<=a
  ·have hA:inB a 24=true:=qae.2 (by omega)
   rw[dec_t h0,za,gd_t hA,gd_t hA,m24_set' g h0 ha.2 hg hx,z7,dec_t hb.1,za,gd_t hB,gd_t hB,m24_set' f hb.1 hb.2 hf hx]
  ·rw[dec_f h0,zb,z7,dec_t hb.1,za,gd_t hB,gd_t hB,m24_set' f hb.1 hb.2 hf hx,show a=-1 by omega,qx0]
theorem pairE{A B C D E:Type}{i:A}{v:B}{a a':C}{b b':D}(h:a=a')(h':b=b'):(some (Sum.inl (i,v,a,b)):Option ((A×B×C×D)⊕E))=some (Sum.inl (i,v,a',b')):=by rw[h,h']
theorem qx1{n:Net}(hn:VNet n){p:Pl}(hp:RB p)(h1:p.1.length=n.2.1.length)(h2:p.2.1.length=n.2.2.1.length):ql4 n p=some (m24 fun k=>comeF n p k,m24 fun k=>qj9 n p k):=by
 obtain⟨s1,s2,s3,s4,s5,s6⟩:=hn.small;unfold ql4;have e1:iter (fun x=>qdY n p x.1 x.2.1 x.2.2) (0,((List.replicate 24 0),List.replicate 24 0),(List.replicate 24 0),List.replicate 24 0)=
   some (((List.replicate 24 0),List.replicate 24 0),(m24 fun k=>sumTo (segIn n p k) n.2.1.length,m24 fun k=>sumTo (qco n p k) n.2.1.length)):=by
  refine qbl (step:=fun x:Int×(List Int×List Int)×(List Int×List Int)=>qdY n p x.1 x.2.1 x.2.2) n.2.1.length (fun i=>((i:Int),((List.replicate 24 0),List.replicate 24 0),(m24 fun k=>sumTo (segIn n p k) i,m24 fun k=>sumTo (qco n p k) i))) (fun i hi=>?_) ?_
  ·show qdY n p _ _ _=_;unfold qdY;have k1:=hn.kn.s i hi;have b1:bd6 fun k=>sumTo (segIn n p k) i:=fun j _=>by have:=qes (qpG (n:=n) hp (j:Int)) i; dsimp only; omega
   have b2:bd6 fun k=>sumTo (qco n p k) i:=fun j _=>by have:=qes (qmH (n:=n) hp (j:Int)) i; dsimp only; omega
   have hr:=hp.s i;unfold rate at hr;rw[dec_t (show(i:Int)<(n.2.1.length:Int) by omega),za,gd_t (inB_t hi),gd_t (inB_t (show i<p.1.length by omega)),z9,
    qDq b1 b2 (by have:=k1.1; simp only[sg0] at this; omega) (by have:=k1.2; simp only[sg0] at this; omega) hr,z7,w1 hi (by omega)]
   refine pairE ?_ ?_
   ·refine qhi fun k hk=>?_
    simp only[addF,sumTo,segIn,tow,rate,sg0]; rfl
   ·refine qhi fun k hk=>?_
    simp only[addF,sumTo,qco,frm,rate,sg0]; rfl
  ·show qdY n p _ _ _=_;unfold qdY;rw[dec_f (by omega)]; rfl
 rw[e1,z7];have e2:iter (fun x2=>qdZ n p x2.1 x2.2.1 x2.2.2) (0,((List.replicate 24 0),List.replicate 24 0),(m24 fun k=>sumTo (segIn n p k) n.2.1.length,m24 fun k=>sumTo (qco n p k) n.2.1.length))=
   some (((List.replicate 24 0),List.replicate 24 0),(m24 fun k=>comeF n p k,m24 fun k=>qj9 n p k)):=by
  have:=qbl (step:=fun x2:Int×(List Int×List Int)×(List Int×List Int)=>qdZ n p x2.1 x2.2.1 x2.2.2) (e:=(((List.replicate 24 0),List.replicate 24 0),(m24 fun k=>comeF n p k,m24 fun k=>qj9 n p k))) n.2.2.1.length (fun i=>((i:Int),((List.replicate 24 0),List.replicate 24 0),(m24 fun k=>sumTo (segIn n p k) n.2.1.length+sumTo (qhJ n p k) i,m24 fun k=>sumTo (qco n p k) n.2.1.length+sumTo (qey n p k) i))) (fun i hi=>?_) ?_
  ·refine Eq.trans ?_ this
   rw[show(m24 fun k=>sumTo (segIn n p k) n.2.1.length)=m24 fun k=>sumTo (segIn n p k) n.2.1.length+sumTo (qhJ n p k) 0 from qhi fun k _=>by simp only[sumTo]; omega,
    show(m24 fun k=>sumTo (qco n p k) n.2.1.length)=m24 fun k=>sumTo (qco n p k) n.2.1.length+sumTo (qey n p k) 0 from qhi fun k _=>by simp only[sumTo]; omega]
   rfl
  ·show qdZ n p _ _ _=_;unfold qdZ;have k1:=hn.kn.p i hi;have b1:bd6 fun k=>sumTo (segIn n p k) n.2.1.length+sumTo (qhJ n p k) i:=fun j _=>by
    have:=qes (qpG (n:=n) hp (j:Int)) n.2.1.length;have:=qes (qsy (n:=n) hp (j:Int)) i; dsimp only; omega
   have b2:bd6 fun k=>sumTo (qco n p k) n.2.1.length+sumTo (qey n p k) i:=fun j _=>by
    have:=qes (qmH (n:=n) hp (j:Int)) n.2.1.length;have:=qes (qqe (n:=n) hp (j:Int)) i; dsimp only; omega
   have hr:=hp.q i;unfold prate at hr;rw[dec_t (show(i:Int)<(n.2.2.1.length:Int) by omega),za,gd_t (inB_t hi),gd_t (inB_t (show i<p.2.1.length by omega)),z9,
    qDq b1 b2 (by omega) (by have:=k1; simp only[po0] at this; omega) hr,z7,w1 hi (by omega)]
   refine pairE ?_ ?_
   ·refine qhi fun k hk=>?_
    simp only[addF,sumTo,qhJ,prate,amt];split <;> split <;> (try split) <;> omega
   ·refine qhi fun k hk=>?_
    simp only[addF,sumTo,qey,prate,amt];split <;> split <;> (try split) <;> omega
  ·show qdZ n p _ _ _=_;unfold qdZ;rw[dec_f (by omega)]; rfl
 rw[e2]; rfl
section
variable {n:Net} {p:Pl}
theorem qw6(s:Seg)(r:Int):qo4 s r=some (if r<0 then s.2.2.1 else s.2.1,if r<0 then s.2.1 else s.2.2.1):=by
 unfold qo4;by_cases h:r<0
 ·rw[dec_t h,za,if_pos h,if_pos h]
 ·rw[dec_f h,zb,if_neg h,if_neg h]
theorem qx2(s:Seg)(r:Int):qm2 s r=some (if r<0 then s.2.2.1 else s.2.1,if r<0 then s.2.1 else s.2.2.1):=qw6 s r
theorem qD2{r:Int}(h : -1000<=r/\r<=1000):qmm r=some (amt r):=by
 unfold qmm amt; rw[wi (by omega)]
theorem quL(hp:RB p)(hs:n.2.1.length<=32)(hq:n.2.2.1.length<=24)(h1:p.1.length=n.2.1.length)(h2:p.2.1.length=n.2.2.1.length)(k:Int):qjX n p k=some (comeF n p k,qj9 n p k):=by
 unfold qjX;have e1:iter (fun x=>qdn n p k x.1 x.2.1 x.2.2) (0,0,0)=some (sumTo (segIn n p k) n.2.1.length,sumTo (qco n p k) n.2.1.length):=by
  refine qbl (step:=fun x:Int×Int×Int=>qdn n p k x.1 x.2.1 x.2.2) n.2.1.length (fun i=>(sumTo (segIn n p k) i,sumTo (qco n p k) i,(i:Int))) (fun i hi=>?_) ?_
  ·show qdn n p k (sumTo (segIn n p k) i) (sumTo (qco n p k) i) (i:Int)=some (.inl (sumTo (segIn n p k) i+segIn n p k i,sumTo (qco n p k) i+qco n p k i,((i+1:Nat):Int)));have b1:=qes (qpG (n:=n) hp k) i;have b2:=qes (qmH (n:=n) hp k) i;have b3:=qpG (n:=n) hp k i;have b4:=qmH (n:=n) hp k i;have hr:=hp.s i;unfold qdn;rw[dec_t (show(i:Int)<(n.2.1.length:Int) by omega),za,gd_t (inB_t hi),gd_t (inB_t (show i<p.1.length by omega)),z9,qx2]
   have ef:frm n p i=if p.1.getD i 0<0 then(n.2.1.getD i ([],0,0,0,0,0,[])).2.2.1 else(n.2.1.getD i ([],0,0,0,0,0,[])).2.1:=rfl
   have et:tow n p i=if p.1.getD i 0<0 then(n.2.1.getD i ([],0,0,0,0,0,[])).2.1 else(n.2.1.getD i ([],0,0,0,0,0,[])).2.2.1:=rfl
   have er:rate p i=p.1.getD i 0:=rfl;simp only[z7];have hB:inB (i:Int) p.1.length=true:=inB_t (by omega)
   rw[<-ef,<-et,<-er,qD2 hr];simp only[z7,gd_t hB];by_cases h0:rate p i=0
   ·have z1:segIn n p k i=0:=by unfold segIn amt; split <;> omega
    have z2:qco n p k i=0:=by unfold qco amt; split <;> omega
    rw[dec_t h0,za,z7,z1,z2,w1 hi (by omega),zN2,zN2]
   ·rw[dec_f h0,zb];have s1:(bif decide (frm n p i=k) then some (wi64 (sumTo (qco n p k) i+amt (rate p i))) else some (sumTo (qco n p k) i))=some (sumTo (qco n p k) i+qco n p k i):=by
     by_cases hc:frm n p i=k
     ·have:qco n p k i=amt (rate p i):=if_pos hc;rw[dec_t hc,za,<-this,wi (by omega)]
     ·have:qco n p k i=0:=if_neg hc;rw[dec_f hc,zb,this,zN2]
    have s2:(bif decide (tow n p i=k) then some (wi64 (sumTo (segIn n p k) i+amt (rate p i))) else some (sumTo (segIn n p k) i))=some (sumTo (segIn n p k) i+segIn n p k i):=by
     by_cases hc:tow n p i=k
     ·have:segIn n p k i=amt (rate p i):=if_pos hc;rw[dec_t hc,za,<-this,wi (by omega)]
     ·have:segIn n p k i=0:=if_neg hc;rw[dec_f hc,zb,this,zN2]
    rw[s1,z7,s2,z7,z7,w1 hi (by omega)]
  ·show qdn n p k _ _ ((n.2.1.length:Nat):Int)=_;unfold qdn;rw[dec_f (by omega)]; rfl
 rw[e1,z7];have e2:iter (fun x2=>qdo n p k x2.1 x2.2.1 x2.2.2) (sumTo (segIn n p k) n.2.1.length,sumTo (qco n p k) n.2.1.length,0)=some (comeF n p k,qj9 n p k):=by
  have:=qbl (step:=fun x2:Int×Int×Int=>qdo n p k x2.1 x2.2.1 x2.2.2) (e:=(comeF n p k,qj9 n p k)) n.2.2.1.length (fun i=>(sumTo (segIn n p k) n.2.1.length+sumTo (qhJ n p k) i,sumTo (qco n p k) n.2.1.length+sumTo (qey n p k) i,(i:Int))) (fun i hi=>?_) ?_
  ·refine Eq.trans ?_ this
   simp only[sumTo,zN2]; rfl
  ·have b1:=qes (qpG (n:=n) hp k) n.2.1.length;have b2:=qes (qmH (n:=n) hp k) n.2.1.length;have b3:=qes (qsy (n:=n) hp k) i;have b4:=qes (qqe (n:=n) hp k) i;have b5:=qsy (n:=n) hp k i;have b6:=qqe (n:=n) hp k i;show qdo n p k (sumTo (segIn n p k) n.2.1.length+sumTo (qhJ n p k) i) (sumTo (qco n p k) n.2.1.length+sumTo (qey n p k) i) (i:Int)=some (.inl (sumTo (segIn n p k) n.2.1.length+(sumTo (qhJ n p k) i+qhJ n p k i),sumTo (qco n p k) n.2.1.length+(sumTo (qey n p k) i+qey n p k i),((i+1:Nat):Int)));have hr:=hp.q i;unfold qdo;have hB:inB (i:Int) p.2.1.length=true:=inB_t (by omega)
   have eq:prate p i=p.2.1.getD i 0:=rfl;rw[dec_t (show(i:Int)<(n.2.2.1.length:Int) by omega),za,gd_t (inB_t hi),z9,gd_t hB,gd_t hB,<-eq,w1 hi (by omega)]
   by_cases hc:(n.2.2.1.getD i po0).2.1=k
   ·have z1:qhJ n p k i=max 0 (prate p i):=if_pos hc;have z2:qey n p k i=max 0 (0-prate p i):=if_pos hc;have hc':((n.2.2.1.getD i ([],0,0)).2).1=k:=hc;rw[dec_t hc',za,z7,wi (show -9223372036854775808<=0-prate p i/\0-prate p i<=9223372036854775807 by omega),<-z1,<-z2,wi (by omega),wi (by omega),Int.add_assoc,Int.add_assoc]
   ·have z1:qhJ n p k i=0:=if_neg hc;have z2:qey n p k i=0:=if_neg hc;have hc':¬((n.2.2.1.getD i ([],0,0)).2).1=k:=hc;rw[dec_f hc',zb,z7,z1,z2,zN2,zN2]
  ·show qdo n p k _ _ ((n.2.2.1.length:Nat):Int)=_;unfold qdo;rw[dec_f (by omega)]; rfl
 rw[e2]; rfl
/-! ### The order -/
def blk(n:Net)(p:Pl)(there:List Bool)(k:Nat)(i:Nat):Bool:=!decide (rate p i=0)&&(decide (tow n p i=(k:Int))&&!there.getD (frm n p i).toNat false)
def freeB(n:Net)(p:Pl)(there:List Bool)(k:Nat):Bool:=!there.getD k false&&!(List.range n.2.1.length).any (blk n p there k)
def nextF(n:Net)(p:Pl)(there:List Bool):Option Nat:=(List.range n.1.length).find? (freeB n p there)
def topo(n:Net)(p:Pl):Nat->List Bool->List Int
 | 0,_=>[]
 | f+1,there=>match nextF n p there with
  | none=>[]
  | some k=>(k:Int)::topo n p f (there.set k true)
def ordL(n:Net)(p:Pl):List Int:=topo n p n.1.length (List.replicate n.1.length false)
theorem qCe(f:Nat):∀there,(topo n p f there).length<=f:=by
 induction f with
 | zero=>intro _; exact zZ _
 | succ f ih=>
  intro there;unfold topo;split
  ·exact zi1 _
  ·rw[zf]; have:=ih (there.set (by assumption) true); omega
theorem qvQ{there:List Bool}(h:∀j,j<n.1.length->freeB n p there j=false):nextF n p there=none:=by
 unfold nextF;rw[List.find?_eq_none]
 intro x hx;rw[h x (zM.1 hx)]; simp
theorem qy1{q:Nat->Bool}{k m:Nat}(hk:k<m)(h:∀j,j<k->q j=false)(hq:q k=true):(List.range m).find? q=some k:=by
 rw[List.find?_range_eq_some]
 refine⟨hq,zM.2 hk,fun j hj=>?_⟩
 rw[h j hj]; rfl
theorem qAA{there:List Bool}{k:Nat}(hk:k<n.1.length)(h:∀j,j<k->freeB n p there j=false)(hq:freeB n p there k=true):nextF n p there=some k:=qy1 hk h hq
theorem qpH{there:List Bool}(h:nextF n p there=none):∀f,topo n p f there=[]
 | 0=>rfl
 | f+1=>by unfold topo; rw[h]
theorem count_set{l:List Bool}{k:Nat}(hk:k<l.length)(h:l.getD k false=false):(l.set k true).count false+1=l.count false:=by
 rw[gD_eq hk] at h;have:=List.count_set (l:=l) (a:=true) (b:=false) hk;rw[this,h];have:0<l.count false:=List.count_pos_iff.2 (h ▸ z53 hk);simp; omega
theorem qvR{l:List Bool}{k:Nat}(hk:k<l.length)(h:l.getD k false=false):0<l.count false:=by
 have:=count_set hk h; omega
theorem qx3(hn:VNet n)(h1:p.1.length=n.2.1.length){there:List Bool}(ht:there.length=n.1.length)(k:Nat)(out:List Int):
  iter (fun x=>qce n p (k:Int) x.1 x.2.1 x.2.2) (0,out,there)=some (bif (List.range n.2.1.length).any (blk n p there k) then .inl (out,there) else .inr (out,there)):=by
 have hs:=hn.small.sg;have:=qbt (step:=fun x:Int×List Int×List Bool=>qce n p (k:Int) x.1 x.2.1 x.2.2) n.2.1.length (fun i=>((i:Int),out,there)) (fun i=>!blk n p there k i) (fin:=.inr (out,there)) (bad:=.inl (out,there)) (fun i hi _ hq=>?_) (fun i hi _ hq=>?_) (fun _=>?_)
 ·have e:(List.range n.2.1.length).all (fun i=>!blk n p there k i)=!(List.range n.2.1.length).any (blk n p there k):=by simp[z91]
  rw[e] at this;refine Eq.trans this ?_
  cases(List.range n.2.1.length).any (blk n p there k) <;> rfl
 ·show qce n p (k:Int) (i:Int) out there=_;unfold qce;have hf:=qxZ (p:=p) hn.kn hi;have ef:frm n p i=if p.1.getD i 0<0 then(n.2.1.getD i ([],0,0,0,0,0,[])).2.2.1 else(n.2.1.getD i ([],0,0,0,0,0,[])).2.1:=rfl
  have et:tow n p i=if p.1.getD i 0<0 then(n.2.1.getD i ([],0,0,0,0,0,[])).2.1 else(n.2.1.getD i ([],0,0,0,0,0,[])).2.2.1:=rfl
  have er:rate p i=p.1.getD i 0:=rfl;have hB:inB (i:Int) p.1.length=true:=inB_t (by omega)
  rw[dec_t (show(i:Int)<(n.2.1.length:Int) by omega),za,gd_t (inB_t hi),gd_t hB,z9,qw6,z7,gd_t hB,<-ef,<-et,<-er,w1 hi (by omega),gd_t (qae.2 (by omega))]
  unfold blk at hq;simp only[Bool.not_and,zp2] at hq;cases hr:decide (rate p i=0) with
  | true=>simp only[zg,zb,z7]
  | false=>
   rw[hr] at hq;simp only[zk1,za];cases ht2:decide (tow n p i=(k:Int)) with
   | false=>simp only[zb,z7]
   | true=>
    rw[ht2] at hq;simp only[zt2,zg] at hq;simp only[za,hq,zg,z7,zb]
 ·show qce n p (k:Int) (i:Int) out there=_;unfold qce;have hf:=qxZ (p:=p) hn.kn hi;have ef:frm n p i=if p.1.getD i 0<0 then(n.2.1.getD i ([],0,0,0,0,0,[])).2.2.1 else(n.2.1.getD i ([],0,0,0,0,0,[])).2.1:=rfl
  have et:tow n p i=if p.1.getD i 0<0 then(n.2.1.getD i ([],0,0,0,0,0,[])).2.1 else(n.2.1.getD i ([],0,0,0,0,0,[])).2.2.1:=rfl
  have er:rate p i=p.1.getD i 0:=rfl;have hB:inB (i:Int) p.1.length=true:=inB_t (by omega)
  rw[dec_t (show(i:Int)<(n.2.1.length:Int) by omega),za,gd_t (inB_t hi),gd_t hB,z9,qw6,z7,gd_t hB,<-ef,<-et,<-er,gd_t (qae.2 (by omega))]
  have hq':blk n p there k i=true:=by revert hq; cases blk n p there k i <;> simp
  unfold blk at hq';rw[z8,z8] at hq';obtain⟨a,b,c⟩:=hq';rw[a,b,c]; rfl
 ·show qce n p (k:Int) ((n.2.1.length:Nat):Int) out there=_;unfold qce;rw[dec_f (by omega)]; rfl
theorem qCf(hn:VNet n)(h1:p.1.length=n.2.1.length):∀(f:Nat) (there:List Bool) (out:List Int),there.length=n.1.length->there.count false<=f->out.length+f<=100->∀m k:Nat,k+m=n.1.length->(∀j,j<k->freeB n p there j=false)->
  iter (fun x=>qaV n p x.1 x.2.1 x.2.2) ((k:Int),out,there)=some (out++topo n p f there):=by
 have hN:=hn.small.no;intro f;induction f with
 | zero=>
  intro there out ht hc ho m;induction m with
  | zero=>
   intro k hk hf;rw[qaS (e:=out) (by show qaV n p ((k:Nat):Int) out there=_; unfold qaV; rw[dec_f (by omega)]; rfl),qpH (qvQ fun j hj=>hf j (by omega)),zJ]
  | succ m ih=>
   intro k hk hf;have hk':k<n.1.length:=by omega
   have hth:there.getD k false=true:=by
    cases hg:there.getD k false with
    | true=>rfl
    | false=>have:=qvR (by omega) hg; omega
   have hfk:freeB n p there k=false:=by unfold freeB; rw[hth]; rfl
   rw[qbs (y:=(((k+1:Nat):Int),out,there)) (by
    show qaV n p ((k:Nat):Int) out there=_; unfold qaV;rw[dec_t (by omega),za,gd_t (inB_t (by omega)),z9,hth,za,z7,w1 hk' (by omega)])]
   refine ih (k+1) (by omega) fun j hj=>?_
   rcases zm2 j k with h | h
   ·exact hf j h
   ·rw[show j=k by omega]; exact hfk
 | succ f ihf=>
  intro there out ht hc ho m;induction m with
  | zero=>
   intro k hk hf;rw[qaS (e:=out) (by show qaV n p ((k:Nat):Int) out there=_; unfold qaV; rw[dec_f (by omega)]; rfl),qpH (qvQ fun j hj=>hf j (by omega)),zJ]
  | succ m ih=>
   intro k hk hf;have hk':k<n.1.length:=by omega
   have go:freeB n p there k=false->∀j,j<k+1->freeB n p there j=false:=fun hfk j hj=>by
    rcases zm2 j k with h | h
    ·exact hf j h
    ·rw[show j=k by omega]; exact hfk
   cases hth:there.getD k false with
   | true=>
    have hfk:freeB n p there k=false:=by unfold freeB; rw[hth]; rfl
    rw[qbs (y:=(((k+1:Nat):Int),out,there)) (by
     show qaV n p ((k:Nat):Int) out there=_; unfold qaV;rw[dec_t (by omega),za,gd_t (inB_t (by omega)),z9,hth,za,z7,w1 hk' (by omega)])]
    exact ih (k+1) (by omega) (go hfk)
   | false=>
    cases hb:(List.range n.2.1.length).any (blk n p there k) with
    | true=>
     have hfk:freeB n p there k=false:=by unfold freeB; rw[hth,hb]; rfl
     rw[qbs (y:=(((k+1:Nat):Int),out,there)) (by
      show qaV n p ((k:Nat):Int) out there=_; unfold qaV;rw[dec_t (by omega),za,gd_t (inB_t (by omega)),z9,hth,zb,qx3 hn h1 ht k out,hb,z7,za,zb1,z7,w1 hk' (by omega)])]
     exact ih (k+1) (by omega) (go hfk)
    | false=>
     have hfk:freeB n p there k=true:=by unfold freeB; rw[hth,hb]; rfl
     rw[qbs (y:=((0:Int),out++[(k:Int)],there.set k true)) (by
      show qaV n p ((k:Nat):Int) out there=_; unfold qaV;rw[dec_t (by omega),za,gd_t (inB_t (by omega)),z9,hth,zb,qx3 hn h1 ht k out,hb,z7,zb,Sum.elim_inr,gd_t (inB_t (by show k<there.length; omega)),gd_t (qav (by show(out.length+1)*8<=_; omega))]; rfl)]
     have hcs:=count_set (l:=there) (k:=k) (by omega) hth
     have:=ihf (there.set k true) (out++[(k:Int)]) (by rw[zS]; exact ht) (by omega) (by rw[zd]; simp only[zf,zx]; omega) n.1.length 0 (by omega) (fun j hj=>by omega)
     refine Eq.trans this ?_
     rw[topo,qAA hk' hf hfk,zp]; rfl
theorem qAB(hn:VNet n)(h1:p.1.length=n.2.1.length):qmR n p=some (ordL n p):=by
 have hN:=hn.small.no;unfold qmR;rw[gd_t (qhl (by omega)),z9]
 have:=qCf hn h1 n.1.length (List.replicate n.1.length false) [] (by simp) (by simp) (by simp; omega) n.1.length 0 (by omega) (fun j hj=>by omega)
 have this:iter (fun x=>qaV n p x.1 x.2.1 x.2.2) ((0:Int),[],List.replicate n.1.length false)=some (ordL n p):=this
 rw[this]; rfl
end
section
variable {n:Net} {p:Pl}
theorem qAC(hn:VNet n)(h1:p.1.length=n.2.1.length){there:List Bool}(ht:there.length=n.1.length)(k:Nat)(out:List Int):
  iter (fun x=>qcX n p (k:Int) x.1 x.2.1 x.2.2.1 x.2.2.2) (!there.getD k false,0,out,there)=some (freeB n p there k,out,there):=by
 have hs:=hn.small.sg;have:=qbl (step:=fun x:Bool×Int×List Int×List Bool=>qcX n p (k:Int) x.1 x.2.1 x.2.2.1 x.2.2.2) (e:=(freeB n p there k,out,there)) n.2.1.length (fun i=>(!there.getD k false&&!(List.range i).any (blk n p there k),(i:Int),out,there)) (fun i hi=>?_) ?_
 ·refine Eq.trans ?_ this
  simp only[List.range_zero,List.any_nil,zk1,zu2]; rfl
 ·show qcX n p (k:Int) (!there.getD k false&&!(List.range i).any (blk n p there k)) (i:Int) out there=some (.inl (!there.getD k false&&!(List.range (i+1)).any (blk n p there k),((i+1:Nat):Int),out,there));unfold qcX;have hf:=qxZ (p:=p) hn.kn hi;have ef:frm n p i=if p.1.getD i 0<0 then(n.2.1.getD i ([],0,0,0,0,0,[])).2.2.1 else(n.2.1.getD i ([],0,0,0,0,0,[])).2.1:=rfl
  have et:tow n p i=if p.1.getD i 0<0 then(n.2.1.getD i ([],0,0,0,0,0,[])).2.1 else(n.2.1.getD i ([],0,0,0,0,0,[])).2.2.1:=rfl
  have er:rate p i=p.1.getD i 0:=rfl;have hB:inB (i:Int) p.1.length=true:=inB_t (by omega)
  have hT:inB (frm n p i) there.length=true:=qae.2 (by omega)
  rw[dec_t (show(i:Int)<(n.2.1.length:Int) by omega),za,gd_t (inB_t hi),gd_t hB,z9,qx2,w1 hi (by omega),List.range_succ,List.any_append]
  simp only[z7,gd_t hB];rw[<-ef,<-et,<-er];simp only[gd_t hT,List.any_cons,List.any_nil,Bool.or_false];generalize hz:(List.range i).any (blk n p there k)=Z;rw[show blk n p there k i=(!decide (rate p i=0)&&(decide (tow n p i=(k:Int))&&!there.getD (frm n p i).toNat false)) from rfl]
  cases there.getD k false <;> cases Z <;> cases decide (rate p i=0) <;> cases decide (tow n p i=(k:Int)) <;> cases there.getD (frm n p i).toNat false <;> rfl
 ·show qcX n p (k:Int) _ ((n.2.1.length:Nat):Int) out there=_;unfold qcX;rw[dec_f (by omega)]; rfl
def nx(n:Net)(p:Pl)(there:List Bool)(v:Nat):Int:=match(List.range v).find? (freeB n p there) with
 | none=>-1
 | some k=>(k:Int)
theorem qD3{there:List Bool}{v:Nat}:nx n p there (v+1)=if nx n p there v<0/\freeB n p there v=true then(v:Int) else nx n p there v:=by
 unfold nx;rw[List.range_succ,List.find?_append]
 cases h:(List.range v).find? (freeB n p there) with
 | some k=>simp only[Option.some_or]; rw[if_neg (by omega)]
 | none=>
  simp only[Option.none_or];cases hf:freeB n p there v with
  | true=>simp[List.find?_cons,hf]
  | false=>simp[List.find?_cons,hf]
theorem qqf(hn:VNet n)(h1:p.1.length=n.2.1.length){there:List Bool}(ht:there.length=n.1.length)(out:List Int):
  iter (fun x=>qcY n p x.1 x.2.1 x.2.2.1 x.2.2.2) (-1,0,out,there)=some (nx n p there n.1.length,out,there):=by
 have hs:=hn.small.no;refine qbl (step:=fun x:Int×Int×List Int×List Bool=>qcY n p x.1 x.2.1 x.2.2.1 x.2.2.2) n.1.length (fun i=>(nx n p there i,(i:Int),out,there)) (fun i hi=>?_) ?_
 ·show qcY n p (nx n p there i) (i:Int) out there=some (.inl (nx n p there (i+1),((i+1:Nat):Int),out,there));unfold qcY;rw[dec_t (show(i:Int)<(n.1.length:Int) by omega),za,gd_t (inB_t (by omega)),z9,qAC hn h1 ht i out,z7,w1 hi (by omega),qD3]
  simp only;cases hf:freeB n p there i with
  | false=>rw[if_neg (by simp)]; rfl
  | true=>
   simp only[za,z7];by_cases h:nx n p there i<0
   ·rw[dec_t h,if_pos ⟨h,trivial⟩]; rfl
   ·rw[dec_f h,if_neg (fun hh=>h hh.1)]; rfl
 ·show qcY n p (nx n p there n.1.length) ((n.1.length:Nat):Int) out there=_;unfold qcY;rw[dec_f (by omega)]; rfl
theorem qvS{there:List Bool}{k:Nat}(h:nextF n p there=some k):k<n.1.length/\there.getD k false=false:=by
 unfold nextF at h;have h1:=List.mem_of_find?_eq_some h
 have h2:=List.find?_some h
 refine⟨zM.1 h1,?_⟩
 unfold freeB at h2;cases hg:there.getD k false with
 | false=>rfl
 | true=>rw[hg] at h2; cases h2
theorem qy2(hn:VNet n)(h1:p.1.length=n.2.1.length):∀(f:Nat) (there:List Bool) (out:List Int),there.length=n.1.length->there.count false<=f->out.length+f<=100->
  iter (fun x=>qcl n p x.1 x.2) (out,there)=some (out++topo n p f there):=by
 intro f;induction f with
 | zero=>
  intro there out ht hc ho;have hnone:nextF n p there=none:=by
   cases h:nextF n p there with
   | none=>rfl
   | some k=>have:=qvS h; have:=qvR (by omega) this.2; omega
  rw[qaS (e:=out) (by
   show qcl n p out there=_; unfold qcl;rw[qqf hn h1 ht out,z7,show nx n p there n.1.length=-1 by unfold nx; unfold nextF at hnone; rw[hnone]]; rfl),qpH hnone,zJ]
 | succ f ih=>
  intro there out ht hc ho;cases h:nextF n p there with
  | none=>
   rw[qaS (e:=out) (by
    show qcl n p out there=_; unfold qcl;rw[qqf hn h1 ht out,z7,show nx n p there n.1.length=-1 by unfold nx; unfold nextF at h; rw[h]]; rfl),qpH h,zJ]
  | some k=>
   have hk:=qvS h;rw[qbs (y:=(out++[(k:Int)],there.set k true)) (by
    show qcl n p out there=_; unfold qcl;rw[qqf hn h1 ht out,z7,show nx n p there n.1.length=(k:Int) by unfold nx; unfold nextF at h; rw[h]]
    simp only;rw[dec_f (by omega),zb,gd_t (qav (by omega)),gd_t (inB_t (by omega)),z9])]
   have hcs:=count_set (l:=there) (k:=k) (by omega) hk.2
   rw[ih (there.set k true) (out++[(k:Int)]) (by rw[zS]; exact ht) (by omega) (by rw[zd]; simp only[zf,zx]; omega),topo,h,zp]; rfl
theorem qAD(hn:VNet n)(h1:p.1.length=n.2.1.length):qkF n p=some (ordL n p):=by
 have hN:=hn.small.no;unfold qkF;rw[gd_t (qhl (by omega)),z9]
 have:=qy2 hn h1 n.1.length (List.replicate n.1.length false) [] (by simp) (by simp) (by simp; omega)
 rw[this]; rfl
/-! ### Checks -/
def szB(n:Net)(p:Pl):Bool:=decide (p.1.length=n.2.1.length)&&(decide (p.2.1.length=n.2.2.1.length)&&decide (p.2.2.length=n.2.2.2.1.length))
def rtB(n:Net)(p:Pl)(i:Nat):Bool:=rg (0-min 1000 (n.2.1.getD i sg0).2.2.2.1) (min 1000 (n.2.1.getD i sg0).2.2.2.1) (rate p i)
def qn5(n:Net)(p:Pl):Bool:=(List.range n.2.1.length).all (rtB n p)
def qjy(p:Pl):Bool:=p.2.1.all (rg (-1000) 1000)
def balB(n:Net)(p:Pl):Bool:=(List.range n.1.length).all fun k=>decide (comeF n p (k:Int)=qj9 n p (k:Int))
def qa0(n:Net)(p:Pl):Int:=if qbi n≠0 then qbi n else
 bif szB n p then(bif qn5 n p&&qjy p then(bif balB n p then(bif Nat.beq (ordL n p).length n.1.length then 0 else 13) else 12) else 1) else 9
theorem qqg:szB n p=true↔p.1.length=n.2.1.length/\p.2.1.length=n.2.2.1.length/\p.2.2.length=n.2.2.2.1.length:=by
 unfold szB; simp only[z8,zz]
theorem qhK{a b x:Int}:rg a b x=true↔a<=x/\x<=b:=by unfold rg; rw[z8,zz,zz]
theorem quM(hn:VNet n){i:Nat}(hi:i<n.2.1.length):1<=(n.2.1.getD i sg0).2.2.2.1/\(n.2.1.getD i sg0).2.2.2.1<=1000000:=by
 have h:=hn.pr;unfold prB at h;rw[z8,zm] at h;have:=h.1 _ (qbc (d:=sg0) hi);unfold pipeB at this;simp only[z8] at this;exact qhK.1 this.1.2.1
theorem RB.of(hs:szB n p=true)(h1:qn5 n p=true)(h2:qjy p=true):RB p:=by
 obtain⟨s1,s2,s3⟩:=qqg.1 hs;refine⟨fun i=>?_,fun i=>?_⟩
 ·rcases zm2 i p.1.length with h | h
  ·have:=zm.1 h1 i (zM.2 (by omega))
   unfold rtB at this;rw[qhK] at this; omega
  ·unfold rate; rw[qtw h]; omega
 ·rcases zm2 i p.2.1.length with h | h
  ·have:=zm.1 h2 _ (qbc (d:=0) h);rw[qhK] at this; unfold prate; omega
  ·unfold prate; rw[qtw h]; omega
theorem qsz(r m:Int)(h:0<=m/\m<=1000000):qiq r m=some (rg (0-m) m r):=by
 unfold qiq rg;rw[wi (by omega)]
 cases decide (0-m<=r) <;> rfl
theorem qCg(hn:VNet n){k:Int}(h:¬(0<=k/\k<n.1.length)):comeF n p k=0/\qj9 n p k=0:=by
 have a1:sumTo (segIn n p k) n.2.1.length=0:=qet _ fun i hi=>if_neg fun(e:tow n p i=k)=>h (e ▸ qEY (p:=p) hn.kn hi)
 have a2:sumTo (qco n p k) n.2.1.length=0:=qet _ fun i hi=>if_neg fun(e:frm n p i=k)=>h (e ▸ qxZ (p:=p) hn.kn hi)
 have a3:sumTo (qhJ n p k) n.2.2.1.length=0:=qet _ fun i hi=>if_neg fun(e:(n.2.2.1.getD i po0).2.1=k)=>h (e ▸ hn.kn.p i hi)
 have a4:sumTo (qey n p k) n.2.2.1.length=0:=qet _ fun i hi=>if_neg fun(e:(n.2.2.1.getD i po0).2.1=k)=>h (e ▸ hn.kn.p i hi)
 unfold comeF qj9;rw[a1,a2,a3,a4]; exact⟨rfl,rfl⟩
theorem bal24(hn:VNet n):((List.range 24).all fun i=>decide (((m24 fun k=>comeF n p k).getD i 0)=((m24 fun k=>qj9 n p k).getD i 0)))=balB n p:=by
 unfold balB;rw[zX,zm,zm];constructor
 ·intro h k hk;have hk:=zM.1 hk;have:=h k (zM.2 (by have:=hn.small.no; omega))
  rwa[qjx _ (by have:=hn.small.no; omega),qjx _ (by have:=hn.small.no; omega)] at this
 ·intro h k hk;have hk:=zM.1 hk;rw[qjx _ hk,qjx _ hk];by_cases hl:k<n.1.length
  ·exact h k (zM.2 hl)
  ·have:=qCg (p:=p) hn (k:=(k:Int)) (by omega)
   rw[this.1,this.2]; rfl
theorem qba(n:Net):(Y6 n)=n:=rfl
theorem qEZ:(ordL n p).length<=n.1.length:=qCe _ _
theorem qji(n:Net)(p:Pl):qgm n p=some (qa0 n p):=by
 unfold qgm qa0;rw[qft,z7];by_cases h0:qbi n=0
 ·rw[if_neg (fun h=>h h0),dec_t h0,zg,zb]
  have hn:=VNet.of h0;have es:(
    bif !decide ((p.1.length:Int)=(n.2.1.length:Int)) then some true
    else bif !decide ((p.2.1.length:Int)=(n.2.2.1.length:Int)) then some true
    else some (!decide ((p.2.2.length:Int)=(n.2.2.2.1.length:Int))))=some (!szB n p):=by
   unfold szB;rw[show decide ((p.1.length:Int)=(n.2.1.length:Int))=decide (p.1.length=n.2.1.length) by congr 1; rw[Int.natCast_inj],
    show decide ((p.2.1.length:Int)=(n.2.2.1.length:Int))=decide (p.2.1.length=n.2.2.1.length) by congr 1; rw[Int.natCast_inj],
    show decide ((p.2.2.length:Int)=(n.2.2.2.1.length:Int))=decide (p.2.2.length=n.2.2.2.1.length) by congr 1; rw[Int.natCast_inj]]
   cases decide (p.1.length=n.2.1.length) <;> cases decide (p.2.1.length=n.2.2.1.length) <;> cases decide (p.2.2.length=n.2.2.2.1.length) <;> rfl
  rw[es,z7];cases hz:szB n p with
  | false=>rfl
  | true=>
   obtain⟨s1,s2,s3⟩:=qqg.1 hz;have m1:=hn.small.sg;have m2:=hn.small.po;simp only[zg,zb,za];have e1:iter (fun x=>qhV n p x) 0=some (bif qn5 n p then .inl () else .inr 1):=by
    refine qbt (step:=fun x=>qhV n p x) n.2.1.length (fun i=>(i:Int)) (rtB n p) (fin:=.inl ()) (bad:=.inr 1) (fun i hi _ hq=>?_) (fun i hi _ hq=>?_) (fun _=>?_)
    all_goals unfold qhV
    ·have hc:=quM hn hi;have e:((((n.2.1.getD i ([],0,0,0,0,0,[])).2).2).2).1=(n.2.1.getD i sg0).2.2.2.1:=rfl;have e':p.1.getD i 0=rate p i:=rfl;rw[dec_t (show(i:Int)<(n.2.1.length:Int) by omega),za,gd_t (inB_t hi),gd_t (inB_t (show i<p.1.length by omega)),z9,e,e',qsz _ _ (by omega),z7]
     unfold rtB at hq;rw[hq,w1 hi (by omega)]; rfl
    ·have hc:=quM hn hi;have e:((((n.2.1.getD i ([],0,0,0,0,0,[])).2).2).2).1=(n.2.1.getD i sg0).2.2.2.1:=rfl;have e':p.1.getD i 0=rate p i:=rfl;rw[dec_t (show(i:Int)<(n.2.1.length:Int) by omega),za,gd_t (inB_t hi),gd_t (inB_t (show i<p.1.length by omega)),z9,e,e',qsz _ _ (by omega),z7]
     unfold rtB at hq;rw[hq]; rfl
    ·rw[dec_f (by omega)]; rfl
   rw[e1,z7];cases hr:qn5 n p with
   | false=>rfl
   | true=>
    simp only[za,zb1,zG];rw[qoq p.2.1 (fun x=>!rg (-1000) 1000 x) _ (fun x _=>by
     show(qi1 x).bind _=_;unfold qi1;rw[qsz _ _ (by omega)]; rfl) (by omega),z7]
    have ep:(p.2.1.any fun x=>!rg (-1000) 1000 x)=!qjy p:=by unfold qjy; simp[z91]
    rw[ep];cases hq:qjy p with
    | false=>rfl
    | true=>
     simp only[zg,zb,za];rw[show((p.1,p.2.1,p.2.2):Pl)=p from rfl,qba,qx1 hn (RB.of hz hr hq) s1 s2,z7,bal24 hn]
     cases hb:balB n p with
     | false=>rfl
     | true=>
      simp only[zg,zb,za];rw[qAB hn s1,z7];have:=qEZ (n:=n) (p:=p);cases ho:Nat.beq (ordL n p).length n.1.length with
      | true=>have:=zc ho; rw[dec_f (by omega)]; rfl
      | false=>
       have:(ordL n p).length≠n.1.length:=fun e=>by rw[e,zW2] at ho; cases ho
       rw[dec_t (by omega)]; rfl
 ·rw[if_pos h0,dec_f h0]; rfl
end
section
variable {n:Net} {p:Pl}
theorem natdec(a b:Nat):decide ((a:Int)=(b:Int))=decide (a=b):=by congr 1; rw[Int.natCast_inj]
theorem qnd(n:Net)(p:Pl):qfq n p=some (qa0 n p):=by
 unfold qfq qa0;rw[qba,qiO,z7];by_cases h0:qbi n=0
 ·rw[if_neg (fun h=>h h0),dec_t h0,zg,zb]
  have hn:=VNet.of h0;have es:(
    bif !decide ((p.1.length:Int)=(n.2.1.length:Int)) then some true
    else bif !decide ((p.2.1.length:Int)=(n.2.2.1.length:Int)) then some true
    else some (!decide ((p.2.2.length:Int)=(n.2.2.2.1.length:Int))))=some (!szB n p):=by
   unfold szB;rw[natdec,natdec,natdec];cases decide (p.1.length=n.2.1.length) <;> cases decide (p.2.1.length=n.2.2.1.length) <;> cases decide (p.2.2.length=n.2.2.2.1.length) <;> rfl
  rw[es,z7];cases hz:szB n p with
  | false=>rfl
  | true=>
   obtain⟨s1,s2,s3⟩:=qqg.1 hz;have m1:=hn.small.sg;have m2:=hn.small.po;simp only[zg,zb,za];have key:∀i,i<n.2.1.length->(bif decide (p.1.getD i 0<wi64 (0-(min 1000 (((((n.2.1.getD i ([],0,0,0,0,0,[])).2).2).2).1)))) then some true
     else some (decide (min 1000 (((((n.2.1.getD i ([],(0,(0,(0,(0,(0,[]))))))).2).2).2).1)<p.1.getD i 0)))=some (!rtB n p i):=by
    intro i hi;have hc:=quM hn hi;have e:((((n.2.1.getD i ([],0,0,0,0,0,[])).2).2).2).1=(n.2.1.getD i sg0).2.2.2.1:=rfl;rw[e,wi (by omega)]
    unfold rtB rg rate;by_cases a:p.1.getD i 0<0-min 1000 (n.2.1.getD i sg0).2.2.2.1
    ·rw[dec_t a,dec_f (show ¬(0-min 1000 (n.2.1.getD i sg0).2.2.2.1<=p.1.getD i 0) by omega)]; rfl
    ·rw[dec_f a,dec_t (show(0-min 1000 (n.2.1.getD i sg0).2.2.2.1<=p.1.getD i 0) by omega),zb,zG]
     by_cases b:min 1000 (n.2.1.getD i sg0).2.2.2.1<p.1.getD i 0
     ·rw[dec_t b,dec_f (by omega)]; rfl
     ·rw[dec_f b,dec_t (by omega)]; rfl
   have e1:iter (fun x=>qgI n p x) 0=some (bif qn5 n p then .inl () else .inr 1):=by
    unfold qn5;rw[<-s1];refine qbt (step:=fun x=>qgI n p x) p.1.length (fun i=>(i:Int)) (rtB n p) (fin:=.inl ()) (bad:=.inr 1) (fun i hi _ hq=>?_) (fun i hi _ hq=>?_) (fun _=>?_)
    all_goals unfold qgI
    ·rw[dec_t (show(i:Int)<(p.1.length:Int) by omega),za,gd_t (inB_t hi),gd_t (inB_t (show i<n.2.1.length by omega)),z9,key i (by omega),hq,z7,w1 hi (by omega)]; rfl
    ·rw[dec_t (show(i:Int)<(p.1.length:Int) by omega),za,gd_t (inB_t hi),gd_t (inB_t (show i<n.2.1.length by omega)),z9,key i (by omega),hq,z7]; rfl
    ·rw[dec_f (by omega)]; rfl
   rw[e1,z7];cases hr:qn5 n p with
   | false=>rfl
   | true=>
    simp only[za,zb1,zG];have key2:∀x:Int,(bif decide (x < -1000) then some true else some (decide (1000<x)))=some (!rg (-1000) 1000 x):=by
     intro x;unfold rg;by_cases a:x < -1000
     ·rw[dec_t a,dec_f (show ¬(-1000<=x) by omega)]; rfl
     ·rw[dec_f a,dec_t (show -1000<=x by omega),zb,zG]
      by_cases b:1000<x
      ·rw[dec_t b,dec_f (by omega)]; rfl
      ·rw[dec_f b,dec_t (by omega)]; rfl
    have e2:iter (fun x2=>qgJ p x2) 0=some (bif qjy p then .inl () else .inr 1):=by
     refine scanL (step:=fun x2=>qgJ p x2) p.2.1 0 (rg (-1000) 1000) (bad:=1) (fun i hi hq=>?_) (fun i hi hq=>?_) ?_
     all_goals unfold qgJ
     ·rw[dec_t (show(i:Int)<(p.2.1.length:Int) by omega),za,gd_t (inB_t hi),z9,key2,hq,z7,w1 hi (by omega)]; rfl
     ·rw[dec_t (show(i:Int)<(p.2.1.length:Int) by omega),za,gd_t (inB_t hi),z9,key2,hq,z7]; rfl
     ·rw[dec_f (by omega)]; rfl
    rw[e2,z7];cases hq:qjy p with
    | false=>rfl
    | true=>
     simp only[za,zb1];have hp:=RB.of hz hr hq;have e3:iter (fun x3=>qgK n p x3) 0=some (bif balB n p then .inl () else .inr 12):=by
      refine qbt (step:=fun x=>qgK n p x) n.1.length (fun i=>(i:Int)) (fun k=>decide (comeF n p (k:Int)=qj9 n p (k:Int))) (fin:=.inl ()) (bad:=.inr 12) (fun i hi _ hq=>?_) (fun i hi _ hq=>?_) (fun _=>?_)
      all_goals unfold qgK
      ·rw[dec_t (show(i:Int)<(n.1.length:Int) by omega),za,qba,show((p.1,p.2.1,p.2.2):Pl)=p from rfl,quL hp m1 m2 s1 s2,z7]
       simp only;rw[hq,w1 hi (by have:=hn.small.no; omega)]; rfl
      ·rw[dec_t (show(i:Int)<(n.1.length:Int) by omega),za,qba,show((p.1,p.2.1,p.2.2):Pl)=p from rfl,quL hp m1 m2 s1 s2,z7]
       simp only;rw[hq]; rfl
      ·rw[dec_f (by omega)]; rfl
     rw[e3,z7];cases hb:balB n p with
     | false=>rfl
     | true=>
      simp only[za,zb1];rw[show((p.1,p.2.1,p.2.2):Pl)=p from rfl,qAD hn s1,z7,natdec]
      cases ho:Nat.beq (ordL n p).length n.1.length with
      | true=>have:=zc ho; rw[dec_t this]; rfl
      | false=>
       have:(ordL n p).length≠n.1.length:=fun e=>by rw[e,zW2] at ho; cases ho
       rw[dec_f this]; rfl
 ·rw[if_pos h0,dec_f h0]; rfl
structure VPl(n:Net)(p:Pl):Prop where
 net:qbi n=0
 sz:szB n p=true
 rt:qn5 n p=true
 pr:qjy p=true
theorem VPl.of(h:qa0 n p=0):VPl n p:=by
 unfold qa0 at h;by_cases h0:qbi n=0
 ·rw[if_neg (fun h=>h h0)] at h
  obtain⟨h1,h⟩:=qn4 (by decide) h
  obtain⟨h2,h⟩:=qn4 (by decide) h
  rw[z8] at h2;exact⟨h0,h1,h2.1,h2.2⟩
 ·rw[if_pos h0] at h; exact absurd h h0
theorem VPl.rb(h:VPl n p):RB p:=RB.of h.sz h.rt h.pr
theorem VPl.len(h:VPl n p):p.1.length=n.2.1.length/\p.2.1.length=n.2.2.1.length/\p.2.2.length=n.2.2.2.1.length:=qqg.1 h.sz
def thr(n:Net)(p:Pl)(k:Int):Int×Int:=if qa0 n p≠0 then(0,qa0 n p) else bif kn n k then(comeF n p k,0) else(0,8)
theorem knD(n:Net)(k:Int):(bif decide (k<0) then some true else some (decide ((n.1.length:Int)<=k)))=some (!kn n k):=by
 unfold kn;by_cases a:k<0
 ·rw[dec_t a,dec_f (show ¬0<=k by omega)]; rfl
 ·rw[dec_f a,dec_t (show 0<=k by omega),zb,zG]
  by_cases b:(n.1.length:Int)<=k
  ·rw[dec_t b,dec_f (by omega)]; rfl
  ·rw[dec_f b,dec_t (by omega)]; rfl
theorem qE0(n:Net)(p:Pl)(k:Int):qi2 n p k=some (thr n p k):=by
 unfold qi2 thr;rw[qba,show((p.1,p.2.1,p.2.2):Pl)=p from rfl,qji,z7]
 by_cases h:qa0 n p=0
 ·rw[dec_t h,if_neg (fun e=>e h),zg,zb,knD,z7]
  have hv:=VPl.of h;have hn:=VNet.of hv.net;cases hk:kn n k with
  | false=>rfl
  | true=>
   have hk:=qtA.1 hk;have:=hn.small.no;obtain⟨k',rfl⟩:∃k':Nat,k=(k':Int):=⟨k.toNat,by omega⟩
   simp only[zg,zb,za];rw[qx1 hn hv.rb hv.len.1 hv.len.2.1,z7,gd_t (inB_t (by omega)),z9]
   simp only;rw[qjx _ (by omega)]
 ·rw[dec_f h,if_pos h]; rfl
theorem qAE(n:Net)(p:Pl)(k:Int):qh4 n p k=some (thr n p k):=by
 unfold qh4 thr;rw[qba,show((p.1,p.2.1,p.2.2):Pl)=p from rfl,qnd,z7]
 by_cases h:qa0 n p=0
 ·rw[dec_t h,if_neg (fun e=>e h),zg,zb,knD,z7]
  have hv:=VPl.of h;have hn:=VNet.of hv.net;cases hk:kn n k with
  | false=>rfl
  | true=>
   simp only[zg,zb,za];rw[quL hv.rb hn.small.sg hn.small.po hv.len.1 hv.len.2.1,z7]
 ·rw[dec_f h,if_pos h]; rfl
/-! ### Lineups -/
def nz(l:List Int):List Bool:=l.map fun r=>!decide (r=0)
theorem qhL(l:List Int):(nz l).length=l.length:=z51 ..
def need(p:Pl):List Bool:=nz p.1++nz p.2.1
theorem qw7{l:List Int}{i:Nat}(h:i<l.length):nz (l.take (i+1))=nz (l.take i)++[!decide (l.getD i 0=0)]:=by
 unfold nz; rw[qez 0 h,zL1]; rfl
theorem qx4(l:List Int)(h:l.length<=1000000):qhb l=some (nz l):=by
 unfold qhb;have:=qbl (step:=fun x:Int×List Bool=>qcx l x.1 x.2) (e:=nz l) l.length (fun i=>((i:Int),nz (l.take i))) (fun i hi=>?_) ?_
 ·have this:iter (fun x=>qcx l x.1 x.2) ((0:Int),[])=some (nz l):=this
  rw[this]; rfl
 ·show qcx l (i:Int) (nz (l.take i))=some (.inl (((i+1:Nat):Int),nz (l.take (i+1))));unfold qcx;rw[dec_t (show(i:Int)<(l.length:Int) by omega),za,gd_t (inB_t hi),gd_t (qav (by rw[qhL,zo]; omega)),z9,w1 hi (by omega),qw7 hi]
 ·show qcx l ((l.length:Nat):Int) (nz (l.take l.length))=_;unfold qcx;rw[dec_f (by omega),z02]; rfl
theorem qx5(p:Pl)(h1:p.1.length<=1000000)(h2:p.2.1.length<=1000000):qgr p=some (nz p.1,nz p.2.1):=by
 unfold qgr;have e1:=qbl (step:=fun x:Int×List Bool=>qcZ p x.1 x.2) (e:=nz p.1) p.1.length (fun i=>((i:Int),nz (p.1.take i))) (fun i hi=>?_) ?_
 ·have e1:iter (fun x=>qcZ p x.1 x.2) ((0:Int),[])=some (nz p.1):=e1
  rw[e1,z7];have e2:=qbl (step:=fun x2:Int×List Bool×List Bool=>qc0 p x2.1 x2.2.1 x2.2.2) (e:=(nz p.1,nz p.2.1)) p.2.1.length (fun i=>((i:Int),nz p.1,nz (p.2.1.take i))) (fun i hi=>?_) ?_
  ·have e2:iter (fun x2=>qc0 p x2.1 x2.2.1 x2.2.2) ((0:Int),nz p.1,[])=some (nz p.1,nz p.2.1):=e2
   rw[e2]; rfl
  ·show qc0 p (i:Int) (nz p.1) (nz (p.2.1.take i))=some (.inl (((i+1:Nat):Int),nz p.1,nz (p.2.1.take (i+1))));unfold qc0;rw[dec_t (show(i:Int)<(p.2.1.length:Int) by omega),za,gd_t (inB_t hi),gd_t (qav (by rw[qhL,zo]; omega)),z9,w1 hi (by omega),qw7 hi]
  ·show qc0 p ((p.2.1.length:Nat):Int) (nz p.1) (nz (p.2.1.take p.2.1.length))=_;unfold qc0;rw[dec_f (by omega),z02]; rfl
 ·show qcZ p (i:Int) (nz (p.1.take i))=some (.inl (((i+1:Nat):Int),nz (p.1.take (i+1))));unfold qcZ;rw[dec_t (show(i:Int)<(p.1.length:Int) by omega),za,gd_t (inB_t hi),gd_t (qav (by rw[qhL,zo]; omega)),z9,w1 hi (by omega),qw7 hi]
 ·show qcZ p ((p.1.length:Nat):Int) (nz (p.1.take p.1.length))=_;unfold qcZ;rw[dec_f (by omega),z02]; rfl
theorem qAF(a b:List Bool)(h1:a.length<=1000000)(h2:b.length<=1000000):qj0 (a,b)=some (a++b):=by
 unfold qj0;rw[gd_t (qav (by simp only; omega)),gd_t (qav (by simp only[zC]; omega))]; rfl
theorem qtB(a b:List Bool)(h1:a.length<=1000000)(h2:b.length<=1000000):qeG (a,b)=some (a++b):=qAF a b h1 h2
theorem qAG(n:Net)(p:Pl):qgn n p=some (if qa0 n p≠0 then(qa0 n p,[],[]) else(0,nz p.1,nz p.2.1)):=by
 unfold qgn;rw[qba,qft,z7,show((p.1,p.2.1,p.2.2):Pl)=p from rfl,qji,z7]
 by_cases h0:qbi n=0
 ·rw[dec_t h0,zg,zb];by_cases h:qa0 n p=0
  ·have hv:=VPl.of h;have hn:=VNet.of h0;have:=hv.len;have:=hn.small.sg;have:=hn.small.po;rw[dec_t h,if_neg (fun e=>e h),zg,zb,qx4 _ (by omega),z7,qx4 _ (by omega)]; rfl
  ·rw[dec_f h,if_pos h]; rfl
 ·have e:qa0 n p=qbi n:=by unfold qa0; rw[if_pos h0]
  rw[dec_f h0,e,if_pos h0]; rfl
end
abbrev Vl:=Int×Int×Bool×Bool
abbrev Dk:=List Vl×Pl
abbrev v0:Vl:=(0,0,false,false)
def qca(v:Vl):Bool:=rg 1 60 v.1&&rg 0 v.1 v.2.1
def qcp(v:Vl):Bool:=qca v&&(decide (v.2.1=v.1)&&v.2.2.1)
def vlB(n:Net)(l:List Vl):Bool:=decide (l.length=n.2.1.length+n.2.2.1.length)&&l.all qca
def rdyB(d:Dk):Bool:=(List.range (need d.2).length).all fun i=>!(need d.2).getD i false || qcp (d.1.getD i v0)
def qlt(n:Net)(p:Pl)(i:Nat):Bool:=p.2.2.getD i false&&decide (comeF n p (n.2.2.2.1.getD i sta0).2.1=0)
def idleB(n:Net)(p:Pl):Bool:=(List.range n.2.2.2.1.length).any (qlt n p)
def qdq(n:Net)(d:Dk):Int:=if qbi n≠0 then qbi n else
 bif vlB n d.1 then(if qa0 n d.2≠0 then qa0 n d.2 else bif rdyB d then(bif idleB n d.2 then 21 else 0) else 21) else 20
section
variable {n:Net} {p:Pl}
theorem valid_eq(v:Vl):qdV v=some (qca v):=by
 unfold qdV qca rg;cases decide (1<=v.1) <;> cases decide (v.1<=60) <;> cases decide (0<=v.2.1) <;> rfl
theorem rvalid_eq(v:Vl):qfr v=some (qca v):=valid_eq v
theorem qAH(v:Vl):qmS v=some (qca v&&decide (v.2.1=v.1)):=by
 unfold qmS;rw[show((v.1,v.2.1,v.2.2.1,v.2.2.2):Vl)=v from rfl,valid_eq,z7]
 cases qca v <;> rfl
theorem quN(v:Vl):qj1 v=some (qca v&&decide (v.2.1=v.1)):=qAH v
theorem quO(v:Vl):qjP v=some (qcp v):=by
 unfold qjP qcp;rw[show((v.1,v.2.1,v.2.2.1,v.2.2.2):Vl)=v from rfl,qAH,z7]
 cases qca v <;> cases decide (v.2.1=v.1) <;> rfl
theorem qAI(h:qa0 n p=0){i:Nat}(hi:i<n.2.2.2.1.length):thr n p (n.2.2.2.1.getD i sta0).2.1=(comeF n p (n.2.2.2.1.getD i sta0).2.1,0):=by
 unfold thr;have hn:=VNet.of (VPl.of h).net;rw[if_neg (fun e=>e h),qtA.2 (hn.kn.t i hi)]; rfl
theorem qsA(h:qa0 n p=0){i:Nat}(hi:i<n.2.2.2.1.length):qis n p (i:Int)=some (!decide (comeF n p (n.2.2.2.1.getD i sta0).2.1=0)):=by
 unfold qis;rw[gd_t (inB_t hi),z9,qba,qE0,z7,show((n.2.2.2.1.getD i ([],0,0,0,0)).2).1=(n.2.2.2.1.getD i sta0).2.1 from rfl,show((p.1,p.2.1,p.2.2):Pl)=p from rfl,qAI h hi]; rfl
theorem qx6(h:qa0 n p=0):qjQ n p=some (idleB n p):=by
 have hv:=VPl.of h;have hn:=VNet.of hv.net;have hl:=hv.len.2.2;have hs:=hn.small.st;unfold qjQ;have:=scanN (ε:=Unit⊕Bool) (step:=fun x=>qkt n p x) n.2.2.2.1.length (qlt n p) (fin:=.inl ()) (bad:=.inr true) (fun i hi hq=>?_) (fun i hi hq=>?_) ?_
 ·rw[this,z7]; unfold idleB;cases(List.range n.2.2.2.1.length).any (qlt n p) <;> rfl
 all_goals unfold qkt
 ·rw[dec_t (show(i:Int)<(p.2.2.length:Int) by omega),za,gd_t (inB_t (by omega)),z9,dec_t (show(i:Int)<(n.2.2.2.1.length:Int) by omega),qba,show((p.1,p.2.1,p.2.2):Pl)=p from rfl,qsA h hi,w1 hi (by omega)]
  unfold qlt at hq;cases hp:p.2.2.getD i false with
  | false=>rfl
  | true=>
   rw[hp,zG] at hq;simp only[za,z7,hq,zk1,zg,zb]
 ·rw[dec_t (show(i:Int)<(p.2.2.length:Int) by omega),za,gd_t (inB_t (by omega)),z9,dec_t (show(i:Int)<(n.2.2.2.1.length:Int) by omega),qba,show((p.1,p.2.1,p.2.2):Pl)=p from rfl,qsA h hi]
  unfold qlt at hq;rw[z8] at hq;rw[hq.1];simp only[za,z7,hq.2,zg,zk1]
 ·rw[dec_f (by omega)]; rfl
theorem qw8(h:qa0 n p=0):qj2 n p=some (!idleB n p):=by
 have hv:=VPl.of h;have hn:=VNet.of hv.net;have hl:=hv.len.2.2;have hs:=hn.small.st;unfold qj2;have:=scanN (ε:=Unit⊕Bool) (step:=fun x=>qmy n p x) n.2.2.2.1.length (qlt n p) (fin:=.inl ()) (bad:=.inr false) (fun i hi hq=>?_) (fun i hi hq=>?_) ?_
 ·rw[this,z7]; unfold idleB;cases(List.range n.2.2.2.1.length).any (qlt n p) <;> rfl
 all_goals unfold qmy
 ·rw[dec_t (show(i:Int)<(n.2.2.2.1.length:Int) by omega),za,gd_t (inB_t (by omega)),z9,gd_t (inB_t hi),qba,show((p.1,p.2.1,p.2.2):Pl)=p from rfl,show((n.2.2.2.1.getD i ([],0,0,0,0)).2).1=(n.2.2.2.1.getD i sta0).2.1 from rfl,qAE,qAI h hi,w1 hi (by omega)]
  unfold qlt at hq;cases hp:p.2.2.getD i false with
  | false=>rfl
  | true=>
   rw[hp,zG] at hq;simp only[za,z7,hq,dec_t,zg,zb,zb1]
 ·rw[dec_t (show(i:Int)<(n.2.2.2.1.length:Int) by omega),za,gd_t (inB_t (by omega)),z9,gd_t (inB_t hi),qba,show((p.1,p.2.1,p.2.2):Pl)=p from rfl,show((n.2.2.2.1.getD i ([],0,0,0,0)).2).1=(n.2.2.2.1.getD i sta0).2.1 from rfl,qAE,qAI h hi]
  unfold qlt at hq;rw[z8] at hq;rw[hq.1];simp only[za,z7,hq.2,dec_t,zg,zb,Sum.elim_inr]
 ·rw[dec_f (by omega)]; rfl
theorem qpI(h:szB n p=true):(need p).length=n.2.1.length+n.2.2.1.length:=by
 have:=qqg.1 h;unfold need; rw[zd,qhL,qhL]; omega
theorem qE1(d:Dk)(hl:(need d.2).length<=d.1.length)(hs:d.1.length<=1000):iter (fun x=>qcf d (need d.2) x.1 x.2) (0,need d.2)=some (bif rdyB d then .inl () else .inr 21):=by
 refine qbt (step:=fun x:Int×List Bool=>qcf d (need d.2) x.1 x.2) (need d.2).length (fun i=>((i:Int),need d.2)) (fun i=>!(need d.2).getD i false || qcp (d.1.getD i v0)) (fin:=.inl ()) (bad:=.inr 21) (fun i hi _ hq=>?_) (fun i hi _ hq=>?_) (fun _=>?_)
 ·show qcf d (need d.2) (i:Int) (need d.2)=_;unfold qcf;rw[dec_t (show(i:Int)<((need d.2).length:Int) by omega),za,gd_t (inB_t hi),gd_t (inB_t (by omega)),z9,show(d.1.getD i (0,0,false,false))=d.1.getD i v0 from rfl,quO,w1 hi (by omega)]
  cases hp:(need d.2).getD i false with
  | false=>rfl
  | true=>
   rw[hp] at hq;simp only[zg,zt2] at hq;rw[hq]; rfl
 ·show qcf d (need d.2) (i:Int) (need d.2)=_;unfold qcf;rw[dec_t (show(i:Int)<((need d.2).length:Int) by omega),za,gd_t (inB_t hi),gd_t (inB_t (by omega)),z9,show(d.1.getD i (0,0,false,false))=d.1.getD i v0 from rfl,quO]
  rw[z62] at hq;have h1:(need d.2).getD i false=true:=by simpa using hq.1
  rw[h1,hq.2]; rfl
 ·show qcf d (need d.2) (((need d.2).length:Nat):Int) (need d.2)=_;unfold qcf;rw[dec_f (by omega)]; rfl
theorem qD4(d:Dk)(hl:(need d.2).length<=d.1.length)(hs:d.1.length<=1000):iter (fun x=>qbI d x.1 x.2) (0,need d.2)=some (bif rdyB d then .inl () else .inr 21):=by
 refine qbt (step:=fun x:Int×List Bool=>qbI d x.1 x.2) (need d.2).length (fun i=>((i:Int),need d.2)) (fun i=>!(need d.2).getD i false || qcp (d.1.getD i v0)) (fin:=.inl ()) (bad:=.inr 21) (fun i hi _ hq=>?_) (fun i hi _ hq=>?_) (fun _=>?_)
 ·show qbI d (i:Int) (need d.2)=_;unfold qbI;have hB:inB (i:Int) d.1.length=true:=inB_t (by omega)
  rw[dec_t (show(i:Int)<((need d.2).length:Int) by omega),za,gd_t (inB_t hi)]
  simp only[gd_t hB,z9];rw[show(d.1.getD i (0,0,false,false))=d.1.getD i v0 from rfl,quN,w1 hi (by omega)]
  cases hp:(need d.2).getD i false with
  | false=>rfl
  | true=>
   rw[hp] at hq;simp only[zg,zt2] at hq;unfold qcp at hq;rw[z8,z8] at hq;rw[hq.1,hq.2.1,hq.2.2]; rfl
 ·show qbI d (i:Int) (need d.2)=_;unfold qbI;have hB:inB (i:Int) d.1.length=true:=inB_t (by omega)
  rw[dec_t (show(i:Int)<((need d.2).length:Int) by omega),za,gd_t (inB_t hi)]
  simp only[gd_t hB,z9];rw[show(d.1.getD i (0,0,false,false))=d.1.getD i v0 from rfl,quN]
  rw[z62] at hq;have h1:(need d.2).getD i false=true:=by simpa using hq.1
  have h2:=hq.2;unfold qcp at h2;rw[h1];revert h2;cases qca (d.1.getD i v0) <;> cases decide ((d.1.getD i v0).2.1=(d.1.getD i v0).1) <;> cases(d.1.getD i v0).2.2.1 <;> intro h2 <;> first | rfl | cases h2
 ·show qbI d (((need d.2).length:Nat):Int) (need d.2)=_;unfold qbI;rw[dec_f (by omega)]; rfl
theorem quP(hn:VNet n):qg8 n=some ((n.2.1.length+n.2.2.1.length:Nat):Int):=by
 have:=hn.small.sg;have:=hn.small.po;unfold qg8;rw[wi (by omega)]; rfl
theorem qAJ(hn:VNet n):qdm n=some ((n.2.1.length+n.2.2.1.length:Nat):Int):=quP hn
theorem qqG(n:Net)(d:Dk):qjR n d=some (qdq n d):=by
 unfold qjR qdq;rw[qba,qft,z7];by_cases h0:qbi n=0
 ·have hn:=VNet.of h0;have m1:=hn.small.sg;have m2:=hn.small.po;rw[dec_t h0,if_neg (fun e=>e h0),zg,zb,quP hn,z7,natdec]
  have e1:(bif !decide (d.1.length=n.2.1.length+n.2.2.1.length) then some true
    else(qat d.1 (fun h=>(qha h.1).bind fun y=>some y)).bind fun r3=>some r3)=some (!vlB n d.1):=by
   unfold vlB;by_cases hl:d.1.length=n.2.1.length+n.2.2.1.length
   ·rw[dec_t hl,zg,zb,qkV d.1 (fun v=>!qca v) _ (fun v _=>by
     show(qha v).bind _=_;unfold qha;rw[show((v.1,v.2.1,v.2.2.1,v.2.2.2):Vl)=v from rfl,valid_eq]; rfl) (by omega),z7,zG]
    congr 1;simp[z91]
   ·rw[dec_f hl]; rfl
  rw[e1,z7];cases hv:vlB n d.1 with
  | false=>rfl
  | true=>
   have hl:d.1.length=n.2.1.length+n.2.2.1.length:=by
    unfold vlB at hv; rw[z8,zz] at hv; exact hv.1
   simp only[zg,zb,za];rw[show((d.2.1,d.2.2.1,d.2.2.2):Pl)=d.2 from rfl,qji,z7,qAG,z7]
   by_cases hp:qa0 n d.2=0
   ·have hz:=(VPl.of hp).sz;have hnl:=qpI hz;have hzl:=(VPl.of hp).len;rw[dec_t hp,if_neg (fun e=>e hp),if_neg (fun e=>e hp)]
    simp only[zg,zb,zg2];rw[qtB _ _ (by rw[qhL]; omega) (by rw[qhL]; omega),z7,show nz d.2.1++nz d.2.2.1=need d.2 from rfl,qE1 d (by omega) (by omega),z7]
    cases rdyB d with
    | false=>rfl
    | true=>
     simp only[za,zb1];rw[qx6 hp,z7];cases idleB n d.2 <;> rfl
   ·rw[dec_f hp,if_pos hp,if_pos hp]; rfl
 ·rw[dec_f h0,if_pos h0]; rfl
theorem qy3(n:Net)(d:Dk):qkL n d=some (qdq n d):=by
 unfold qkL qdq;rw[qba,qiO,z7];by_cases h0:qbi n=0
 ·have hn:=VNet.of h0;have m1:=hn.small.sg;have m2:=hn.small.po;rw[dec_t h0,if_neg (fun e=>e h0),zg,zb]
  have e1:qje n d.1=some (bif vlB n d.1 then 0 else 20):=by
   unfold qje vlB;rw[qba,qAJ hn,z7,natdec];by_cases hl:d.1.length=n.2.1.length+n.2.2.1.length
   ·rw[dec_t hl,zg,zb,zG];have:=scanL (step:=fun x=>qiK d.1 x) d.1 v0 qca (bad:=(20:Int)) (fun i hi hq=>?_) (fun i hi hq=>?_) ?_
    ·rw[this,z7];cases d.1.all qca <;> rfl
    all_goals unfold qiK
    ·rw[dec_t (show(i:Int)<(d.1.length:Int) by omega),za,gd_t (inB_t hi),z9,rvalid_eq,z7,hq,w1 hi (by omega)]; rfl
    ·rw[dec_t (show(i:Int)<(d.1.length:Int) by omega),za,gd_t (inB_t hi),z9,rvalid_eq,z7,hq]; rfl
    ·rw[dec_f (by omega)]; rfl
   ·rw[dec_f hl]; rfl
  rw[e1,z7];cases hv:vlB n d.1 with
  | false=>rfl
  | true=>
   have hl:d.1.length=n.2.1.length+n.2.2.1.length:=by
    unfold vlB at hv; rw[z8,zz] at hv; exact hv.1
   simp only[za,zg2,zg,zb];rw[show((d.2.1,d.2.2.1,d.2.2.2):Pl)=d.2 from rfl,qnd,z7]
   by_cases hp:qa0 n d.2=0
   ·have hz:=(VPl.of hp).sz;have hnl:=qpI hz;have hzl:=(VPl.of hp).len;rw[dec_t hp,if_neg (fun e=>e hp)]
    simp only[zg,zb];rw[qx5 _ (by omega) (by omega),z7,qAF _ _ (by rw[qhL]; omega) (by rw[qhL]; omega),z7,show nz d.2.1++nz d.2.2.1=need d.2 from rfl,qD4 d (by omega) (by omega),z7]
    cases rdyB d with
    | false=>rfl
    | true=>
     simp only[za,zb1];rw[qw8 hp,z7];cases idleB n d.2 <;> rfl
   ·rw[dec_f hp,if_pos hp]; rfl
 ·rw[dec_f h0,if_pos h0]; rfl
end
abbrev Hop:=Int×Bool
abbrev Pth:=Int×Int×List Hop×Int
abbrev Stp:=Int×Int×Int×Pth
structure DkS(d:Dk):Prop where
 v:d.1.length<=100000
 r:d.2.1.length<=100000
 p:d.2.2.1.length<=100000
 b:d.2.2.2.length<=100000
theorem qE2(l:List Vl)(h:l.length<=100000):qa3 l=some l:=by
 unfold qa3;rw[gd_t (qav (by omega)),zC]
theorem qDr(l:List Int)(h:l.length<=100000):qb9 l=some l:=by
 unfold qb9;rw[gd_t (qav (by omega)),zC]
theorem qE3(l:List Bool)(h:l.length<=100000):qcC l=some l:=by
 unfold qcC;rw[gd_t (qav (by omega)),zC]
theorem qAK{d:Dk}(h:DkS d):qim d=some d:=by
 unfold qim;rw[qE2 _ h.v,z7,qDr _ h.r,z7,qDr _ h.p,z7,qE3 _ h.b]; rfl
theorem qCh{p:Pl}(h1:p.1.length<=100000)(h2:p.2.1.length<=100000)(h3:p.2.2.length<=100000):qgM p=some p:=by
 unfold qgM;rw[gd_t (qav (by omega)),gd_t (qav (by omega)),gd_t (qav (by omega))]; rfl
theorem qpJ{d:Dk}(h:DkS d):qep d=some d:=by
 unfold qep;have:=h.v;rw[gd_t (qav (by omega)),show((d.2.1,d.2.2.1,d.2.2.2):Pl)=d.2 from rfl,qCh h.r h.p h.b]; rfl
/-! ### Kinds -/
def bareP(x:Pth):Bool:=decide (x.1=0)&&(decide (x.2.1=0)&&(decide ((x.2.2.1.length:Int)=0)&&decide (x.2.2.2=0)))
def qlu(s:Stp):Bool:=bif decide (s.1=1) || (decide (s.1=2) || (decide (s.1=3) || decide (s.1=4))) then decide (s.2.2.1=0)&&bareP s.2.2.2
 else bif decide (s.1=5) then decide (s.2.1=0)&&decide (s.2.2.2.2.2.2=0) else bif decide (s.1=6) then decide (s.2.1=0)&&bareP s.2.2.2 else false
theorem qx7(k:Int):Option.bind (α:=Bool) (bif decide (k=1) then some (decide (k=1)) else(
  Option.bind (α:=Bool) (bif decide (k=2) then some (decide (k=2)) else(
  Option.bind (α:=Bool) (bif decide (k=3) then some (decide (k=3)) else some (decide (k=4))) fun s2=>some s2)) fun s3=>some s3)) some=some (decide (k=1) || (decide (k=2) || (decide (k=3) || decide (k=4)))):=by
 cases decide (k=1) <;> cases decide (k=2) <;> cases decide (k=3) <;> cases decide (k=4) <;> rfl
theorem bareX(x:Pth):(bif decide (x.1=0) then bif decide (x.2.1=0) then bif decide ((x.2.2.1.length:Int)=0) then some (decide (x.2.2.2=0)) else some false else some false else some false)=some (bareP x):=by
 unfold bareP;cases decide (x.1=0) <;> cases decide (x.2.1=0) <;> cases decide ((x.2.2.1.length:Int)=0) <;> rfl
theorem qD5(x:Pth):qm5 x=some (bareP x):=bareX x
theorem qAL{A B:Type}{x:Option A}{a:A}{f:A->Option B}(h:Option.bind x some=some a):Option.bind x f=f a:=by
 rw[show x=some a by rw[<-h]; cases x <;> rfl]; rfl
theorem qCi(s:Stp):qmT s=some (qlu s):=by
 unfold qmT qlu;have eb:(bif decide (s.2.2.2.1=0) then bif decide (s.2.2.2.2.1=0) then bif decide ((s.2.2.2.2.2.1.length:Int)=0) then some (decide (s.2.2.2.2.2.2=0)) else some false else some false else some false)=some (bareP s.2.2.2):=bareX s.2.2.2;rw[eb,z7];refine(qAL (qx7 s.1)).trans ?_
 cases decide (s.1=1) || (decide (s.1=2) || (decide (s.1=3) || decide (s.1=4))) <;> cases decide (s.2.2.1=0) <;> cases decide (s.1=5) <;> cases decide (s.2.1=0) <;> cases decide (s.1=6) <;> rfl
theorem qAM(s:Stp):qjg s=some (qlu s):=by
 unfold qjg qlu;refine(qAL (qx7 s.1)).trans ?_
 rw[show((s.2.2.2.1,s.2.2.2.2.1,s.2.2.2.2.2.1,s.2.2.2.2.2.2):Pth)=s.2.2.2 from rfl,qD5,z7]
 cases decide (s.1=1) || (decide (s.1=2) || (decide (s.1=3) || decide (s.1=4))) <;> cases decide (s.2.2.1=0) <;> cases decide (s.1=5) <;> cases decide (s.2.1=0) <;> cases decide (s.1=6) <;> rfl
/-! ### Paths -/
def sgH(n:Net)(h:Hop):Seg:=n.2.1.getD h.1.toNat sg0
def hopF(n:Net)(h:Hop):Int:=if h.2=true then(sgH n h).2.2.1 else(sgH n h).2.1
def hopT(n:Net)(h:Hop):Int:=if h.2=true then(sgH n h).2.1 else(sgH n h).2.2.1
def hopOk(n:Net)(h:Hop):Bool:=decide (0<=h.1)&&decide (h.1<(n.2.1.length:Int))
def walk(n:Net):List Hop->Int->List Int->Option Int
 | [],at',_=>some at'
 | h::r,at',ps=>bif hopOk n h&&(decide (hopF n h=at')&&!decide (hopT n h∈ps)) then walk n r (hopT n h) (ps++[hopT n h]) else none
def qee(n:Net)(i:Int):Int:=(n.2.2.1.getD i.toNat po0).2.1
def isPt(n:Net)(i:Int):Bool:=decide (0<=i)&&decide (i<(n.2.2.1.length:Int))
def pathB(n:Net)(x:Pth):Bool:=(isPt n x.1&&(isPt n x.2.1&&(!decide (x.1=x.2.1)&&(decide (1<=x.2.2.2)&&(decide (x.2.2.2<=1000)&&decide (x.2.2.1.length<=32))))))&&
 (match walk n x.2.2.1 (qee n x.1) [qee n x.1] with
  | some a=>decide (a=qee n x.2.1)
  | none=>false)
section
variable {n:Net}
theorem qsB{h:Hop}:hopOk n h=true↔0<=h.1/\h.1<(n.2.1.length:Int):=by unfold hopOk; rw[z8,zz,zz]
theorem qrc{i:Int}:isPt n i=true↔0<=i/\i<(n.2.2.1.length:Int):=by unfold isPt; rw[z8,zz,zz]
theorem qx8{h:Hop}(ho:hopOk n h=true):qmU n h=some (hopF n h,hopT n h):=by
 have:=qsB.1 ho;unfold qmU;rw[gd_t (qae.2 (by omega))]
 unfold hopF hopT sgH;cases h.2 <;> rfl
theorem qvT{h:Hop}(ho:hopOk n h=true):qm3 n h=some (hopF n h,hopT n h):=qx8 ho
theorem qD6(l:List Int)(v:Int)(hl:l.length<=1000000):qcg l v=some (decide (v∈l)):=by
 unfold qcg qew;have h:iter (fun x=>qa8 l v x) 0=some (if l.findIdx (fun x=>decide (v=x))<l.length then .inr ((l.findIdx (fun x=>decide (v=x)):Nat):Int) else .inl ()):=by
  refine qgd (step:=fun y=>qa8 l v y) (ε:=Unit⊕Int) l 0 (fun x=>decide (v=x)) (fin:=.inl ()) (fun i=>.inr (i:Int)) (fun i hi hq=>?_) (fun i hi hq=>?_) ?_
  ·unfold qa8;rw[dec_t (show(i:Int)<(l.length:Int) by omega),za,gd_t (inB_t hi),z9,hq,zb,w1 hi (by omega)]
  ·unfold qa8;rw[dec_t (show(i:Int)<(l.length:Int) by omega),za,gd_t (inB_t hi),z9,hq,za]
  ·unfold qa8;rw[dec_f (by omega)]; rfl
 rw[h,z7];by_cases hf:l.findIdx (fun x=>decide (v=x))<l.length
 ·have hm:v∈l:=by
   obtain⟨x,hx,he⟩:=zj2.1 hf;rw[zj he]; exact hx
  rw[if_pos hf,dec_t hm];show some (decide ((0:Int)<=_))=_;rw[dec_t (by omega)]
 ·have hm:¬v∈l:=fun hm=>hf (zj2.2 ⟨v,hm,by simp⟩)
  rw[if_neg hf,dec_f hm]; rfl
theorem hopD(h:Hop)(ps:List Int):(bif decide (h.1<0) then some (true,ps) else some (decide ((n.2.1.length:Int)<=h.1),ps))=some (!hopOk n h,ps):=by
 unfold hopOk;by_cases a:h.1<0
 ·rw[dec_t a,dec_f (show ¬0<=h.1 by omega)]; rfl
 ·rw[dec_f a,dec_t (show 0<=h.1 by omega),zb,zG]
  by_cases b:(n.2.1.length:Int)<=h.1
  ·rw[dec_t b,dec_f (by omega)]; rfl
  ·rw[dec_f b,dec_t (by omega)]; rfl
theorem drop_cons{A:Type}{l:List A}{i:Nat}(d:A)(h:i<l.length):l.drop i=l.getD i d::l.drop (i+1):=by
 rw[z71 h,gD_eq h]
def wres(o:Option Int):Int⊕Bool:=match o with
 | some a=>.inl a
 | none=>.inr false
theorem qCj(x:Pth)(hx:x.2.2.1.length<=1000):∀(m i:Nat) (a:Int) (ps:List Int),i+m=x.2.2.1.length->ps.length<=i+1->
  iter (fun y=>qcW n x y.1 y.2.1 y.2.2) (a,(i:Int),ps)=some (wres (walk n (x.2.2.1.drop i) a ps)):=by
 intro m;induction m with
 | zero=>
  intro i a ps hi hp;rw[qaS (e:=.inl a) (by show qcW n x a (i:Int) ps=_; unfold qcW; rw[dec_f (by omega)]; rfl),z11 (by omega)]; rfl
 | succ m ih=>
  intro i a ps hi hp;have hi':i<x.2.2.1.length:=by omega
  have hstep:qcW n x a (i:Int) ps=(bif hopOk n (x.2.2.1.getD i (0,false))&&(decide (hopF n (x.2.2.1.getD i (0,false))=a)&&!decide (hopT n (x.2.2.1.getD i (0,false))∈ps)) then some (.inl (hopT n (x.2.2.1.getD i (0,false)),((i+1:Nat):Int),ps++[hopT n (x.2.2.1.getD i (0,false))])) else some (.inr (.inr false))):=by
   unfold qcW;rw[dec_t (show(i:Int)<(x.2.2.1.length:Int) by omega),za,gd_t (inB_t hi'),z9]
   generalize x.2.2.1.getD i (0,false)=h;rw[hopD h ps,z7];cases ho:hopOk n h with
   | false=>rfl
   | true=>
    simp only[zg,zb,zG];rw[show((h.1,h.2):Hop)=h from rfl,qx8 ho,z7]
    cases hf:decide (hopF n h=a) with
    | false=>rfl
    | true=>
     simp only[zg,zb,zG];rw[qD6 ps _ (by omega),z7,z7]
     cases hm:decide (hopT n h∈ps) with
     | true=>rfl
     | false=>
      simp only[zb,zk1,za];rw[gd_t (qav (by omega)),w1 hi' (by omega)]
  rw[drop_cons (0,false) hi'];unfold walk;cases hc:(hopOk n (x.2.2.1.getD i (0,false))&&(decide (hopF n (x.2.2.1.getD i (0,false))=a)&&!decide (hopT n (x.2.2.1.getD i (0,false))∈ps))) with
  | false=>rw[hc] at hstep; rw[qaS hstep]; rfl
  | true=>
   rw[hc] at hstep;rw[qbs hstep,ih (i+1) _ _ (by omega) (by rw[zd]; simp only[zf,zx]; omega)]; rfl
theorem qCk(r:Int×Int)(ps:List Int)(hp:ps.length<=2000):iter (fun y=>qbJ r y.1 y.2) (0,ps)=some (bif decide (r.2∈ps) then .inr false else .inl ps):=by
 have:=qbt (step:=fun y:Int×List Int=>qbJ r y.1 y.2) ps.length (fun i=>((i:Int),ps)) (fun i=>!decide (ps.getD i 0=r.2)) (fin:=.inl ps) (bad:=.inr false) (fun i hi _ hq=>?_) (fun i hi _ hq=>?_) (fun _=>?_)
 ·refine Eq.trans this ?_
  have e:(List.range ps.length).all (fun i=>!decide (ps.getD i 0=r.2))=!decide (r.2∈ps):=by
   rw[zX,zm];simp only[zu,z72];constructor
   ·intro h hm;obtain⟨k,hk,e⟩:=qoR 0 hm;exact h k (zM.2 hk) e
   ·intro h k hk e;exact h (e ▸ qbc (zM.1 hk))
  rw[e];cases decide (r.2∈ps) <;> rfl
 ·show qbJ r (i:Int) ps=_;unfold qbJ;have hq:decide (ps.getD i 0=r.2)=false:=by simpa using hq
  rw[dec_t (show(i:Int)<(ps.length:Int) by omega),za,gd_t (inB_t hi),z9,hq,w1 hi (by omega)]; rfl
 ·show qbJ r (i:Int) ps=_;unfold qbJ;have hq:decide (ps.getD i 0=r.2)=true:=by simpa using hq
  rw[dec_t (show(i:Int)<(ps.length:Int) by omega),za,gd_t (inB_t hi),z9,hq]; rfl
 ·show qbJ r ((ps.length:Nat):Int) ps=_;unfold qbJ;rw[dec_f (by omega)]; rfl
theorem qAN(x:Pth)(hx:x.2.2.1.length<=1000):∀(m i:Nat) (a:Int) (ps:List Int),i+m=x.2.2.1.length->ps.length<=i+1->
  iter (fun y=>qc1 n x y.1 y.2.1 y.2.2) (a,(i:Int),ps)=some (wres (walk n (x.2.2.1.drop i) a ps)):=by
 intro m;induction m with
 | zero=>
  intro i a ps hi hp;rw[qaS (e:=.inl a) (by show qc1 n x a (i:Int) ps=_; unfold qc1; rw[dec_f (by omega)]; rfl),z11 (by omega)]; rfl
 | succ m ih=>
  intro i a ps hi hp;have hi':i<x.2.2.1.length:=by omega
  have hstep:qc1 n x a (i:Int) ps=(bif hopOk n (x.2.2.1.getD i (0,false))&&(decide (hopF n (x.2.2.1.getD i (0,false))=a)&&!decide (hopT n (x.2.2.1.getD i (0,false))∈ps)) then some (.inl (hopT n (x.2.2.1.getD i (0,false)),((i+1:Nat):Int),ps++[hopT n (x.2.2.1.getD i (0,false))])) else some (.inr (.inr false))):=by
   unfold qc1;have hB:inB (i:Int) x.2.2.1.length=true:=inB_t hi';rw[dec_t (show(i:Int)<(x.2.2.1.length:Int) by omega),za]
   simp only[gd_t hB,z9];rw[hopD (x.2.2.1.getD i (0,false)) ps,z7];cases ho:hopOk n (x.2.2.1.getD i (0,false)) with
   | false=>rfl
   | true=>
    simp only[zg,zb,zG];rw[qba,qvT ho,z7];cases hf:decide (hopF n (x.2.2.1.getD i (0,false))=a) with
    | false=>rfl
    | true=>
     simp only[zg,zb,zG];rw[qCk _ _ (by omega),z7]
     simp only;cases hm:decide (hopT n (x.2.2.1.getD i (0,false))∈ps) with
     | true=>rfl
     | false=>
      simp only[zb,zk1,za,zb1];rw[gd_t (qav (by omega)),w1 hi' (by omega)]
  rw[drop_cons (0,false) hi'];unfold walk;cases hc:(hopOk n (x.2.2.1.getD i (0,false))&&(decide (hopF n (x.2.2.1.getD i (0,false))=a)&&!decide (hopT n (x.2.2.1.getD i (0,false))∈ps))) with
  | false=>rw[hc] at hstep; rw[qaS hstep]; rfl
  | true=>
   rw[hc] at hstep;rw[qbs hstep,ih (i+1) _ _ (by omega) (by rw[zd]; simp only[zf,zx]; omega)]; rfl
theorem notlt(a b:Int):decide (a<b)=!decide (b<=a):=by
 by_cases h:a<b
 ·rw[dec_t h,dec_f (by omega)]; rfl
 ·rw[dec_f h,dec_t (by omega)]; rfl
theorem qCl(x:Pth):qkx n x=some (pathB n x):=by
 unfold qkx pathB qhY;have e0:∀i:Int,(bif decide (0<=i) then some (decide (i<(n.2.2.1.length:Int))) else some false)=some (isPt n i):=fun i=>by unfold isPt; cases decide (0<=i) <;> rfl
 rw[e0,z7,e0,z7,notlt x.2.2.2 1,notlt 1000 x.2.2.2,notlt 32 (x.2.2.1.length:Int),show decide ((x.2.2.1.length:Int)<=32)=decide (x.2.2.1.length<=32) by congr 1; rw[eq_iff_iff]; omega]
 cases h1:isPt n x.1 with
 | false=>rfl
 | true=>
 cases h2:isPt n x.2.1 with
 | false=>rfl
 | true=>
 cases h3:decide (x.1=x.2.1) with
 | true=>rfl
 | false=>
 cases h4:decide (1<=x.2.2.2) with
 | false=>rfl
 | true=>
 cases h5:decide (x.2.2.2<=1000) with
 | false=>rfl
 | true=>
 cases h6:decide (x.2.2.1.length<=32) with
 | false=>rfl
 | true=>
  have h6:=zj h6;have a1:=qrc.1 h1;have a2:=qrc.1 h2;simp only[zg,zb,zG,zk1,z7];rw[gd_t (qae.2 (by omega))]
  have:=qCj (n:=n) x (by omega) x.2.2.1.length 0 (qee n x.1) [qee n x.1] (by omega) (by simp)
  rw[show((n.2.2.1.getD x.1.toNat ([],0,0)).2).1=qee n x.1 from rfl,show((n.2.2.1.getD x.2.1.toNat ([],0,0)).2).1=qee n x.2.1 from rfl]
  have this:iter (fun y=>qcW n x y.1 y.2.1 y.2.2) (qee n x.1,(0:Int),[qee n x.1])=some (wres (walk n x.2.2.1 (qee n x.1) [qee n x.1])):=this
  rw[this,z7];cases walk n x.2.2.1 (qee n x.1) [qee n x.1] with
  | none=>rfl
  | some a=>
   show gd _ _=_;rw[gd_t (qae.2 (by omega))]
theorem qAO(x:Pth):qkN n x=some (pathB n x):=by
 unfold qkN pathB;have e0:∀i:Int,decide (i<0)=(decide (i<0)&&!isPt n i):=fun i=>by
  unfold isPt;by_cases a:i<0
  ·rw[dec_t a,dec_f (show ¬0<=i by omega)]; rfl
  ·rw[dec_f a]; rfl
 rw[notlt x.2.2.2 1,notlt 1000 x.2.2.2,notlt 32 (x.2.2.1.length:Int),show decide ((x.2.2.1.length:Int)<=32)=decide (x.2.2.1.length<=32) by congr 1; rw[eq_iff_iff]; omega,notlt x.1 0,notlt x.2.1 0,
  show decide ((n.2.2.1.length:Int)<=x.1)=!decide (x.1<(n.2.2.1.length:Int)) by rw[notlt,zp2],show decide ((n.2.2.1.length:Int)<=x.2.1)=!decide (x.2.1<(n.2.2.1.length:Int)) by rw[notlt,zp2]]
 have f1:isPt n x.1=(decide (0<=x.1)&&decide (x.1<(n.2.2.1.length:Int))):=rfl;have f2:isPt n x.2.1=(decide (0<=x.2.1)&&decide (x.2.1<(n.2.2.1.length:Int))):=rfl;rw[f1,f2];cases g1:decide (0<=x.1) with
 | false=>rfl
 | true=>
 cases h1:decide (x.1<(n.2.2.1.length:Int)) with
 | false=>rfl
 | true=>
 cases g2:decide (0<=x.2.1) with
 | false=>rfl
 | true=>
 cases h2:decide (x.2.1<(n.2.2.1.length:Int)) with
 | false=>rfl
 | true=>
 cases h3:decide (x.1=x.2.1) with
 | true=>rfl
 | false=>
 cases h4:decide (1<=x.2.2.2) with
 | false=>rfl
 | true=>
 cases h5:decide (x.2.2.2<=1000) with
 | false=>rfl
 | true=>
 cases h6:decide (x.2.2.1.length<=32) with
 | false=>rfl
 | true=>
  have h6:=zj h6;have a1:=zj g1;have a2:=zj g2;have a3:=zj h1;have a4:=zj h2;simp only[zg,zb,zG,zk1,z7];rw[gd_t (qae.2 (by omega))]
  have:=qAN (n:=n) x (by omega) x.2.2.1.length 0 (qee n x.1) [qee n x.1] (by omega) (by simp)
  rw[show((n.2.2.1.getD x.1.toNat ([],0,0)).2).1=qee n x.1 from rfl,show((n.2.2.1.getD x.2.1.toNat ([],0,0)).2).1=qee n x.2.1 from rfl]
  have this:iter (fun y=>qc1 n x y.1 y.2.1 y.2.2) (qee n x.1,(0:Int),[qee n x.1])=some (wres (walk n x.2.2.1 (qee n x.1) [qee n x.1])):=this
  rw[this,z7];cases walk n x.2.2.1 (qee n x.1) [qee n x.1] with
  | none=>rfl
  | some a=>
   show gd _ _=_;rw[gd_t (qae.2 (by omega))]
theorem qCm(h0:qbi n=0)(x:Pth):qky n x=some (pathB n x):=by
 unfold qky;rw[qba,qft,z7,dec_t h0,za,show((x.1,x.2.1,x.2.2.1,x.2.2.2):Pth)=x from rfl,qCl]; rfl
theorem qAP(h0:qbi n=0)(x:Pth):qkO n x=some (pathB n x):=by
 unfold qkO;rw[qba,qiO,z7,dec_t h0,za,show((x.1,x.2.1,x.2.2.1,x.2.2.2):Pth)=x from rfl,qAO]; rfl
end
structure VDk(n:Net)(d:Dk):Prop where
 net:qbi n=0
 len:d.1.length=n.2.1.length+n.2.2.1.length
 val:d.1.all qca=true
 pl:qa0 n d.2=0
 rdy:rdyB d=true
 idl:idleB n d.2=false
def along(p:Pl)(h:Hop):Int:=if h.2=true then 0-p.1.getD h.1.toNat 0 else p.1.getD h.1.toNat 0
def sgn(h:Hop)(v:Int):Int:=if h.2=true then 0-v else v
def qqH(n:Net)(d:Dk)(x:Pth):Bool:=qcp (d.1.getD (n.2.1.length+x.1.toNat) v0)&&(qcp (d.1.getD (n.2.1.length+x.2.1.toNat) v0)&&x.2.2.1.all fun h=>qcp (d.1.getD h.1.toNat v0))
def ptOk(p:Pl)(x:Pth)(v:Int):Bool:=decide (0<=p.2.1.getD x.1.toNat 0)&&(decide (0<=0-p.2.1.getD x.2.1.toNat 0)&&(decide (0<=p.2.1.getD x.1.toNat 0+v)&&decide (0<=0-p.2.1.getD x.2.1.toNat 0+v)))
def hpOk(p:Pl)(v:Int)(h:Hop):Bool:=decide (0<=along p h)&&decide (0<=along p h+v)
def growB(n:Net)(d:Dk)(x:Pth)(v:Int):Bool:=qqH n d x&&(ptOk d.2 x v&&x.2.2.1.all (hpOk d.2 v))
def growR(l:List Hop)(v:Int)(r:List Int):List Int:=l.foldl (fun r h=>r.set h.1.toNat (r.getD h.1.toNat 0+sgn h v)) r
def growQ(x:Pth)(v:Int)(q:List Int):List Int:=(q.set x.1.toNat (q.getD x.1.toNat 0+v)).set x.2.1.toNat ((q.set x.1.toNat (q.getD x.1.toNat 0+v)).getD x.2.1.toNat 0-v)
def growP(x:Pth)(v:Int)(p:Pl):Pl:=(growR x.2.2.1 v p.1,growQ x v p.2.1,p.2.2)
theorem qsC(l:List Hop)(v:Int):∀r,(growR l v r).length=r.length:=by
 induction l with
 | nil=>intro r; rfl
 | cons h l ih=>intro r; exact(ih _).trans (zS ..)
theorem qtC{l:List Hop}{i:Nat}(hi:i<l.length)(v:Int)(r:List Int):growR (l.take (i+1)) v r=(growR (l.take i) v r).set (l.getD i (0,false)).1.toNat ((growR (l.take i) v r).getD (l.getD i (0,false)).1.toNat 0+sgn (l.getD i (0,false)) v):=by
 unfold growR;rw[qez (0,false) hi,List.foldl_append]; rfl
theorem qot{k:Nat}(v:Int):∀(l:List Hop) (r:List Int),(∀h∈l,h.1.toNat≠k)->(growR l v r).getD k 0=r.getD k 0
 | [],_,_=>rfl
 | h::l,r,hl=>by
  show(growR l v _).getD k 0=_;rw[qot v l _ fun h' hh=>hl h' (by simp[hh]),qhC,if_neg (fun e=>hl h (by simp) e.1)]
theorem qCn(v:Int)(hv : -1000<=v/\v<=1000){b:Int}:∀(l:List Hop) (r:List Int),(∀k,-b<=r.getD k 0/\r.getD k 0<=b)->∀k,-b-1000*l.length<=(growR l v r).getD k 0/\(growR l v r).getD k 0<=b+1000*l.length:=by
 intro l;induction l generalizing b with
 | nil=>intro r h k; have:=h k; simpa[growR] using this
 | cons h l ih=>
  intro r hr k;have:=ih (b:=b+1000) (r.set h.1.toNat (r.getD h.1.toNat 0+sgn h v)) (fun j=>by
   rw[qhC];have h1:=hr h.1.toNat;have h2:=hr j;split
   ·unfold sgn; split <;> omega
   ·omega) k
  rw[show growR (h::l) v r=growR l v (r.set h.1.toNat (r.getD h.1.toNat 0+sgn h v)) from rfl,zf]
  omega
theorem qsD{A:Type}(f g:A->Bool):∀l:List A,(l.any fun h=>!(f h&&g h))=!(l.all f&&l.all g)
 | []=>rfl
 | a::l=>by
  rw[List.any_cons,z31,z31,qsD f g l];cases f a <;> cases g a <;> cases l.all f <;> cases l.all g <;> rfl
theorem qAQ(x:Pth)(v:Int)(q:List Int):(growQ x v q).length=q.length:=by unfold growQ; rw[zS,zS]
section
variable {n:Net}
theorem VDk.of{d:Dk}(h:qdq n d=0):VDk n d:=by
 unfold qdq at h;by_cases h0:qbi n=0
 ·rw[if_neg (fun e=>e h0)] at h
  obtain⟨h1,h⟩:=qn4 (by decide) h
  unfold vlB at h1;rw[z8,zz] at h1;by_cases hp:qa0 n d.2=0
  ·rw[if_neg (fun e=>e hp)] at h
   obtain⟨h2,h⟩:=qn4 (by decide) h
   cases hi:idleB n d.2 with
   | true=>rw[hi] at h; cases h
   | false=>exact⟨h0,h1.1,h1.2,hp,h2,hi⟩
  ·rw[if_pos hp] at h; exact absurd h hp
 ·rw[if_pos h0] at h; exact absurd h h0
theorem VDk.to{d:Dk}(h:VDk n d):qdq n d=0:=by
 unfold qdq vlB;rw[if_neg (fun e=>e h.net),dec_t h.len,h.val,if_neg (fun e=>e h.pl),h.rdy,h.idl]; rfl
theorem VDk.sz{d:Dk}(h:VDk n d):d.2.1.length=n.2.1.length/\d.2.2.1.length=n.2.2.1.length/\d.2.2.2.length=n.2.2.2.1.length:=(VPl.of h.pl).len
theorem VDk.small{d:Dk}(h:VDk n d):DkS d:=by
 have hn:=(VNet.of h.net).small;have:=h.len; have:=h.sz; have:=hn.sg; have:=hn.po; have:=hn.st;exact⟨by omega,by omega,by omega,by omega⟩
structure VPa(n:Net)(x:Pth):Prop where
 i:0<=x.1/\x.1<(n.2.2.1.length:Int)
 o:0<=x.2.1/\x.2.1<(n.2.2.1.length:Int)
 ne:x.1≠x.2.1
 hl:x.2.2.1.length<=32
 h:∀h∈x.2.2.1,0<=h.1/\h.1<(n.2.1.length:Int)
 d:∀i j,i<j->j<x.2.2.1.length->(x.2.2.1.getD i (0,false)).1≠(x.2.2.1.getD j (0,false)).1
theorem qw9:∀ {l:List Hop} {a:Int} {ps:List Int} {b:Int},walk n l a ps=some b->∀h∈l,(0<=h.1/\h.1<(n.2.1.length:Int))/\hopT n h∉ps
 | [],_,_,_,_=>fun h hh=>by cases hh
 | h::l,a,ps,b,hw=>by
  unfold walk at hw;cases hc:(hopOk n h&&(decide (hopF n h=a)&&!decide (hopT n h∈ps))) with
  | false=>rw[hc] at hw; cases hw
  | true=>
   rw[hc,za] at hw;rw[z8,z8] at hc;intro h' hh;rcases zr.1 hh with rfl | hh
   ·exact⟨qsB.1 hc.1,by simpa using hc.2.2⟩
   ·have:=qw9 hw h' hh;exact⟨this.1,fun hm=>this.2 (List.mem_append_left _ hm)⟩
theorem qAR:∀ {l:List Hop} {a:Int} {ps:List Int} {b:Int},a∈ps->walk n l a ps=some b->∀i j,i<j->j<l.length->(l.getD i (0,false)).1≠(l.getD j (0,false)).1
 | [],_,_,_,_,_=>fun i j _ hj=>by cases hj
 | h::l,a,ps,b,ha,hw=>by
  unfold walk at hw;cases hc:(hopOk n h&&(decide (hopF n h=a)&&!decide (hopT n h∈ps))) with
  | false=>rw[hc] at hw; cases hw
  | true=>
   rw[hc,za] at hw;rw[z8,z8,zz] at hc;have hrec:=qAR (List.mem_append_right ps (zO.2 rfl)) hw;have all:=qw9 hw;intro i j hij hj;cases j with
   | zero=>omega
   | succ j=>
    cases i with
    | succ i=>exact hrec i j (by omega) (by simpa using hj)
    | zero=>
     show h.1≠(l.getD j (0,false)).1;intro e;have hm:l.getD j (0,false)∈l:=qbc (by simpa using hj)
     refine(all _ hm).2 ?_
     have es:sgH n (l.getD j (0,false))=sgH n h:=by unfold sgH; rw[e]
     have:hopT n (l.getD j (0,false))=hopT n h\/hopT n (l.getD j (0,false))=hopF n h:=by
      unfold hopT hopF;rw[es];cases(l.getD j (0,false)).2 <;> cases h.2 <;> simp
     rcases this with h1 | h1
     ·rw[h1]; exact List.mem_append_right _ (zO.2 rfl)
     ·rw[h1,hc.2.1]; exact List.mem_append_left _ ha
theorem VPa.of{x:Pth}(h:pathB n x=true):VPa n x:=by
 unfold pathB at h;simp only[z8,zu,zz,z72] at h;obtain⟨⟨h1,h2,h3,h4,h5,h6⟩,hw⟩:=h;split at hw
 ·rename_i a ha;exact⟨qrc.1 h1,qrc.1 h2,h3,h6,fun h hh=>(qw9 ha h hh).1,qAR (zO.2 rfl) ha⟩
 ·cases hw
theorem quQ{d:Dk}{i:Int}(h0:0<=i)(h1:i<(d.1.length:Int)):qfw i d=some (qcp (d.1.getD i.toNat v0)):=by
 unfold qfw;rw[gd_t (qae.2 ⟨h0,h1⟩),show(d.1.getD i.toNat (0,0,false,false))=d.1.getD i.toNat v0 from rfl,quO]; rfl
theorem VDk.rate{d:Dk}(h:VDk n d)(k:Nat) : -1000<=d.2.1.getD k 0/\d.2.1.getD k 0<=1000:=(VPl.of h.pl).rb.s k
theorem VDk.prate{d:Dk}(h:VDk n d)(k:Nat) : -1000<=d.2.2.1.getD k 0/\d.2.2.1.getD k 0<=1000:=(VPl.of h.pl).rb.q k
theorem qCo{d:Dk}(hd:VDk n d){h:Hop}(hh:0<=h.1/\h.1<(n.2.1.length:Int)):qmV d.2 h=some (along d.2 h):=by
 have:=hd.sz;have hr:=hd.rate h.1.toNat;unfold qmV along;rw[gd_t (qae.2 (by omega)),gd_t (qae.2 (by omega)),wi (by omega)]
 cases h.2 <;> rfl
theorem qCp{d:Dk}(hd:VDk n d){v:Int}(hv : -1000<=v/\v<=1000){h:Hop}(hh:0<=h.1/\h.1<(n.2.1.length:Int)):qfx h d d v=some (!(qcp (d.1.getD h.1.toNat v0)&&hpOk d.2 v h)):=by
 have hr:=hd.rate h.1.toNat;have hb : -1000<=along d.2 h/\along d.2 h<=1000:=by unfold along; split <;> omega
 have hl:=hd.len;unfold qfx;rw[show((h.1,h.2):Hop)=h from rfl,qCo hd hh,z7,quQ hh.1 (by omega),z7,wi (by omega)]
 unfold hpOk;rw[notlt (along d.2 h) 0,notlt (along d.2 h+v) 0];cases qcp (d.1.getD h.1.toNat v0) <;> cases decide (0<=along d.2 h) <;> cases decide (0<=along d.2 h+v) <;> rfl
theorem qCq{d:Dk}(hd:VDk n d){x:Pth}(hx:VPa n x){v:Int}(hv : -1000<=v/\v<=1000):qmW n d x v=some (growB n d x v):=by
 have hz:=hd.sz;have hl:=hd.len;have hi:=hx.i;have ho:=hx.o;have b1:=hd.prate x.1.toNat;have b2:=hd.prate x.2.1.toNat;have hn:=(VNet.of hd.net).small;have m1:=hn.sg;have m2:=hn.po;unfold qmW;rw[gd_t (qae.2 (by omega)),gd_t (qae.2 (by omega)),wi (by omega),wi (by omega),show((d.1,d.2.1,d.2.2.1,d.2.2.2):Dk)=d from rfl,
  quQ (by omega) (by omega),quQ (by omega) (by omega),z7,z7,show(((n.2.1.length:Int)+x.1).toNat)=n.2.1.length+x.1.toNat by omega,show(((n.2.1.length:Int)+x.2.1).toNat)=n.2.1.length+x.2.1.toNat by omega,
  wi (show -9223372036854775808<=0-d.2.2.1.getD x.2.1.toNat 0/\0-d.2.2.1.getD x.2.1.toNat 0<=9223372036854775807 by omega),wi (by omega),wi (by omega)]
 have eh:=qos x.2.2.1 (fun h=>!(qcp (d.1.getD h.1.toNat v0)&&hpOk d.2 v h)) (fun h=>(qfx h.1 d d v).bind fun y=>some y) (fun h hh=>by
  show(qfx h d d v).bind _=_;rw[qCp hd hv (hx.h h hh)]; rfl) (by have:=hx.hl; omega)
 unfold growB qqH ptOk;have el:(x.2.2.1.any fun h=>!(qcp (d.1.getD h.1.toNat v0)&&hpOk d.2 v h))=!((x.2.2.1.all fun h=>qcp (d.1.getD h.1.toNat v0))&&x.2.2.1.all (hpOk d.2 v)):=by
  exact qsD _ _ _
 rw[notlt (d.2.2.1.getD x.1.toNat 0) 0,notlt (0-d.2.2.1.getD x.2.1.toNat 0) 0,notlt (d.2.2.1.getD x.1.toNat 0+v) 0,notlt (0-d.2.2.1.getD x.2.1.toNat 0+v) 0];cases qcp (d.1.getD (n.2.1.length+x.1.toNat) v0) with
 | false=>rfl
 | true=>
 cases qcp (d.1.getD (n.2.1.length+x.2.1.toNat) v0) with
 | false=>rfl
 | true=>
 cases decide (0<=d.2.2.1.getD x.1.toNat 0) with
 | false=>simp
 | true=>
 cases decide (0<=0-d.2.2.1.getD x.2.1.toNat 0) with
 | false=>simp
 | true=>
 cases decide (0<=d.2.2.1.getD x.1.toNat 0+v) with
 | false=>simp
 | true=>
 cases decide (0<=0-d.2.2.1.getD x.2.1.toNat 0+v) with
 | false=>simp
 | true=>
  simp only[zg,zb,z7,zG];rw[eh,z7,el,zp2]
theorem qD7{x:Pth}{v:Int}(hv : -1000<=v/\v<=1000){p:Pl}(hr:∀k,-1000<=p.1.getD k 0/\p.1.getD k 0<=1000)(hq:∀k,-1000<=p.2.1.getD k 0/\p.2.1.getD k 0<=1000)(hx:VPa n x)(l1:p.1.length=n.2.1.length)(l2:p.2.1.length=n.2.2.1.length)(d:List Vl):
  qmX x v d p.1 p.2.1 p.2.2=some (d,growP x v p):=by
 have hi:=hx.i;have ho:=hx.o;have b1:=hq x.1.toNat;unfold qmX;have hB:inB x.1 p.2.1.length=true:=qae.2 (by omega)
 have hC:inB x.2.1 (p.2.1.set x.1.toNat (wi64 ((p.2.1.getD x.1.toNat 0)+v))).length=true:=qae.2 (by rw[zS]; omega)
 rw[gd_t hB,gd_t hB,gd_t hC,gd_t hC,wi (by omega)]
 have b2 : -2000<=(p.2.1.set x.1.toNat (p.2.1.getD x.1.toNat 0+v)).getD x.2.1.toNat 0/\(p.2.1.set x.1.toNat (p.2.1.getD x.1.toNat 0+v)).getD x.2.1.toNat 0<=2000:=by
  rw[qhC]; have:=hq x.2.1.toNat; split <;> omega
 rw[wi (by omega),show((p.2.1.set x.1.toNat (p.2.1.getD x.1.toNat 0+v)).set x.2.1.toNat ((p.2.1.set x.1.toNat (p.2.1.getD x.1.toNat 0+v)).getD x.2.1.toNat 0-v))=growQ x v p.2.1 from rfl]
 have:=qbl (step:=fun x2:Int×List Vl×List Int×List Int×List Bool=>qdl x v x2.1 x2.2.1 x2.2.2.1 x2.2.2.2.1 x2.2.2.2.2) (e:=(d,growP x v p)) x.2.2.1.length (fun i=>((i:Int),d,growR (x.2.2.1.take i) v p.1,growQ x v p.2.1,p.2.2)) (fun i hi'=>?_) ?_
 ·have this:iter (fun x2=>qdl x v x2.1 x2.2.1 x2.2.2.1 x2.2.2.2.1 x2.2.2.2.2) ((0:Int),d,p.1,growQ x v p.2.1,p.2.2)=some (d,growP x v p):=this
  rw[this]; rfl
 ·show qdl x v (i:Int) d (growR (x.2.2.1.take i) v p.1) (growQ x v p.2.1) p.2.2=some (.inl (((i+1:Nat):Int),d,growR (x.2.2.1.take (i+1)) v p.1,growQ x v p.2.1,p.2.2));unfold qdl;have hl:=hx.hl;have hh:=hx.h _ (qbc (d:=(0,false)) hi');have hb:=qCn v hv (b:=1000) (x.2.2.1.take i) p.1 hr (x.2.2.1.getD i (0,false)).1.toNat;rw[zo] at hb;have hD:inB (x.2.2.1.getD i (0,false)).1 (growR (x.2.2.1.take i) v p.1).length=true:=qae.2 (by rw[qsC]; omega)
  have es:qi3 ((x.2.2.1.getD i (0,false)).1,(x.2.2.1.getD i (0,false)).2) v=some (sgn (x.2.2.1.getD i (0,false)) v):=by
   unfold qi3 sgn; rw[wi (by omega)]; simp only; cases(x.2.2.1.getD i (0,false)).2 <;> rfl
  have hs : -1000<=sgn (x.2.2.1.getD i (0,false)) v/\sgn (x.2.2.1.getD i (0,false)) v<=1000:=by unfold sgn; split <;> omega
  rw[dec_t (show(i:Int)<(x.2.2.1.length:Int) by omega),za,gd_t (inB_t hi'),z9,gd_t hD,es,z7,gd_t hD,w1 hi' (by omega),wi (by omega),qtC hi']
 ·show qdl x v ((x.2.2.1.length:Nat):Int) d (growR (x.2.2.1.take x.2.2.1.length) v p.1) (growQ x v p.2.1) p.2.2=_;unfold qdl;rw[dec_f (by omega),z02]; rfl
end
def cmdV(v:Vl)(w:Bool):Vl:=(v.1,v.2.1,w,v.2.2.2)
def movO(v:Vl)(t:Int):Int:=bif v.2.2.2 then v.2.1 else(if v.2.1<(bif v.2.2.1 then v.1 else 0) then min (bif v.2.2.1 then v.1 else 0) (v.2.1+t) else max (bif v.2.2.1 then v.1 else 0) (v.2.1-t))
def movV(v:Vl)(t:Int):Vl:=(v.1,movO v t,v.2.2.1,v.2.2.2)
def absP(s:Stp):Pth:=(s.2.2.2.1,s.2.2.2.2.1,s.2.2.2.2.2.1,max s.2.2.1 (0-s.2.2.1))
def turnS(n:Net)(d:Dk)(s:Stp):Dk×Int:=bif !(decide (0<=s.2.1)&&decide (s.2.1<(d.1.length:Int))) then(d,8) else
 bif decide (s.1=2)&&(need d.2).getD s.2.1.toNat false then(d,22) else((d.1.set s.2.1.toNat (cmdV (d.1.getD s.2.1.toNat v0) (decide (s.1=1))),d.2),0)
def setP(p:Pl)(i:Nat)(b:Bool):Pl:=(p.1,p.2.1,p.2.2.set i b)
def runS(n:Net)(d:Dk)(s:Stp):Dk×Int:=bif !(decide (0<=s.2.1)&&decide (s.2.1<(n.2.2.2.1.length:Int))) then(d,8) else
 bif decide (s.1=3)&&decide (comeF n d.2 (n.2.2.2.1.getD s.2.1.toNat sta0).2.1=0) then(d,22) else((d.1,setP d.2 s.2.1.toNat (decide (s.1=3))),0)
def chgS(n:Net)(d:Dk)(s:Stp):Dk×Int:=bif !rg (-1000) 1000 s.2.2.1 then(d,23) else
 bif !pathB n (absP s) then(d,23) else bif !growB n d (absP s) s.2.2.1 then(d,22) else
 (if qa0 n (growP (absP s) s.2.2.1 d.2)≠0 then(d,qa0 n (growP (absP s) s.2.2.1 d.2)) else bif idleB n (growP (absP s) s.2.2.1 d.2) then(d,22) else((d.1,growP (absP s) s.2.2.1 d.2),0))
def waitS(d:Dk)(s:Stp):Dk×Int:=bif !rg 1 100 s.2.2.1 then(d,1) else((d.1.map fun v=>movV v s.2.2.1,d.2),0)
def stepS(n:Net)(d:Dk)(s:Stp):Dk×Int:=bif !qlu s then(d,22) else
 bif decide (s.1=1) || decide (s.1=2) then turnS n d s else bif decide (s.1=3) || decide (s.1=4) then runS n d s else bif decide (s.1=5) then chgS n d s else waitS d s
def appS(n:Net)(d:Dk)(s:Stp):Dk×Int:=if qdq n d≠0 then(d,qdq n d) else stepS n d s
section
variable {n:Net}
theorem oob(a b:Int):(bif decide (a<0) then some true else some (decide (b<=a)))=some (!(decide (0<=a)&&decide (a<b))):=by
 rw[notlt a 0,notlt a b];cases decide (0<=a) <;> cases decide (b<=a) <;> rfl
theorem oob4{A:Type}(a b:Int)(x:A):(bif decide (a<0) then some (true,x) else some (decide (b<=a),x))=some (!(decide (0<=a)&&decide (a<b)),x):=by
 rw[notlt a 0,notlt a b];cases decide (0<=a) <;> cases decide (b<=a) <;> rfl
theorem qqh{a b:Int}:(decide (0<=a)&&decide (a<b))=true↔0<=a/\a<b:=by rw[z8,zz,zz]
theorem qDs{v:Vl}(h:qca v=true)(w:Bool):qhX v w=some (cmdV v w,0):=by
 unfold qhX;rw[show((v.1,v.2.1,v.2.2.1,v.2.2.2):Vl)=v from rfl,valid_eq,z7,h]; rfl
theorem qD8{v:Vl}(h:qca v=true)(w:Bool):qkM v w=some (cmdV v w,0):=qDs h w
theorem VDk.val1{d:Dk}(hd:VDk n d){i:Nat}(hi:i<d.1.length):qca (d.1.getD i v0)=true:=zm.1 hd.val _ (qbc hi)
theorem VDk.needl{d:Dk}(hd:VDk n d):(need d.2).length=d.1.length:=by rw[qpI (VPl.of hd.pl).sz,hd.len]
def inner(r:Dk×Int)(o:Option (Int×List Vl×List Int×List Int×List Bool)):Prop:=∃y,o=some y/\y.1=r.2/\(r.2=0->y.2=r.1)
theorem qAS{d:Dk}(hd:VDk n d)(s:Stp):inner (turnS n d s) (ql8 n s d.1 d.2.1 d.2.2.1 d.2.2.2):=by
 unfold turnS ql8;rw[oob4,z7];simp only;cases hb:(decide (0<=s.2.1)&&decide (s.2.1<(d.1.length:Int))) with
 | false=>exact⟨_,rfl,rfl,fun e=>by cases e⟩
 | true=>
  have hb:=qqh.1 hb;have hz:=hd.sz;have hs:=(VNet.of hd.net).small;have m1:=hs.sg;have m2:=hs.po;have hl:=hd.len;simp only[zg,zb];have e1:∀(q:Bool),(bif decide (s.1=2) then
    (qgn (Y6 n) (d.2.1,d.2.2.1,d.2.2.2)).bind fun r=>
     bif !decide (r.1=0) then some (.inr (r.1,d.1,d.2.1,d.2.2.1,d.2.2.2))
     else(qeG (r.2.1,r.2.2)).bind fun r2=>
      gd (inB s.2.1 r2.length) (bif r2.getD s.2.1.toNat false then some (.inr (22,d.1,d.2.1,d.2.2.1,d.2.2.2)) else some (.inl (d.1,d.2.1,d.2.2.1,d.2.2.2)))
    else(some (.inl (d.1,d.2.1,d.2.2.1,d.2.2.2)):Option (Dk⊕(Int×Dk))))=some (bif decide (s.1=2)&&(need d.2).getD s.2.1.toNat false then .inr (22,d) else .inl d):=by
   intro q;cases decide (s.1=2) with
   | false=>rfl
   | true=>
    rw[za,qba,show((d.2.1,d.2.2.1,d.2.2.2):Pl)=d.2 from rfl,qAG,z7,if_neg (fun e=>e hd.pl)]
    simp only[zg2,zg,zb,zG];rw[qtB _ _ (by rw[qhL]; omega) (by rw[qhL]; omega),z7,show nz d.2.1++nz d.2.2.1=need d.2 from rfl,gd_t (qae.2 (by rw[hd.needl]; omega))]
    cases(need d.2).getD s.2.1.toNat false <;> rfl
  rw[e1 true,z7];cases(decide (s.1=2)&&(need d.2).getD s.2.1.toNat false) with
  | true=>exact⟨_,rfl,rfl,fun e=>by cases e⟩
  | false=>
   simp only[zb,zb1];rw[gd_t (qae.2 (by omega)),show(d.1.getD s.2.1.toNat (0,0,false,false))=d.1.getD s.2.1.toNat v0 from rfl,qDs (hd.val1 (by omega)),z7,gd_t (qae.2 (by omega))]
   exact⟨_,rfl,rfl,fun _=>rfl⟩
theorem qCr{d:Dk}(hd:VDk n d)(s:Stp):qm6 d s=some (turnS n d s):=by
 unfold turnS qm6;rw[oob,z7];cases hb:(decide (0<=s.2.1)&&decide (s.2.1<(d.1.length:Int))) with
 | false=>rfl
 | true=>
  have hb:=qqh.1 hb;have hz:=hd.sz;have hs:=(VNet.of hd.net).small;have m1:=hs.sg;have m2:=hs.po;have hl:=hd.len;simp only[zg,zb];have e1:(bif decide (s.1=2) then
    (qgr (d.2.1,d.2.2.1,d.2.2.2)).bind fun r=>(qj0 (r.1,r.2)).bind fun r2=>gd (inB s.2.1 r2.length) (some (r2.getD s.2.1.toNat false))
    else some false)=some (decide (s.1=2)&&(need d.2).getD s.2.1.toNat false):=by
   cases decide (s.1=2) with
   | false=>rfl
   | true=>
    rw[za,show((d.2.1,d.2.2.1,d.2.2.2):Pl)=d.2 from rfl,qx5 _ (by omega) (by omega),z7,qAF _ _ (by rw[qhL]; omega) (by rw[qhL]; omega),z7,show nz d.2.1++nz d.2.2.1=need d.2 from rfl,gd_t (qae.2 (by rw[hd.needl]; omega))]; rfl
  rw[e1,z7];cases(decide (s.1=2)&&(need d.2).getD s.2.1.toNat false) with
  | true=>rfl
  | false=>
   simp only[zb];rw[show((d.1,d.2.1,d.2.2.1,d.2.2.2):Dk)=d from rfl,qpJ hd.small,z7,gd_t (qae.2 (by omega)),show(d.1.getD s.2.1.toNat (0,0,false,false))=d.1.getD s.2.1.toNat v0 from rfl,qD8 (hd.val1 (by omega)),z7,gd_t (qae.2 (by omega))]
theorem qx9(p:Pl)(i:Nat)(b:Bool):qa0 n (setP p i b)=qa0 n p:=by
 have e1:szB n (setP p i b)=szB n p:=by unfold szB setP; rw[zS]
 have e2:∀f th,topo n (setP p i b) f th=topo n p f th:=by
  intro f;induction f with
  | zero=>intro _; rfl
  | succ f ih=>
   intro th;unfold topo;rw[show nextF n (setP p i b) th=nextF n p th from rfl]
   cases nextF n p th with
   | none=>rfl
   | some k=>exact congrArg _ (ih _)
 unfold qa0;rw[e1,show ordL n (setP p i b)=ordL n p from e2 _ _]; rfl
theorem qvU{d:Dk}(hd:VDk n d){i:Nat}(hi:i<n.2.2.2.1.length)(b:Bool):idleB n (setP d.2 i b)=(b&&decide (comeF n d.2 (n.2.2.2.1.getD i sta0).2.1=0)):=by
 have hn:=hd.idl;unfold idleB at hn ⊢;have hz:=hd.sz;rw[zQ1] at hn;have key:∀j,j<n.2.2.2.1.length->qlt n (setP d.2 i b) j=(decide (j=i)&&(b&&decide (comeF n d.2 (n.2.2.2.1.getD i sta0).2.1=0))):=by
  intro j hj;have h1:=hn j (zM.2 hj);unfold qlt at h1 ⊢;have e:comeF n (setP d.2 i b) (n.2.2.2.1.getD j sta0).2.1=comeF n d.2 (n.2.2.2.1.getD j sta0).2.1:=rfl;rw[e,show(setP d.2 i b).2.2=d.2.2.2.set i b from rfl,qhC]
  by_cases hji:i=j
  ·subst hji; rw[if_pos ⟨rfl,by omega⟩,dec_t rfl]; rfl
  ·rw[if_neg (fun h=>hji h.1),dec_f (show ¬j=i from fun h=>hji h.symm)]
   revert h1; cases(d.2.2.2.getD j false&&decide (comeF n d.2 (n.2.2.2.1.getD j sta0).2.1=0)) <;> simp
 rw[zX,zA2];constructor
 ·rintro⟨j,hj,h⟩
  rw[key j (zM.1 hj),z8] at h;exact h.2
 ·intro h;exact⟨i,zM.2 hi,by rw[key i hi,h,dec_t rfl]; rfl⟩
theorem qDt{d:Dk}(hd:VDk n d)(s:Stp):inner (runS n d s) (qpb n s d.1 d.2.1 d.2.2.1 d.2.2.2):=by
 unfold runS qpb;rw[oob4,z7];simp only;cases hb:(decide (0<=s.2.1)&&decide (s.2.1<(n.2.2.2.1.length:Int))) with
 | false=>exact⟨_,rfl,rfl,fun e=>by cases e⟩
 | true=>
  have hb:=qqh.1 hb;have hz:=hd.sz;obtain⟨i,hi⟩:∃i:Nat,s.2.1=(i:Int):=⟨s.2.1.toNat,by omega⟩
  simp only[zg,zb];rw[hi,z9,qba,show((d.2.1,d.2.2.1,d.2.2.2):Pl)=d.2 from rfl,qsA hd.pl (by omega),z7,zp2]
  cases hk:decide (s.1=3) with
  | false=>
   simp only[zb,z7,z03];rw[gd_t (inB_t (by omega))]
   exact⟨_,rfl,rfl,fun _=>rfl⟩
  | true=>
   simp only[za,z7,zG];cases decide (comeF n d.2 (n.2.2.2.1.getD i sta0).2.1=0) with
   | true=>exact⟨_,rfl,rfl,fun e=>by cases e⟩
   | false=>
    simp only[zb];rw[gd_t (inB_t (by omega))]
    exact⟨_,rfl,rfl,fun _=>rfl⟩
theorem qCs{d:Dk}(hd:VDk n d)(s:Stp):qm7 n d s=some (runS n d s):=by
 unfold runS qm7;rw[oob,z7];cases hb:(decide (0<=s.2.1)&&decide (s.2.1<(n.2.2.2.1.length:Int))) with
 | false=>rfl
 | true=>
  have hb:=qqh.1 hb;have hz:=hd.sz;obtain⟨i,hi⟩:∃i:Nat,s.2.1=(i:Int):=⟨s.2.1.toNat,by omega⟩
  simp only[zg,zb];rw[hi,z9,show((d.1,d.2.1,d.2.2.1,d.2.2.2):Dk)=d from rfl,qpJ hd.small,z7,gd_t (inB_t (by omega)),qba,
   show((d.2.1,(d.2.2.1,d.2.2.2.set i (decide (s.1=3)))):Pl)=setP d.2 i (decide (s.1=3)) from rfl,qw8 (by rw[qx9]; exact hd.pl),z7,zp2,qvU hd (by omega)]
  cases(decide (s.1=3)&&decide (comeF n d.2 (n.2.2.2.1.getD i sta0).2.1=0)) <;> rfl
/-! ### Waiting -/
theorem qka{v:Vl}:qca v=true↔1<=v.1/\v.1<=60/\0<=v.2.1/\v.2.1<=v.1:=by
 unfold qca; rw[z8,qhK,qhK,and_assoc]
theorem qCt{A:Type}(c:Bool)(x:A):(bif c then x else x)=x:=by cases c <;> rfl
theorem qD9{v:Vl}(h:qca v=true){t:Int}(ht:1<=t/\t<=100):qmY v t=some (movV v t,0):=by
 have hv:=qka.1 h;unfold qmY;rw[show((v.1,v.2.1,v.2.2.1,v.2.2.2):Vl)=v from rfl,valid_eq,z7,h,dec_f (show ¬t<0 by omega),dec_f (show ¬400<t by omega)]
 simp only[zg,zb,z7];have e:qkA v t=some (movV v t):=by
  unfold qkA qp3;rw[wi (by omega),wi (by omega)]
  have eg:(bif v.2.2.1 then some v.1 else some 0)=some (bif v.2.2.1 then v.1 else 0):=by cases v.2.2.1 <;> rfl
  simp only;rw[eg,z7];have em:(bif v.2.2.2 then some v.2.1 else Option.bind (α:=Int) (bif decide (v.2.1<(bif v.2.2.1 then v.1 else 0)) then some (min (bif v.2.2.1 then v.1 else 0) (v.2.1+t)) else some (max (bif v.2.2.1 then v.1 else 0) (v.2.1-t))) fun s=>some s)=some (movO v t):=by
   unfold movO;cases v.2.2.2 with
   | true=>rfl
   | false=>
    simp only[zb];by_cases hc:v.2.1<(bif v.2.2.1 then v.1 else 0)
    ·rw[dec_t hc,if_pos hc]; rfl
    ·rw[dec_f hc,if_neg hc]; rfl
  rw[em,z7];by_cases hc:movO v t=v.2.1
  ·rw[show movV v t=v by unfold movV; rw[hc],hc]; exact qCt _ _
  ·rw[dec_f hc,z03,ze2]; rfl
 rw[e]; rfl
theorem qvV{v:Vl}(h:qca v=true){t:Int}(ht:0<=t):qca (movV v t)=true:=by
 rw[qka] at h ⊢;unfold movV movO;simp only;cases v.2.2.2 <;> cases v.2.2.1 <;> simp only[za,zb] <;> (try split) <;> omega
theorem qCu{v:Vl}(h:qca v=true):movV v 0=v:=by
 rw[qka] at h;have:movO v 0=v.2.1:=by
  unfold movO;cases v.2.2.2 <;> cases v.2.2.1 <;> simp only[za,zb] <;> (try split) <;> omega
 unfold movV; rw[this]
theorem qCv{v:Vl}(h:qca v=true)(i:Nat):qm9 (movV v (i:Int))=some (movV v ((i+1:Nat):Int),0):=by
 have hm:=qvV h (t:=(i:Int)) (by omega)
 have hm2:=qka.1 hm;rw[qka] at h;unfold qm9;rw[show(((movV v (i:Int)).1,(movV v (i:Int)).2.1,(movV v (i:Int)).2.2.1,(movV v (i:Int)).2.2.2):Vl)=movV v (i:Int) from rfl,rvalid_eq,z7,hm,wi (by omega),wi (by omega)]
 unfold movV movO at hm2 ⊢;simp only at hm2 ⊢;cases h1:v.2.2.2 <;> cases h2:v.2.2.1 <;> simp only[h1,h2,za,zb,zg,zk1,z7] at hm2 ⊢
 ·by_cases hz:v.2.1<0
  ·omega
  ·rw[if_neg hz] at hm2;rw[if_neg hz,if_neg hz];by_cases hc:0<max 0 (v.2.1-(i:Int))
   ·rw[dec_t hc,za,z7,z7,show max 0 (v.2.1-(i:Int))-1=max 0 (v.2.1-((i+1:Nat):Int)) by omega]
   ·rw[dec_f hc,zb,z7,z7,show max 0 (v.2.1-(i:Int))=max 0 (v.2.1-((i+1:Nat):Int)) by omega]
 ·by_cases hz:v.2.1<v.1
  ·rw[if_pos hz] at hm2;rw[if_pos hz,if_pos hz];by_cases hc:min v.1 (v.2.1+(i:Int))<v.1
   ·rw[dec_t hc,za,z7,show min v.1 (v.2.1+(i:Int))+1=min v.1 (v.2.1+((i+1:Nat):Int)) by omega]
   ·rw[dec_f hc,zb,z7,show min v.1 (v.2.1+(i:Int))=min v.1 (v.2.1+((i+1:Nat):Int)) by omega]
  ·rw[if_neg hz] at hm2;rw[if_neg hz,if_neg hz,dec_f (show ¬max v.1 (v.2.1-(i:Int))<v.1 by omega),zb,z7,show max v.1 (v.2.1-(i:Int))=max v.1 (v.2.1-((i+1:Nat):Int)) by omega]
theorem qCw{v:Vl}(h:qca v=true){t:Int}(ht:1<=t/\t<=100):qna v t=some (movV v t,0):=by
 obtain⟨m,rfl⟩:∃m:Nat,t=(m:Int):=⟨t.toNat,by omega⟩
 unfold qna;rw[show((v.1,v.2.1,v.2.2.1,v.2.2.2):Vl)=v from rfl,rvalid_eq,z7,h,dec_f (show ¬(m:Int)<0 by omega),dec_f (show ¬400<(m:Int) by omega)]
 simp only[zg,zb,z7];have:=qbl (step:=fun x:Int×Int×Int×Bool×Bool=>qdp (m:Int) x.1 x.2.1 x.2.2.1 x.2.2.2.1 x.2.2.2.2) (e:=movV v (m:Int)) m (fun i=>((i:Int),movV v (i:Int))) (fun i hi=>?_) ?_
 ·have this:iter (fun x=>qdp (m:Int) x.1 x.2.1 x.2.2.1 x.2.2.2.1 x.2.2.2.2) ((0:Int),movV v 0)=some (movV v (m:Int)):=this
  rw[qCu h] at this;rw[show((0,v.1,v.2.1,v.2.2.1,v.2.2.2):Int×Vl)=(0,v) from rfl,this]; rfl
 ·show qdp (m:Int) (i:Int) (movV v (i:Int)).1 (movV v (i:Int)).2.1 (movV v (i:Int)).2.2.1 (movV v (i:Int)).2.2.2=_;unfold qdp;rw[dec_t (show(i:Int)<(m:Int) by omega),za,show(((movV v (i:Int)).1,(movV v (i:Int)).2.1,(movV v (i:Int)).2.2.1,(movV v (i:Int)).2.2.2):Vl)=movV v (i:Int) from rfl,qCv h,z7,w1 hi (by omega)]
 ·show qdp (m:Int) (m:Int) (movV v (m:Int)).1 (movV v (m:Int)).2.1 (movV v (m:Int)).2.2.1 (movV v (m:Int)).2.2.2=_;unfold qdp;rw[dec_f (by omega)]; rfl
theorem rg1(v:Int):(bif decide (v<1) then some true else some (decide (100<v)))=some (!rg 1 100 v):=by
 unfold rg; rw[notlt v 1,notlt 100 v];cases decide (1<=v) <;> cases decide (v<=100) <;> rfl
theorem rg14{A:Type}(v:Int)(x:A):(bif decide (v<1) then some (true,x) else some (decide (100<v),x))=some (!rg 1 100 v,x):=by
 unfold rg; rw[notlt v 1,notlt 100 v];cases decide (1<=v) <;> cases decide (v<=100) <;> rfl
theorem qEa{d:Dk}(hd:VDk n d)(s:Stp)(m:Net):inner (waitS d s) (qpi m s d.1 d.2.1 d.2.2.1 d.2.2.2):=by
 unfold waitS qpi;rw[rg14,z7];simp only;cases hr:rg 1 100 s.2.2.1 with
 | false=>exact⟨_,rfl,rfl,fun e=>by cases e⟩
 | true=>
  have ht:=qhK.1 hr;have hl:=hd.small.v;simp only[zg,zb];have:=qbl (step:=fun x:Int×List Vl×List Int×List Int×List Bool=>qd0 s (false,d) x.1 x.2.1 x.2.2.1 x.2.2.2.1 x.2.2.2.2) (e:=.inl (d.1.map fun v=>movV v s.2.2.1,d.2)) d.1.length (fun i=>((i:Int),mix (d.1.map fun v=>movV v s.2.2.1) d.1 i,d.2)) (fun i hi=>?_) ?_
  ·have this:iter (fun x=>qd0 s (false,d.1,d.2.1,d.2.2.1,d.2.2.2) x.1 x.2.1 x.2.2.1 x.2.2.2.1 x.2.2.2.2) ((0:Int),mix (d.1.map fun v=>movV v s.2.2.1) d.1 0,d.2)=some (.inl (d.1.map fun v=>movV v s.2.2.1,d.2)):=this
   rw[mix_0] at this;rw[show((0,d.1,d.2.1,d.2.2.1,d.2.2.2):Int×Dk)=(0,d.1,d.2) from rfl,this]
   exact⟨_,rfl,rfl,fun _=>rfl⟩
  ·show qd0 s (false,d) (i:Int) (mix (d.1.map fun v=>movV v s.2.2.1) d.1 i) d.2.1 d.2.2.1 d.2.2.2=_
   unfold qd0;have hm:(d.1.map fun v=>movV v s.2.2.1).length=d.1.length:=z51 ..
   have hg:(mix (d.1.map fun v=>movV v s.2.2.1) d.1 i).getD i (0,0,false,false)=d.1.getD i v0:=by rw[qxQ hm rfl,if_neg (by omega)]
   have hB:inB (i:Int) (mix (d.1.map fun v=>movV v s.2.2.1) d.1 i).length=true:=inB_t (by rw[qpV hm rfl]; exact hi)
   rw[dec_t (show(i:Int)<(d.1.length:Int) by omega),za,gd_t hB,z9,hg,
    show(((d.1.getD i v0).1,(((d.1.getD i v0).2).1,((((d.1.getD i v0).2).2).1,(((d.1.getD i v0).2).2).2))):Vl)=d.1.getD i v0 from rfl,qD9 (hd.val1 hi) ht,z7,gd_t hB]
   simp only[zg2,zg,zb];rw[w1 hi (by omega),show(((movV (d.1.getD i v0) s.2.2.1).1,(movV (d.1.getD i v0) s.2.2.1).2.1,(movV (d.1.getD i v0) s.2.2.1).2.2.1,(movV (d.1.getD i v0) s.2.2.1).2.2.2):Vl)=movV (d.1.getD i v0) s.2.2.1 from rfl,
    qAo hm rfl v0 hi (by rw[qlM _ _ _ v0 _ hi])]
  ·show qd0 s (false,d) ((d.1.length:Nat):Int) (mix (d.1.map fun v=>movV v s.2.2.1) d.1 d.1.length) d.2.1 d.2.2.1 d.2.2.2=_
   unfold qd0;have hm:(d.1.map fun v=>movV v s.2.2.1).length=d.1.length:=z51 ..
   rw[dec_f (show ¬((d.1.length:Nat):Int)<(d.1.length:Int) by omega),mix_n hm rfl]; rfl
end
section
variable {n:Net}
theorem rgk1(v:Int):(bif decide (v < -1000) then some true else some (decide (1000<v)))=some (!rg (-1000) 1000 v):=by
 unfold rg; rw[notlt v (-1000),notlt 1000 v];cases decide (-1000<=v) <;> cases decide (v<=1000) <;> rfl
theorem rgk4{A:Type}(v:Int)(x:A):(bif decide (v < -1000) then some (true,x) else some (decide (1000<v),x))=some (!rg (-1000) 1000 v,x):=by
 unfold rg; rw[notlt v (-1000),notlt 1000 v];cases decide (-1000<=v) <;> cases decide (v<=1000) <;> rfl
theorem qAT{d:Dk}(hd:VDk n d)(s:Stp):inner (chgS n d s) (qkz n s d.1 d.2.1 d.2.2.1 d.2.2.2):=by
 unfold chgS qkz;rw[rgk4,z7];simp only;cases hr:rg (-1000) 1000 s.2.2.1 with
 | false=>exact⟨_,rfl,rfl,fun e=>by cases e⟩
 | true=>
  have hv:=qhK.1 hr;simp only[zg,zb];rw[wi (by omega),qba,show((s.2.2.2.1,s.2.2.2.2.1,s.2.2.2.2.2.1,max s.2.2.1 (0-s.2.2.1)):Pth)=absP s from rfl,qCm hd.net,z7]
  cases hp:pathB n (absP s) with
  | false=>exact⟨_,rfl,rfl,fun e=>by cases e⟩
  | true=>
   have hx:=VPa.of hp;simp only[zg,zb];rw[show((d.1,d.2.1,d.2.2.1,d.2.2.2):Dk)=d from rfl,qCq hd hx hv,z7]
   cases hg:growB n d (absP s) s.2.2.1 with
   | false=>exact⟨_,rfl,rfl,fun e=>by cases e⟩
   | true=>
    simp only[zg,zb];rw[qD7 hv hd.rate hd.prate hx hd.sz.1 hd.sz.2.1,z7];simp only;rw[show(((growP (absP s) s.2.2.1 d.2).1,(growP (absP s) s.2.2.1 d.2).2.1,(growP (absP s) s.2.2.1 d.2).2.2):Pl)=growP (absP s) s.2.2.1 d.2 from rfl,qji,z7]
    by_cases hc:qa0 n (growP (absP s) s.2.2.1 d.2)=0
    ·rw[dec_t hc,if_neg (fun e=>e hc),zg,zb,qx6 hc,z7]
     cases idleB n (growP (absP s) s.2.2.1 d.2) with
     | true=>exact⟨_,rfl,rfl,fun e=>by cases e⟩
     | false=>exact⟨_,rfl,rfl,fun _=>rfl⟩
    ·rw[dec_f hc,if_pos hc];exact⟨_,rfl,rfl,fun e=>absurd e hc⟩
theorem qAU{d:Dk}(hd:VDk n d){x:Pth}(hx:VPa n x):qkP n d x=some (qqH n d x):=by
 have hn:=(VNet.of hd.net).small;have m1:=hn.sg;have m2:=hn.po;have hl:=hd.len;have hi:=hx.i;have ho:=hx.o;have h3:=hx.hl;unfold qkP;rw[wi (by omega),wi (by omega)]
 have e1:=qbl (step:=fun y:Int×List Int=>qc2 x y.1 y.2) (e:=[(n.2.1.length:Int)+x.1,(n.2.1.length:Int)+x.2.1]++x.2.2.1.map (·.1)) x.2.2.1.length (fun i=>((i:Int),[(n.2.1.length:Int)+x.1,(n.2.1.length:Int)+x.2.1]++(x.2.2.1.take i).map (·.1))) (fun i hi'=>?_) ?_
 ·have e1:iter (fun y=>qc2 x y.1 y.2) ((0:Int),[(n.2.1.length:Int)+x.1,(n.2.1.length:Int)+x.2.1])=some ([(n.2.1.length:Int)+x.1,(n.2.1.length:Int)+x.2.1]++x.2.2.1.map (·.1)):=e1
  rw[e1,z7];have hlen:([(n.2.1.length:Int)+x.1,(n.2.1.length:Int)+x.2.1]++x.2.2.1.map (·.1)).length=2+x.2.2.1.length:=by simp; omega
  have hin:∀k∈[(n.2.1.length:Int)+x.1,(n.2.1.length:Int)+x.2.1]++x.2.2.1.map (·.1),0<=k/\k<(d.1.length:Int):=by
   intro k hk;simp only[zh1,zC,zr,zV] at hk;rcases hk with rfl | rfl | ⟨h,hh,rfl⟩
   ·omega
   ·omega
   ·have:=hx.h h hh; omega
  have hall:([(n.2.1.length:Int)+x.1,(n.2.1.length:Int)+x.2.1]++x.2.2.1.map (·.1)).all (fun k=>qcp (d.1.getD k.toNat v0))=qqH n d x:=by
   unfold qqH;simp only[zh1,zC,z31,List.all_map];rw[show(((n.2.1.length:Int)+x.1).toNat)=n.2.1.length+x.1.toNat by omega,show(((n.2.1.length:Int)+x.2.1).toNat)=n.2.1.length+x.2.1.toNat by omega]; rfl
  generalize hL:[(n.2.1.length:Int)+x.1,(n.2.1.length:Int)+x.2.1]++x.2.2.1.map (·.1)=L at hlen hin hall;have key:∀i,i<L.length->(gd (inB (i:Int) L.length) (gd (inB (L.getD i 0) d.1.length) ((qj1 (d.1.getD (L.getD i 0).toNat (0,0,false,false))).bind fun r=>
    bif !r then some (true,L) else gd (inB (i:Int) L.length) (gd (inB (L.getD i 0) d.1.length) (some ((!((((d.1.getD (L.getD i 0).toNat (0,(0,(false,false)))).2).2).1)),L))))):Option (Bool×List Int))=some (!qcp (d.1.getD (L.getD i 0).toNat v0),L):=by
   intro i hi';have hk:=hin _ (qbc (d:=0) hi');have hB:inB (L.getD i 0) d.1.length=true:=qae.2 hk;rw[gd_t (inB_t hi'),gd_t (inB_t hi'),gd_t hB,gd_t hB,show(d.1.getD (L.getD i 0).toNat (0,0,false,false))=d.1.getD (L.getD i 0).toNat v0 from rfl,quN,z7]
   unfold qcp;cases(qca (d.1.getD (L.getD i 0).toNat v0)) <;> cases(decide ((d.1.getD (L.getD i 0).toNat v0).2.1=(d.1.getD (L.getD i 0).toNat v0).1)) <;> rfl
  have e2:=qbt (step:=fun y:Int×List Int=>qbK d y.1 y.2) L.length (fun i=>((i:Int),L)) (fun i=>qcp (d.1.getD (L.getD i 0).toNat v0)) (fin:=.inl ()) (bad:=.inr false) (fun i hi' _ hq=>?_) (fun i hi' _ hq=>?_) (fun _=>?_)
  ·have e2:iter (fun y=>qbK d y.1 y.2) ((0:Int),L)=some (bif (List.range L.length).all fun i=>qcp (d.1.getD (L.getD i 0).toNat v0) then .inl () else .inr false):=e2
   rw[e2,z7,qsw L 0 (fun k=>qcp (d.1.getD k.toNat v0)),hall]
   cases qqH n d x <;> rfl
  ·show qbK d (i:Int) L=_;unfold qbK;rw[dec_t (show(i:Int)<(L.length:Int) by omega),za,z9,key i hi',hq,w1 hi' (by omega)]; rfl
  ·show qbK d (i:Int) L=_;unfold qbK;rw[dec_t (show(i:Int)<(L.length:Int) by omega),za,z9,key i hi',hq]; rfl
  ·show qbK d ((L.length:Nat):Int) L=_;unfold qbK;rw[dec_f (by omega)]; rfl
 ·show qc2 x (i:Int) ([(n.2.1.length:Int)+x.1,(n.2.1.length:Int)+x.2.1]++(x.2.2.1.take i).map (·.1))=some (.inl (((i+1:Nat):Int),[(n.2.1.length:Int)+x.1,(n.2.1.length:Int)+x.2.1]++(x.2.2.1.take (i+1)).map (·.1)));unfold qc2;rw[dec_t (show(i:Int)<(x.2.2.1.length:Int) by omega),za,gd_t (inB_t hi'),gd_t (qav (by rw[zd,z51,zo]; simp only[zf,zx]; omega)),z9,w1 hi' (by omega),qez (0,false) hi',zL1,zp]; rfl
 ·show qc2 x ((x.2.2.1.length:Nat):Int) ([(n.2.1.length:Int)+x.1,(n.2.1.length:Int)+x.2.1]++(x.2.2.1.take x.2.2.1.length).map (·.1))=_;unfold qc2;rw[dec_f (by omega),z02]; rfl
theorem qCx{d:Dk}(hd:VDk n d){x:Pth}(hx:VPa n x){s:Stp}(hv : -1000<=s.2.2.1/\s.2.2.1<=1000)(q:List Int)(b:List Bool):
  iter (fun x5=>qci d s x5.1 x5.2.1 x5.2.2.1 x5.2.2.2.1 x5.2.2.2.2.1 x5.2.2.2.2.2.1 x5.2.2.2.2.2.2.1 x5.2.2.2.2.2.2.2.1 x5.2.2.2.2.2.2.2.2.1 x5.2.2.2.2.2.2.2.2.2) (0,[],[],[],[],x.2.2.1,d.1,d.2.1,q,b)=
   some (bif x.2.2.1.all (hpOk d.2 s.2.2.1) then .inl ([],[],[],[],d.1,growR x.2.2.1 s.2.2.1 d.2.1,q,b) else .inr (22,d)):=by
 have h3:=hx.hl;have hz:=hd.sz;have:=qbt (step:=fun x5:Int×List Vl×List Int×List Int×List Bool×List Hop×List Vl×List Int×List Int×List Bool=>qci d s x5.1 x5.2.1 x5.2.2.1 x5.2.2.2.1 x5.2.2.2.2.1 x5.2.2.2.2.2.1 x5.2.2.2.2.2.2.1 x5.2.2.2.2.2.2.2.1 x5.2.2.2.2.2.2.2.2.1 x5.2.2.2.2.2.2.2.2.2) x.2.2.1.length (fun i=>((i:Int),[],[],[],[],x.2.2.1,d.1,growR (x.2.2.1.take i) s.2.2.1 d.2.1,q,b)) (fun i=>hpOk d.2 s.2.2.1 (x.2.2.1.getD i (0,false)))
  (fin:=.inl ([],[],[],[],d.1,growR x.2.2.1 s.2.2.1 d.2.1,q,b)) (bad:=.inr (22,d)) (fun i hi _ hq=>?_) (fun i hi _ hq=>?_) (fun _=>?_)
 ·rw[qsw x.2.2.1 (0,false) (hpOk d.2 s.2.2.1)] at this;exact this
 ·show qci d s (i:Int) [] [] [] [] x.2.2.1 d.1 (growR (x.2.2.1.take i) s.2.2.1 d.2.1) q b=some (.inl (((i+1:Nat):Int),[],[],[],[],x.2.2.1,d.1,growR (x.2.2.1.take (i+1)) s.2.2.1 d.2.1,q,b));have hh:=hx.h _ (qbc (d:=(0,false)) hi);have hr:=hd.rate (x.2.2.1.getD i (0,false)).1.toNat;have hA:inB (x.2.2.1.getD i (0,false)).1 d.2.1.length=true:=qae.2 (by omega)
  have hC:inB (x.2.2.1.getD i (0,false)).1 (growR (x.2.2.1.take i) s.2.2.1 d.2.1).length=true:=qae.2 (by rw[qsC]; omega)
  have hg:(growR (x.2.2.1.take i) s.2.2.1 d.2.1).getD (x.2.2.1.getD i (0,false)).1.toNat 0=d.2.1.getD (x.2.2.1.getD i (0,false)).1.toNat 0:=qot _ _ _ fun h hm=>by
   obtain⟨j,hj,rfl⟩:=qoR (0,false) hm;rw[zo] at hj;rw[qwU,if_pos (by omega)]
   have:=hx.d j i (by omega) hi
   have:=hx.h _ (qbc (d:=(0,false)) (show j<x.2.2.1.length by omega))
   omega
  unfold qci;rw[dec_t (show(i:Int)<(x.2.2.1.length:Int) by omega),za,gd_t (inB_t hi),z9]
  unfold hpOk along at hq;rw[z8,zz,zz] at hq;rw[qtC hi,hg];unfold sgn;cases hb:(x.2.2.1.getD i (0,false)).2 with
  | true=>
   rw[hb,if_pos rfl] at hq;simp only[za,z7,gd_t hA,if_true];rw[wi (by omega),wi (by omega),dec_f (show ¬ -1*d.2.1.getD (x.2.2.1.getD i (0,false)).1.toNat 0<0 by omega),dec_f (show ¬ -1*d.2.1.getD (x.2.2.1.getD i (0,false)).1.toNat 0+s.2.2.1<0 by omega),zb,z7]
   simp only[zb];rw[gd_t hC,w1 hi (by omega),wi (by omega),show -1*(-1*d.2.1.getD (x.2.2.1.getD i (0,false)).1.toNat 0+s.2.2.1)=d.2.1.getD (x.2.2.1.getD i (0,false)).1.toNat 0+(0-s.2.2.1) by omega]
  | false=>
   rw[hb,if_neg (by simp)] at hq
   simp only[zb,z7,gd_t hA];rw[wi (by omega),wi (by omega),dec_f (show ¬1*d.2.1.getD (x.2.2.1.getD i (0,false)).1.toNat 0<0 by omega),dec_f (show ¬1*d.2.1.getD (x.2.2.1.getD i (0,false)).1.toNat 0+s.2.2.1<0 by omega),zb,z7]
   simp only[zb];rw[gd_t hC,w1 hi (by omega),wi (by omega),if_neg (by simp),show 1*(1*d.2.1.getD (x.2.2.1.getD i (0,false)).1.toNat 0+s.2.2.1)=d.2.1.getD (x.2.2.1.getD i (0,false)).1.toNat 0+s.2.2.1 by omega]
 ·show qci d s (i:Int) [] [] [] [] x.2.2.1 d.1 (growR (x.2.2.1.take i) s.2.2.1 d.2.1) q b=some (.inr (.inr (22,d)));have hh:=hx.h _ (qbc (d:=(0,false)) hi);have hr:=hd.rate (x.2.2.1.getD i (0,false)).1.toNat;have hA:inB (x.2.2.1.getD i (0,false)).1 d.2.1.length=true:=qae.2 (by omega)
  unfold qci;rw[dec_t (show(i:Int)<(x.2.2.1.length:Int) by omega),za,gd_t (inB_t hi),z9]
  unfold hpOk along at hq;rw[Bool.and_eq_false_iff,z72,z72] at hq;cases hb:(x.2.2.1.getD i (0,false)).2 with
  | true=>
   rw[hb,if_pos rfl] at hq;simp only[za,z7,gd_t hA];rw[wi (by omega),wi (by omega)]
   by_cases h0 : -1*d.2.1.getD (x.2.2.1.getD i (0,false)).1.toNat 0<0
   ·rw[dec_t h0]; rfl
   ·rw[dec_f h0,dec_t (show -1*d.2.1.getD (x.2.2.1.getD i (0,false)).1.toNat 0+s.2.2.1<0 by omega)]; rfl
  | false=>
   rw[hb,if_neg (by simp)] at hq
   simp only[zb,z7,gd_t hA];rw[wi (by omega),wi (by omega)]
   by_cases h0:1*d.2.1.getD (x.2.2.1.getD i (0,false)).1.toNat 0<0
   ·rw[dec_t h0]; rfl
   ·rw[dec_f h0,dec_t (show 1*d.2.1.getD (x.2.2.1.getD i (0,false)).1.toNat 0+s.2.2.1<0 by omega)]; rfl
 ·show qci d s ((x.2.2.1.length:Nat):Int) [] [] [] [] x.2.2.1 d.1 (growR (x.2.2.1.take x.2.2.1.length) s.2.2.1 d.2.1) q b=_;unfold qci;rw[dec_f (by omega),z02]; rfl
end
section
variable {n:Net}
theorem qya(x:Pth)(h:x.2.2.1.length<=100000):qjY x=some (x.1,x.2.1,x.2.2.2,x.2.2.1):=by
 unfold qjY;rw[gd_t (qav (by omega))]; rfl
theorem qCy{d:Dk}(hd:VDk n d){x:Pth}(hx:VPa n x){v:Int}(hv : -1000<=v/\v<=1000){A:Type}(X:A):
  (bif decide ((growQ x v d.2.2.1).getD x.1.toNat 0<0) then some (true,X) else
   (bif decide (0<(growQ x v d.2.2.1).getD x.2.1.toNat 0) then some (true,X) else
    (bif decide (d.2.2.1.getD x.1.toNat 0<0) then some (true,X) else some (decide (0<d.2.2.1.getD x.2.1.toNat 0),X))))=some (!ptOk d.2 x v,X):=by
 have hz:=hd.sz;have hi:=hx.i;have ho:=hx.o;have hne:=hx.ne;have e1:(growQ x v d.2.2.1).getD x.1.toNat 0=d.2.2.1.getD x.1.toNat 0+v:=by
  unfold growQ;rw[qhC,if_neg (by omega),qhC,if_pos (by omega)]
 have e2:(growQ x v d.2.2.1).getD x.2.1.toNat 0=d.2.2.1.getD x.2.1.toNat 0-v:=by
  unfold growQ;rw[qhC,if_pos (by rw[zS]; omega),qhC,if_neg (by omega)]
 rw[e1,e2];unfold ptOk;by_cases a:d.2.2.1.getD x.1.toNat 0+v<0
 ·rw[dec_t a,dec_f (show ¬0<=d.2.2.1.getD x.1.toNat 0+v by omega)]; simp
 ·rw[dec_f a,dec_t (show 0<=d.2.2.1.getD x.1.toNat 0+v by omega),zb]
  by_cases b:0<d.2.2.1.getD x.2.1.toNat 0-v
  ·rw[dec_t b,dec_f (show ¬0<=0-d.2.2.1.getD x.2.1.toNat 0+v by omega)]; simp
  ·rw[dec_f b,dec_t (show 0<=0-d.2.2.1.getD x.2.1.toNat 0+v by omega),zb]
   by_cases c:d.2.2.1.getD x.1.toNat 0<0
   ·rw[dec_t c,dec_f (show ¬0<=d.2.2.1.getD x.1.toNat 0 by omega)]; rfl
   ·rw[dec_f c,dec_t (show 0<=d.2.2.1.getD x.1.toNat 0 by omega),zb]
    by_cases e:0<d.2.2.1.getD x.2.1.toNat 0
    ·rw[dec_t e,dec_f (show ¬0<=0-d.2.2.1.getD x.2.1.toNat 0 by omega)]; rfl
    ·rw[dec_f e,dec_t (show 0<=0-d.2.2.1.getD x.2.1.toNat 0 by omega)]; rfl
theorem qCz{d:Dk}(hd:VDk n d)(s:Stp)(hs:s.2.2.2.2.2.1.length<=100000):qm8 n d s=some (chgS n d s):=by
 unfold chgS qm8;rw[rgk1,z7];cases hr:rg (-1000) 1000 s.2.2.1 with
 | false=>rfl
 | true=>
  have hv:=qhK.1 hr;simp only[zg,zb];rw[show((s.2.2.2.1,s.2.2.2.2.1,s.2.2.2.2.2.1,s.2.2.2.2.2.2):Pth)=s.2.2.2 from rfl,qya _ hs,z7,wi (by omega)]
  simp only;rw[qba,show((s.2.2.2.1,s.2.2.2.2.1,s.2.2.2.2.2.1,max s.2.2.1 (0-s.2.2.1)):Pth)=absP s from rfl,qAP hd.net,z7]
  cases hp:pathB n (absP s) with
  | false=>rfl
  | true=>
   have hx:=VPa.of hp;have hi:=hx.i;have ho:=hx.o;have hz:=hd.sz;simp only[zg,zb];rw[show((d.1,d.2.1,d.2.2.1,d.2.2.2):Dk)=d from rfl,qpJ hd.small,z7,qAU hd hx,z7]
   unfold growB;cases hrd:qqH n d (absP s) with
   | false=>rfl
   | true=>
    simp only[zg,zb,zG];have b1:=hd.prate (absP s).1.toNat;have b2 : -2000<=(d.2.2.1.set (absP s).1.toNat (d.2.2.1.getD (absP s).1.toNat 0+s.2.2.1)).getD (absP s).2.1.toNat 0/\(d.2.2.1.set (absP s).1.toNat (d.2.2.1.getD (absP s).1.toNat 0+s.2.2.1)).getD (absP s).2.1.toNat 0<=2000:=by
     rw[qhC]; have:=hd.prate (absP s).2.1.toNat; split <;> omega
    have i1:s.2.2.2.1=(absP s).1:=rfl;have i2:s.2.2.2.2.1=(absP s).2.1:=rfl;have i3:s.2.2.2.2.2.1=(absP s).2.2.1:=rfl;rw[i1,i2,i3];have hB:inB (absP s).1 d.2.2.1.length=true:=qae.2 (by omega)
    have hC:inB (absP s).2.1 d.2.2.1.length=true:=qae.2 (by omega)
    rw[wi (show -9223372036854775808<=d.2.2.1.getD (absP s).1.toNat 0+s.2.2.1/\d.2.2.1.getD (absP s).1.toNat 0+s.2.2.1<=9223372036854775807 by omega),wi (by omega)]
    simp only[zS,gd_t hB,gd_t hC];rw[show((d.2.2.1.set (absP s).1.toNat (d.2.2.1.getD (absP s).1.toNat 0+s.2.2.1)).set (absP s).2.1.toNat ((d.2.2.1.set (absP s).1.toNat (d.2.2.1.getD (absP s).1.toNat 0+s.2.2.1)).getD (absP s).2.1.toNat 0-s.2.2.1))=growQ (absP s) s.2.2.1 d.2.2.1 from rfl,
     qCy hd hx hv,z7]
    simp only;cases hpo:ptOk d.2 (absP s) s.2.2.1 with
    | false=>rfl
    | true=>
     simp only[zg,zb,zG];rw[qCx hd hx hv,z7];cases hh:(absP s).2.2.1.all (hpOk d.2 s.2.2.1) with
     | false=>rfl
     | true=>
      simp only[za,zb1,zg,zb];rw[show((growR (absP s).2.2.1 s.2.2.1 d.2.1,growQ (absP s) s.2.2.1 d.2.2.1,d.2.2.2):Pl)=growP (absP s) s.2.2.1 d.2 from rfl,qnd,z7]
      by_cases hc:qa0 n (growP (absP s) s.2.2.1 d.2)=0
      ·rw[dec_t hc,if_neg (fun e=>e hc),zg,zb,qw8 hc,z7,zp2]
       cases idleB n (growP (absP s) s.2.2.1 d.2) <;> rfl
      ·rw[dec_f hc,if_pos hc]; rfl
theorem qh7{r:Dk×Int}{o:Option (Int×List Vl×List Int×List Int×List Bool)}(h:inner r o):inner r (o.bind fun y=>some (y.1,y.2.1,y.2.2.1,y.2.2.2.1,y.2.2.2.2)):=by
 obtain⟨y,e,h1,h2⟩:=h;exact⟨y,by rw[e]; rfl,h1,h2⟩
theorem qCA{d:Dk}(hd:VDk n d)(s:Stp):inner (stepS n d s) (qmZ n s d.1 d.2.1 d.2.2.1 d.2.2.2):=by
 unfold stepS qmZ;rw[show((s.1,s.2.1,s.2.2.1,s.2.2.2.1,s.2.2.2.2.1,s.2.2.2.2.2.1,s.2.2.2.2.2.2):Stp)=s from rfl,qCi,z7,qba]
 cases hb:qlu s with
 | false=>exact⟨_,rfl,rfl,fun e=>by cases e⟩
 | true=>
  simp only[zg,zb];by_cases k1:s.1=1
  ·rw[k1]; exact qh7 (qAS hd s)
  by_cases k2:s.1=2
  ·rw[k2]; exact qh7 (qAS hd s)
  by_cases k3:s.1=3
  ·rw[k3]; exact qh7 (qDt hd s)
  by_cases k4:s.1=4
  ·rw[k4]; exact qh7 (qDt hd s)
  by_cases k5:s.1=5
  ·rw[k5]; exact qh7 (qAT hd s)
  by_cases k6:s.1=6
  ·rw[k6]; exact qh7 (qEa hd s n)
  ·unfold qlu at hb;rw[dec_f k1,dec_f k2,dec_f k3,dec_f k4,dec_f k5,dec_f k6] at hb;cases hb
def Er(d:Dk)(r:Dk×Int):Prop:=r.2=0\/r.1=d
theorem Er.bif{d:Dk}{c:Bool}{x y:Dk×Int}(h:Er d x)(h':Er d y):Er d (bif c then x else y):=by cases c; exact h'; exact h
theorem Er.ite{d:Dk}{c:Prop}[Decidable c]{x y:Dk×Int}(h:Er d x)(h':Er d y):Er d (if c then x else y):=by split; exact h; exact h'
theorem qEb(d:Dk)(s:Stp):Er d (stepS n d s):=by
 unfold stepS turnS runS chgS waitS;have r:∀k,Er d (d,k):=fun k=>.inr rfl
 have z:∀x,Er d (x,0):=fun x=>.inl rfl
 exact .bif (r _) (.bif (.bif (r _) (.bif (r _) (z _))) (.bif (.bif (r _) (.bif (r _) (z _))) (.bif (.bif (r _) (.bif (r _) (.bif (r _) (.ite (r _) (.bif (r _) (z _)))))) (.bif (r _) (z _)))))
theorem qCB(d:Dk)(s:Stp)(h:(stepS n d s).2≠0):(stepS n d s).1=d:=(qEb d s).resolve_left h
theorem qCC{d:Dk}(hz:DkS d)(s:Stp):qm0 n d s=some ((appS n d s).2,(appS n d s).1):=by
 unfold qm0 appS;rw[qba,show((d.1,d.2.1,d.2.2.1,d.2.2.2):Dk)=d from rfl,qqG,z7,qAK hz,z7,z7]
 by_cases hc:qdq n d=0
 ·have hd:=VDk.of hc;rw[dec_t hc,if_neg (fun e=>e hc),zg,zb,show((s.1,s.2.1,s.2.2.1,s.2.2.2.1,s.2.2.2.2.1,s.2.2.2.2.2.1,s.2.2.2.2.2.2):Stp)=s from rfl]
  obtain⟨y,e,h1,h2⟩:=qCA hd s;rw[e,z7,h1];by_cases h0:(stepS n d s).2=0
  ·rw[dec_t h0,zg,zb];have:=h2 h0;rw[h0,this]
  ·rw[dec_f h0,zk1,za,z7];exact congrArg some (Prod.ext rfl (qCB d s h0).symm)
 ·rw[dec_f hc,if_pos hc]; rfl
theorem qCD{d:Dk}(hd:VDk n d)(s:Stp):(Option.bind (α:=Bool) (bif decide (s.2.2.1<1) then some true else some (decide (100<s.2.2.1))) fun s4=>
  bif s4 then some ((d.1,d.2.1,d.2.2.1,d.2.2.2),1) else(qep (d.1,d.2.1,d.2.2.1,d.2.2.2)).bind fun r6=>
   (iter (fun x5=>qcn s x5.1 x5.2.1 x5.2.2.1 x5.2.2.2.1 x5.2.2.2.2) (0,r6.1,r6.2.1,r6.2.2.1,r6.2.2.2)).bind fun s5=>some ((s5.1,s5.2.1,s5.2.2.1,s5.2.2.2),0))=some (waitS d s):=by
 unfold waitS;rw[rg1,z7];cases hr:rg 1 100 s.2.2.1 with
 | false=>rfl
 | true=>
  have ht:=qhK.1 hr;have hl:=hd.small.v;simp only[zg,zb];rw[show((d.1,d.2.1,d.2.2.1,d.2.2.2):Dk)=d from rfl,qpJ hd.small,z7]
  have:=qbl (step:=fun x:Int×List Vl×List Int×List Int×List Bool=>qcn s x.1 x.2.1 x.2.2.1 x.2.2.2.1 x.2.2.2.2) (e:=(d.1.map fun v=>movV v s.2.2.1,d.2)) d.1.length (fun i=>((i:Int),mix (d.1.map fun v=>movV v s.2.2.1) d.1 i,d.2)) (fun i hi=>?_) ?_
  ·have this:iter (fun x=>qcn s x.1 x.2.1 x.2.2.1 x.2.2.2.1 x.2.2.2.2) ((0:Int),mix (d.1.map fun v=>movV v s.2.2.1) d.1 0,d.2)=some (d.1.map fun v=>movV v s.2.2.1,d.2):=this
   rw[mix_0] at this;rw[show((0,d.1,d.2.1,d.2.2.1,d.2.2.2):Int×Dk)=(0,d.1,d.2) from rfl,this]; rfl
  ·show qcn s (i:Int) (mix (d.1.map fun v=>movV v s.2.2.1) d.1 i) d.2.1 d.2.2.1 d.2.2.2=_
   unfold qcn;have hm:(d.1.map fun v=>movV v s.2.2.1).length=d.1.length:=z51 ..
   have hg:(mix (d.1.map fun v=>movV v s.2.2.1) d.1 i).getD i (0,0,false,false)=d.1.getD i v0:=by rw[qxQ hm rfl,if_neg (by omega)]
   have hB:inB (i:Int) (mix (d.1.map fun v=>movV v s.2.2.1) d.1 i).length=true:=inB_t (by rw[qpV hm rfl]; exact hi)
   rw[dec_t (show(i:Int)<((mix (d.1.map fun v=>movV v s.2.2.1) d.1 i).length:Int) by rw[qpV hm rfl]; omega),za,gd_t hB,z9,hg,qCw (hd.val1 hi) ht,z7,gd_t hB,w1 hi (by omega),
    qAo hm rfl v0 hi (by rw[qlM _ _ _ v0 _ hi])]
  ·show qcn s ((d.1.length:Nat):Int) (mix (d.1.map fun v=>movV v s.2.2.1) d.1 d.1.length) d.2.1 d.2.2.1 d.2.2.2=_
   unfold qcn;have hm:(d.1.map fun v=>movV v s.2.2.1).length=d.1.length:=z51 ..
   rw[mix_n hm rfl,dec_f (show ¬((d.1.length:Nat):Int)<((d.1.map fun v=>movV v s.2.2.1).length:Int) by omega)]; rfl
theorem qAV{d:Dk}(s:Stp)(hs:s.2.2.2.2.2.1.length<=100000):qiL n d s=some (appS n d s):=by
 unfold qiL appS;rw[qba,show((s.1,s.2.1,s.2.2.1,s.2.2.2.1,s.2.2.2.2.1,s.2.2.2.2.2.1,s.2.2.2.2.2.2):Stp)=s from rfl,show((d.1,d.2.1,d.2.2.1,d.2.2.2):Dk)=d from rfl,qy3,z7]
 by_cases hc:qdq n d=0
 ·have hd:=VDk.of hc;rw[dec_t hc,if_neg (fun e=>e hc),zg,zb,qAM,z7]
  unfold stepS;cases hb:qlu s with
  | false=>rfl
  | true=>
   simp only[zg,zb];have e1:∀a b:Int,(bif decide (s.1=a) then some (decide (s.1=a)) else some (decide (s.1=b)))=some (decide (s.1=a) || decide (s.1=b)):=fun a b=>by cases decide (s.1=a) <;> rfl
   rw[e1,z7,e1,z7,qCr hd,qCs hd,qCz hd s hs,z7,z7,z7];cases(decide (s.1=1) || decide (s.1=2)) with
   | true=>rfl
   | false=>
    cases(decide (s.1=3) || decide (s.1=4)) with
    | true=>rfl
    | false=>
     cases decide (s.1=5) with
     | true=>rfl
     | false=>exact qCD hd s
 ·rw[dec_f hc,if_pos hc]; rfl
end
structure Ln(d e:Dk):Prop where
 v:e.1.length=d.1.length
 r:e.2.1.length=d.2.1.length
 p:e.2.2.1.length=d.2.2.1.length
 b:e.2.2.2.length=d.2.2.2.length
theorem Ln.refl(d:Dk):Ln d d:=⟨rfl,rfl,rfl,rfl⟩
theorem Ln.trans{a b c:Dk}(h:Ln a b)(h':Ln b c):Ln a c:=⟨h'.v.trans h.v,h'.r.trans h.r,h'.p.trans h.p,h'.b.trans h.b⟩
theorem Ln.bif{d:Dk}{c:Bool}{x y:Dk×Int}(h:Ln d x.1)(h':Ln d y.1):Ln d (bif c then x else y).1:=by cases c; exact h'; exact h
theorem Ln.ite{d:Dk}{c:Prop}[Decidable c]{x y:Dk×Int}(h:Ln d x.1)(h':Ln d y.1):Ln d (if c then x else y).1:=by split; exact h; exact h'
theorem DkS.ln{d e:Dk}(h:DkS d)(hl:Ln d e):DkS e:=⟨by rw[hl.v]; exact h.v,by rw[hl.r]; exact h.r,by rw[hl.p]; exact h.p,by rw[hl.b]; exact h.b⟩
abbrev s0:Stp:=(0,0,0,0,0,[],0)
section
variable {n:Net}
theorem qEc(d:Dk)(s:Stp):Ln d (stepS n d s).1:=by
 unfold stepS turnS runS chgS waitS;have r:∀k:Int,Ln d (d,k).1:=fun k=>.refl d
 exact .bif (r _) (.bif (.bif (r _) (.bif (r _) ⟨zS ..,rfl,rfl,rfl⟩)) (.bif (.bif (r _) (.bif (r _) ⟨rfl,rfl,rfl,zS ..⟩))
  (.bif (.bif (r _) (.bif (r _) (.bif (r _) (.ite (r _) (.bif (r _) ⟨rfl,qsC ..,qAQ ..,rfl⟩))))) (.bif (r _) ⟨z51 ..,rfl,rfl,rfl⟩))))
theorem qE4(d:Dk)(s:Stp):Ln d (appS n d s).1:=.ite (.refl d) (qEc d s)
def runL(n:Net):Dk->Int->List Stp->Dk×Int×Int
 | d,i,[]=>(d,i,0)
 | d,i,s::r=>if(appS n d s).2≠0 then(d,i,(appS n d s).2) else runL n (appS n d s).1 (i+1) r
def tk(s:Stp):Int:=bif decide (s.1=6)&&rg 1 100 s.2.2.1 then s.2.2.1 else 0
end
theorem sN{n:Int}{s:List Int}{p:Int}(h:SrcOk s p)(h1:1<=n)(h2:n<=4611686018427387904):Ok (qac n s p) fun q=>SrcOk q.2.1 q.2.2/\0<=q.1/\q.1<n:=
 (srcN h h1 h2).mono fun q hq=>⟨hq.1 ▸ hq.2.1,hq.2.2⟩
theorem sP{l s:List Int}{p:Int}(h:SrcOk s p)(h1:l≠[])(h2:l.length<=1000000):Ok (qaq l s p) fun q=>SrcOk q.2.1 q.2.2/\q.1∈l:=
 (srcP h h1 h2).mono fun q hq=>⟨hq.1 ▸ hq.2.1,hq.2.2⟩
theorem sR{lo hi:Int}{s:List Int}{p:Int}(h:SrcOk s p)(h0 : -1000000<=lo)(h1:lo<=hi)(h2:hi<=1000000):Ok (qa6 lo hi s p) fun q=>SrcOk q.2.1 q.2.2/\lo<=q.1/\q.1<=hi:=
 (srcR h h0 h1 h2).mono fun q hq=>⟨hq.1 ▸ hq.2.1,hq.2.2⟩
structure GN(n:Net):Prop where
 no:n.1.length<=24
 sg:n.2.1.length<=32
 p1:1<=n.2.2.1.length
 po:n.2.2.1.length<=24
 st:n.2.2.2.1.length<=12
 kn:KnP n
theorem GN.of{k:Nat}{n:Net}(h:NetP k n):GN n:=by
 have h6:=h.k6;have e:n.1.length=k:=by rw[h.nodes,qqc]
 refine⟨by omega,by have:=h.segs.len; omega,by have:=h.some'; omega,by have:=h.ports.len; omega,by have:=h.stats.len; omega,⟨fun i hi=>?_,fun i hi=>?_,fun i hi=>?_⟩⟩
 ·have:=h.segs.rng _ (qbc (d:=sg0) hi);exact⟨⟨this.f0,by rw[e]; exact this.f1⟩,this.t0,by rw[e]; exact this.t1⟩
 ·have:=h.ports.rng _ (qbc (d:=po0) hi);exact⟨this.1,by rw[e]; exact this.2.1⟩
 ·have:=h.stats.rng _ (qbc (d:=sta0) hi);exact⟨this.1,by rw[e]; exact this.2.1⟩
structure PlS(n:Net)(p:Pl):Prop where
 r:p.1.length=n.2.1.length
 q:p.2.1.length=n.2.2.1.length
 b:p.2.2.length=n.2.2.2.1.length
theorem PlS.small{n:Net}(hn:GN n){p:Pl}(h:PlS n p):p.1.length<=32/\p.2.1.length<=24/\p.2.2.length<=12:=by
 have:=h.r; have:=h.q; have:=h.b; have:=hn.sg; have:=hn.po; have:=hn.st; omega
theorem qE5{n:Net}(hn:GN n){p:Pl}(h:PlS n p):Ok (qi9 p) (PlS n):=by
 have hs:=h.small hn;unfold qi9;refine Ok.gd (qav (by omega)) ?_
 refine Ok.bind (Q:=fun q:List Int×List Bool=>q.1.length=p.1.length/\q.2.length=p.2.2.length) ?_ fun q hq=>?_
 ·refine Ok.loop (fun x:Int×List Int×List Bool=>x.1=(x.2.1.length:Int)/\x.2.1.length<=p.1.length/\x.2.2.length=p.2.2.length) (fun x=>p.1.length-x.2.1.length) ⟨rfl,by simp,by simp⟩ ?_
  rintro⟨v,a,b⟩ ⟨e,h1,h2⟩
  replace e:v=(a.length:Int):=e;subst e
  try simp only at h1 h2
  unfold qmj;refine Ok.bif (fun hc=>?_) fun hc=>?_
  ·have hc:=zj hc
   try simp only at hc
   refine Ok.gd (inB_t (by(try simp only); omega)) (Ok.gd (qav (by(try simp only); omega)) (.ret ⟨⟨?_,?_,h2⟩,?_⟩))
   ·simp only[zd,zf,zx]; rw[wi (by omega)]; omega
   ·simp only[zd,zf,zx]; omega
   ·simp only[zd,zf,zx]; omega
  ·have hc:=zQ hc
   try simp only at hc
   exact .ret ⟨by(try simp only); omega,h2⟩
 ·refine Ok.bind (Q:=fun z:List Int×List Int×List Bool=>z.1.length=p.1.length/\z.2.1.length=p.2.1.length/\z.2.2.length=p.2.2.length) ?_ fun z hz=>.ret ⟨hz.1.trans h.r,hz.2.1.trans h.q,hz.2.2.trans h.b⟩
  refine Ok.loop (fun x:Int×List Int×List Int×List Bool=>x.1=(x.2.2.1.length:Int)/\x.2.1.length=p.1.length/\x.2.2.1.length<=p.2.1.length/\x.2.2.2.length=p.2.2.length) (fun x=>p.2.1.length-x.2.2.1.length) ⟨rfl,hq.1,by simp,hq.2⟩ ?_
  rintro⟨v,a,c,b⟩ ⟨e,h0,h1,h2⟩
  replace e:v=(c.length:Int):=e;subst e
  try simp only at h0 h1 h2
  unfold qmk;refine Ok.bif (fun hc=>?_) fun hc=>?_
  ·have hc:=zj hc
   try simp only at hc
   refine Ok.gd (inB_t (by(try simp only); omega)) (Ok.gd (qav (by(try simp only); omega)) (.ret ⟨⟨?_,h0,?_,h2⟩,?_⟩))
   ·simp only[zd,zf,zx]; rw[wi (by omega)]; omega
   ·simp only[zd,zf,zx]; omega
   ·simp only[zd,zf,zx]; omega
  ·have hc:=zQ hc
   try simp only at hc
   exact .ret ⟨h0,by(try simp only); omega,h2⟩
section
variable {n:Net}
theorem plan3(hn:GN n){r4 r6:Int×List Int×Int}{at':Int}{s:List Int}{q:Int}(h:SrcOk s q){way p1 p2:List Int}{p3:List Bool}(hp:PlS n (p1,p2,p3)){e0:Int}(he:e0<(n.2.2.1.length:Int)):
  Ok (iter (fun x2=>qfd n r4 r6 at' x2.1 x2.2.1 x2.2.2.1 x2.2.2.2.1 x2.2.2.2.2.1 x2.2.2.2.2.2.1 x2.2.2.2.2.2.2.1 x2.2.2.2.2.2.2.2) (e0,0,s,q,way,p1,p2,p3)) fun z=>z.1<(n.2.2.1.length:Int)/\SrcOk z.2.1 z.2.2.1/\z.2.2.2=(way,p1,p2,p3):=by
 have hq:=hp.q;simp only at hq;have hpo:=hn.po;refine Ok.loop (fun x:Int×Int×List Int×Int×List Int×List Int×List Int×List Bool=>x.1<(n.2.2.1.length:Int)/\(∃k:Nat,x.2.1=(k:Int)/\k<=n.2.2.1.length)/\SrcOk x.2.2.1 x.2.2.2.1/\x.2.2.2.2=(way,p1,p2,p3)) (fun x=>n.2.2.1.length-x.2.1.toNat) ⟨he,⟨0,rfl,by omega⟩,h,rfl⟩ ?_
 rintro⟨e,v,s',q',w⟩ ⟨h1,⟨k,hk,hk2⟩,h3,h4⟩
 replace hk:v=(k:Int):=hk;replace h4:w=(way,p1,p2,p3):=h4;subst hk h4;replace h1:e<(n.2.2.1.length:Int):=h1;replace h3:SrcOk s' q':=h3;show Ok (qfd n r4 r6 at' e (k:Int) s' q' way p1 p2 p3) _;unfold qfd;refine Ok.bif (fun hc=>?_) fun hc=>?_
 ·have hc:=zj hc;have hk':k<n.2.2.1.length:=by omega
  have hB:inB (k:Int) p2.length=true:=inB_t (by omega)
  refine Ok.gd (inB_t hk') ?_
  refine Ok.bind (Q:=fun z:Bool×List Int×Int×List Int×List Int×List Int×List Bool=>SrcOk z.2.1 z.2.2.1/\z.2.2.2=(way,p1,p2,p3)) ?_ ?_
  ·have z:∀b:Bool,Ok (some (b,s',q',way,p1,p2,p3)) fun z:Bool×List Int×Int×List Int×List Int×List Int×List Bool=>SrcOk z.2.1 z.2.2.1/\z.2.2.2=(way,p1,p2,p3):=fun b=>.ret ⟨h3,rfl⟩
   refine Ok.bif (fun _=>Ok.bif (fun _=>Ok.gd hB (Ok.bif (fun _=>Ok.gd hB (Ok.bif (fun _=>Ok.bif (fun _=>?_) fun _=>z _) fun _=>z _)) fun _=>z _)) fun _=>z _) fun _=>z _
   exact Ok.bind (sN h3 (n:=2) (by omega) (by omega)) fun r hr=>.ret ⟨hr.1,rfl⟩
  ·rintro⟨b,s2,q2,w2⟩ ⟨hs,hw⟩
   replace hw:w2=(way,p1,p2,p3):=hw;subst hw;refine Ok.bind (Q:=fun z:Int×List Int×List Int×List Int×List Bool=>z.1<(n.2.2.1.length:Int)/\z.2=(way,p1,p2,p3)) (Ok.bif (fun _=>.ret ⟨hc,rfl⟩) fun _=>.ret ⟨h1,rfl⟩) ?_
   rintro⟨e2,w3⟩ ⟨he2,hw⟩
   replace hw:w3=(way,p1,p2,p3):=hw;subst hw;rw[w1 hk' (by omega)]
   exact .ret ⟨⟨he2,⟨k+1,rfl,by omega⟩,hs,rfl⟩,by simp only[z9]; omega⟩
 ·exact .ret ⟨h1,h3,rfl⟩
def qpK(n:Net)(l:List Int):Prop:=∀x∈l,0<=x/\x<(n.2.1.length:Int)
theorem qpK.more{l:List Int}(h:qpK n l){x:Int}(hx:0<=x/\x<(n.2.1.length:Int)):qpK n (l++[x]):=fun y hy=>by
 rcases zA.1 hy with hy | hy
 ·exact h y hy
 ·rw[zO.1 hy]; exact hx
def other(n:Net)(x a:Int):Int:=(n.2.1.getD x.toNat sg0).2.1+(n.2.1.getD x.toNat sg0).2.2.1-a
theorem plan4(hn:GN n){r6:Int×List Int×Int}{a:Int}(ha:0<=a/\a<n.1.length){way p1 p2:List Int}{p3:List Bool}(hp:PlS n (p1,p2,p3)):
  Ok (iter (fun x3=>qfe n r6 a x3.1 x3.2.1 x3.2.2.1 x3.2.2.2.1 x3.2.2.2.2.1 x3.2.2.2.2.2) (0,way,[],p1,p2,p3)) fun z=>z.1=way/\z.2.1.length<=32/\qpK n z.2.1/\(∀x∈z.2.1,a<other n x a/\((n.2.1.getD x.toNat sg0).2.1=a\/(n.2.1.getD x.toNat sg0).2.2.1=a))/\z.2.2=(p1,p2,p3):=by
 have hr:=hp.r;simp only at hr;have hsg:=hn.sg;have hno:=hn.no;refine Ok.loop (fun x:Int×List Int×List Int×List Int×List Int×List Bool=>(∃k:Nat,x.1=(k:Int)/\k<=n.2.1.length/\x.2.2.1.length<=k)/\x.2.1=way/\qpK n x.2.2.1/\(∀y∈x.2.2.1,a<other n y a/\((n.2.1.getD y.toNat sg0).2.1=a\/(n.2.1.getD y.toNat sg0).2.2.1=a))/\x.2.2.2=(p1,p2,p3)) (fun x=>n.2.1.length-x.1.toNat) ⟨⟨0,rfl,by omega,by simp⟩,rfl,fun x hx=>(by cases hx),fun x hx=>(by cases hx),rfl⟩ ?_
 rintro⟨v,w,o,ps⟩ ⟨⟨k,hk,hk2,hk3⟩,h1,h2,h3,h4⟩
 replace hk:v=(k:Int):=hk;replace h1:w=way:=h1;replace h4:ps=(p1,p2,p3):=h4;subst hk h1 h4;simp only at hk3 h2 h3;show Ok (qfe n r6 a (k:Int) w o p1 p2 p3) _;unfold qfe;refine Ok.bif (fun hc=>?_) fun hc=>?_
 ·have hc:=zj hc;have hk':k<n.2.1.length:=by omega
  have hkn:=hn.kn.s k hk';refine Ok.gd (inB_t hk') ?_
  have hw:wi64 (wi64 ((n.2.1.getD k sg0).2.1+(n.2.1.getD k sg0).2.2.1)-a)=(n.2.1.getD k sg0).2.1+(n.2.1.getD k sg0).2.2.1-a:=by
   rw[wi (show -9223372036854775808<=(n.2.1.getD k sg0).2.1+(n.2.1.getD k sg0).2.2.1/\(n.2.1.getD k sg0).2.1+(n.2.1.getD k sg0).2.2.1<=9223372036854775807 by omega),wi (by omega)]
  rw[z9,show(n.2.1.getD k ([],0,0,0,0,0,[]))=n.2.1.getD k sg0 from rfl,hw]
  refine Ok.bind (Q:=fun z:Bool×List Int×List Int×List Int×List Int×List Bool=>(z.1=true->a<other n (k:Int) a/\((n.2.1.getD (k:Int).toNat sg0).2.1=a\/(n.2.1.getD (k:Int).toNat sg0).2.2.1=a))/\z.2=(w,o,p1,p2,p3)) ?_ ?_
  ·have z:Ok (some (false,w,o,p1,p2,p3)) fun z:Bool×List Int×List Int×List Int×List Int×List Bool=>(z.1=true->a<other n (k:Int) a/\((n.2.1.getD (k:Int).toNat sg0).2.1=a\/(n.2.1.getD (k:Int).toNat sg0).2.2.1=a))/\z.2=(w,o,p1,p2,p3):=.ret ⟨fun h=>(by cases h),rfl⟩
   have hB:inB (k:Int) p1.length=true:=inB_t (by omega)
   refine Ok.bif (fun ha1=>Ok.bif (fun ha2=>Ok.gd hB ?_) fun _=>z) fun _=>Ok.bif (fun ha1=>Ok.bif (fun ha2=>Ok.gd hB ?_) fun _=>z) fun _=>z
   ·exact Ok.eq (a:=max (p1.getD k 0) (wi64 (0-p1.getD k 0))) rfl (.ret ⟨fun _=>⟨by have:=zj ha2; unfold other; rw[z9]; exact this,.inl (by rw[z9]; exact zj ha1)⟩,rfl⟩)
   ·exact Ok.eq (a:=max (p1.getD k 0) (wi64 (0-p1.getD k 0))) rfl (.ret ⟨fun _=>⟨by have:=zj ha2; unfold other; rw[z9]; exact this,.inr (by rw[z9]; exact zj ha1)⟩,rfl⟩)
  ·rintro⟨b,w2⟩ ⟨hb,hw⟩
   replace hw:w2=(w,o,p1,p2,p3):=hw;subst hw;refine Ok.bind (Q:=fun z:List Int×List Int×List Int×List Int×List Bool=>z.1=w/\z.2.1.length<=k+1/\qpK n z.2.1/\(∀y∈z.2.1,a<other n y a/\((n.2.1.getD y.toNat sg0).2.1=a\/(n.2.1.getD y.toNat sg0).2.2.1=a))/\z.2.2=(p1,p2,p3)) ?_ ?_
   ·refine Ok.bif (fun hbt=>Ok.gd (qav (by(try simp only); omega)) (.ret ⟨rfl,?_,h2.more (by omega),fun y hy=>?_,rfl⟩)) fun _=>.ret ⟨rfl,by(try simp only); omega,h2,h3,rfl⟩
    ·simp only[zd,zf,zx]; omega
    ·rcases zA.1 hy with hy | hy
     ·exact h3 y hy
     ·rw[zO.1 hy]; exact hb hbt
   ·rintro⟨w3,o3,ps3⟩ ⟨e1,e2,e3,e4,e5⟩
    replace e1:w3=w:=e1;replace e5:ps3=(p1,p2,p3):=e5;subst e1 e5;rw[w1 hk' (by omega)]
    exact .ret ⟨⟨⟨k+1,rfl,by omega,e2⟩,rfl,e3,e4,rfl⟩,by simp only[z9]; omega⟩
 ·exact .ret ⟨rfl,by(try simp only); omega,h2,h3,rfl⟩
theorem plan2(hn:GN n){r4 r6:Int×List Int×Int}{a:Int}(ha:0<=a/\a<n.1.length){s:List Int}{q:Int}(h:SrcOk s q){p1 p2:List Int}{p3:List Bool}(hp:PlS n (p1,p2,p3)):
  Ok (iter (fun x4=>qff n r4 r6 x4.1 x4.2.1 x4.2.2.1 x4.2.2.2.1 x4.2.2.2.2.1 x4.2.2.2.2.2.1 x4.2.2.2.2.2.2.1 x4.2.2.2.2.2.2.2) (a,-1,s,q,[],p1,p2,p3)) fun z=>z.1<(n.2.2.1.length:Int)/\SrcOk z.2.1 z.2.2.1/\z.2.2.2.1.length<=24/\qpK n z.2.2.2.1/\z.2.2.2.2=(p1,p2,p3):=by
 have hsg:=hn.sg;have hno:=hn.no;refine Ok.loop (fun x:Int×Int×List Int×Int×List Int×List Int×List Int×List Bool=>(∃k:Nat,x.1=(k:Int)/\k<n.1.length/\x.2.2.2.2.1.length<=k)/\x.2.1<(n.2.2.1.length:Int)/\SrcOk x.2.2.1 x.2.2.2.1/\qpK n x.2.2.2.2.1/\x.2.2.2.2.2=(p1,p2,p3)) (fun x=>n.1.length-x.1.toNat) ⟨⟨a.toNat,by(try simp only); omega,by omega,by simp⟩,by have:=hn.p1; simp only; omega,h,fun x hx=>(by cases hx),rfl⟩ ?_
 rintro⟨v,e,s',q',w,ps⟩ ⟨⟨k,hk,hk2,hk3⟩,h1,h2,h3,h4⟩
 replace hk:v=(k:Int):=hk;replace h4:ps=(p1,p2,p3):=h4;subst hk h4;simp only at hk3 h1 h2 h3;show Ok (qff n r4 r6 (k:Int) e s' q' w p1 p2 p3) _;unfold qff;refine Ok.bif (fun hc=>?_) fun hc=>.ret ⟨h1,h2,by(try simp only); omega,h3,rfl⟩
 refine Ok.bind (plan3 hn (r4:=r4) (r6:=r6) (at':=(k:Int)) h2 (way:=w) hp h1) ?_
 rintro⟨e2,s2,q2,w2⟩ ⟨a1,a2,a3⟩
 replace a3:w2=(w,p1,p2,p3):=a3;subst a3;refine Ok.bif (fun hc2=>.ret ⟨a1,a2,by(try simp only); omega,h3,rfl⟩) fun hc2=>?_
 refine Ok.bind (plan4 hn (r6:=r6) (a:=(k:Int)) ⟨by omega,by omega⟩ (way:=w) hp) ?_
 rintro⟨w3,o,ps⟩ ⟨b1,b2,b3,b4,b5⟩
 replace b1:w3=w:=b1;replace b5:ps=(p1,p2,p3):=b5;subst b1 b5;simp only at b2 b3 b4;refine Ok.bif (fun hc3=>.ret ⟨a1,a2,by(try simp only); omega,h3,rfl⟩) fun hc3=>?_
 have hc3:=zQ hc3;simp only at hc3;refine Ok.bind (sN a2 (n:=(o.length:Int)) (by omega) (by omega)) ?_
 rintro⟨r,s5,q5⟩ ⟨c1,c2,c3⟩
 simp only at c1 c2 c3;have hr:r.toNat<o.length:=by omega
 have hm:=qbc (d:=0) hr;have hx:=b3 _ hm;have hy:=b4 _ hm;have hB:inB (o.getD r.toNat 0) n.2.1.length=true:=qae.2 hx;refine Ok.gd (qae.2 (by(try simp only); omega)) (Ok.gd (qav (by(try simp only); omega)) (Ok.gd hB (Ok.gd hB ?_)))
 have hkn:=hn.kn.s (o.getD r.toNat 0).toNat (by omega)
 unfold other at hy;simp only;have hw:wi64 (wi64 ((n.2.1.getD (o.getD r.toNat 0).toNat sg0).2.1+(n.2.1.getD (o.getD r.toNat 0).toNat sg0).2.2.1)-(k:Int))=(n.2.1.getD (o.getD r.toNat 0).toNat sg0).2.1+(n.2.1.getD (o.getD r.toNat 0).toNat sg0).2.2.1-(k:Int):=by
  rw[wi (show -9223372036854775808<=(n.2.1.getD (o.getD r.toNat 0).toNat sg0).2.1+(n.2.1.getD (o.getD r.toNat 0).toNat sg0).2.2.1/\(n.2.1.getD (o.getD r.toNat 0).toNat sg0).2.1+(n.2.1.getD (o.getD r.toNat 0).toNat sg0).2.2.1<=9223372036854775807 by omega),wi (by omega)]
 rw[show(n.2.1.getD (o.getD r.toNat 0).toNat ([],0,0,0,0,0,[]))=n.2.1.getD (o.getD r.toNat 0).toNat sg0 from rfl,hw]
 refine .ret ⟨⟨⟨((n.2.1.getD (o.getD r.toNat 0).toNat sg0).2.1+(n.2.1.getD (o.getD r.toNat 0).toNat sg0).2.2.1-(k:Int)).toNat,by(try simp only); omega,by omega,?_⟩,a1,c1,h3.more hx,rfl⟩,by(try simp only); omega⟩
 simp only[zd,zf,zx]; omega
theorem plan5(hn:GN n){r6:Int×List Int×Int}{s19:Int×List Int×Int×List Int×List Int×List Int×List Bool}(h1:s19.2.2.2.1.length<=24)(h2:qpK n s19.2.2.2.1){p1 p2:List Int}{p3:List Bool}(hp:PlS n (p1,p2,p3)):
  Ok (iter (fun x5=>qfg n r6 s19 x5.1 x5.2.1 x5.2.2.1 x5.2.2.2.1 x5.2.2.2.2) (0,s19.2.2.2.1,p1,p2,p3)) (PlS n):=by
 refine Ok.loop (fun x:Int×List Int×List Int×List Int×List Bool=>(∃k:Nat,x.1=(k:Int)/\k<=s19.2.2.2.1.length)/\x.2.1=s19.2.2.2.1/\PlS n x.2.2) (fun x=>s19.2.2.2.1.length-x.1.toNat) ⟨⟨0,rfl,by omega⟩,rfl,hp⟩ ?_
 rintro⟨v,w,ps⟩ ⟨⟨k,hk,hk2⟩,h3,h4⟩
 replace hk:v=(k:Int):=hk;replace h3:w=s19.2.2.2.1:=h3;subst hk;obtain⟨q1,q2,q3⟩:=ps;replace h4:PlS n (q1,q2,q3):=h4;have hr:=h4.r;simp only at hr;show Ok (qfg n r6 s19 (k:Int) w q1 q2 q3) _;unfold qfg;refine Ok.bif (fun hc=>?_) fun hc=>.ret h4
 have hc:=zj hc;have hk':k<w.length:=by rw[h3]; omega
 have hm:=h2 _ (by rw[<-h3]; exact qbc (d:=0) hk')
 have hB:inB (w.getD k 0) n.2.1.length=true:=qae.2 hm;have hA:inB (w.getD k 0) q1.length=true:=qae.2 (by omega)
 refine Ok.gd (inB_t hk') ?_
 rw[z9];refine Ok.gd hB (Ok.gd hB ?_)
 refine Ok.bind (Q:=fun z:List Int×List Int×List Int×List Bool=>z.1=w/\PlS n z.2) (Ok.bif (fun _=>Ok.gd hA (Ok.gd hA (.ret ⟨rfl,⟨(zS ..).trans h4.r,h4.q,h4.b⟩⟩))) fun _=>Ok.gd hA (Ok.gd hA (.ret ⟨rfl,⟨(zS ..).trans h4.r,h4.q,h4.b⟩⟩))) ?_
 rintro⟨w2,z⟩ ⟨e,hz⟩
 rw[w1 (show k<24 by rw[h3] at hk'; omega) (by omega)]
 exact .ret ⟨⟨⟨k+1,rfl,by rw[<-h3]; omega⟩,Eq.trans e h3,hz⟩,by rw[h3] at hk'; simp only[z9]; omega⟩
theorem qEd(hn:GN n){s:List Int}{q:Int}(h:SrcOk s q):Ok (qh2 n s q) fun z=>SrcOk z.2.1 z.2.2/\PlS n z.1:=by
 have hsg:=hn.sg;have hpo:=hn.po;have hst:=hn.st;unfold qh2;refine Ok.gd (qhl (by omega)) (Ok.gd (qhl (by omega)) ?_)
 rw[z9,z9];refine Ok.bind (Q:=fun z:List Int×Int×List Int×List Int×List Bool=>SrcOk z.1 z.2.1/\PlS n z.2.2) ?_ ?_
 ·refine Ok.loop (fun x:Int×List Int×Int×List Int×List Int×List Bool=>x.1=(x.2.2.2.2.2.length:Int)/\SrcOk x.2.1 x.2.2.1/\x.2.2.2.1.length=n.2.1.length/\x.2.2.2.2.1.length=n.2.2.1.length/\x.2.2.2.2.2.length<=n.2.2.2.1.length) (fun x=>n.2.2.2.1.length-x.2.2.2.2.2.length) ⟨rfl,h,by simp,by simp,by simp⟩ ?_
  rintro⟨v,s',q',p1,p2,p3⟩ ⟨e,h1,h2,h3,h4⟩
  replace e:v=(p3.length:Int):=e;subst e;simp only at h1 h2 h3 h4;unfold qln;refine Ok.bif (fun hc=>?_) fun hc=>?_
  ·have hc:=zj hc
   try simp only at hc
   refine Ok.bind (sN h1 (n:=2) (by omega) (by omega)) ?_
   rintro⟨r,s2,q2⟩ ⟨c1,_⟩
   refine Ok.gd (qav (by(try simp only); omega)) (.ret ⟨⟨?_,c1,h2,h3,?_⟩,?_⟩)
   ·simp only[zd,zf,zx]; rw[wi (by omega)]; omega
   ·simp only[zd,zf,zx]; omega
   ·simp only[zd,zf,zx]; omega
  ·have hc:=zQ hc
   try simp only at hc
   exact .ret ⟨h1,⟨h2,h3,by(try simp only); omega⟩⟩
 rintro⟨s1,q1,ps⟩ ⟨h,hp⟩
 simp only at h hp;refine Ok.bind (sN h (n:=3) (by omega) (by omega)) ?_
 rintro⟨r2,s2,q2⟩ ⟨h,_⟩
 simp only at h;refine Ok.bind (sN h (n:=5) (by omega) (by omega)) ?_
 rintro⟨r3,s3,q3⟩ ⟨h,h30,h31⟩
 simp only at h h30 h31;refine Ok.bind (Q:=fun z:List Int×Int×List Int×List Int×List Bool=>SrcOk z.1 z.2.1/\PlS n z.2.2) ?_ ?_
 ·refine Ok.loop (fun x:Int×List Int×Int×List Int×List Int×List Bool=>0<=x.1/\x.1<=5/\SrcOk x.2.1 x.2.2.1/\PlS n x.2.2.2) (fun x=>x.1.toNat) ⟨h30,by(try simp only); omega,h,hp⟩ ?_
  rintro⟨v,s',q',p1,p2,p3⟩ ⟨v0,v5,h1,h2⟩
  simp only at v0 v5 h1 h2;show Ok (qhx n v s' q' p1 p2 p3) _;unfold qhx;refine Ok.bif (fun hc=>?_) fun hc=>.ret ⟨h1,h2⟩
  have hc:=zj hc;refine Ok.bind (Q:=fun z:List Int×Int×List Int×List Int×List Bool=>SrcOk z.1 z.2.1/\PlS n z.2.2) ?_ ?_
  ·have hp1:=hn.p1;have hq:=h2.q;simp only at hq;refine Ok.bind (sN h1 (n:=(n.2.2.1.length:Int)) (by omega) (by omega)) ?_
   rintro⟨r4,s4,q4⟩ ⟨h,h40,h41⟩
   simp only at h h40 h41;refine Ok.gd (qae.2 ⟨h40,h41⟩) ?_
   refine Ok.bind (sP h (by simp) (by simp)) ?_
   rintro⟨r5,s5,q5⟩ ⟨h,h5⟩
   simp only at h h5;have b5:1<=r5/\r5<=300:=by simp at h5; omega
   refine Ok.bind (sR h (by omega) (by omega) (by omega)) ?_
   rintro⟨r6,s6,q6⟩ ⟨h,h60,h61⟩
   simp only at h h60 h61;have hA:inB r4 p2.length=true:=qae.2 (by omega)
   refine Ok.bind (Q:=fun z:Bool×List Int×List Int×List Bool=>z.2=(p1,p2,p3)) (Ok.gd hA (Ok.bif (fun _=>.ret rfl) fun _=>Ok.gd hA (.ret rfl))) ?_
   rintro⟨b,ps⟩ e
   replace e:ps=(p1,p2,p3):=e;subst e;refine Ok.bif (fun _=>.ret ⟨h,h2⟩) fun _=>?_
   have hk4:=hn.kn.p r4.toNat (by omega)
   refine Ok.bind (plan2 hn (r4:=(r4,s4,q4)) (r6:=(r6,s6,q6)) (a:=(n.2.2.1.getD r4.toNat po0).2.1) hk4 h h2) ?_
   rintro⟨e,s7,q7,w,ps⟩ ⟨a1,a2,a3,a4,a5⟩
   replace a5:ps=(p1,p2,p3):=a5;subst a5;simp only at a1 a2 a3 a4;refine Ok.bif (fun _=>.ret ⟨a2,h2⟩) fun hc7=>?_
   have hc7:=zQ hc7;simp only at hc7;have hE:inB e p2.length=true:=qae.2 (by omega)
   refine Ok.gd hA (Ok.gd hE (Ok.gd hA (Ok.gd (qae.2 (by rw[zS]; simp only; omega)) ?_)))
   refine Ok.bind (plan5 hn (r6:=(r6,s6,q6)) (s19:=(e,s7,q7,w,p1,p2,p3)) a3 a4 (p1:=p1) (p2:=(p2.set r4.toNat (wi64 ((p2.getD r4.toNat 0)+r6))).set e.toNat (wi64 ((p2.getD e.toNat 0)-r6))) (p3:=p3) ⟨h2.r,by simp only[zS]; exact h2.q,h2.b⟩) ?_
   intro z hz;exact .ret ⟨a2,hz⟩
  ·rintro⟨s8,q8,ps⟩ ⟨a1,a2⟩
   rw[wi (by omega)]
   exact .ret ⟨⟨by(try simp only); omega,by(try simp only); omega,a1,a2⟩,by(try simp only); omega⟩
 ·rintro⟨s4,q4,ps⟩ ⟨h,hp⟩
  simp only at h hp;refine Ok.bif (fun _=>?_) fun _=>.ret ⟨h,hp⟩
  exact Ok.bind (qE5 hn hp) fun z hz=>.ret ⟨h,hz⟩
end
section
variable {n:Net}
structure DkN(n:Net)(d:Dk):Prop where
 v:d.1.length=n.2.1.length+n.2.2.1.length
 p:PlS n d.2
theorem DkN.small(hn:GN n){d:Dk}(h:DkN n d):DkS d:=by
 have:=h.p.small hn; have:=h.v; have:=hn.sg; have:=hn.po;exact⟨by omega,by omega,by omega,by omega⟩
theorem DkN.ln{d e:Dk}(h:DkN n d)(hl:Ln d e):DkN n e:=⟨hl.v.trans h.v,⟨hl.r.trans h.p.r,hl.p.trans h.p.q,hl.b.trans h.p.b⟩⟩
/-! ### Dividing a plan -/
theorem qEe(hn:GN n){rates:List Int}(hr:rates.length=n.2.1.length)(a:Int):Ok (qja n rates a) fun z=>z.2=true->hopOk n z.1=true:=by
 have hsg:=hn.sg;unfold qja;refine Ok.bind (Q:=fun e:(Int×Bool)⊕(Bool×Int×Bool)=>∀z,e=.inr z->hopOk n z.2=true) ?_ fun e he=>?_
 ·refine Ok.loop (fun x:Int×Int×Bool=>∃k:Nat,x.1=(k:Int)/\k<=n.2.1.length) (fun x=>n.2.1.length-x.1.toNat) ⟨0,rfl,by omega⟩ ?_
  rintro⟨v,b,c⟩ ⟨k,hk,hk2⟩
  replace hk:v=(k:Int):=hk;subst hk;show Ok (qiC n rates a (k:Int) b c) _;unfold qiC;refine Ok.bif (fun hc=>?_) fun _=>.ret fun z hz=>(by cases hz)
  have hc:=zj hc;have hk':k<n.2.1.length:=by omega
  have hA:inB (k:Int) rates.length=true:=inB_t (by omega)
  have hB:inB (k:Int) n.2.1.length=true:=inB_t hk';refine Ok.bind (Q:=fun _=>True) ?_ fun b _=>?_
  ·have z:∀b:Bool,Ok (some b) fun _=>True:=fun b=>.ret trivial
   exact Ok.gd hA (Ok.bif (fun _=>Ok.gd hB (Ok.bif (fun _=>z _) fun _=>Ok.gd hA (Ok.bif (fun _=>Ok.gd hB (z _)) fun _=>z _))) fun _=>Ok.gd hA (Ok.bif (fun _=>Ok.gd hB (z _)) fun _=>z _))
  ·refine Ok.bif (fun _=>Ok.gd hA (.ret fun z hz=>?_)) fun _=>?_
   ·cases hz; exact qsB.2 ⟨by(try simp only); omega,by(try simp only); omega⟩
   ·rw[w1 hk' (by omega)]
    exact .ret ⟨⟨k+1,rfl,by omega⟩,by simp only[z9]; omega⟩
 ·cases e with
  | inl z=>exact .ret fun h=>(by cases h)
  | inr z=>exact .ret fun _=>he z rfl
def qsE(n:Net)(l:List Hop):Prop:=∀h∈l,hopOk n h=true
theorem qsE.more{l:List Hop}(h:qsE n l){x:Hop}(hx:hopOk n x=true):qsE n (l++[x]):=fun y hy=>by
 rcases zA.1 hy with hy | hy
 ·exact h y hy
 ·rw[zO.1 hy]; exact hx
theorem qEf(hn:GN n){rates ports:List Int}(hr:rates.length=n.2.1.length)(hp:ports.length=n.2.2.1.length){i:Int}(hi:0<=i/\i<(n.2.2.1.length:Int)):
  Ok (qjb n rates ports i) fun z=>z.1=i/\(0<=z.2.1/\z.2.1<(n.2.2.1.length:Int))/\qsE n z.2.2.2.2/\z.2.2.2.2.length<=40:=by
 have hsg:=hn.sg;have hpo:=hn.po;have hno:=hn.no;unfold qjb;refine Ok.gd (qae.2 (by omega)) (Ok.gd (qae.2 (by omega)) ?_)
 refine Ok.bind (Q:=fun e:(Int×Int×List Hop×Int×Int×Int×List Hop)⊕(Bool×Int×Int×Int×List Hop)=>(∀z,e=.inl z->(0<=z.2.2.2.2.1/\z.2.2.2.2.1<(n.2.2.1.length:Int))/\qsE n z.2.2.2.2.2.2/\z.2.2.2.2.2.2.length<=40)∧
  (∀z,e=.inr z->z.2.1=i/\(0<=z.2.2.1/\z.2.2.1<(n.2.2.1.length:Int))/\qsE n z.2.2.2.2/\z.2.2.2.2.length<=40)) ?_ fun e he=>?_
 ·refine Ok.loop (fun x:Int×Int×Int×Int×List Hop×Int×Int×Int×List Hop=>(∃k:Nat,x.2.1=(k:Int)/\k<=n.1.length+1/\x.2.2.2.2.2.2.2.2.length<=k)/\(0<=x.2.2.2.2.2.2.1/\x.2.2.2.2.2.2.1<(n.2.2.1.length:Int))/\qsE n x.2.2.2.2.2.2.2.2) (fun x=>n.1.length+1-x.2.1.toNat) ⟨⟨0,rfl,by omega,by simp⟩,by(try simp only); omega,fun x hx=>(by cases hx)⟩ ?_
  rintro⟨a,v,c1,c2,c3,c4,o,rt,hs⟩ ⟨⟨k,hk,hk2,hk3⟩,h1,h2⟩
  replace hk:v=(k:Int):=hk;subst hk;simp only at hk3 h1 h2;show Ok (qiE n rates ports i a (k:Int) c1 c2 c3 c4 o rt hs) _;unfold qiE;refine Ok.bif (fun hc=>?_) fun hc=>.ret ⟨fun z hz=>?_,fun z hz=>(by cases hz)⟩
  ·have hc:=zj hc;refine Ok.bind (Q:=fun e:(Int×Int×List Hop×Int×Int×Int×List Hop)⊕(Bool×Int×Int×Int×List Hop)=>(∀z,e=.inl z->z.2.2.2.2.1=o/\z.2.2.2.2.2.2=hs)∧
    (∀z,e=.inr z->z.2.1=i/\(0<=z.2.2.1/\z.2.2.1<(n.2.2.1.length:Int))/\z.2.2.2.2=hs)) ?_ fun e he=>?_
   ·refine Ok.loop (fun x:Int×Int×Int×List Hop×Int×Int×Int×List Hop=>(∃k:Nat,x.1=(k:Int)/\k<=n.2.2.1.length)/\x.2.2.2.2.2.1=o/\x.2.2.2.2.2.2.2=hs) (fun x=>n.2.2.1.length-x.1.toNat) ⟨⟨0,rfl,by omega⟩,rfl,rfl⟩ ?_
    rintro⟨v,b1,b2,b3,b4,o',rt',hs'⟩ ⟨⟨j,hj,hj2⟩,e1,e2⟩
    replace hj:v=(j:Int):=hj;replace e1:o'=o:=e1;replace e2:hs'=hs:=e2;subst hj e1 e2;show Ok (qiD n ports i a (j:Int) b1 b2 b3 b4 o' rt' hs') _;unfold qiD;refine Ok.bif (fun hc=>?_) fun hc=>.ret ⟨fun z hz=>(by cases hz; exact⟨rfl,rfl⟩),fun z hz=>(by cases hz)⟩
    have hc:=zj hc;have hj':j<n.2.2.1.length:=by omega
    have hB:inB (j:Int) ports.length=true:=inB_t (by omega)
    refine Ok.bind (Q:=fun z:Bool×List Hop=>z.2=hs') (Ok.gd (inB_t hj') (Ok.bif (fun _=>Ok.gd hB (.ret rfl)) fun _=>.ret rfl)) ?_
    rintro⟨b,x⟩ e
    replace e:x=hs':=e;subst e;refine Ok.bif (fun _=>Ok.gd hB (.ret ⟨fun z hz=>(by cases hz),fun z hz=>(by cases hz; exact⟨rfl,⟨by(try simp only); omega,by(try simp only); omega⟩,rfl⟩)⟩)) fun _=>?_
    rw[w1 hj' (by omega)]
    exact .ret ⟨⟨⟨j+1,rfl,by omega⟩,rfl,rfl⟩,by simp only[z9]; omega⟩
   ·cases e with
    | inl z=>
     obtain⟨e1,e2⟩:=he.1 z rfl;refine Ok.bind (qEe hn hr a) fun r hr2=>?_
     refine Ok.bif (fun _=>.ret ⟨fun z hz=>(by cases hz),fun w hw=>?_⟩) fun hb=>?_
     ·cases hw;exact⟨rfl,by rw[e1]; exact h1,by rw[e2]; exact h2,by rw[e2]; omega⟩
     ·have hb:r.2=true:=by simpa using hb
      have ho:=hr2 hb;have ho2:=qsB.1 ho;refine Ok.gd (qav (by rw[e2]; omega)) (Ok.gd (qae.2 (by omega)) ?_)
      refine Ok.eq (a:=max (rates.getD r.1.1.toNat 0) (wi64 (0-rates.getD r.1.1.toNat 0))) rfl ?_
      rw[show((r.1.1,r.1.2):Hop)=r.1 from rfl]
      refine Ok.eq (qvT ho) ?_
      rw[w1 (show k<n.1.length+1 by omega) (by omega),e1,e2]
      exact .ret ⟨⟨⟨k+1,rfl,by omega,by(try simp only); simp only[zd,zf,zx]; omega⟩,h1,h2.more ho⟩,by simp only[z9]; omega⟩
    | inr z=>
     obtain⟨e1,e2,e3⟩:=he.2 z rfl;exact .ret ⟨fun z hz=>(by cases hz),fun w hw=>(by cases hw; exact⟨e1,e2,by rw[e3]; exact h2,by rw[e3]; omega⟩)⟩
  ·cases hz; exact⟨h1,h2,by(try simp only); omega⟩
 ·cases e with
  | inl z=>have:=he.1 z rfl; exact .ret ⟨rfl,this.1,this.2.1,this.2.2⟩
  | inr z=>exact .ret (he.2 z rfl)
def qou(l:List Pth):Prop:=∀x∈l,x.2.2.1.length<=100
theorem qAW(hn:GN n)(p:Pl):Ok (qjc n p) fun z=>z.1.length<=100/\qou z.1:=by
 have hsg:=hn.sg;have hpo:=hn.po;unfold qjc;rw[show((p.1,p.2.1,p.2.2):Pl)=p from rfl]
 refine Ok.eq (qnd n p) ?_
 refine Ok.bif (fun _=>.ret ⟨by simp,fun x hx=>(by cases hx)⟩) fun hc=>?_
 have hc:qa0 n p=0:=by simpa using hc
 obtain⟨l1,l2,l3⟩:=(VPl.of hc).len;refine Ok.gd (qav (by omega)) (Ok.gd (qav (by omega)) ?_)
 rw[zC,zC];refine Ok.bind (Q:=fun e:List Pth⊕(List Pth×Int)=>(∀z,e=.inl z->z.length<=100/\qou z)/\(∀z,e=.inr z->z.1.length<=100/\qou z.1)) ?_ fun e he=>?_
 ·refine Ok.loop (fun x:Int×List Int×List Int×List Pth=>(∃k:Nat,x.1=(k:Int)/\k<=n.2.2.1.length)/\x.2.1.length=n.2.1.length/\x.2.2.1.length=n.2.2.1.length/\x.2.2.2.length<=64/\qou x.2.2.2) (fun x=>n.2.2.1.length-x.1.toNat) ⟨⟨0,rfl,by omega⟩,l1,l2,by simp,fun x hx=>(by cases hx)⟩ ?_
  rintro⟨v,ra,po,out⟩ ⟨⟨k,hk,hk2⟩,h1,h2,h3,h4⟩
  replace hk:v=(k:Int):=hk;subst hk;simp only at h1 h2 h3 h4;show Ok (qiG n (k:Int) ra po out) _;unfold qiG;refine Ok.bif (fun hc=>?_) fun hc=>.ret ⟨fun z hz=>(by cases hz; exact⟨by omega,h4⟩),fun z hz=>(by cases hz)⟩
  have hc:=zj hc;have hk':k<n.2.2.1.length:=by omega
  refine Ok.bind (Q:=fun e:(List Int×List Int×List Pth)⊕(List Pth×Int)=>(∀z,e=.inl z->z.1.length=n.2.1.length/\z.2.1.length=n.2.2.1.length/\z.2.2.length<=64/\qou z.2.2)/\(∀z,e=.inr z->z.1.length<=100/\qou z.1)) ?_ fun e he=>?_
  ·refine Ok.loop (fun x:List Int×List Int×List Pth=>x.1.length=n.2.1.length/\x.2.1.length=n.2.2.1.length/\x.2.2.length<=64/\qou x.2.2) (fun x=>64-x.2.2.length) ⟨h1,h2,h3,h4⟩ ?_
   rintro⟨ra,po,out⟩ ⟨h1,h2,h3,h4⟩
   simp only at h1 h2 h3 h4;show Ok (qiF n (k:Int) ra po out) _;unfold qiF;refine Ok.gd (inB_t (by omega)) ?_
   refine Ok.bif (fun hc=>?_) fun hc=>.ret ⟨fun z hz=>(by cases hz; exact⟨h1,h2,h3,h4⟩),fun z hz=>(by cases hz)⟩
   refine Ok.bind (qEf hn (rates:=ra) (ports:=po) h1 h2 (i:=(k:Int)) ⟨by omega,by omega⟩) ?_
   rintro⟨i,o,rt,ok,hs⟩ ⟨e1,e2,e3,e4⟩
   replace e1:i=(k:Int):=e1;subst e1;simp only at e2 e3 e4;refine Ok.bind (Q:=fun z:Bool×List Int×List Int×List Pth×List Hop=>z.2=(ra,po,out,hs)/\(z.1=false->out.length<64)) ?_ ?_
   ·refine Ok.bif (fun _=>.ret ⟨rfl,fun h=>(by cases h)⟩) fun _=>Ok.bif (fun _=>.ret ⟨rfl,fun h=>(by cases h)⟩) fun hb=>.ret ⟨rfl,fun _=>?_⟩
    have hb:=zQ hb;omega
   rintro⟨b,z⟩ ⟨e,hb⟩
   replace e:z=(ra,po,out,hs):=e;subst e;refine Ok.bif (fun _=>.ret ⟨fun z hz=>(by cases hz),fun z hz=>(by cases hz; exact⟨by simp,fun x hx=>(by cases hx)⟩)⟩) fun hbf=>?_
   have h64:=hb hbf;have hA:inB (k:Int) po.length=true:=inB_t (by omega)
   refine Ok.gd hA (Ok.gd hA (Ok.gd (qae.2 (by rw[zS]; (try simp only); omega)) (Ok.gd (qae.2 (by rw[zS]; (try simp only); omega)) ?_)))
   refine Ok.bind (Q:=fun z:List Int×List Int×List Pth×List Hop=>z.1.length=n.2.1.length/\z.2.1.length=n.2.2.1.length/\z.2.2.1=out/\z.2.2.2=hs) ?_ ?_
   ·refine Ok.loop (fun x:Int×List Int×List Int×List Pth×List Hop=>(∃j:Nat,x.1=(j:Int)/\j<=hs.length)/\x.2.1.length=n.2.1.length/\x.2.2.1.length=n.2.2.1.length/\x.2.2.2.1=out/\x.2.2.2.2=hs) (fun x=>hs.length-x.1.toNat) ⟨⟨0,rfl,by omega⟩,h1,by simp only[zS]; exact h2,rfl,rfl⟩ ?_
    rintro⟨v,ra',po',out',hs'⟩ ⟨⟨j,hj,hj2⟩,g1,g2,g3,g4⟩
    replace hj:v=(j:Int):=hj;replace g3:out'=out:=g3;replace g4:hs'=hs:=g4;subst hj g3 g4;simp only at g1 g2;unfold qmq;refine Ok.bif (fun hc=>?_) fun hc=>.ret ⟨g1,g2,rfl,rfl⟩
    have hc:=zj hc;simp only at hc;have hj':j<hs'.length:=by omega
    have hh:=qsB.1 (e3 _ (qbc (d:=(0,false)) hj'));have hC:inB (hs'.getD j (0,false)).1 ra'.length=true:=qae.2 (by omega)
    refine Ok.gd (inB_t hj') ?_
    simp only[z9];refine Ok.bind (Q:=fun z:List Int×List Int×List Pth×List Hop=>z.1.length=n.2.1.length/\z.2=(po',out',hs')) (Ok.bif (fun _=>Ok.gd hC (Ok.gd hC (.ret ⟨(zS ..).trans g1,rfl⟩))) fun _=>Ok.gd hC (Ok.gd hC (.ret ⟨(zS ..).trans g1,rfl⟩))) ?_
    rintro⟨y,w⟩ ⟨hy,e⟩
    replace e:w=(po',out',hs'):=e;subst e;rw[w1 hj' (by omega)]
    exact .ret ⟨⟨⟨j+1,rfl,by omega⟩,hy,g2,rfl,rfl⟩,by simp only[z9]; omega⟩
   ·rintro⟨ra',po',out',hs'⟩ ⟨g1,g2,g3,g4⟩
    replace g3:out'=out:=g3;replace g4:hs'=hs:=g4;subst g3 g4;refine Ok.gd (qav (by(try simp only); omega)) (.ret ⟨⟨g1,g2,?_,fun x hx=>?_⟩,?_⟩)
    ·simp only[zd,zf,zx]; omega
    ·rcases zA.1 hx with hx | hx
     ·exact h4 x hx
     ·rw[zO.1 hx]; (try simp only); omega
    ·simp only[zd,zf,zx]; omega
  ·cases e with
   | inl z=>
    have:=he.1 z rfl;rw[w1 hk' (by omega)]
    exact .ret ⟨⟨⟨k+1,rfl,by omega⟩,this.1,this.2.1,this.2.2.1,this.2.2.2⟩,by simp only[z9]; omega⟩
   | inr z=>exact .ret ⟨fun w hw=>(by cases hw),fun w hw=>(by cases hw; exact he.2 z rfl)⟩
 ·cases e with
  | inl z=>exact .ret (he.1 z rfl)
  | inr z=>exact .ret (he.2 z rfl)
theorem qCE(hn:GN n){d:Dk}(hd:d.1.length<=100000){s:List Int}{q:Int}(h:SrcOk s q):Ok (qkI n d s q) fun z=>SrcOk z.2.1 z.2.2/\z.1.2.2.2.2.2.1.length<=100:=by
 have hst:=hn.st;unfold qkI;refine Ok.bind (sN h (n:=9) (by omega) (by omega)) fun r hr=>?_
 refine Ok.bif (fun _=>?_) fun _=>Ok.bif (fun _=>?_) fun _=>Ok.bif (fun _=>?_) fun _=>Ok.bif (fun _=>?_) fun _=>?_
 ·rw[wi (by omega)]; exact Ok.bind (sN hr.1 (by omega) (by omega)) fun r2 h2=>.ret ⟨h2.1,by simp⟩
 ·rw[wi (by omega)]; exact Ok.bind (sN hr.1 (by omega) (by omega)) fun r2 h2=>.ret ⟨h2.1,by simp⟩
 ·rw[wi (by omega)]; exact Ok.bind (sN hr.1 (by omega) (by omega)) fun r2 h2=>.ret ⟨h2.1,by simp⟩
 ·rw[wi (by omega)]; exact Ok.bind (sN hr.1 (by omega) (by omega)) fun r2 h2=>.ret ⟨h2.1,by simp⟩
 refine Ok.bind (Q:=fun _=>True) (Ok.bif (fun _=>.ret trivial) fun _=>.ret trivial) fun b _=>?_
 refine Ok.bif (fun _=>Ok.bind (sP hr.1 (by simp) (by simp)) fun r6 h6=>.ret ⟨h6.1,by simp⟩) fun _=>Ok.bif (fun _=>?_) fun _=>?_
 ·exact Ok.bind (sN hr.1 (n:=9) (by omega) (by omega)) fun r7 h7=>Ok.bind (sN h7.1 (n:=4) (by omega) (by omega)) fun r8 h8=>Ok.bind (sN h8.1 (n:=5) (by omega) (by omega)) fun r9 h9=>Ok.bind (sN h9.1 (n:=2) (by omega) (by omega)) fun r10 h10=>Ok.bind (sN h10.1 (n:=2) (by omega) (by omega)) fun r11 h11=>.ret ⟨h11.1,by simp⟩
 refine Ok.bind (sN hr.1 (n:=2) (by omega) (by omega)) fun r12 h12=>?_
 refine Ok.bind (Q:=fun z:List Int×Int×Pl=>SrcOk z.1 z.2.1) (Ok.bif (fun _=>Ok.bind (qEd hn h12.1) fun r13 h13=>.ret h13.1) fun _=>.ret h12.1) ?_
 rintro⟨s4,q4,p⟩ h4
 replace h4:SrcOk s4 q4:=h4;refine Ok.bind (qAW hn p) fun r14 h14=>?_
 refine Ok.bif (fun _=>.ret ⟨h4,by simp⟩) fun hc=>?_
 have hc:=zQ hc;refine Ok.bind (sN h4 (n:=(r14.1.length:Int)) (by omega) (by omega)) fun r15 h15=>?_
 refine Ok.gd (qae.2 h15.2) ?_
 have hx:=h14.2 _ (qbc (d:=((0,0,[],0):Pth)) (show r15.1.toNat<r14.1.length by omega))
 refine Ok.eq (qya _ (by omega)) ?_
 exact Ok.bind (sP h15.1 (by simp) (by simp)) fun r17 h17=>.ret ⟨h17.1,hx⟩
end
theorem qE6:∀k:Fin 100,qko (wu64 1) (wu64 ((k.val:Nat):Int))=some (0,((k.val:Nat):Int)):=by decide +kernel
theorem qE7(v:Vl)(k:Nat)(hk:k<=1000):∀(f m:Nat) (l:List Vl),k<=m+f->1<=m->m<=k->l.length=k->(∀i,i<m->l[i]? = some v)->
  iter (fun x2=>qad x2.1 x2.2) ((m:Int),l)=some (List.replicate k v):=by
 have fin:∀(l:List Vl),l.length=k->(∀i,i<k->l[i]? = some v)->l=List.replicate k v:=fun l hl h=>by
  refine zF1 fun i=>?_
  by_cases hi:i<k
  ·rw[h i hi,zG2,if_pos hi]
  ·rw[zo1 (by omega),zo1 (by simp; omega)]
 intro f;induction f with
 | zero=>
  intro m l hf h1 hm hl h;have:m=k:=by omega
  subst this;rw[<-fin l hl h];exact qaS (by show qad (m:Int) l=_; unfold qad; rw[dec_f (by omega)]; rfl)
 | succ f ih=>
  intro m l hf h1 hm hl h;by_cases he:m=k
  ·subst he;rw[<-fin l hl h];exact qaS (by show qad (m:Int) l=_; unfold qad; rw[dec_f (by omega)]; rfl)
  ·have hlt:(l.take m).length=m:=by rw[zo]; omega
   have hst:qad (m:Int) l=some (.inl (((m+min m (k-m):Nat):Int),cpyD l m (l.take m))):=by
    unfold qad;rw[dec_t (show(m:Int)<(l.length:Int) by omega),za,gd_t (by rw[dec_t (by omega),inR_t (by omega) (by omega)]; rfl),gd_t (by rw[dec_t (by omega)]; exact inR_t (a:=0) (by omega) (by omega)),z9,
     gd_t (by rw[dec_t rfl,dec_t (show m<=l.length by omega),dec_t (show 0<l.length by omega)]; rfl),hlt,hl]
    rw[show wi64 ((m:Int)+Int.ofNat (min m (k-m)))=((m+min m (k-m):Nat):Int) by rw[show Int.ofNat (min m (k-m))=((min m (k-m):Nat):Int) from rfl,wi (by omega)]; omega]
   rw[qbs hst];refine ih _ _ (by omega) (by omega) (by omega) (by rw[qt6 _ _ (by omega)]; exact hl) fun i hi=>?_
   rw[qt7 _ _ (by omega),hlt]
   by_cases hc:m<=i/\i<m+min m (l.length-m)
   ·rw[if_pos hc,zt,if_pos (by omega)]
    exact h _ (by omega)
   ·rw[if_neg hc];rw[hl] at hc;exact h i (by omega)
theorem qE8(v:Vl){k:Nat}(h1:1<=k)(h2:k<100):qa1 [v] (k:Int)=some (List.replicate k v):=by
 unfold qa1;rw[dec_f (show ¬(k:Int)<0 by omega),zb,z7,show(([v].length:Nat):Int)=1 from rfl,qE6 ⟨k,h2⟩,z7,dec_f (show ¬(0:Int)<0 by omega),zb,dec_f (show ¬9223372036854775807<(k:Int) by omega),z7]
 simp only[zb,z7];rw[wi (by omega),gd_t (qhl (by omega)),z9,zq2,gd_t (by rw[dec_t (by omega)]; rfl),show Int.ofNat (min [v].length (k-0))=((1:Nat):Int) by simp only[zf,zx]; rw[z61 (by omega)]; rfl]
 rw[qE7 v k (by omega) k 1 _ (by omega) (by omega) h1 (by rw[qt6 _ _ (by omega),zq2]) fun i hi=>?_]
 ·rfl
 ·rw[qt7 _ _ (by omega),if_pos (by simp; omega),show i-0=0 by omega]; rfl
def idleS(n:Net)(t:Int):Dk×Int:=if qbi n≠0 then(([],[],[],[]),qbi n) else
 bif rg 1 60 t then((List.replicate (n.2.1.length+n.2.2.1.length) (t,0,false,false),List.replicate n.2.1.length 0,List.replicate n.2.2.1.length 0,List.replicate n.2.2.2.1.length false),0) else(([],[],[],[]),20)
theorem valid0(t:Int):qca (t,0,false,false)=rg 1 60 t:=by
 unfold qca rg;simp only;by_cases h:1<=t
 ·rw[dec_t h,dec_t (show(0:Int)<=t by omega),zG]; simp
 ·rw[dec_f h]; rfl
theorem qEg(n:Net)(t:Int)(h1:qbi n=0->1<=n.2.1.length+n.2.2.1.length):qo0 n t=some (idleS n t):=by
 unfold qo0 idleS;rw[qba,qft,z7,valid_eq,z7,valid0];by_cases h0:qbi n=0
 ·have hn:=VNet.of h0;have m1:=hn.small.sg;have m2:=hn.small.po;have m3:=hn.small.st;have hh:=h1 h0;rw[dec_t h0,if_neg (fun e=>e h0),zg,zb]
  cases rg 1 60 t with
  | false=>rfl
  | true=>
   simp only[zg,zb,za];rw[gd_t (qhl (by omega)),gd_t (qhl (by omega)),gd_t (qhl (by omega)),quP hn,z7,qE8 _ hh (by omega),z7]
   simp only[z9]
 ·rw[dec_f h0,if_pos h0]; rfl
theorem qE9(l:List Int):qpX l=some (decide ((l.length:Int)<=400)):=rfl
end Go.Proofs.YtmdijohmddokhaaGreatDoor
