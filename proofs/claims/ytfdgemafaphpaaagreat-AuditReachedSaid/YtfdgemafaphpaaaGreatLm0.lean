/- Walks along lists; names. No condition. -/
import Derived.Test.YtfdgemafaphpaaaGreatQv
import Derived.Test.YtfdgemafaphpaaaGreatSqZ
namespace Go.Proofs.YtfdgemafaphpaaaGreat
open Go Go.Sq
set_option linter.unusedVariables false
abbrev Str:=List UInt8
theorem qrF{A:Type}(l:List A)(d:A)(q:A->Bool):(List.range l.length).all (fun i=>q (l.getD i d))=l.all q:=by
 rw[zZ,qkR,zx];constructor
 ·intro h x hx;obtain⟨k,hk,rfl⟩:=qpq d hx;exact h k hk
 ·intro h i hi;exact h _ (qaU hi)
theorem scan{A ε:Type}(l:List A)(d:A){step:Int->Option (Int⊕ε)}(q:A->Bool){fin bad:ε}
  (h1:∀i,i<l.length->q (l.getD i d)=true->step (i:Int)=some (.inl ((i+1:Nat):Int)))
  (h2:∀i,i<l.length->q (l.getD i d)=false->step (i:Int)=some (.inr bad)) (h3:step (l.length:Int)=some (.inr fin)):iter step 0=some (bif l.all q then fin else bad):=by
 have:=qbn (step:=step) l.length (fun i=>(i:Int)) (fun i=>q (l.getD i d)) (fin:=fin) (bad:=bad) (fun i hi _ hq=>h1 i hi hq) (fun i hi _ hq=>h2 i hi hq) (fun _=>h3)
 rw[qrF] at this;exact this
theorem w1{i n:Nat}(h:i<n)(hn:n<=4611686018427387904):wi64 ((i:Int)+1)=((i+1:Nat):Int):=by rw[wi (by omega)]; omega
theorem inB0{n:Nat}(h:0<n):inB 0 n=true:=qan.2 ⟨by omega,by omega⟩
theorem qfE{A ε:Type}(l:List A)(d:A){step:Int->Option (Int⊕ε)}(q:A->Bool){fin:ε}(hit:Nat->ε)
  (h1:∀i,i<l.length->q (l.getD i d)=false->step (i:Int)=some (.inl ((i+1:Nat):Int)))
  (h2:∀i,i<l.length->q (l.getD i d)=true->step (i:Int)=some (.inr (hit i))) (h3:step (l.length:Int)=some (.inr fin)):
  iter step 0=some (if l.findIdx q<l.length then hit (l.findIdx q) else fin):=by
 have hlt:∀i,i<l.findIdx q->i<l.length/\q (l.getD i d)=false:=by
  intro i hi;have hl:i<l.length:=zL1 hi List.findIdx_le_length;refine⟨hl,?_⟩
  rw[gD_eq hl];exact List.not_of_lt_findIdx hi
 refine qaG (l.findIdx q) (fun i=>(i:Int)) (fun i hi=>h1 i (hlt i hi).1 (hlt i hi).2) ?_
 by_cases hf:l.findIdx q<l.length
 ·rw[if_pos hf];exact h2 _ hf (by rw[gD_eq hf]; exact List.findIdx_getElem (w:=hf))
 ·rw[if_neg hf];have:l.findIdx q=l.length:=Nat.le_antisymm List.findIdx_le_length (Nat.le_of_not_lt hf);show step ((l.findIdx q:Nat):Int)=_;rw[this]; exact h3
theorem eqU(b c:UInt8)(n:Int)(h:(c.toNat:Int)=n):decide ((Int.ofNat b.toNat)=n)=(b==c):=by
 rw[zZ,zA,beq_iff_eq];simp only[zN1];constructor
 ·intro e; exact UInt8.toNat_inj.1 (by omega)
 ·rintro rfl; exact h
def fch(b:UInt8):Bool:=Nat.ble 97 b.toNat&&Nat.ble b.toNat 122
def nch(b:UInt8):Bool:=fch b || (Nat.ble 48 b.toNat&&Nat.ble b.toNat 57) || b==45
def nameB(s:Str):Bool:=Nat.ble 1 s.length&&Nat.ble s.length 12&&fch (s.headD 0)&&s.all nch
theorem place_eq(b:UInt8):qeY (Int.ofNat b.toNat)=some (bif fch b then 1 else bif nch b then 2 else 0):=by
 have h1:decide (97<=(Int.ofNat b.toNat))=Nat.ble 97 b.toNat:=by rw[zZ,zA,zC1]; simp only[zN1]; omega
 have h2:decide ((Int.ofNat b.toNat)<=122)=Nat.ble b.toNat 122:=by rw[zZ,zA,zC1]; simp only[zN1]; omega
 have h3:decide (48<=(Int.ofNat b.toNat))=Nat.ble 48 b.toNat:=by rw[zZ,zA,zC1]; simp only[zN1]; omega
 have h4:decide ((Int.ofNat b.toNat)<=57)=Nat.ble b.toNat 57:=by rw[zZ,zA,zC1]; simp only[zN1]; omega
 unfold qeY nch fch;rw[h1,h2,h3,h4,eqU _ 45 45 rfl];cases Nat.ble 97 b.toNat <;> cases Nat.ble b.toNat 122 <;> cases Nat.ble 48 b.toNat <;> cases Nat.ble b.toNat 57 <;> cases b==45 <;> rfl
theorem nch_f{b:UInt8}(h:fch b=true):nch b=true:=by unfold nch; rw[h]; rfl
theorem qBk(s:Str)(hl:s.length<=1000000):qcR s=some (nameB s):=by
 have h:iter (fun x=>qb4 s x) 0=some (bif s.all nch then .inl () else .inr false):=by
  refine scan s 0 nch (fun i hi hq=>?_) (fun i hi hq=>?_) ?_
  ·unfold qb4;rw[dec_t (by omega),zb,gd_t (inB_t hi),z8,place_eq,z7,hq,w1 hi (by omega)]
   cases fch (s.getD i 0) <;> rfl
  ·unfold qb4;rw[dec_t (by omega),zb,gd_t (inB_t hi),z8,place_eq,z7,hq]
   cases hf:fch (s.getD i 0) with
   | true=>rw[nch_f hf] at hq; cases hq
   | false=>rfl
  ·unfold qb4;rw[dec_f (by omega)]; rfl
 unfold qcR nameB;by_cases h1:s.length<1
 ·rw[dec_t (show(s.length:Int)<1 by omega),show Nat.ble 1 s.length=false by rw[zV,ne_eq,zC1]; omega]; rfl
 ·rw[dec_f (show ¬(s.length:Int)<1 by omega),za,show Nat.ble 1 s.length=true by rw[zC1]; omega]
  by_cases h2:12<s.length
  ·rw[dec_t (show 12<(s.length:Int) by omega),show Nat.ble s.length 12=false by rw[zV,ne_eq,zC1]; omega]; rfl
  ·rw[dec_f (show ¬12<(s.length:Int) by omega),za,show Nat.ble s.length 12=true by rw[zC1]; omega,gd_t (inB0 (by omega)),place_eq,z7,h]
   have hh:s.getD 0 0=s.headD 0:=by cases s <;> rfl
   rw[hh];cases fch (s.headD 0) with
   | false=>cases nch (s.headD 0) <;> rfl
   | true=>cases s.all nch <;> rfl
theorem rname_eq(s:Str)(hl:s.length<=1000000):qct s=some (nameB s):=by
 have k1:∀b:UInt8,decide ((Int.ofNat b.toNat)<97)=!Nat.ble 97 b.toNat:=by
  intro b; rw[zZ,zA,zu,zV,ne_eq,zC1]; simp only[zN1]; omega
 have k2:∀b:UInt8,decide (122<(Int.ofNat b.toNat))=!Nat.ble b.toNat 122:=by
  intro b; rw[zZ,zA,zu,zV,ne_eq,zC1]; simp only[zN1]; omega
 have k3:∀b:UInt8,decide ((Int.ofNat b.toNat)<48)=!Nat.ble 48 b.toNat:=by
  intro b; rw[zZ,zA,zu,zV,ne_eq,zC1]; simp only[zN1]; omega
 have k4:∀b:UInt8,decide (57<(Int.ofNat b.toNat))=!Nat.ble b.toNat 57:=by
  intro b; rw[zZ,zA,zu,zV,ne_eq,zC1]; simp only[zN1]; omega
 have step:∀i,i<s.length->qb1 s (i:Int)=some (bif nch (s.getD i 0) then .inl ((i+1:Nat):Int) else .inr (.inr false)):=by
  intro i hi;unfold qb1;simp only[gd_t (inB_t hi),z8];rw[dec_t (show(i:Int)<(s.length:Int) by omega),zb,k1,k2,k3,k4,eqU _ 45 45 rfl,w1 hi (by omega)]
  unfold nch fch;cases Nat.ble 97 (s.getD i 0).toNat <;> cases Nat.ble (s.getD i 0).toNat 122 <;> cases Nat.ble 48 (s.getD i 0).toNat <;> cases Nat.ble (s.getD i 0).toNat 57 <;> cases s.getD i 0==45 <;> rfl
 have h:iter (fun x=>qb1 s x) 0=some (bif s.all nch then .inl () else .inr false):=by
  refine scan s 0 nch (fun i hi hq=>?_) (fun i hi hq=>?_) ?_
  ·rw[step i hi,hq]; rfl
  ·rw[step i hi,hq]; rfl
  ·unfold qb1;rw[dec_f (by omega)]; rfl
 unfold qct nameB;by_cases h1:s.length<1
 ·rw[dec_t (show(s.length:Int)<1 by omega),show Nat.ble 1 s.length=false by rw[zV,ne_eq,zC1]; omega]; rfl
 ·rw[dec_f (show ¬(s.length:Int)<1 by omega),za,show Nat.ble 1 s.length=true by rw[zC1]; omega]
  by_cases h2:12<s.length
  ·rw[dec_t (show 12<(s.length:Int) by omega),show Nat.ble s.length 12=false by rw[zV,ne_eq,zC1]; omega]; rfl
  ·rw[dec_f (show ¬12<(s.length:Int) by omega),za,show Nat.ble s.length 12=true by rw[zC1]; omega,gd_t (inB0 (by omega)),gd_t (inB0 (by omega)),k1,k2,h]
   have hh:s.getD 0 0=s.headD 0:=by cases s <;> rfl
   rw[hh];unfold fch;cases Nat.ble 97 (s.headD 0).toNat <;> cases Nat.ble (s.headD 0).toNat 122 <;> cases s.all nch <;> rfl
theorem quZ(s:Str):qcR s=some (nameB s):=by
 by_cases hl:s.length<=1000000
 ·exact qBk s hl
 ·unfold qcR nameB;rw[dec_f (show ¬(s.length:Int)<1 by omega),za,dec_t (show 12<(s.length:Int) by omega),show Nat.ble s.length 12=false by rw[zV,ne_eq,zC1]; omega]
  cases Nat.ble 1 s.length <;> rfl
theorem qu0(s:Str):qct s=some (nameB s):=by
 by_cases hl:s.length<=1000000
 ·exact rname_eq s hl
 ·unfold qct nameB;rw[dec_f (show ¬(s.length:Int)<1 by omega),za,dec_t (show 12<(s.length:Int) by omega),show Nat.ble s.length 12=false by rw[zV,ne_eq,zC1]; omega]
  cases Nat.ble 1 s.length <;> rfl
end Go.Proofs.YtfdgemafaphpaaaGreat
