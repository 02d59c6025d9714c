/- Searches in lists. No condition. -/
import Derived.Test.YtfdgemafaphpaaaGreatLm0
namespace Go.Proofs.YtfdgemafaphpaaaGreat
open Go Go.Sq
theorem qye{A:Type}(l:List A)(d:A)(p:A->Bool)(i:Nat)(hi:i<=l.length):decide (l.findIdx p<i)=(List.range i).any fun k=>p (l.getD k d):=by
 rw[zZ,zA,List.any_eq_true];constructor
 ·intro h;have hl:l.findIdx p<l.length:=by omega
  exact⟨_,zO.2 h,by rw[gD_eq hl]; exact List.findIdx_getElem (w:=hl)⟩
 ·rintro⟨k,hk,hp⟩
  have hk:=zO.1 hk;refine Nat.lt_of_not_le fun hle=>?_
  have:=List.not_of_lt_findIdx (p:=p) (xs:=l) (i:=k) (by omega)
  rw[gD_eq (by omega)] at hp
  exact absurd hp (by simpa using this)
theorem qe2{A:Type}(l:List A)(p:A->Bool):decide (l.findIdx p<l.length)=l.any p:=by
 rw[zZ,zA,zF2,List.any_eq_true]
theorem scanN{ε:Type}(n:Nat){step:Int->Option (Int⊕ε)}(q:Nat->Bool){fin bad:ε}
  (h1:∀i,i<n->q i=false->step (i:Int)=some (.inl ((i+1:Nat):Int)))
  (h2:∀i,i<n->q i=true->step (i:Int)=some (.inr bad)) (h3:step (n:Int)=some (.inr fin)):iter step 0=some (bif (List.range n).any q then bad else fin):=by
 have:=qbn (step:=step) n (fun i=>(i:Int)) (fun i=>!q i) (fin:=fin) (bad:=bad) (fun i hi _ hq=>h1 i hi (by simpa using hq)) (fun i hi _ hq=>h2 i hi (by simpa using hq)) (fun _=>h3)
 have e:(List.range n).all (fun i=>!q i)=!(List.range n).any q:=by simp[zc1]
 rw[e] at this;refine this.trans ?_
 cases(List.range n).any q <;> rfl
end Go.Proofs.YtfdgemafaphpaaaGreat
