/- The centre: a record that is carried out has bytes. No condition. -/
import Derived.Test.YtgmjmgihjjddmaaGreatCr1
import Derived.Test.YtgmjmgihjjddmaaGreatSp12
namespace Go.Proofs.YtgmjmgihjjddmaaGreat
open Go Go.Sq Wi
set_option linter.unusedVariables false
structure EncP(r:Rec):Prop where
 hr:i64A (recL r)
 hh:∀x∈hps r,-9223372036854775808<=x.1/\x.1<=9223372036854775807
 nb:¬big r
def bts(r:Rec):List Int:=encs (recL r)++qk2 (shp r)
theorem qCz{r:Rec}(h:EncP r):(bts r).length<=1500/\qbz (bts r):=by
 have h1:=qg8 h.hr;have hb:=h.nb;unfold big at hb;simp only[not_or] at hb;have h2:(recL r).length=2+(r.2.1.length+(6+(2*(hps r).length+4))):=by
  unfold recL recA recB recC;simp[qqn];omega
 have h3:(qk2 (shp r)).length=(shp r).length:=qvp _;refine⟨?_,fun x hx=>?_⟩
 ·unfold bts; rw[ze]; omega
 ·rcases zu.1 hx with hx | hx
  ·exact qsH x hx
  ·obtain⟨b,_,rfl⟩:=z71.1 hx;have:=b.toNat_lt;omega
end Go.Proofs.YtgmjmgihjjddmaaGreat
