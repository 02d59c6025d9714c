/- Sources of numbers. No condition. -/
import Derived.Test.YtfdgemafaphpaaaGreatQv
import Derived.Test.YtfdgemafaphpaaaGreatSqZ
namespace Go.Proofs.YtfdgemafaphpaaaGreat
open Go Go.Sq
def i64P(x:Int):Prop:=-9223372036854775808<=x/\x<=9223372036854775807
theorem qD1{x n:Int}(hx:i64P x)(h1:1<=n)(h2:n<=4611686018427387904):qqd x n=some (x%n):=by
 unfold i64P at hx;have e:=Int.emod_add_mul_ediv x n;have b1:=zQ2 x (show n≠0 by omega)
 have b2:=zD2 x (show 0<n by omega)
 unfold qqd;rw[dec_f (show ¬n<1 by omega),dec_f (show ¬n=0 by omega)]
 simp only[za,zl1,gd_tt];by_cases h0:0<=x
 ·rw[Int.tmod_eq_emod_of_nonneg h0,dec_f (by omega)]; rfl
 ·have e2:Int.tmod x n=if x%n=0 then 0 else x%n-n:=by
   rw[Int.tmod_eq_emod];by_cases hd:n∣x
   ·rw[if_pos (.inr hd),if_pos (Int.emod_eq_zero_of_dvd hd)];rw[Int.emod_eq_zero_of_dvd hd]; rfl
   ·rw[if_neg (by simp[hd]; omega),if_neg (fun hh=>hd (Int.dvd_of_emod_eq_zero hh))]
    congr 1; omega
  rw[e2];by_cases hz:x%n=0
  ·rw[if_pos hz,dec_f (by omega),hz]; rfl
  ·rw[if_neg hz,dec_t (by omega)]
   simp only[zb];rw[show x%n-n+n=x%n by omega,wi (by omega)]
structure SrcOk(s:List Int)(p:Int):Prop where
 len:s.length<=2000
 el:∀x∈s,i64P x
 p0:0<=p
 p1:p<=2000
theorem qD2{l:List Int}(hl:∀x∈l,i64P x):∃s,qqc l=some (s,0)/\SrcOk s 0:=by
 refine⟨l.take 2000,?_,by rw[zk]; omega,fun x hx=>hl x (zB1 hx),by omega,by omega⟩
 unfold qqc;have hm:min (l.length:Int) 2000=((min l.length 2000:Nat):Int):=by omega
 rw[hm];rw[gd_t (show cutG none (some (.i64,((min l.length 2000:Nat):Int))) l.length=true by
  unfold cutG; simp only[z9,zo]; omega)]
 rw[z8];congr 2;by_cases h:l.length<=2000
 ·rw[zg1 h,zr (zM _),zr h]
 ·rw[Nat.min_eq_right (by omega)]
theorem qD3{s:List Int}{p:Int}(h:SrcOk s p):∃r p',qh2 s p=some (r,s,p')/\i64P r/\SrcOk s p':=by
 have h0:=h.p0; have h1:=h.p1; have hl:=h.len;unfold qh2;by_cases hp:(s.length:Int)<=p
 ·rw[dec_t hp];exact⟨0,p,rfl,by unfold i64P; omega,h⟩
 ·obtain⟨k,rfl⟩:∃k:Nat,p=(k:Int):=⟨p.toNat,by omega⟩
  have hk:k<s.length:=by omega
  rw[dec_f hp,show wi64 ((k:Int)+1)=(k:Int)+1 from wi (by omega),show(k:Int)+1-1=(k:Int) by omega,show wi64 (k:Int)=(k:Int) from wi (by omega)]
  simp only[za,gd_t (inB_t hk)];exact⟨_,_,rfl,h.el _ (qaU hk),⟨hl,h.el,by omega,by omega⟩⟩
theorem n_eq{n:Int}{s:List Int}{p:Int}(h:SrcOk s p)(h1:1<=n)(h2:n<=4611686018427387904):∃r p',qad n s p=some (r,s,p')/\0<=r/\r<n/\SrcOk s p':=by
 obtain⟨r,p',q1,q2,q3⟩:=qD3 h;refine⟨r%n,p',?_,zQ2 r (show n≠0 by omega),zD2 r (show 0<n by omega),q3⟩
 unfold qad;rw[q1];simp only[z7,qD1 q2 h1 h2]
theorem qBj{lo hi:Int}{s:List Int}{p:Int}(h:SrcOk s p)(h0 : -1000000<=lo)(h1:lo<=hi)(h2:hi<=1000000):∃r p',qbb lo hi s p=some (r,s,p')/\lo<=r/\r<=hi/\SrcOk s p':=by
 unfold qbb;rw[show wi64 (hi-lo)=hi-lo from wi (by omega),show wi64 (hi-lo+1)=hi-lo+1 from wi (by omega)]
 obtain⟨r,p',q1,q2,q3,q4⟩:=n_eq (n:=hi-lo+1) h (by omega) (by omega)
 refine⟨lo+r,p',?_,by omega,by omega,q4⟩
 rw[q1];simp only[z7];rw[wi (by omega)]
theorem qC3{l s:List Int}{p:Int}(h:SrcOk s p)(h1:l≠[])(h2:l.length<=1000000):∃r p',qat l s p=some (r,s,p')/\r∈l/\SrcOk s p':=by
 have hp:=List.length_pos_iff.2 h1;obtain⟨r,p',q1,q2,q3,q4⟩:=n_eq (n:=(l.length:Int)) h (by omega) (by omega)
 obtain⟨k,rfl⟩:∃k:Nat,r=(k:Int):=⟨r.toNat,by omega⟩
 have hk:k<l.length:=by omega
 refine⟨l.getD k 0,p',?_,qaU hk,q4⟩
 unfold qat;rw[q1];simp only[z7,gd_t (inB_t hk),z8]
end Go.Proofs.YtfdgemafaphpaaaGreat
