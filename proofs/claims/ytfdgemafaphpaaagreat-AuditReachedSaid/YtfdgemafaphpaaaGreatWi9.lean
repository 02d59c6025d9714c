/- Numbers as bytes: folding, bits of a word. No condition. -/
import Derived.Test.YtfdgemafaphpaaaGreatCn5
import Derived.Test.YtfdgemafaphpaaaGreatQu
namespace Go.Proofs.YtfdgemafaphpaaaGreat.Wi
open Go Go.Sq
set_option linter.unusedVariables false
theorem qjn{a:Nat}(h:a<18446744073709551616):wu64 (a:Int)=(a:Int):=by
 show IntKind.u64.wrap (a:Int)=_;simp[IntKind.wrap,IntKind.bits,IntKind.signed]; omega
theorem qvg(a:Int):wu64 a=a%18446744073709551616:=by
 show IntKind.u64.wrap a=_;simp[IntKind.wrap,IntKind.bits,IntKind.signed]
theorem bv(a:Nat):BitVec.ofInt 64 (a:Int)=BitVec.ofNat 64 a:=by
 apply BitVec.eq_of_toNat_eq;simp[BitVec.toNat_ofInt] <;> omega
theorem qCE{a b:Nat}(ha:a<18446744073709551616)(hb:b<18446744073709551616):bitOr .u64 (a:Int) (b:Int)=((a|||b:Nat):Int):=by
 show IntKind.u64.wrap ((BitVec.ofInt 64 (a:Int)|||BitVec.ofInt 64 (b:Int)).toNat:Int)=_;rw[bv,bv,BitVec.toNat_or,zI1,zI1,zs1 (by omega),zs1 (by omega)]
 exact qjn (by
  have:a|||b<2^64:=Nat.or_lt_two_pow (by omega) (by omega)
  omega)
theorem qDx{a:Nat}(ha:a<18446744073709551616):qdZ .u64 (a:Int) 1=((a%2:Nat):Int):=by
 show IntKind.u64.wrap ((BitVec.ofInt 64 (a:Int)&&&BitVec.ofInt 64 ((1:Nat):Int)).toNat:Int)=_;rw[bv,bv,BitVec.toNat_and,zI1,zI1,zs1 (by omega),zs1 (by omega),Nat.and_one_is_mod]
 exact qjn (by omega)
theorem qDy{a:Nat}(ha:a<18446744073709551616):a^^^18446744073709551615=18446744073709551615-a:=by
 have h:=BitVec.toNat_not (x:=BitVec.ofNat 64 a);rw[<-BitVec.xor_allOnes,BitVec.toNat_xor,zI1,BitVec.toNat_allOnes,zs1 (by omega)] at h
 simpa using h
def zg(n:Int):Nat:=if 0<=n then(2*n).toNat else(-(2*n)-1).toNat
theorem zg_lt{n:Int}(h:(-9223372036854775808<=n/\n<=9223372036854775807)):zg n<18446744073709551616:=by
 have : -9223372036854775808<=n/\n<=9223372036854775807:=h;unfold zg; split <;> omega
def unz(u:Nat):Int:=if u%2=0 then((u/2:Nat):Int) else -((u/2:Nat):Int)-1
theorem qCF(n:Int):unz (zg n)=n:=by
 unfold zg unz;by_cases h:0<=n
 ·rw[if_pos h,if_pos (by omega)]; omega
 ·rw[if_neg h,if_neg (by omega)]; omega
theorem unzig{u:Nat}(h:u<18446744073709551616):qzE .i64 (wi64 (Int.fdiv (u:Int) (2^shAmt .u64 1))) (wi64 (-(wi64 (qdZ .u64 (u:Int) 1))))=unz u:=by
 have e1:(2:Int)^shAmt .u64 1=2:=by kernel_rfl
 rw[e1,zr2 _ (by omega),qDx h,show(u:Int)/2=((u/2:Nat):Int) by omega,wi (by omega),wi (n:=((u%2:Nat):Int)) (by omega)]
 rcases Nat.mod_two_eq_zero_or_one u with h0 | h0
 ·rw[h0,show wi64 (-((0:Nat):Int))=((0:Nat):Int) from rfl]
  show IntKind.i64.wrap ((BitVec.ofInt 64 ((u/2:Nat):Int)^^^BitVec.ofInt 64 ((0:Nat):Int)).toNat:Int)=_;rw[bv,bv,BitVec.toNat_xor,zI1,zI1,zs1 (by omega),Nat.zero_mod,Nat.xor_zero]
  refine(wi (by omega)).trans ?_
  unfold unz; rw[if_pos h0]
 ·rw[h0,show wi64 (-((1:Nat):Int))=-1 from rfl]
  show IntKind.i64.wrap ((BitVec.ofInt 64 ((u/2:Nat):Int)^^^BitVec.ofInt 64 (-1)).toNat:Int)=_;rw[show BitVec.ofInt 64 (-1)=BitVec.ofInt 64 ((18446744073709551615:Nat):Int) by decide,bv,bv,BitVec.toNat_xor,zI1,zI1,zs1 (by omega),zs1 (by omega),qDy (by omega)]
  show IntKind.i64.wrap _=_;unfold unz; rw[if_neg (by omega)]
  have:u/2<=9223372036854775807:=by omega
  generalize u/2=q at this ⊢;simp[IntKind.wrap,IntKind.bits,IntKind.signed]; omega
theorem qCG{u c k:Nat}(h:u<2^k):u|||c*2^k=u+c*2^k:=by
 rw[Nat.or_comm,z92,<-Nat.two_pow_add_eq_or_of_lt h]; omega
theorem b127:∀c:Fin 256,qdZ .u8 ((c.val:Nat):Int) 127=((c.val%128:Nat):Int):=by decide +kernel
end Go.Proofs.YtfdgemafaphpaaaGreat.Wi
namespace Go.Proofs.YtfdgemafaphpaaaGreat.Wi
open Go Go.Sq
set_option linter.unusedVariables false
def enc(u:Nat):List Int:=if u<128 then [(u:Int)] else((u%128+128:Nat):Int)::enc (u/128)
termination_by u
decreasing_by omega
theorem qrO{u:Nat}(h:u<128):enc u=[(u:Int)]:=by rw[enc,if_pos h]
theorem qsN{u:Nat}(h:128<=u):enc u=((u%128+128:Nat):Int)::enc (u/128):=by rw[enc,if_neg (by omega)]
def encZ(n:Int):List Int:=enc (zg n)
def encs(l:List Int):List Int:=(l.map encZ).flatten
def bN(b:List Int)(i:Nat):Nat:=(b.getD i 0).toNat
def rdI(b:List Int)(p k u:Nat):Nat->Int×Int×Int
 | 0=>(0,0,3)
 | f+1=>if b.length<=p then(0,0,2) else
  if 128<=bN b p then rdI b (p+1) (k+1) (u+bN b p%128*2^(7*k)) f else
  if k=9/\1<bN b p\/0<k/\bN b p=0 then(0,0,3) else(unz (u+bN b p%128*2^(7*k)),((p+1:Nat):Int),0)
def rdZ(b:List Int)(p:Int):Int×Int×Int:=if p<0\/(b.length:Int)<p then(0,0,1) else rdI b p.toNat 0 0 10
def qfF(b:List Int):Prop:=∀x∈b,0<=x/\x<=255
theorem qvh:∀(f u:Nat),u<=f->qfF (enc u)
 | 0,u,h=>by rw[qrO (by omega)]; intro x hx; rw[zI.1 hx]; omega
 | f+1,u,h=>by
  by_cases h1:u<128
  ·rw[qrO h1]; intro x hx; rw[zI.1 hx]; omega
  ·rw[qsN (by omega)]
   intro x hx;rcases zE.1 hx with rfl | hx
   ·omega
   ·exact qvh f _ (by omega) x hx
theorem qsO(n:Int):qfF (encZ n):=qvh _ _ (zM _)
theorem qwv(u:Nat):0<(enc u).length:=by
 by_cases h:u<128
 ·rw[qrO h]; simp
 ·rw[qsN (by omega)]; simp
theorem bN_at{b pre post:List Int}{c:Nat}{p:Nat}(hp:p=pre.length)(e:b=pre++(c:Int)::post):bN b p=c/\¬b.length<=p:=by
 subst e hp;refine⟨?_,by simp⟩
 unfold bN;rw[zh,zL (zM _),zU2];simp
theorem qww:∀(f k v u p:Nat) (b pre post:List Int),f+k=10->p=pre.length->b=pre++enc v++post->v*2^(7*k)<2^64->(k=0\/0<v)->rdI b p k u f=(unz (u+v*2^(7*k)),((p+(enc v).length:Nat):Int),0)
 | 0,k,v,u,p,b,pre,post,hf,hp,e,hv,h0=>by
  have hk:k=10:=by omega
  subst hk;have:v*2^70<2^64:=hv;omega
 | f+1,k,v,u,p,b,pre,post,hf,hp,e,hv,h0=>by
  by_cases h1:v<128
  ·rw[qrO h1] at e ⊢;obtain⟨g1,g2⟩:=bN_at hp (e.trans (by simp):b=pre++(v:Int)::post)
   unfold rdI;rw[if_neg g2,g1,if_neg (by omega),if_neg ?_,zs1 h1]
   ·rfl
   ·rintro(⟨hk,h⟩ | ⟨h,h'⟩)
    ·subst hk;have:v*2^63<2^64:=hv;omega
    ·omega
  ·rw[qsN (by omega)] at e ⊢
   obtain⟨g1,g2⟩:=bN_at hp (e.trans (by simp):b=pre++((v%128+128:Nat):Int)::(enc (v/128)++post))
   unfold rdI;rw[if_neg g2,g1,if_pos (by omega)]
   have hM:2^(7*(k+1))=128*2^(7*k):=by rw[show 7*(k+1)=7+7*k by omega,Nat.pow_add]
   have hv2:v*2^(7*k)=v/128*2^(7*(k+1))+v%128*2^(7*k):=by
    rw[hM,<-Nat.mul_assoc,<-z71];congr 1; omega
   rw[qww f (k+1) (v/128) _ (p+1) b (pre++[((v%128+128:Nat):Int)]) post (by omega) (by simp; omega) (by rw[e]; simp) (by rw[hv2] at hv; omega) (by omega)]
   refine Prod.ext ?_ (Prod.ext ?_ rfl)
   ·show unz _=unz _;congr 1;rw[show(v%128+128)%128=v%128 by omega,hv2]; omega
   ·show((p+1+_:Nat):Int)=((p+_:Nat):Int);simp; omega
theorem qDz{b pre post:List Int}{n:Int}(h : -9223372036854775808<=n/\n<=9223372036854775807)(e:b=pre++encZ n++post):rdZ b (pre.length:Int)=(n,((pre.length+(encZ n).length:Nat):Int),0):=by
 unfold rdZ;rw[if_neg (by subst e; simp; omega),z8,qww 10 0 (zg n) 0 pre.length b pre post rfl rfl e (by have:=zg_lt h; simpa using this) (.inl rfl)]
 rw[z01,Nat.mul_zero,Nat.pow_zero,z82,qCF]; rfl
end Go.Proofs.YtfdgemafaphpaaaGreat.Wi
namespace Go.Proofs.YtfdgemafaphpaaaGreat.Wi
open Go Go.Sq
set_option linter.unusedVariables false
theorem qAn(a:Nat):wu8 (a:Int)=((a%256:Nat):Int):=by
 show IntKind.u8.wrap (a:Int)=_;simp[IntKind.wrap,IntKind.bits,IntKind.signed]
theorem qAo:∀(k u:Nat),0<k->u<128^k->(enc u).length<=k
 | 0,u,h,_=>by omega
 | k+1,u,h,hu=>by
  by_cases h1:u<128
  ·rw[qrO h1]; simp
  ·rw[qsN (by omega),zt]
   cases k with
   | zero=>omega
   | succ k=>
    have:u/128<128^(k+1):=by rw[Nat.div_lt_iff_lt_mul (by omega)]; rw[Nat.pow_succ] at hu; exact hu
    have:=qAo (k+1) (u/128) (by omega) this
    omega
theorem qmh{n:Int}(h : -9223372036854775808<=n/\n<=9223372036854775807):(encZ n).length<=10:=qAo 10 _ (by omega) (by have:=zg_lt h; omega)
theorem qDA{n:Int}(h : -9223372036854775808<=n/\n<=9223372036854775807):qib n=some (zg n:Int):=by
 unfold qib zg;by_cases h0:0<=n
 ·rw[dec_t h0,zb,if_pos h0,qvg,qvg]; congr 1; omega
 ·rw[dec_f h0,za,if_neg h0,wi (n:=n+1) (by omega),wi (by omega),qvg,qvg,qvg]; congr 1; omega
theorem qvi:∀(f u:Nat) (out:List Int),u<=f->u<18446744073709551616->out.length+(enc u).length<=10000000->
  ((iter (fun x=>qcQ x.1 x.2) ((u:Int),out)).bind fun s=>gd (fits (s.2.length+1) 1) (some (s.2++[wu8 s.1])))=some (out++enc u)
 | f,u,out,hf,hu,hl=>by
  by_cases h:u<128
  ·have h1:qcQ (u:Int) out=some (.inr ((u:Int),out)):=by
    unfold qcQ;rw[dec_f (by omega),za]
   rw[qcD];simp only[h1,z7];rw[qaj (by omega),gd_tt,qAn,zs1 (by omega),qrO h]
  ·rw[qsN (by omega)] at hl ⊢
   have hp:=qwv (u/128);simp only[zt] at hl;have h1:qcQ (u:Int) out=some (.inl (((u/128:Nat):Int),out++[((u%128+128:Nat):Int)])):=by
    unfold qcQ;rw[dec_t (by omega),zb,qaj (by omega),gd_tt,show Int.tdiv (u:Int) 128=((u/128:Nat):Int) from rfl,show Int.tmod (u:Int) 128=((u%128:Nat):Int) from rfl,qjn (by omega),show((u%128:Nat):Int)+128=((u%128+128:Nat):Int) by omega,qjn (by omega),qAn,zs1 (by omega)]
   rw[qcD];simp only[h1];cases f with
   | zero=>omega
   | succ f=>
    rw[qvi f (u/128) (out++[((u%128+128:Nat):Int)]) (by omega) (by omega) (by simp; omega)]
    simp
theorem qAp{b:List Int}{n:Int}(h : -9223372036854775808<=n/\n<=9223372036854775807)(hb:b.length<=1000000):qgw b n=some (b++encZ n):=by
 have hl:=qmh h;unfold qgw;rw[qaj (by omega),gd_tt,qDA h,z7,zD]
 exact qvi _ _ _ (zM _) (zg_lt h) (by unfold encZ at hl; omega)
end Go.Proofs.YtfdgemafaphpaaaGreat.Wi
namespace Go.Proofs.YtfdgemafaphpaaaGreat.Wi
open Go Go.Sq
set_option linter.unusedVariables false
theorem qAq{b:List Int}(hb:qfF b){i:Nat}(h:i<b.length):b.getD i 0=((bN b i:Nat):Int)/\bN b i<256:=by
 have:=hb _ (qaU (d:=0) h);unfold bN;omega
theorem sh7{k:Nat}(h:k<=9):(2:Int)^shAmt .u64 (wi64 (7*(k:Int)))=((2^(7*k):Nat):Int):=by
 rw[wi (by omega),show 7*(k:Int)=((7*k:Nat):Int) by omega]
 unfold shAmt;rw[z8,zg1 (by show 7*k<=64; omega)]
 push_cast; rfl
theorem p7{k:Nat}(h:k<=9):2^(7*k)<=9223372036854775808:=by
 calc 2^(7*k)<=2^63:=Nat.pow_le_pow_right (by omega) (by omega)
  _=9223372036854775808:=by decide
theorem p8{k c:Nat}(h:k<=8)(hc:c<128):c*2^(7*k)<9223372036854775808:=by
 have h1:2^(7*k)<=2^56:=Nat.pow_le_pow_right (by omega) (by omega)
 have h2:c*2^(7*k)<=127*2^56:=Nat.mul_le_mul (by omega) h1
 have:127*2^56<9223372036854775808:=by decide
 omega
theorem pS(k:Nat):2^(7*(k+1))=128*2^(7*k):=by rw[show 7*(k+1)=7+7*k by omega,Nat.pow_add]
theorem uS{u c k:Nat}(hu:u<2^(7*k))(hc:c<128):u+c*2^(7*k)<2^(7*(k+1)):=by
 have:(c+1)*2^(7*k)<=128*2^(7*k):=zB _ (by omega)
 rw[z71,zH1] at this;rw[pS]; omega
def fin3(s:Unit⊕(Int×Int×Int)):Option (Int×Int×Int):=s.elim (fun _=>some (0,0,3)) (fun s5=>some (s5.1,s5.2.1,s5.2.2))
theorem u64S{u c k:Nat}(hk:k<=9)(hu:u<2^(7*k))(hc:c<128)(h9:k=9->c<=1):c*2^(7*k)<18446744073709551616/\u<18446744073709551616/\u+c*2^(7*k)<18446744073709551616:=by
 have h1:=p7 hk;by_cases h:k=9
 ·subst h;have:c*2^(7*9)<=1*2^(7*9):=zB _ (h9 rfl);omega
 ·have:=p8 (k:=k) (by omega) hc
  omega
theorem qvj{b:List Int}(hb:qfF b)(hl:b.length<=1000000)(p:Nat)(hp:p<=b.length):∀(f k u:Nat),f+k=10->(k<=9->u<2^(7*k))->∀(x:Int),(k<=9->x=(u:Int))->
  (iter (fun x=>qcL b (p:Int) x.1 x.2) (x,(k:Int))).bind fin3=some (rdI b (p+k) k u f)
 | 0,k,u,hf,hu,x,hx=>by
  have hk:k=10:=by omega
  subst hk;have h1:qcL b (p:Int) x ((10:Nat):Int)=some (.inr (.inl ())):=by
   unfold qcL; rw[dec_f (by omega),za]
  rw[qcD];simp only[h1]; rfl
 | f+1,k,u,hf,hu,x,hx=>by
  have hk:k<=9:=by omega
  have hu:=hu hk;have hx:=hx hk;subst hx;have ea:wi64 ((p:Int)+(k:Int))=((p+k:Nat):Int):=by rw[wi (by omega)]; omega
  unfold rdI;by_cases hlen:b.length<=p+k
  ·rw[if_pos hlen];have h1:qcL b (p:Int) (u:Int) (k:Int)=some (.inr (.inr (0,0,2))):=by
    unfold qcL; rw[dec_t (by omega),zb,ea,dec_t (by omega),zb]
   rw[qcD];simp only[h1]; rfl
  ·rw[if_neg hlen];obtain⟨eb,hc⟩:=qAq hb (show p+k<b.length by omega)
   generalize bN b (p+k)=c at eb hc ⊢;have e7:wi64 (7*(k:Int))=7*(k:Int):=wi (by omega)
   have e127:wu64 (qdZ .u8 (c:Int) 127)=((c%128:Nat):Int):=by rw[b127 ⟨c,hc⟩]; exact qjn (by omega)
   have hm:c%128<128:=by omega
   have start:∀Z,qcL b (p:Int) (u:Int) (k:Int)=Z↔(bif decide (128<=(c:Int)) then
     some (.inl (bitOr .u64 (u:Int) (wu64 (((c%128:Nat):Int)*((2^(7*k):Nat):Int))),wi64 ((k:Int)+1)))
    else((bif decide ((k:Int)=9) then(bif decide (1<(c:Int)) then some true else bif decide (0<(k:Int)) then some (decide ((c:Int)=0)) else some false) else bif decide (0<(k:Int)) then some (decide ((c:Int)=0)) else some false).bind fun s2:Bool=>
     bif s2 then some (.inr (.inr (0,0,3))) else
      some (.inr (.inr (qzE .i64 (wi64 (Int.fdiv (bitOr .u64 (u:Int) (wu64 (((c%128:Nat):Int)*((2^(7*k):Nat):Int)))) (2^shAmt .u64 1))) (wi64 (0-(wi64 (qdZ .u64 (bitOr .u64 (u:Int) (wu64 (((c%128:Nat):Int)*((2^(7*k):Nat):Int)))) 1)))),wi64 ((wi64 ((p:Int)+(k:Int)))+1),0)))))=Z:=by
    intro Z;unfold qcL;rw[dec_t (by omega),zb,ea,dec_f (by omega),za,inB_t (by omega),gd_tt,z8,eb,sh7 hk,e127,e7,dec_f (p:=7*(k:Int)<0) (by omega)]
    rfl
   by_cases h128:128<=c
   ·rw[if_pos h128];have h1:=(start _).2 (by rw[dec_t (by omega),zb])
    rw[qcD];simp only[h1];rw[show wi64 ((k:Int)+1)=((k+1:Nat):Int) by rw[wi (by omega)]; omega]
    refine qvj hb hl p hp f (k+1) _ (by omega) (fun h=>uS hu hm) _ (fun h=>?_)
    obtain⟨g1,g2,g3⟩:=u64S hk hu hm (by omega)
    rw[<-zC2,qjn g1,qCE g2 g1,qCG hu]
   ·rw[if_neg h128];by_cases hbad:k=9/\1<c\/0<k/\c=0
    ·rw[if_pos hbad];have h1:qcL b (p:Int) (u:Int) (k:Int)=some (.inr (.inr (0,0,3))):=by
      refine(start _).2 ?_
      rw[dec_f (by omega),za]
      by_cases h9:k=9
      ·rw[dec_t (by omega),zb]
       by_cases hc1:1<c
       ·rw[dec_t (by omega),zb]; rfl
       ·rw[dec_f (by omega),za,dec_t (by omega),zb,dec_t (by omega)]; rfl
      ·rw[dec_f (by omega),za,dec_t (by omega),zb,dec_t (by omega)]; rfl
     rw[qcD];simp only[h1]; rfl
    ·rw[if_neg hbad];have hcm:c%128=c:=zs1 (by omega)
     obtain⟨g1,g2,g3⟩:=u64S hk hu hm (by omega)
     have h1:qcL b (p:Int) (u:Int) (k:Int)=some (.inr (.inr (unz (u+c%128*2^(7*k)),((p+k+1:Nat):Int),0))):=by
      refine(start _).2 ?_
      rw[dec_f (by omega),za,<-zC2,qjn g1,qCE g2 g1,qCG hu,Int.zero_sub,unzig g3,ea,show wi64 (((p+k:Nat):Int)+1)=((p+k+1:Nat):Int) by rw[wi (by omega)]; omega]
      by_cases h9:k=9
      ·rw[dec_t (by omega),zb,dec_f (by omega),za,dec_t (by omega),zb,dec_f (by omega)]; rfl
      ·rw[dec_f (p:=(k:Int)=9) (by omega),za]
       by_cases h0:0<k
       ·rw[dec_t (by omega),zb,dec_f (by omega)]; rfl
       ·rw[dec_f (by omega),za]; rfl
     rw[qcD];simp only[h1]; rfl
theorem qwx{b:List Int}(hb:qfF b)(hl:b.length<=1000000){p:Nat}(hp:p<=b.length):ql4 b (p:Int)=some (rdI b p 0 0 10):=by
 unfold ql4;rw[dec_f (by omega),za,dec_f (by omega),z7,za]
 exact qvj hb hl p hp 10 0 0 rfl (fun _=>by simp) 0 (fun _=>rfl)
end Go.Proofs.YtfdgemafaphpaaaGreat.Wi
namespace Go.Proofs.YtfdgemafaphpaaaGreat.Wi
open Go Go.Sq
set_option linter.unusedVariables false
theorem qEr{u:Nat}(h:u<18446744073709551616):qeh (u:Int)=some (unz u):=by
 unfold qeh unz;rw[show Int.tmod (u:Int) 2=((u%2:Nat):Int) from rfl,show Int.tdiv (u:Int) 2=((u/2:Nat):Int) from rfl,qjn (by omega)]
 by_cases h0:u%2=0
 ·rw[dec_t (by omega),zb,if_pos h0,wi (by omega)]
 ·rw[dec_f (by omega),za,if_neg h0,wi (n:=((u/2:Nat):Int)) (by omega),wi (n:=0-((u/2:Nat):Int)) (by omega),wi (by omega)]
  congr 1; omega
theorem qvk{b:List Int}(hb:qfF b)(hl:b.length<=1000000)(p:Nat)(hp:p<=b.length):∀(f k u:Nat),f+k=10->(k<=9->u<2^(7*k))->∀(x:Int),(k<=9->x=(u:Int))->
  (iter (fun x=>qbv b (p:Int) x.1 x.2) (x,(k:Int))).bind fin3=some (rdI b (p+k) k u f)
 | 0,k,u,hf,hu,x,hx=>by
  have hk:k=10:=by omega
  subst hk;have h1:qbv b (p:Int) x ((10:Nat):Int)=some (.inr (.inl ())):=by
   unfold qbv; rw[dec_f (by omega),za]
  rw[qcD];simp only[h1]; rfl
 | f+1,k,u,hf,hu,x,hx=>by
  have hk:k<=9:=by omega
  have hu:=hu hk;have hx:=hx hk;subst hx;have ea:wi64 ((p:Int)+(k:Int))=((p+k:Nat):Int):=by rw[wi (by omega)]; omega
  unfold rdI;by_cases hlen:b.length<=p+k
  ·rw[if_pos hlen];have h1:qbv b (p:Int) (u:Int) (k:Int)=some (.inr (.inr (0,0,2))):=by
    unfold qbv; rw[dec_t (by omega),zb,ea,dec_t (by omega),zb]
   rw[qcD];simp only[h1]; rfl
  ·rw[if_neg hlen];obtain⟨eb,hc⟩:=qAq hb (show p+k<b.length by omega)
   generalize bN b (p+k)=c at eb hc ⊢;have e7:wi64 (7*(k:Int))=7*(k:Int):=wi (by omega)
   have e127:wu64 (Int.tmod (c:Int) 128)=((c%128:Nat):Int):=by rw[show Int.tmod (c:Int) 128=((c%128:Nat):Int) from rfl]; exact qjn (by omega)
   have hm:c%128<128:=by omega
   have start:∀Z,qbv b (p:Int) (u:Int) (k:Int)=Z↔((bif decide ((k:Int)=9) then some (decide (1<(c:Int))) else some false).bind fun s2:Bool=>
     bif s2 then some (.inr (.inr (0,0,3))) else
     bif decide ((c:Int)<128) then((bif decide ((c:Int)=0) then some (decide (0<(k:Int))) else some false).bind fun s3:Bool=>
      bif s3 then some (.inr (.inr (0,0,3))) else
       (qeh (wu64 ((u:Int)+(wu64 (((c%128:Nat):Int)*((2^(7*k):Nat):Int)))))).bind fun r=>some (.inr (.inr (r,wi64 ((wi64 ((p:Int)+(k:Int)))+1),0))))
     else some (.inl (wu64 ((u:Int)+(wu64 (((c%128:Nat):Int)*((2^(7*k):Nat):Int)))),wi64 ((k:Int)+1))))=Z:=by
    intro Z;unfold qbv;rw[dec_t (by omega),zb,ea,dec_f (by omega),za,inB_t (by omega),gd_tt,z8,eb,sh7 hk,e127,e7,dec_f (p:=7*(k:Int)<0) (by omega)]
    simp only[zl1,gd_tt]
   by_cases h128:128<=c
   ·rw[if_pos h128];by_cases h9:k=9
    ·have h1:qbv b (p:Int) (u:Int) (k:Int)=some (.inr (.inr (0,0,3))):=by
      refine(start _).2 ?_
      rw[dec_t (by omega),zb,dec_t (by omega)]; rfl
     rw[qcD];simp only[h1];have:f=0:=by omega
     subst this; rfl
    ·obtain⟨g1,g2,g3⟩:=u64S hk hu hm (by omega)
     have h1:qbv b (p:Int) (u:Int) (k:Int)=some (.inl (((u+c%128*2^(7*k):Nat):Int),((k+1:Nat):Int))):=by
      refine(start _).2 ?_
      rw[dec_f (by omega),za,z7,za,dec_f (by omega),za,<-zC2,qjn g1,<-Int.natCast_add,qjn g3,show wi64 ((k:Int)+1)=((k+1:Nat):Int) by rw[wi (by omega)]; omega]
     rw[qcD];simp only[h1];exact qvk hb hl p hp f (k+1) _ (by omega) (fun h=>uS hu hm) _ (fun h=>rfl)
   ·rw[if_neg h128];by_cases hbad:k=9/\1<c\/0<k/\c=0
    ·rw[if_pos hbad];have h1:qbv b (p:Int) (u:Int) (k:Int)=some (.inr (.inr (0,0,3))):=by
      refine(start _).2 ?_
      by_cases h91:k=9/\1<c
      ·rw[dec_t (by omega),zb,dec_t (by omega)]; rfl
      ·have:(bif decide ((k:Int)=9) then some (decide (1<(c:Int))) else some false)=some false:=by
        by_cases h9:k=9
        ·rw[dec_t (by omega),zb,dec_f (by omega)]
        ·rw[dec_f (by omega),za]
       rw[this,z7,za,dec_t (by omega),zb,dec_t (by omega),zb,dec_t (by omega)]; rfl
     rw[qcD];simp only[h1]; rfl
    ·rw[if_neg hbad];obtain⟨g1,g2,g3⟩:=u64S hk hu hm (by omega)
     have h1:qbv b (p:Int) (u:Int) (k:Int)=some (.inr (.inr (unz (u+c%128*2^(7*k)),((p+k+1:Nat):Int),0))):=by
      refine(start _).2 ?_
      have:(bif decide ((k:Int)=9) then some (decide (1<(c:Int))) else some false)=some false:=by
       by_cases h9:k=9
       ·rw[dec_t (by omega),zb,dec_f (by omega)]
       ·rw[dec_f (by omega),za]
      rw[this,z7,za,dec_t (by omega),zb]
      have:(bif decide ((c:Int)=0) then some (decide (0<(k:Int))) else some false)=some false:=by
       by_cases h9:c=0
       ·rw[dec_t (by omega),zb,dec_f (by omega)]
       ·rw[dec_f (by omega),za]
      rw[this,z7,za,<-zC2,qjn g1,<-Int.natCast_add,qjn g3,qEr g3,z7,ea,show wi64 (((p+k:Nat):Int)+1)=((p+k+1:Nat):Int) by rw[wi (by omega)]; omega]
     rw[qcD];simp only[h1]; rfl
theorem qAr{b:List Int}(hb:qfF b)(hl:b.length<=1000000){p:Nat}(hp:p<=b.length):qn5 b (p:Int)=some (rdI b p 0 0 10):=by
 unfold qn5;rw[dec_f (by omega),za,dec_f (by omega),z7,za]
 exact qvk hb hl p hp 10 0 0 rfl (fun _=>by simp) 0 (fun _=>rfl)
theorem qtY(b:List Int):∀(f p k u:Nat),p<=b.length->∃q:Nat,(rdI b p k u f).2.1=(q:Int)/\q<=b.length
 | 0,p,k,u,h=>⟨0,rfl,by omega⟩
 | f+1,p,k,u,h=>by
  unfold rdI;by_cases h1:b.length<=p
  ·rw[if_pos h1]; exact⟨0,rfl,by omega⟩
  ·rw[if_neg h1];split
   ·exact qtY b f _ _ _ (by omega)
   ·split
    ·exact⟨0,rfl,by omega⟩
    ·exact⟨p+1,rfl,by omega⟩
def num(b:List Int)(p:Nat)(ok:Bool):Int×Nat×Bool:=bif ok then(if(rdI b p 0 0 10).2.2=0 then((rdI b p 0 0 10).1,(rdI b p 0 0 10).2.1.toNat,true) else(0,p,false)) else(0,p,false)
def cnt(b:List Int)(m:Int)(p:Nat)(ok:Bool):Int×Nat×Bool:=if(num b p ok).1<0\/m<(num b p ok).1 then(0,(num b p ok).2.1,false) else num b p ok
theorem qkB{b:List Int}{p:Nat}{ok:Bool}(hp:p<=b.length):(num b p ok).2.1<=b.length:=by
 unfold num;cases ok with
 | false=>exact hp
 | true=>
  obtain⟨q,h1,h2⟩:=qtY b 10 p 0 0 hp;rw[zb];split
  ·simp only; omega
  ·exact hp
theorem cnt_le{b:List Int}{m:Int}{p:Nat}{ok:Bool}(hp:p<=b.length):(cnt b m p ok).2.1<=b.length:=by
 unfold cnt; split <;> exact qkB hp
theorem qCH{b:List Int}{m:Int}(hm:0<=m){p:Nat}{ok:Bool}:0<=(cnt b m p ok).1/\(cnt b m p ok).1<=m:=by
 unfold cnt; split
 ·simp only; omega
 ·rename_i h; simp only[not_or] at h; omega
theorem qDB{b:List Int}(hb:qfF b)(hl:b.length<=1000000){p:Nat}(hp:p<=b.length)(f:Bool):qaa b (p:Int) f=some ((num b p (!f)).1,b,((num b p (!f)).2.1:Int),!(num b p (!f)).2.2):=by
 obtain⟨q,h1,h2⟩:=qtY b 10 p 0 0 hp;unfold qaa num;rw[qwx hb hl hp,z7];cases f with
 | true=>rfl
 | false=>
  by_cases h:(rdI b p 0 0 10).2.2=0
  ·rw[dec_t h];simp only[zl1,zb,if_pos h];rw[h1,z8]; rfl
  ·rw[dec_f h];simp only[zl1,zb,if_neg h]; rfl
theorem or2{p q:Prop}[Decidable p][Decidable q]{A:Type}(k:Bool->Option A):((bif decide p then some true else some (decide q)).bind k)=k (decide (p\/q)):=by
 by_cases h:p
 ·rw[dec_t h,dec_t (p:=p\/q) (Or.inl h)]; rfl
 ·rw[dec_f h,za,z7]; congr 1; exact decide_eq_decide.2 ⟨.inr,fun h'=>h'.resolve_left h⟩
end Go.Proofs.YtfdgemafaphpaaaGreat.Wi
namespace Go.Proofs.YtfdgemafaphpaaaGreat.Wi
open Go Go.Sq
set_option linter.unusedVariables false
abbrev Rcd:=Int×List Int×(Int×Int×Int×Int×Int×List (Int×Bool)×Int)×List UInt8×Int×Int
theorem qDC{b:List Int}{p:Nat}(h:b.length<p)(ok:Bool):num b p ok=(0,p,false):=by
 unfold num;cases ok with
 | false=>rfl
 | true=>
  have:rdI b p 0 0 10=(0,0,2):=by unfold rdI; rw[if_pos (by omega)]
  rw[this,zb,if_neg (by decide)]
theorem wnum{b:List Int}(hb:qfF b)(hl:b.length<=1000000)(p:Nat)(f:Bool):qaa b (p:Int) f=some ((num b p (!f)).1,b,((num b p (!f)).2.1:Int),!(num b p (!f)).2.2):=by
 by_cases h:p<=b.length
 ·exact qDB hb hl h f
 ·rw[qDC (by omega)]
  unfold qaa ql4;rw[dec_f (by omega),za,dec_t (by omega)]
  cases f <;> rfl
theorem wcnt{b:List Int}(hb:qfF b)(hl:b.length<=1000000)(m:Int)(p:Nat)(f:Bool):qaJ m b (p:Int) f=some ((cnt b m p (!f)).1,b,((cnt b m p (!f)).2.1:Int),!(cnt b m p (!f)).2.2):=by
 unfold qaJ cnt;rw[wnum hb hl,z7,or2];by_cases h:(num b p !f).1<0\/m<(num b p !f).1
 ·simp only[dec_t h,zb,if_pos h]; rfl
 ·simp only[dec_f h,za,if_neg h]
def nums(b:List Int):Nat->Nat->Bool->List Int->Nat×Bool×List Int
 | 0,p,ok,l=>(p,ok,l)
 | n+1,p,ok,l=>nums b n (num b p ok).2.1 (num b p ok).2.2 (l++[(num b p ok).1])
def hops(b:List Int):Nat->Nat->Bool->List (Int×Bool)->Nat×Bool×List (Int×Bool)
 | 0,p,ok,l=>(p,ok,l)
 | n+1,p,ok,l=>hops b n (cnt b 1 (num b p ok).2.1 (num b p ok).2.2).2.1 (cnt b 1 (num b p ok).2.1 (num b p ok).2.2).2.2 (l++[((num b p ok).1,decide ((cnt b 1 (num b p ok).2.1 (num b p ok).2.2).1=1))])
section
variable {b:List Int} (hb:qfF b) (hl:b.length<=1000000)
include hb hl
theorem qxA(N:Nat)(hN:N<=100)(c:List Int×Int×Bool):∀(n j p:Nat) (f:Bool) (l:List Int),j+n=N->l.length=j->
  iter (fun x=>qbw ((N:Int),c) x.1 x.2.1 x.2.2.1 x.2.2.2.1 x.2.2.2.2) ((j:Int),b,(p:Int),f,l)=some (b,((nums b n p (!f) l).1:Int),!(nums b n p (!f) l).2.1,(nums b n p (!f) l).2.2)
 | 0,j,p,f,l,hj,hll=>by
  have h1:qbw ((N:Int),c) (j:Int) b (p:Int) f l=some (.inr (b,(p:Int),f,l)):=by
   unfold qbw; rw[dec_f (by(try simp only); omega),za]
  rw[qcD]; simp only[h1,nums,zd1]
 | n+1,j,p,f,l,hj,hll=>by
  have h1:qbw ((N:Int),c) (j:Int) b (p:Int) f l=some (.inl (((j+1:Nat):Int),b,((num b p (!f)).2.1:Int),!(num b p (!f)).2.2,l++[(num b p (!f)).1])):=by
   unfold qbw;rw[dec_t (by(try simp only); omega),zb,wnum hb hl,z7,qaj (by omega),gd_tt,show wi64 ((j:Int)+1)=((j+1:Nat):Int) by rw[wi (by omega)]; omega]
  rw[qcD]; simp only[h1];rw[qxA N hN c n (j+1) _ _ _ (by omega) (by simp; omega)]
  simp only[nums,zd1]
theorem qxB(N:Nat)(hN:N<=100)(c:List Int×Int×Bool)(q:List Int):∀(n j p:Nat) (f:Bool) (l:List (Int×Bool)),j+n=N->l.length=j->
  iter (fun x2=>qbx ((N:Int),c) x2.1 x2.2.1 x2.2.2.1 x2.2.2.2.1 x2.2.2.2.2.1 x2.2.2.2.2.2) ((j:Int),b,(p:Int),f,q,l)=some (b,((hops b n p (!f) l).1:Int),!(hops b n p (!f) l).2.1,q,(hops b n p (!f) l).2.2)
 | 0,j,p,f,l,hj,hll=>by
  have h1:qbx ((N:Int),c) (j:Int) b (p:Int) f q l=some (.inr (b,(p:Int),f,q,l)):=by
   unfold qbx; rw[dec_f (by(try simp only); omega),za]
  rw[qcD]; simp only[h1,hops,zd1]
 | n+1,j,p,f,l,hj,hll=>by
  have h1:qbx ((N:Int),c) (j:Int) b (p:Int) f q l=some (.inl (((j+1:Nat):Int),b,((cnt b 1 (num b p (!f)).2.1 (num b p (!f)).2.2).2.1:Int),!(cnt b 1 (num b p (!f)).2.1 (num b p (!f)).2.2).2.2,q,l++[((num b p (!f)).1,decide ((cnt b 1 (num b p (!f)).2.1 (num b p (!f)).2.2).1=1))])):=by
   unfold qbx;rw[dec_t (by(try simp only); omega),zb,wnum hb hl,z7]
   simp only;rw[wcnt hb hl,z7,qaj (by omega),gd_tt,show wi64 ((j:Int)+1)=((j+1:Nat):Int) by rw[wi (by omega)]; omega]
   simp only[zd1]
  rw[qcD]; simp only[h1];rw[qxB N hN c q n (j+1) _ _ _ (by omega) (by simp; omega)]
  simp only[hops,zd1]
theorem wvals(p0:Nat)(o0:Bool)(c:List Int×Int×Bool)(p:Nat)(f:Bool):iter (fun x=>qbw ((cnt b 21 p0 o0).1,c) x.1 x.2.1 x.2.2.1 x.2.2.2.1 x.2.2.2.2) (0,b,(p:Int),f,[])=some (b,((nums b (cnt b 21 p0 o0).1.toNat p (!f) []).1:Int),!(nums b (cnt b 21 p0 o0).1.toNat p (!f) []).2.1,(nums b (cnt b 21 p0 o0).1.toNat p (!f) []).2.2):=by
 obtain⟨h1,h2⟩:=qCH (b:=b) (m:=21) (by omega) (p:=p0) (ok:=o0)
 have e:(cnt b 21 p0 o0).1=((cnt b 21 p0 o0).1.toNat:Int):=by omega
 generalize (cnt b 21 p0 o0).1=z at h1 h2 e ⊢;obtain⟨N,rfl⟩:∃N:Nat,z=(N:Int):=⟨_,e⟩;rw[z8];exact qxA hb hl N (by omega) c N 0 p f [] (by omega) rfl
theorem whops(p0:Nat)(o0:Bool)(c:List Int×Int×Bool)(q:List Int)(p:Nat)(f:Bool):iter (fun x2=>qbx ((cnt b 32 p0 o0).1,c) x2.1 x2.2.1 x2.2.2.1 x2.2.2.2.1 x2.2.2.2.2.1 x2.2.2.2.2.2) (0,b,(p:Int),f,q,[])=some (b,((hops b (cnt b 32 p0 o0).1.toNat p (!f) []).1:Int),!(hops b (cnt b 32 p0 o0).1.toNat p (!f) []).2.1,q,(hops b (cnt b 32 p0 o0).1.toNat p (!f) []).2.2):=by
 obtain⟨h1,h2⟩:=qCH (b:=b) (m:=32) (by omega) (p:=p0) (ok:=o0)
 have e:(cnt b 32 p0 o0).1=((cnt b 32 p0 o0).1.toNat:Int):=by omega
 generalize (cnt b 32 p0 o0).1=z at h1 h2 e ⊢;obtain⟨N,rfl⟩:∃N:Nat,z=(N:Int):=⟨_,e⟩;rw[z8];exact qxB hb hl N (by omega) c q N 0 p f [] (by omega) rfl
end
theorem qAs{b:List Int}:∀(n p:Nat) (ok:Bool) (l:List Int),p<=b.length->(nums b n p ok l).1<=b.length
 | 0,p,ok,l,h=>h
 | n+1,p,ok,l,h=>qAs n _ _ _ (qkB h)
theorem qAt{b:List Int}:∀(n p:Nat) (ok:Bool) (l:List (Int×Bool)),p<=b.length->(hops b n p ok l).1<=b.length
 | 0,p,ok,l,h=>h
 | n+1,p,ok,l,h=>qAt n _ _ _ (cnt_le (qkB h))
end Go.Proofs.YtfdgemafaphpaaaGreat.Wi
namespace Go.Proofs.YtfdgemafaphpaaaGreat.Wi
open Go Go.Sq
set_option linter.unusedVariables false
def d1(b:List Int):=num b 0 true
def d2(b:List Int):=cnt b 21 (d1 b).2.1 (d1 b).2.2
def dv(b:List Int):=nums b (d2 b).1.toNat (d2 b).2.1 (d2 b).2.2 []
def d3(b:List Int):=num b (dv b).1 (dv b).2.1
def d4(b:List Int):=num b (d3 b).2.1 (d3 b).2.2
def d5(b:List Int):=num b (d4 b).2.1 (d4 b).2.2
def d6(b:List Int):=num b (d5 b).2.1 (d5 b).2.2
def d7(b:List Int):=num b (d6 b).2.1 (d6 b).2.2
def d8(b:List Int):=cnt b 32 (d7 b).2.1 (d7 b).2.2
def dh(b:List Int):=hops b (d8 b).1.toNat (d8 b).2.1 (d8 b).2.2 []
def d9(b:List Int):=num b (dh b).1 (dh b).2.1
def d10(b:List Int):=num b (d9 b).2.1 (d9 b).2.2
def d11(b:List Int):=num b (d10 b).2.1 (d10 b).2.2
def d12(b:List Int):=cnt b 12 (d11 b).2.1 (d11 b).2.2
def zR:Rcd:=(0,[],(0,0,0,0,0,[],0),[],0,0)
def decR(b:List Int):Rcd×Int:=if(d12 b).2.2=false\/¬(b.length:Int)-((d12 b).2.1:Int)=(d12 b).1 then(zR,3) else
 (((d1 b).1,(dv b).2.2,((d3 b).1,(d4 b).1,(d5 b).1,(d6 b).1,(d7 b).1,(dh b).2.2,(d9 b).1),qfc (b.drop (d12 b).2.1),(d10 b).1,(d11 b).1),0)
theorem qEs(b:List Int):(d12 b).2.1<=b.length:=
 cnt_le (qkB (qkB (qkB (qAt _ _ _ _ (cnt_le (qkB (qkB (qkB (qkB (qkB (qAs _ _ _ _ (cnt_le (qkB (zE1 _)))))))))))))) 
theorem cut_t{b:List Int}{p:Nat}(h:p<=b.length):cutG (some (.i64,(p:Int))) none b.length=true:=by
 unfold cutG; simp only[z9,zo]; omega
section
variable {b:List Int} (hb:qfF b) (hl:b.length<=1000000)
include hb hl
theorem wdec:qfs b=some (decR b):=by
 have hle:=qEs b;unfold qfs;have e1:qaa b 0 false=some ((d1 b).1,b,((d1 b).2.1:Int),!(d1 b).2.2):=wnum hb hl 0 false;have e2:qaJ 21 b ((d1 b).2.1:Int) (!(d1 b).2.2)=some ((d2 b).1,b,((d2 b).2.1:Int),!(d2 b).2.2):=by rw[wcnt hb hl,zd1]; rfl
 have ev:=wvals hb hl (d1 b).2.1 (d1 b).2.2 (b,((d2 b).2.1:Int),!(d2 b).2.2) (d2 b).2.1 (!(d2 b).2.2);rw[zd1] at ev;replace ev:iter (fun x=>qbw ((d2 b).1,b,((d2 b).2.1:Int),!(d2 b).2.2) x.1 x.2.1 x.2.2.1 x.2.2.2.1 x.2.2.2.2) (0,b,((d2 b).2.1:Int),!(d2 b).2.2,[])=some (b,((dv b).1:Int),!(dv b).2.1,(dv b).2.2):=ev
 have e3:qaa b ((dv b).1:Int) (!(dv b).2.1)=some ((d3 b).1,b,((d3 b).2.1:Int),!(d3 b).2.2):=by rw[wnum hb hl,zd1]; rfl
 have e4:qaa b ((d3 b).2.1:Int) (!(d3 b).2.2)=some ((d4 b).1,b,((d4 b).2.1:Int),!(d4 b).2.2):=by rw[wnum hb hl,zd1]; rfl
 have e5:qaa b ((d4 b).2.1:Int) (!(d4 b).2.2)=some ((d5 b).1,b,((d5 b).2.1:Int),!(d5 b).2.2):=by rw[wnum hb hl,zd1]; rfl
 have e6:qaa b ((d5 b).2.1:Int) (!(d5 b).2.2)=some ((d6 b).1,b,((d6 b).2.1:Int),!(d6 b).2.2):=by rw[wnum hb hl,zd1]; rfl
 have e7:qaa b ((d6 b).2.1:Int) (!(d6 b).2.2)=some ((d7 b).1,b,((d7 b).2.1:Int),!(d7 b).2.2):=by rw[wnum hb hl,zd1]; rfl
 have e8:qaJ 32 b ((d7 b).2.1:Int) (!(d7 b).2.2)=some ((d8 b).1,b,((d8 b).2.1:Int),!(d8 b).2.2):=by rw[wcnt hb hl,zd1]; rfl
 have eh:=whops hb hl (d7 b).2.1 (d7 b).2.2 (b,((d8 b).2.1:Int),!(d8 b).2.2) (dv b).2.2 (d8 b).2.1 (!(d8 b).2.2);rw[zd1] at eh;replace eh:iter (fun x2=>qbx ((d8 b).1,b,((d8 b).2.1:Int),!(d8 b).2.2) x2.1 x2.2.1 x2.2.2.1 x2.2.2.2.1 x2.2.2.2.2.1 x2.2.2.2.2.2) (0,b,((d8 b).2.1:Int),!(d8 b).2.2,(dv b).2.2,[])=some (b,((dh b).1:Int),!(dh b).2.1,(dv b).2.2,(dh b).2.2):=eh
 have e9:qaa b ((dh b).1:Int) (!(dh b).2.1)=some ((d9 b).1,b,((d9 b).2.1:Int),!(d9 b).2.2):=by rw[wnum hb hl,zd1]; rfl
 have e10:qaa b ((d9 b).2.1:Int) (!(d9 b).2.2)=some ((d10 b).1,b,((d10 b).2.1:Int),!(d10 b).2.2):=by rw[wnum hb hl,zd1]; rfl
 have e11:qaa b ((d10 b).2.1:Int) (!(d10 b).2.2)=some ((d11 b).1,b,((d11 b).2.1:Int),!(d11 b).2.2):=by rw[wnum hb hl,zd1]; rfl
 have e12:qaJ 12 b ((d11 b).2.1:Int) (!(d11 b).2.2)=some ((d12 b).1,b,((d12 b).2.1:Int),!(d12 b).2.2):=by rw[wcnt hb hl,zd1]; rfl
 simp only[e1,e2,ev,e3,e4,e5,e6,e7,e8,eh,e9,e10,e11,e12,z7];rw[wi (n:=(b.length:Int)-((d12 b).2.1:Int)) (by omega)]
 unfold decR;cases h:(d12 b).2.2 with
 | false=>rw[if_pos (.inl rfl)]; rfl
 | true=>
  by_cases h2:(b.length:Int)-((d12 b).2.1:Int)=(d12 b).1
  ·rw[dec_t h2,if_neg (by simp[h2])]
   simp only[ze,za,z7,cut_t hle,gd_tt,z8]
  ·rw[dec_f h2,if_pos (.inr h2)]; rfl
end
end Go.Proofs.YtfdgemafaphpaaaGreat.Wi
namespace Go.Proofs.YtfdgemafaphpaaaGreat.Wi
open Go Go.Sq
set_option linter.unusedVariables false
def i64A(l:List Int):Prop:=∀x∈l,-9223372036854775808<=x/\x<=9223372036854775807
theorem qtZ:encs []=[]:=rfl
theorem qlJ(x:Int)(l:List Int):encs (x::l)=encZ x++encs l:=rfl
theorem qt0:∀ {l:List Int},i64A l->(encs l).length<=10*l.length
 | [],_=>by simp[qtZ]
 | x::l,h=>by
  have h1:=qmh (h x (by simp))
  have h2:=qt0 (l:=l) fun y hy=>h y (by simp[hy])
  rw[qlJ,zd,zt]; omega
theorem qsP:∀ {l:List Int},qfF (encs l)
 | []=>by intro x hx; cases hx
 | y::l=>by
  rw[qlJ];intro x hx;rcases zy.1 hx with hx | hx
  ·exact qsO y x hx
  ·exact qsP x hx
theorem qxC{l:List Int}(hl:i64A l)(hn:l.length<=1000):∀(n j:Nat) (v:List Int),j+n=l.length->v.length+10*n<=100000->
  iter (fun x=>qe5 l x.1 x.2) ((j:Int),v)=some (v++encs (l.drop j))
 | 0,j,v,hj,hv=>by
  have h1:qe5 l (j:Int) v=some (.inr v):=by unfold qe5; rw[dec_f (by omega),za]
  rw[qcD]; simp only[h1];rw[List.drop_eq_nil_of_le (by omega),qtZ,z81]
 | n+1,j,v,hj,hv=>by
  have hj':j<l.length:=by omega
  have hx:=hl _ (qaU (d:=0) hj');have hxl:=qmh hx;have h1:qe5 l (j:Int) v=some (.inl (((j+1:Nat):Int),v++encZ (l.getD j 0))):=by
   unfold qe5;rw[dec_t (by omega),zb,inB_t hj',gd_tt,z8,qAp hx (by omega),z7,show wi64 ((j:Int)+1)=((j+1:Nat):Int) by rw[wi (by omega)]; omega]
  rw[qcD]; simp only[h1];rw[qxC hl hn n (j+1) _ (by omega) (by rw[zd]; omega),zf1 hj',qlJ,gD_eq hj',zz]
theorem rputs{l:List Int}(hl:i64A l)(hn:l.length<=1000):qi0 l=some (encs l):=by
 unfold qi0;have h:=qxC hl hn l.length 0 [] (by omega) (by simp; omega)
 rw[zR1,zD] at h;exact(congrArg (fun o=>Option.bind o _) h).trans rfl
def hopL(hs:List (Int×Bool)):List Int:=hs.flatMap fun h=>[h.1,bif h.2 then 1 else 0]
theorem qvl(h:Int×Bool)(hs:List (Int×Bool)):hopL (h::hs)=[h.1,bif h.2 then 1 else 0]++hopL hs:=rfl
theorem qt1:∀(hs:List (Int×Bool)),(hopL hs).length=2*hs.length
 | []=>rfl
 | h::hs=>by rw[qvl,zd,qt1 hs]; simp; omega
def shp(r:Rcd):List UInt8:=r.2.2.2.1
def hps(r:Rcd):List (Int×Bool):=r.2.2.1.2.2.2.2.2.1
def recA(r:Rcd):List Int:=[r.1,(r.2.1.length:Int)]
def recB(r:Rcd):List Int:=[r.2.2.1.1,r.2.2.1.2.1,r.2.2.1.2.2.1,r.2.2.1.2.2.2.1,r.2.2.1.2.2.2.2.1,((hps r).length:Int)]
def recC(r:Rcd):List Int:=[r.2.2.1.2.2.2.2.2.2,r.2.2.2.2.1,r.2.2.2.2.2,((shp r).length:Int)]
def recL(r:Rcd):List Int:=recA r++(r.2.1++(recB r++(hopL (hps r)++recC r)))
def big(r:Rcd):Prop:=(21:Int)<(r.2.1.length:Int)\/(32:Int)<((hps r).length:Int)\/(12:Int)<((shp r).length:Int)
instance (r:Rcd):Decidable (big r):=by unfold big; infer_instance
def encR(r:Rcd):Int×List Int:=if big r then(4,[]) else(0,encs (recL r)++qeR (shp r))
theorem or3{p q s:Prop}[Decidable p][Decidable q][Decidable s]{A:Type}(k:Bool->Option A):((bif decide p then some true else bif decide q then some true else some (decide s)).bind k)=k (decide (p\/q\/s)):=by
 by_cases h:p
 ·rw[dec_t h,dec_t (p:=p\/q\/s) (Or.inl h)]; rfl
 ·rw[dec_f h,za,or2]; congr 1; exact decide_eq_decide.2 ⟨.inr,fun h'=>h'.resolve_left h⟩
theorem qBX{hs:List (Int×Bool)}(h:∀x∈hs,-9223372036854775808<=x.1/\x.1<=9223372036854775807):i64A (hopL hs):=by
 intro x hx;unfold hopL at hx;obtain⟨y,hy,hx⟩:=z42.1 hx;rcases zE.1 hx with rfl | hx
 ·exact h y hy
 ·rw[zI.1 hx]; cases y.2 <;> decide
theorem qAu(r:Rcd)(hn:(hps r).length<=100):∀(n j:Nat) (v:List Int),j+n=(hps r).length->v.length+2*n<=4000->
  iter (fun x=>qcj r x.1 x.2) ((j:Int),v)=some (v++hopL ((hps r).drop j))
 | 0,j,v,hj,hv=>by
  have h1:qcj r (j:Int) v=some (.inr v):=by
   unfold qcj; rw[dec_f (by show ¬(j:Int)<((hps r).length:Int); omega),za]
  rw[qcD]; simp only[h1];rw[List.drop_eq_nil_of_le (by omega)]; simp[hopL]
 | n+1,j,v,hj,hv=>by
  have hj':j<(hps r).length:=by omega
  have h1:qcj r (j:Int) v=some (.inl (((j+1:Nat):Int),v++[((hps r).getD j (0,false)).1,bif ((hps r).getD j (0,false)).2 then 1 else 0])):=by
   unfold qcj;have hB:inB (j:Int) r.2.2.1.2.2.2.2.2.1.length=true:=inB_t hj';rw[dec_t (by show(j:Int)<((hps r).length:Int); omega),zb,hB,gd_tt,z8]
   show((bif ((hps r).getD j (0,false)).2 then some ((1:Int),v) else some (0,v)).bind fun s3:Int×List Int=>gd true (gd (fits (s3.2.length+2) 8) (some ((Sum.inl (wi64 ((j:Int)+1),s3.2++[((hps r).getD j (0,false)).1,s3.1])):(Int×List Int)⊕List Int))))=_
   generalize (hps r).getD j (0,false)=y;obtain⟨a,c⟩:=y;cases c
   ·simp only[za,z7,gd_tt];rw[qaj (by omega),gd_tt,show wi64 ((j:Int)+1)=((j+1:Nat):Int) by rw[wi (by omega)]; omega]
   ·simp only[zb,z7,gd_tt];rw[qaj (by omega),gd_tt,show wi64 ((j:Int)+1)=((j+1:Nat):Int) by rw[wi (by omega)]; omega]
  rw[qcD]; simp only[h1];rw[qAu r hn n (j+1) _ (by omega) (by simp only[zd,zt,zK]; omega),zf1 hj',qvl,gD_eq hj',zz]
theorem qiv{l m:List Int}:i64A (l++m)↔i64A l/\i64A m:=by
 unfold i64A; constructor
 ·intro h; exact⟨fun x hx=>h x (by simp[hx]),fun x hx=>h x (by simp[hx])⟩
 ·rintro⟨h1,h2⟩ x hx
  rcases zy.1 hx with hx | hx
  ·exact h1 x hx
  ·exact h2 x hx
theorem renc{r:Rcd}(hr:i64A (recL r)):qgx r=some (encR r):=by
 unfold qgx encR;rw[or3];by_cases h:big r
 ·rw[if_pos h,show decide (21<(r.2.1.length:Int)\/32<(r.2.2.1.2.2.2.2.2.1.length:Int)\/12<(r.2.2.2.1.length:Int))=true from dec_t h]; rfl
 ·rw[if_neg h,show decide (21<(r.2.1.length:Int)\/32<(r.2.2.1.2.2.2.2.2.1.length:Int)\/12<(r.2.2.2.1.length:Int))=false from dec_f h]
  simp only[big,not_or] at h;obtain⟨h1,h2,h3⟩:=h;have lL:=qt0 hr;have sA:(recA r).length=2:=rfl;have sB:(recB r).length=6:=rfl;have sC:(recC r).length=4:=rfl;have sH:=qt1 (hps r);have sL:(recL r).length=12+r.2.1.length+2*(hps r).length:=by unfold recL; simp only[zd]; omega
  have pA:0<(encs (recL r)).length:=by unfold recL recA; rw[zO1,qlJ,zd]; have:=qwv (zg r.1); unfold encZ; omega
  simp only[za];have e4:=qAu r (by omega) (hps r).length 0 ((recA r++r.2.1)++recB r) (by omega) (by simp only[zd]; omega)
  rw[zR1] at e4;replace e4:iter (fun x=>qcj r x.1 x.2) (0,([r.1,(r.2.1.length:Int)]++r.2.1)++[r.2.2.1.1,r.2.2.1.2.1,r.2.2.1.2.2.1,r.2.2.1.2.2.2.1,r.2.2.1.2.2.2.2.1,(r.2.2.1.2.2.2.2.2.1.length:Int)])=some (((recA r++r.2.1)++recB r)++hopL (hps r)):=e4
  have eq:(((recA r++r.2.1)++recB r)++hopL (hps r))++recC r=recL r:=by unfold recL; simp only[zz]
  have e5:qi0 ((((recA r++r.2.1)++recB r)++hopL (hps r))++[r.2.2.1.2.2.2.2.2.2,r.2.2.2.2.1,r.2.2.2.2.2,(r.2.2.2.1.length:Int)])=some (encs (recL r)):=(congrArg qi0 eq).trans (rputs hr (by omega))
  rw[qaj (by omega),gd_tt,qaj (by simp only[zd,zt,zK]; omega),gd_tt]
  simp only[e4,z7];rw[qaj (by simp only[zd]; omega),gd_tt]
  simp only[e5,z7];have hs:r.2.2.2.1.length=(shp r).length:=rfl;have hg:(Nat.blt 0 ((encs (recL r)).length+r.2.2.2.1.length)&&fits ((encs (recL r)).length+r.2.2.2.1.length) 1)=true:=by
   rw[z9,zS];exact⟨by omega,qaj (by omega)⟩
  rw[hg,gd_tt]; rfl
end Go.Proofs.YtfdgemafaphpaaaGreat.Wi
namespace Go.Proofs.YtfdgemafaphpaaaGreat.Wi
open Go Go.Sq
set_option linter.unusedVariables false
def At(b:List Int)(p:Nat)(l rest:List Int):Prop:=p<=b.length/\b.drop p=encs l++rest
theorem qkC{b:List Int}{p:Nat}{x:Int}{l rest:List Int}(h:At b p (x::l) rest)(hx : -9223372036854775808<=x/\x<=9223372036854775807):∃q,num b p true=(x,q,true)/\At b q l rest:=by
 obtain⟨h1,h2⟩:=h;rw[qlJ] at h2;have e:b=b.take p++encZ x++(encs l++rest):=by
  rw[zz,<-zz (encZ x),<-h2,zh1]
 have hl:(b.take p).length=p:=by rw[zk]; omega
 have h3:=qww 10 0 (zg x) 0 p b (b.take p) (encs l++rest) rfl hl.symm e (by have:=zg_lt hx; simpa using this) (.inl rfl)
 rw[z01,Nat.mul_zero,Nat.pow_zero,z82,qCF] at h3;refine⟨p+(encZ x).length,?_,?_,?_⟩
 ·unfold num;rw[zb,h3,if_pos rfl,z8]; rfl
 ·have:=congrArg List.length h2;rw[zY,zd,zd] at this; omega
 ·rw[<-zP1,h2,zz,List.drop_left]
theorem qxD{b:List Int}{p:Nat}{x m:Int}{l rest:List Int}(h:At b p (x::l) rest)(hx : -9223372036854775808<=x/\x<=9223372036854775807)(h0:0<=x)(hm:x<=m):∃q,cnt b m p true=(x,q,true)/\At b q l rest:=by
 obtain⟨q,h1,h2⟩:=qkC h hx;refine⟨q,?_,h2⟩
 unfold cnt;rw[h1,if_neg (by simp only; omega)]
theorem qAv{b:List Int}{m rest:List Int}:∀(l:List Int) (p:Nat) (acc:List Int),i64A l->At b p (l++m) rest->∃q,nums b l.length p true acc=(q,true,acc++l)/\At b q m rest
 | [],p,acc,_,h=>⟨p,by rw[z81]; rfl,h⟩
 | x::l,p,acc,hi,h=>by
  obtain⟨q,h1,h2⟩:=qkC (l:=l++m) h (hi x (by simp))
  obtain⟨q2,h3,h4⟩:=qAv l q (acc++[x]) (fun y hy=>hi y (by simp[hy])) h2
  refine⟨q2,?_,h4⟩
  rw[zt];unfold nums;rw[h1,h3]; simp
theorem qAw{b:List Int}{m rest:List Int}:∀(l:List (Int×Bool)) (p:Nat) (acc:List (Int×Bool)),(∀x∈l,-9223372036854775808<=x.1/\x.1<=9223372036854775807)->At b p (hopL l++m) rest->∃q,hops b l.length p true acc=(q,true,acc++l)/\At b q m rest
 | [],p,acc,_,h=>⟨p,by rw[z81]; rfl,h⟩
 | x::l,p,acc,hi,h=>by
  obtain⟨a,c⟩:=x;obtain⟨q,h1,h2⟩:=qkC (l:=(bif c then 1 else 0)::(hopL l++m)) h (hi _ (by simp))
  obtain⟨q1,g1,g2⟩:=qxD (m:=1) h2 (by cases c <;> decide) (by cases c <;> decide) (by cases c <;> decide)
  obtain⟨q2,h3,h4⟩:=qAw l q1 (acc++[(a,c)]) (fun y hy=>hi y (by simp[hy])) g2
  refine⟨q2,?_,h4⟩
  rw[zt];unfold hops;rw[h1]; simp only;rw[g1]; simp only;rw[show decide ((bif c then(1:Int) else 0)=1)=c by cases c <;> rfl,h3]; simp
theorem toB(l:List UInt8):qfc (qeR l)=l:=by
 unfold qfc qeR;rw[List.map_map]
 conv=>rhs; rw[<-List.map_id l]
 apply zy2;intro x _;simp
theorem qDD{r:Rcd}(hr:i64A (recL r))(hh:∀x∈hps r,-9223372036854775808<=x.1/\x.1<=9223372036854775807)(hb:¬big r):decR (encs (recL r)++qeR (shp r))=(r,0):=by
 simp only[big,not_or] at hb;obtain⟨g1,g2,g3⟩:=hb;obtain⟨b,hbe⟩:∃b,b=encs (recL r)++qeR (shp r):=⟨_,rfl⟩;rw[<-hbe];have A0:At b 0 (recL r) (qeR (shp r)):=⟨zE1 _,by rw[zR1]; exact hbe⟩
 have hr':=hr;obtain⟨iA,hr⟩:=qiv.1 hr;obtain⟨iV,hr⟩:=qiv.1 hr;obtain⟨iB,hr⟩:=qiv.1 hr;obtain⟨iH,iC⟩:=qiv.1 hr;obtain⟨kind,vs,⟨s1,s2,s3,s4,s5,hs,s6⟩,sh,ek,ev⟩:=r;obtain⟨p1,e1,A1⟩:=qkC (x:=kind) A0 (iA _ (by simp[recA]))
 have E1:d1 b=(kind,p1,true):=e1;obtain⟨p2,e2,A2⟩:=qxD (x:=(vs.length:Int)) (m:=21) A1 (iA _ (by simp[recA])) (by omega) (by simp only at g1; omega)
 have E2:d2 b=((vs.length:Int),p2,true):=by unfold d2; rw[E1]; exact e2
 obtain⟨p3,e3,A3⟩:=qAv vs p2 [] iV A2;have E3:dv b=(p3,true,vs):=by unfold dv; rw[E2]; simp only[z8]; rw[e3]; rfl
 obtain⟨p4,e4,A4⟩:=qkC (x:=s1) A3 (iB _ (by simp[recB]))
 have E4:d3 b=(s1,p4,true):=by unfold d3; rw[E3]; exact e4
 obtain⟨p5,e5,A5⟩:=qkC (x:=s2) A4 (iB _ (by simp[recB]))
 have E5:d4 b=(s2,p5,true):=by unfold d4; rw[E4]; exact e5
 obtain⟨p6,e6,A6⟩:=qkC (x:=s3) A5 (iB _ (by simp[recB]))
 have E6:d5 b=(s3,p6,true):=by unfold d5; rw[E5]; exact e6
 obtain⟨p7,e7,A7⟩:=qkC (x:=s4) A6 (iB _ (by simp[recB]))
 have E7:d6 b=(s4,p7,true):=by unfold d6; rw[E6]; exact e7
 obtain⟨p8,e8,A8⟩:=qkC (x:=s5) A7 (iB _ (by simp[recB]))
 have E8:d7 b=(s5,p8,true):=by unfold d7; rw[E7]; exact e8
 have g2':(hs.length:Int)<=32:=by have:¬(32:Int)<(hs.length:Int):=g2; omega
 obtain⟨p9,e9,A9⟩:=qxD (x:=(hs.length:Int)) (m:=32) A8 (by omega) (by omega) g2'
 have E9:d8 b=((hs.length:Int),p9,true):=by unfold d8; rw[E8]; exact e9
 obtain⟨p10,e10,A10⟩:=qAw hs p9 [] hh A9;have E10:dh b=(p10,true,hs):=by unfold dh; rw[E9]; simp only[z8]; rw[e10]; rfl
 obtain⟨p11,e11,A11⟩:=qkC (x:=s6) A10 (iC _ (by simp[recC]))
 have E11:d9 b=(s6,p11,true):=by unfold d9; rw[E10]; exact e11
 obtain⟨p12,e12,A12⟩:=qkC (x:=ek) A11 (iC _ (by simp[recC]))
 have E12:d10 b=(ek,p12,true):=by unfold d10; rw[E11]; exact e12
 obtain⟨p13,e13,A13⟩:=qkC (x:=ev) A12 (iC _ (by simp[recC]))
 have E13:d11 b=(ev,p13,true):=by unfold d11; rw[E12]; exact e13
 have g3':(sh.length:Int)<=12:=by have:¬(12:Int)<(sh.length:Int):=g3; omega
 obtain⟨p14,e14,A14⟩:=qxD (x:=(sh.length:Int)) (m:=12) A13 (by omega) (by omega) g3'
 have E14:d12 b=((sh.length:Int),p14,true):=by unfold d12; rw[E13]; exact e14
 obtain⟨l14,D14⟩:=A14;rw[qtZ,zD] at D14;have hlen:=congrArg List.length D14;rw[zY] at hlen;have hof:(qeR sh).length=sh.length:=by unfold qeR; rw[z91]
 have hlen2:b.length-p14=sh.length:=hlen.trans hof;unfold decR;rw[if_neg (by rw[E14]; simp only[not_or]; exact⟨by decide,by omega⟩),E14,E13,E12,E11,E10,E8,E7,E6,E5,E4,E3,E1]
 simp only;rw[D14];show _=_;rw[show qfc (qeR (shp (kind,vs,(s1,s2,s3,s4,s5,hs,s6),sh,ek,ev)))=sh from toB sh]
end Go.Proofs.YtfdgemafaphpaaaGreat.Wi
