/- Numbers as bytes: folding, bits of a word. No condition. -/
import Derived.Test.YtgmjmgihjjddmaaGreatCn5
import Derived.Test.YtgmjmgihjjddmaaGreatQu
namespace Go.Proofs.YtgmjmgihjjddmaaGreat.Wi
open Go Go.Sq
set_option linter.unusedVariables false
theorem qiI{a:Nat}(h:a<18446744073709551616):wu64 (a:Int)=(a:Int):=by
 show IntKind.u64.wrap (a:Int)=_;simp[IntKind.wrap,IntKind.bits,IntKind.signed]; omega
theorem qpO(a:Int):wu64 a=a%18446744073709551616:=by
 show IntKind.u64.wrap a=_;simp[IntKind.wrap,IntKind.bits,IntKind.signed]
theorem bv(a:Nat):BitVec.ofInt 64 (a:Int)=BitVec.ofNat 64 a:=by
 apply BitVec.eq_of_toNat_eq;simp[BitVec.toNat_ofInt] <;> omega
theorem qzC{a b:Nat}(ha:a<18446744073709551616)(hb:b<18446744073709551616):qq2 .u64 (a:Int) (b:Int)=((a^^^b:Nat):Int):=by
 show IntKind.u64.wrap ((BitVec.ofInt 64 (a:Int)^^^BitVec.ofInt 64 (b:Int)).toNat:Int)=_;rw[bv,bv,zZ2,zx1,zx1,zh1 (by omega),zh1 (by omega)]
 exact qiI (by
  have:a^^^b<2^64:=Nat.xor_lt_two_pow (by omega) (by omega)
  omega)
theorem qBF{a b:Nat}(ha:a<18446744073709551616)(hb:b<18446744073709551616):bitOr .u64 (a:Int) (b:Int)=((a|||b:Nat):Int):=by
 show IntKind.u64.wrap ((BitVec.ofInt 64 (a:Int)|||BitVec.ofInt 64 (b:Int)).toNat:Int)=_;rw[bv,bv,BitVec.toNat_or,zx1,zx1,zh1 (by omega),zh1 (by omega)]
 exact qiI (by
  have:a|||b<2^64:=Nat.or_lt_two_pow (by omega) (by omega)
  omega)
theorem qCr{a:Nat}(ha:a<18446744073709551616):qgc .u64 (a:Int) 1=((a%2:Nat):Int):=by
 show IntKind.u64.wrap ((BitVec.ofInt 64 (a:Int)&&&BitVec.ofInt 64 ((1:Nat):Int)).toNat:Int)=_;rw[bv,bv,BitVec.toNat_and,zx1,zx1,zh1 (by omega),zh1 (by omega),Nat.and_one_is_mod]
 exact qiI (by omega)
theorem qzD{a:Nat}(ha:a<18446744073709551616):a^^^18446744073709551615=18446744073709551615-a:=by
 have h:=BitVec.toNat_not (x:=BitVec.ofNat 64 a);rw[<-BitVec.xor_allOnes,zZ2,zx1,BitVec.toNat_allOnes,zh1 (by omega)] at h
 simpa using h
def zg(n:Int):Nat:=if 0<=n then(2*n).toNat else(-(2*n)-1).toNat
theorem zg_lt{n:Int}(h:(-9223372036854775808<=n/\n<=9223372036854775807)):zg n<18446744073709551616:=by
 have : -9223372036854775808<=n/\n<=9223372036854775807:=h;unfold zg; split <;> omega
theorem zig{n:Int}(h:(-9223372036854775808<=n/\n<=9223372036854775807)):qq2 .u64 (wu64 (wu64 n*2^shAmt .u64 1)) (wu64 (Int.fdiv n (2^shAmt .i64 63)))=(zg n:Int):=by
 have h : -9223372036854775808<=n/\n<=9223372036854775807:=h;have e1:(2:Int)^shAmt .u64 1=2:=by kernel_rfl
 have e2:(2:Int)^shAmt .i64 63=9223372036854775808:=by kernel_rfl
 rw[e1,e2,zV1 _ (by omega),qpO,qpO,qpO]
 by_cases h0:0<=n
 ·rw[show n/9223372036854775808=0 by omega,show n%18446744073709551616*2%18446744073709551616=((zg n:Nat):Int) by unfold zg; rw[if_pos h0]; omega]
  exact(qzC (b:=0) (zg_lt h) (by omega)).trans (by rw[Nat.xor_zero])
 ·have hz:n%18446744073709551616*2%18446744073709551616=((18446744073709551615-zg n:Nat):Int):=by unfold zg; rw[if_neg h0]; omega
  rw[show n/9223372036854775808=-1 by omega,hz]
  refine(qzC (b:=18446744073709551615) (by omega) (by omega)).trans ?_
  rw[qzD (by omega)]
  have:=zg_lt h;omega
def unz(u:Nat):Int:=if u%2=0 then((u/2:Nat):Int) else -((u/2:Nat):Int)-1
theorem qCs{u:Nat}(h:u<18446744073709551616) : -9223372036854775808<=unz u/\unz u<=9223372036854775807:=by
 unfold unz; split <;> omega
theorem unzig{u:Nat}(h:u<18446744073709551616):qq2 .i64 (wi64 (Int.fdiv (u:Int) (2^shAmt .u64 1))) (wi64 (-(wi64 (qgc .u64 (u:Int) 1))))=unz u:=by
 have e1:(2:Int)^shAmt .u64 1=2:=by kernel_rfl
 rw[e1,zV1 _ (by omega),qCr h,show(u:Int)/2=((u/2:Nat):Int) by omega,wi (by omega),wi (n:=((u%2:Nat):Int)) (by omega)]
 rcases Nat.mod_two_eq_zero_or_one u with h0 | h0
 ·rw[h0,show wi64 (-((0:Nat):Int))=((0:Nat):Int) from rfl]
  show IntKind.i64.wrap ((BitVec.ofInt 64 ((u/2:Nat):Int)^^^BitVec.ofInt 64 ((0:Nat):Int)).toNat:Int)=_;rw[bv,bv,zZ2,zx1,zx1,zh1 (by omega),Nat.zero_mod,Nat.xor_zero]
  refine(wi (by omega)).trans ?_
  unfold unz; rw[if_pos h0]
 ·rw[h0,show wi64 (-((1:Nat):Int))=-1 from rfl]
  show IntKind.i64.wrap ((BitVec.ofInt 64 ((u/2:Nat):Int)^^^BitVec.ofInt 64 (-1)).toNat:Int)=_;rw[show BitVec.ofInt 64 (-1)=BitVec.ofInt 64 ((18446744073709551615:Nat):Int) by decide,bv,bv,zZ2,zx1,zx1,zh1 (by omega),zh1 (by omega),qzD (by omega)]
  show IntKind.i64.wrap _=_;unfold unz; rw[if_neg (by omega)]
  have:u/2<=9223372036854775807:=by omega
  generalize u/2=q at this ⊢;simp[IntKind.wrap,IntKind.bits,IntKind.signed]; omega
theorem qBG{u c k:Nat}(h:u<2^k):u|||c*2^k=u+c*2^k:=by
 rw[Nat.or_comm,zZ1,<-Nat.two_pow_add_eq_or_of_lt h]; omega
theorem b127:∀c:Fin 256,qgc .u8 ((c.val:Nat):Int) 127=((c.val%128:Nat):Int):=by decide +kernel
theorem b128:∀c:Fin 256,bitOr .u8 ((c.val:Nat):Int) 128=((c.val%128+128:Nat):Int):=by decide +kernel
end Go.Proofs.YtgmjmgihjjddmaaGreat.Wi
namespace Go.Proofs.YtgmjmgihjjddmaaGreat.Wi
open Go Go.Sq
set_option linter.unusedVariables false
def enc(u:Nat):List Int:=if u<128 then [(u:Int)] else((u%128+128:Nat):Int)::enc (u/128)
termination_by u
decreasing_by omega
theorem qsE{u:Nat}(h:u<128):enc u=[(u:Int)]:=by rw[enc,if_pos h]
theorem quT{u:Nat}(h:128<=u):enc u=((u%128+128:Nat):Int)::enc (u/128):=by rw[enc,if_neg (by omega)]
def encZ(n:Int):List Int:=enc (zg n)
def encs(l:List Int):List Int:=(l.map encZ).flatten
def bN(b:List Int)(i:Nat):Nat:=(b.getD i 0).toNat
def rdI(b:List Int)(p k u:Nat):Nat->Int×Int×Int
 | 0=>(0,0,3)
 | f+1=>if b.length<=p then(0,0,2) else
  if 128<=bN b p then rdI b (p+1) (k+1) (u+bN b p%128*2^(7*k)) f else
  if k=9/\1<bN b p\/0<k/\bN b p=0 then(0,0,3) else(unz (u+bN b p%128*2^(7*k)),((p+1:Nat):Int),0)
def qbz(b:List Int):Prop:=∀x∈b,0<=x/\x<=255
theorem quU:∀(f u:Nat),u<=f->qbz (enc u)
 | 0,u,h=>by rw[qsE (by omega)]; intro x hx; rw[zH.1 hx]; omega
 | f+1,u,h=>by
  by_cases h1:u<128
  ·rw[qsE h1]; intro x hx; rw[zH.1 hx]; omega
  ·rw[quT (by omega)]
   intro x hx;rcases zE.1 hx with rfl | hx
   ·omega
   ·exact quU f _ (by omega) x hx
theorem qsF(n:Int):qbz (encZ n):=quU _ _ (zX _)
theorem qrM(u:Nat):0<(enc u).length:=by
 by_cases h:u<128
 ·rw[qsE h]; simp
 ·rw[quT (by omega)]; simp
end Go.Proofs.YtgmjmgihjjddmaaGreat.Wi
namespace Go.Proofs.YtgmjmgihjjddmaaGreat.Wi
open Go Go.Sq
set_option linter.unusedVariables false
theorem qtP(a:Nat):wu8 (a:Int)=((a%256:Nat):Int):=by
 show IntKind.u8.wrap (a:Int)=_;simp[IntKind.wrap,IntKind.bits,IntKind.signed]
theorem qzE:∀(k u:Nat),0<k->u<128^k->(enc u).length<=k
 | 0,u,h,_=>by omega
 | k+1,u,h,hu=>by
  by_cases h1:u<128
  ·rw[qsE h1]; simp
  ·rw[quT (by omega),zq]
   cases k with
   | zero=>omega
   | succ k=>
    have:u/128<128^(k+1):=by rw[Nat.div_lt_iff_lt_mul (by omega)]; rw[Nat.pow_succ] at hu; exact hu
    have:=qzE (k+1) (u/128) (by omega) this
    omega
theorem qiJ{n:Int}(h : -9223372036854775808<=n/\n<=9223372036854775807):(encZ n).length<=10:=qzE 10 _ (by omega) (by have:=zg_lt h; omega)
theorem quV:∀(f u:Nat) (out:List Int),u<=f->out.length+(enc u).length<=10000000->
  ((iter (fun x=>qdh x.1 x.2) ((u:Int),out)).bind fun s=>gd (fits (s.2.length+1) 1) (some (s.2++[wu8 s.1])))=some (out++enc u)
 | f,u,out,hf,hl=>by
  by_cases h:u<128
  ·have h1:qdh (u:Int) out=some (.inr ((u:Int),out)):=by
    unfold qdh;rw[dec_f (by omega),za]
   rw[qbj];simp only[h1,z7];rw[qae (by omega),gd_tt,qtP,zh1 (by omega),qsE h]
  ·rw[quT (by omega)] at hl ⊢
   have hp:=qrM (u/128);simp only[zq] at hl;have h1:qdh (u:Int) out=some (.inl (((u/128:Nat):Int),out++[((u%128+128:Nat):Int)])):=by
    unfold qdh;have e1:(2:Int)^shAmt .u64 7=128:=by kernel_rfl
    rw[dec_t (by omega),z9,qae (by omega),gd_tt,e1,zV1 _ (by omega),qtP,b128 ⟨u%256,by omega⟩]
    simp only;rw[show u%256%128=u%128 by omega]; rfl
   rw[qbj];simp only[h1];cases f with
   | zero=>omega
   | succ f=>
    rw[quV f (u/128) (out++[((u%128+128:Nat):Int)]) (by omega) (by simp; omega)]
    simp
theorem qzF{b:List Int}{n:Int}(h : -9223372036854775808<=n/\n<=9223372036854775807)(hb:b.length<=1000000):qhw b n=some (b++encZ n):=by
 have hl:=qiJ h;unfold qhw;rw[qae (by omega),gd_tt,zig h,zA]
 exact quV _ _ _ (zX _) (by unfold encZ at hl; omega)
theorem qCt{n:Int}(h : -9223372036854775808<=n/\n<=9223372036854775807):qiC n=some (zg n:Int):=by
 unfold qiC zg;by_cases h0:0<=n
 ·rw[dec_t h0,z9,if_pos h0,qpO,qpO]; congr 1; omega
 ·rw[dec_f h0,za,if_neg h0,wi (n:=n+1) (by omega),wi (by omega),qpO,qpO,qpO]; congr 1; omega
theorem quW:∀(f u:Nat) (out:List Int),u<=f->u<18446744073709551616->out.length+(enc u).length<=10000000->
  ((iter (fun x=>qcR x.1 x.2) ((u:Int),out)).bind fun s=>gd (fits (s.2.length+1) 1) (some (s.2++[wu8 s.1])))=some (out++enc u)
 | f,u,out,hf,hu,hl=>by
  by_cases h:u<128
  ·have h1:qcR (u:Int) out=some (.inr ((u:Int),out)):=by
    unfold qcR;rw[dec_f (by omega),za]
   rw[qbj];simp only[h1,z7];rw[qae (by omega),gd_tt,qtP,zh1 (by omega),qsE h]
  ·rw[quT (by omega)] at hl ⊢
   have hp:=qrM (u/128);simp only[zq] at hl;have h1:qcR (u:Int) out=some (.inl (((u/128:Nat):Int),out++[((u%128+128:Nat):Int)])):=by
    unfold qcR;rw[dec_t (by omega),z9,qae (by omega),gd_tt,show Int.tdiv (u:Int) 128=((u/128:Nat):Int) from rfl,show Int.tmod (u:Int) 128=((u%128:Nat):Int) from rfl,qiI (by omega),show((u%128:Nat):Int)+128=((u%128+128:Nat):Int) by omega,qiI (by omega),qtP,zh1 (by omega)]
   rw[qbj];simp only[h1];cases f with
   | zero=>omega
   | succ f=>
    rw[quW f (u/128) (out++[((u%128+128:Nat):Int)]) (by omega) (by omega) (by simp; omega)]
    simp
theorem qzG{b:List Int}{n:Int}(h : -9223372036854775808<=n/\n<=9223372036854775807)(hb:b.length<=1000000):qgq b n=some (b++encZ n):=by
 have hl:=qiJ h;unfold qgq;rw[qae (by omega),gd_tt,qCt h,z7,zA]
 exact quW _ _ _ (zX _) (zg_lt h) (by unfold encZ at hl; omega)
end Go.Proofs.YtgmjmgihjjddmaaGreat.Wi
namespace Go.Proofs.YtgmjmgihjjddmaaGreat.Wi
open Go Go.Sq
set_option linter.unusedVariables false
theorem qzH{b:List Int}(hb:qbz b){i:Nat}(h:i<b.length):b.getD i 0=((bN b i:Nat):Int)/\bN b i<256:=by
 have:=hb _ (qaY (d:=0) h);unfold bN;omega
theorem sh7{k:Nat}(h:k<=9):(2:Int)^shAmt .u64 (wi64 (7*(k:Int)))=((2^(7*k):Nat):Int):=by
 rw[wi (by omega),show 7*(k:Int)=((7*k:Nat):Int) by omega]
 unfold shAmt;rw[z8,z61 (by show 7*k<=64; omega)]
 push_cast; rfl
theorem p7{k:Nat}(h:k<=9):2^(7*k)<=9223372036854775808:=by
 calc 2^(7*k)<=2^63:=Nat.pow_le_pow_right (by omega) (by omega)
  _=9223372036854775808:=by decide
theorem p8{k c:Nat}(h:k<=8)(hc:c<128):c*2^(7*k)<9223372036854775808:=by
 have h1:2^(7*k)<=2^56:=Nat.pow_le_pow_right (by omega) (by omega)
 have h2:c*2^(7*k)<=127*2^56:=Nat.mul_le_mul (by omega) h1
 have:127*2^56<9223372036854775808:=by decide
 omega
theorem pS(k:Nat):2^(7*(k+1))=128*2^(7*k):=by rw[show 7*(k+1)=7+7*k by omega,Nat.pow_add]
theorem uS{u c k:Nat}(hu:u<2^(7*k))(hc:c<128):u+c*2^(7*k)<2^(7*(k+1)):=by
 have:(c+1)*2^(7*k)<=128*2^(7*k):=zy _ (by omega)
 rw[zV,zv1] at this;rw[pS]; omega
def fin3(s:Unit⊕(Int×Int×Int)):Option (Int×Int×Int):=s.elim (fun _=>some (0,0,3)) (fun s5=>some (s5.1,s5.2.1,s5.2.2))
theorem u64S{u c k:Nat}(hk:k<=9)(hu:u<2^(7*k))(hc:c<128)(h9:k=9->c<=1):c*2^(7*k)<18446744073709551616/\u<18446744073709551616/\u+c*2^(7*k)<18446744073709551616:=by
 have h1:=p7 hk;by_cases h:k=9
 ·subst h;have:c*2^(7*9)<=1*2^(7*9):=zy _ (h9 rfl);omega
 ·have:=p8 (k:=k) (by omega) hc
  omega
theorem quX{b:List Int}(hb:qbz b)(hl:b.length<=1000000)(p:Nat)(hp:p<=b.length):∀(f k u:Nat),f+k=10->(k<=9->u<2^(7*k))->∀(x:Int),(k<=9->x=(u:Int))->
  (iter (fun x=>qcC b (p:Int) x.1 x.2) (x,(k:Int))).bind fin3=some (rdI b (p+k) k u f)
 | 0,k,u,hf,hu,x,hx=>by
  have hk:k=10:=by omega
  subst hk;have h1:qcC b (p:Int) x ((10:Nat):Int)=some (.inr (.inl ())):=by
   unfold qcC; rw[dec_f (by omega),za]
  rw[qbj];simp only[h1]; rfl
 | f+1,k,u,hf,hu,x,hx=>by
  have hk:k<=9:=by omega
  have hu:=hu hk;have hx:=hx hk;subst hx;have ea:wi64 ((p:Int)+(k:Int))=((p+k:Nat):Int):=by rw[wi (by omega)]; omega
  unfold rdI;by_cases hlen:b.length<=p+k
  ·rw[if_pos hlen];have h1:qcC b (p:Int) (u:Int) (k:Int)=some (.inr (.inr (0,0,2))):=by
    unfold qcC; rw[dec_t (by omega),z9,ea,dec_t (by omega),z9]
   rw[qbj];simp only[h1]; rfl
  ·rw[if_neg hlen];obtain⟨eb,hc⟩:=qzH hb (show p+k<b.length by omega)
   generalize bN b (p+k)=c at eb hc ⊢;have e7:wi64 (7*(k:Int))=7*(k:Int):=wi (by omega)
   have e127:wu64 (qgc .u8 (c:Int) 127)=((c%128:Nat):Int):=by rw[b127 ⟨c,hc⟩]; exact qiI (by omega)
   have hm:c%128<128:=by omega
   have start:∀Z,qcC b (p:Int) (u:Int) (k:Int)=Z↔(bif decide (128<=(c:Int)) then
     some (.inl (bitOr .u64 (u:Int) (wu64 (((c%128:Nat):Int)*((2^(7*k):Nat):Int))),wi64 ((k:Int)+1)))
    else((bif decide ((k:Int)=9) then(bif decide (1<(c:Int)) then some true else bif decide (0<(k:Int)) then some (decide ((c:Int)=0)) else some false) else bif decide (0<(k:Int)) then some (decide ((c:Int)=0)) else some false).bind fun s2:Bool=>
     bif s2 then some (.inr (.inr (0,0,3))) else
      some (.inr (.inr (qq2 .i64 (wi64 (Int.fdiv (bitOr .u64 (u:Int) (wu64 (((c%128:Nat):Int)*((2^(7*k):Nat):Int)))) (2^shAmt .u64 1))) (wi64 (0-(wi64 (qgc .u64 (bitOr .u64 (u:Int) (wu64 (((c%128:Nat):Int)*((2^(7*k):Nat):Int)))) 1)))),wi64 ((wi64 ((p:Int)+(k:Int)))+1),0)))))=Z:=by
    intro Z;unfold qcC;rw[dec_t (by omega),z9,ea,dec_f (by omega),za,inB_t (by omega),gd_tt,z8,eb,sh7 hk,e127,e7,dec_f (p:=7*(k:Int)<0) (by omega)]
    rfl
   by_cases h128:128<=c
   ·rw[if_pos h128];have h1:=(start _).2 (by rw[dec_t (by omega),z9])
    rw[qbj];simp only[h1];rw[show wi64 ((k:Int)+1)=((k+1:Nat):Int) by rw[wi (by omega)]; omega]
    refine quX hb hl p hp f (k+1) _ (by omega) (fun h=>uS hu hm) _ (fun h=>?_)
    obtain⟨g1,g2,g3⟩:=u64S hk hu hm (by omega)
    rw[<-zs2,qiI g1,qBF g2 g1,qBG hu]
   ·rw[if_neg h128];by_cases hbad:k=9/\1<c\/0<k/\c=0
    ·rw[if_pos hbad];have h1:qcC b (p:Int) (u:Int) (k:Int)=some (.inr (.inr (0,0,3))):=by
      refine(start _).2 ?_
      rw[dec_f (by omega),za]
      by_cases h9:k=9
      ·rw[dec_t (by omega),z9]
       by_cases hc1:1<c
       ·rw[dec_t (by omega),z9]; rfl
       ·rw[dec_f (by omega),za,dec_t (by omega),z9,dec_t (by omega)]; rfl
      ·rw[dec_f (by omega),za,dec_t (by omega),z9,dec_t (by omega)]; rfl
     rw[qbj];simp only[h1]; rfl
    ·rw[if_neg hbad];have hcm:c%128=c:=zh1 (by omega)
     obtain⟨g1,g2,g3⟩:=u64S hk hu hm (by omega)
     have h1:qcC b (p:Int) (u:Int) (k:Int)=some (.inr (.inr (unz (u+c%128*2^(7*k)),((p+k+1:Nat):Int),0))):=by
      refine(start _).2 ?_
      rw[dec_f (by omega),za,<-zs2,qiI g1,qBF g2 g1,qBG hu,Int.zero_sub,unzig g3,ea,show wi64 (((p+k:Nat):Int)+1)=((p+k+1:Nat):Int) by rw[wi (by omega)]; omega]
      by_cases h9:k=9
      ·rw[dec_t (by omega),z9,dec_f (by omega),za,dec_t (by omega),z9,dec_f (by omega)]; rfl
      ·rw[dec_f (p:=(k:Int)=9) (by omega),za]
       by_cases h0:0<k
       ·rw[dec_t (by omega),z9,dec_f (by omega)]; rfl
       ·rw[dec_f (by omega),za]; rfl
     rw[qbj];simp only[h1]; rfl
theorem qzI{b:List Int}(hb:qbz b)(hl:b.length<=1000000){p:Nat}(hp:p<=b.length):qml b (p:Int)=some (rdI b p 0 0 10):=by
 unfold qml;rw[dec_f (by omega),za,dec_f (by omega),z7,za]
 exact quX hb hl p hp 10 0 0 rfl (fun _=>by simp) 0 (fun _=>rfl)
end Go.Proofs.YtgmjmgihjjddmaaGreat.Wi
namespace Go.Proofs.YtgmjmgihjjddmaaGreat.Wi
open Go Go.Sq
set_option linter.unusedVariables false
theorem qC9{u:Nat}(h:u<18446744073709551616):qel (u:Int)=some (unz u):=by
 unfold qel unz;rw[show Int.tmod (u:Int) 2=((u%2:Nat):Int) from rfl,show Int.tdiv (u:Int) 2=((u/2:Nat):Int) from rfl,qiI (by omega)]
 by_cases h0:u%2=0
 ·rw[dec_t (by omega),z9,if_pos h0,wi (by omega)]
 ·rw[dec_f (by omega),za,if_neg h0,wi (n:=((u/2:Nat):Int)) (by omega),wi (n:=0-((u/2:Nat):Int)) (by omega),wi (by omega)]
  congr 1; omega
theorem quY{b:List Int}(hb:qbz b)(hl:b.length<=1000000)(p:Nat)(hp:p<=b.length):∀(f k u:Nat),f+k=10->(k<=9->u<2^(7*k))->∀(x:Int),(k<=9->x=(u:Int))->
  (iter (fun x=>qbw b (p:Int) x.1 x.2) (x,(k:Int))).bind fin3=some (rdI b (p+k) k u f)
 | 0,k,u,hf,hu,x,hx=>by
  have hk:k=10:=by omega
  subst hk;have h1:qbw b (p:Int) x ((10:Nat):Int)=some (.inr (.inl ())):=by
   unfold qbw; rw[dec_f (by omega),za]
  rw[qbj];simp only[h1]; rfl
 | f+1,k,u,hf,hu,x,hx=>by
  have hk:k<=9:=by omega
  have hu:=hu hk;have hx:=hx hk;subst hx;have ea:wi64 ((p:Int)+(k:Int))=((p+k:Nat):Int):=by rw[wi (by omega)]; omega
  unfold rdI;by_cases hlen:b.length<=p+k
  ·rw[if_pos hlen];have h1:qbw b (p:Int) (u:Int) (k:Int)=some (.inr (.inr (0,0,2))):=by
    unfold qbw; rw[dec_t (by omega),z9,ea,dec_t (by omega),z9]
   rw[qbj];simp only[h1]; rfl
  ·rw[if_neg hlen];obtain⟨eb,hc⟩:=qzH hb (show p+k<b.length by omega)
   generalize bN b (p+k)=c at eb hc ⊢;have e7:wi64 (7*(k:Int))=7*(k:Int):=wi (by omega)
   have e127:wu64 (Int.tmod (c:Int) 128)=((c%128:Nat):Int):=by rw[show Int.tmod (c:Int) 128=((c%128:Nat):Int) from rfl]; exact qiI (by omega)
   have hm:c%128<128:=by omega
   have start:∀Z,qbw b (p:Int) (u:Int) (k:Int)=Z↔((bif decide ((k:Int)=9) then some (decide (1<(c:Int))) else some false).bind fun s2:Bool=>
     bif s2 then some (.inr (.inr (0,0,3))) else
     bif decide ((c:Int)<128) then((bif decide ((c:Int)=0) then some (decide (0<(k:Int))) else some false).bind fun s3:Bool=>
      bif s3 then some (.inr (.inr (0,0,3))) else
       (qel (wu64 ((u:Int)+(wu64 (((c%128:Nat):Int)*((2^(7*k):Nat):Int)))))).bind fun r=>some (.inr (.inr (r,wi64 ((wi64 ((p:Int)+(k:Int)))+1),0))))
     else some (.inl (wu64 ((u:Int)+(wu64 (((c%128:Nat):Int)*((2^(7*k):Nat):Int)))),wi64 ((k:Int)+1))))=Z:=by
    intro Z;unfold qbw;rw[dec_t (by omega),z9,ea,dec_f (by omega),za,inB_t (by omega),gd_tt,z8,eb,sh7 hk,e127,e7,dec_f (p:=7*(k:Int)<0) (by omega)]
    simp only[z91,gd_tt]
   by_cases h128:128<=c
   ·rw[if_pos h128];by_cases h9:k=9
    ·have h1:qbw b (p:Int) (u:Int) (k:Int)=some (.inr (.inr (0,0,3))):=by
      refine(start _).2 ?_
      rw[dec_t (by omega),z9,dec_t (by omega)]; rfl
     rw[qbj];simp only[h1];have:f=0:=by omega
     subst this; rfl
    ·obtain⟨g1,g2,g3⟩:=u64S hk hu hm (by omega)
     have h1:qbw b (p:Int) (u:Int) (k:Int)=some (.inl (((u+c%128*2^(7*k):Nat):Int),((k+1:Nat):Int))):=by
      refine(start _).2 ?_
      rw[dec_f (by omega),za,z7,za,dec_f (by omega),za,<-zs2,qiI g1,<-Int.natCast_add,qiI g3,show wi64 ((k:Int)+1)=((k+1:Nat):Int) by rw[wi (by omega)]; omega]
     rw[qbj];simp only[h1];exact quY hb hl p hp f (k+1) _ (by omega) (fun h=>uS hu hm) _ (fun h=>rfl)
   ·rw[if_neg h128];by_cases hbad:k=9/\1<c\/0<k/\c=0
    ·rw[if_pos hbad];have h1:qbw b (p:Int) (u:Int) (k:Int)=some (.inr (.inr (0,0,3))):=by
      refine(start _).2 ?_
      by_cases h91:k=9/\1<c
      ·rw[dec_t (by omega),z9,dec_t (by omega)]; rfl
      ·have:(bif decide ((k:Int)=9) then some (decide (1<(c:Int))) else some false)=some false:=by
        by_cases h9:k=9
        ·rw[dec_t (by omega),z9,dec_f (by omega)]
        ·rw[dec_f (by omega),za]
       rw[this,z7,za,dec_t (by omega),z9,dec_t (by omega),z9,dec_t (by omega)]; rfl
     rw[qbj];simp only[h1]; rfl
    ·rw[if_neg hbad];obtain⟨g1,g2,g3⟩:=u64S hk hu hm (by omega)
     have h1:qbw b (p:Int) (u:Int) (k:Int)=some (.inr (.inr (unz (u+c%128*2^(7*k)),((p+k+1:Nat):Int),0))):=by
      refine(start _).2 ?_
      have:(bif decide ((k:Int)=9) then some (decide (1<(c:Int))) else some false)=some false:=by
       by_cases h9:k=9
       ·rw[dec_t (by omega),z9,dec_f (by omega)]
       ·rw[dec_f (by omega),za]
      rw[this,z7,za,dec_t (by omega),z9]
      have:(bif decide ((c:Int)=0) then some (decide (0<(k:Int))) else some false)=some false:=by
       by_cases h9:c=0
       ·rw[dec_t (by omega),z9,dec_f (by omega)]
       ·rw[dec_f (by omega),za]
      rw[this,z7,za,<-zs2,qiI g1,<-Int.natCast_add,qiI g3,qC9 g3,z7,ea,show wi64 (((p+k:Nat):Int)+1)=((p+k+1:Nat):Int) by rw[wi (by omega)]; omega]
     rw[qbj];simp only[h1]; rfl
theorem qzJ{b:List Int}(hb:qbz b)(hl:b.length<=1000000){p:Nat}(hp:p<=b.length):qjt b (p:Int)=some (rdI b p 0 0 10):=by
 unfold qjt;rw[dec_f (by omega),za,dec_f (by omega),z7,za]
 exact quY hb hl p hp 10 0 0 rfl (fun _=>by simp) 0 (fun _=>rfl)
theorem qo1(b:List Int):∀(f p k u:Nat),p<=b.length->∃q:Nat,(rdI b p k u f).2.1=(q:Int)/\q<=b.length
 | 0,p,k,u,h=>⟨0,rfl,by omega⟩
 | f+1,p,k,u,h=>by
  unfold rdI;by_cases h1:b.length<=p
  ·rw[if_pos h1]; exact⟨0,rfl,by omega⟩
  ·rw[if_neg h1];split
   ·exact qo1 b f _ _ _ (by omega)
   ·split
    ·exact⟨0,rfl,by omega⟩
    ·exact⟨p+1,rfl,by omega⟩
theorem qzK(b:List Int):∀(f p k u:Nat),f+k=10->(k<=9->u<2^(7*k))->qbz b->-9223372036854775808<=(rdI b p k u f).1/\(rdI b p k u f).1<=9223372036854775807
 | 0,p,k,u,h,hu,hb=>by unfold rdI; simp only; omega
 | f+1,p,k,u,h,hu,hb=>by
  have hk:k<=9:=by omega
  have hu:=hu hk;unfold rdI;by_cases h1:b.length<=p
  ·rw[if_pos h1]; simp only; omega
  ·rw[if_neg h1];have hm:bN b p%128<128:=by omega
   split
   ·exact qzK b f _ _ _ (by omega) (fun h=>uS hu hm) hb
   ·split
    ·simp only; omega
    ·rename_i h128 hbad;exact qCs (u64S hk hu hm (by omega)).2.2
def num(b:List Int)(p:Nat)(ok:Bool):Int×Nat×Bool:=bif ok then(if(rdI b p 0 0 10).2.2=0 then((rdI b p 0 0 10).1,(rdI b p 0 0 10).2.1.toNat,true) else(0,p,false)) else(0,p,false)
def cnt(b:List Int)(m:Int)(p:Nat)(ok:Bool):Int×Nat×Bool:=if(num b p ok).1<0\/m<(num b p ok).1 then(0,(num b p ok).2.1,false) else num b p ok
theorem qkT{b:List Int}{p:Nat}{ok:Bool}(hp:p<=b.length):(num b p ok).2.1<=b.length:=by
 unfold num;cases ok with
 | false=>exact hp
 | true=>
  obtain⟨q,h1,h2⟩:=qo1 b 10 p 0 0 hp;rw[z9];split
  ·simp only; omega
  ·exact hp
theorem cnt_le{b:List Int}{m:Int}{p:Nat}{ok:Bool}(hp:p<=b.length):(cnt b m p ok).2.1<=b.length:=by
 unfold cnt; split <;> exact qkT hp
theorem qsG{b:List Int}{m:Int}(hm:0<=m){p:Nat}{ok:Bool}:0<=(cnt b m p ok).1/\(cnt b m p ok).1<=m:=by
 unfold cnt; split
 ·simp only; omega
 ·rename_i h; simp only[not_or] at h; omega
theorem qCu{b:List Int}(hb:qbz b)(hl:b.length<=1000000){p:Nat}(hp:p<=b.length)(f:Bool):qaa b (p:Int) f=some ((num b p (!f)).1,b,((num b p (!f)).2.1:Int),!(num b p (!f)).2.2):=by
 obtain⟨q,h1,h2⟩:=qo1 b 10 p 0 0 hp;unfold qaa num;rw[qzI hb hl hp,z7];cases f with
 | true=>rfl
 | false=>
  by_cases h:(rdI b p 0 0 10).2.2=0
  ·rw[dec_t h];simp only[z91,z9,if_pos h];rw[h1,z8]; rfl
  ·rw[dec_f h];simp only[z91,z9,if_neg h]; rfl
theorem qCv{b:List Int}(hb:qbz b)(hl:b.length<=1000000){p:Nat}(hp:p<=b.length)(f:Bool):qad b (p:Int) f=some ((num b p f).1,b,((num b p f).2.1:Int),(num b p f).2.2):=by
 obtain⟨q,h1,h2⟩:=qo1 b 10 p 0 0 hp;unfold qad num;cases f with
 | false=>rfl
 | true=>
  rw[qzJ hb hl hp];by_cases h:(rdI b p 0 0 10).2.2=0
  ·simp only[z7,zd,za,dec_t h,z9,if_pos h];rw[h1,z8]
  ·simp only[z7,zd,za,dec_f h,z91,z9,if_neg h]
theorem or2{p q:Prop}[Decidable p][Decidable q]{A:Type}(k:Bool->Option A):((bif decide p then some true else some (decide q)).bind k)=k (decide (p\/q)):=by
 by_cases h:p
 ·rw[dec_t h,dec_t (p:=p\/q) (Or.inl h)]; rfl
 ·rw[dec_f h,za,z7]; congr 1; exact decide_eq_decide.2 ⟨.inr,fun h'=>h'.resolve_left h⟩
end Go.Proofs.YtgmjmgihjjddmaaGreat.Wi
namespace Go.Proofs.YtgmjmgihjjddmaaGreat.Wi
open Go Go.Sq
set_option linter.unusedVariables false
abbrev Rcd:=Int×List Int×(Int×Int×Int×Int×Int×List (Int×Bool)×Int)×List UInt8×Int×Int
theorem qzL{b:List Int}{p:Nat}(h:b.length<p)(ok:Bool):num b p ok=(0,p,false):=by
 unfold num;cases ok with
 | false=>rfl
 | true=>
  have:rdI b p 0 0 10=(0,0,2):=by unfold rdI; rw[if_pos (by omega)]
  rw[this,z9,if_neg (by decide)]
theorem wnum{b:List Int}(hb:qbz b)(hl:b.length<=1000000)(p:Nat)(f:Bool):qaa b (p:Int) f=some ((num b p (!f)).1,b,((num b p (!f)).2.1:Int),!(num b p (!f)).2.2):=by
 by_cases h:p<=b.length
 ·exact qCu hb hl h f
 ·rw[qzL (by omega)]
  unfold qaa qml;rw[dec_f (by omega),za,dec_t (by omega)]
  cases f <;> rfl
theorem rnum{b:List Int}(hb:qbz b)(hl:b.length<=1000000)(p:Nat)(f:Bool):qad b (p:Int) f=some ((num b p f).1,b,((num b p f).2.1:Int),(num b p f).2.2):=by
 by_cases h:p<=b.length
 ·exact qCv hb hl h f
 ·rw[qzL (by omega)]
  unfold qad qjt;rw[dec_f (p:=(p:Int)<0) (by omega),za,dec_t (by omega)]
  cases f <;> rfl
theorem wcnt{b:List Int}(hb:qbz b)(hl:b.length<=1000000)(m:Int)(p:Nat)(f:Bool):qaI m b (p:Int) f=some ((cnt b m p (!f)).1,b,((cnt b m p (!f)).2.1:Int),!(cnt b m p (!f)).2.2):=by
 unfold qaI cnt;rw[wnum hb hl,z7,or2];by_cases h:(num b p !f).1<0\/m<(num b p !f).1
 ·simp only[dec_t h,z9,if_pos h]; rfl
 ·simp only[dec_f h,za,if_neg h]
theorem rcnt{b:List Int}(hb:qbz b)(hl:b.length<=1000000)(m:Int)(p:Nat)(f:Bool):qa9 m b (p:Int) f=some ((cnt b m p f).1,b,((cnt b m p f).2.1:Int),(cnt b m p f).2.2):=by
 unfold qa9 cnt;rw[rnum hb hl,z7,or2];by_cases h:(num b p f).1<0\/m<(num b p f).1
 ·simp only[dec_t h,z9,if_pos h]
 ·simp only[dec_f h,za,if_neg h]
def nums(b:List Int):Nat->Nat->Bool->List Int->Nat×Bool×List Int
 | 0,p,ok,l=>(p,ok,l)
 | n+1,p,ok,l=>nums b n (num b p ok).2.1 (num b p ok).2.2 (l++[(num b p ok).1])
def hops(b:List Int):Nat->Nat->Bool->List (Int×Bool)->Nat×Bool×List (Int×Bool)
 | 0,p,ok,l=>(p,ok,l)
 | n+1,p,ok,l=>hops b n (cnt b 1 (num b p ok).2.1 (num b p ok).2.2).2.1 (cnt b 1 (num b p ok).2.1 (num b p ok).2.2).2.2 (l++[((num b p ok).1,decide ((cnt b 1 (num b p ok).2.1 (num b p ok).2.2).1=1))])
section
variable {b:List Int} (hb:qbz b) (hl:b.length<=1000000)
include hb hl
theorem qwW(N:Nat)(hN:N<=100)(c:List Int×Int×Bool):∀(n j p:Nat) (f:Bool) (l:List Int),j+n=N->l.length=j->
  iter (fun x=>qbt ((N:Int),c) x.1 x.2.1 x.2.2.1 x.2.2.2.1 x.2.2.2.2) ((j:Int),b,(p:Int),f,l)=some (b,((nums b n p (!f) l).1:Int),!(nums b n p (!f) l).2.1,(nums b n p (!f) l).2.2)
 | 0,j,p,f,l,hj,hll=>by
  have h1:qbt ((N:Int),c) (j:Int) b (p:Int) f l=some (.inr (b,(p:Int),f,l)):=by
   unfold qbt; rw[dec_f (by(try simp only); omega),za]
  rw[qbj]; simp only[h1,nums,z31]
 | n+1,j,p,f,l,hj,hll=>by
  have h1:qbt ((N:Int),c) (j:Int) b (p:Int) f l=some (.inl (((j+1:Nat):Int),b,((num b p (!f)).2.1:Int),!(num b p (!f)).2.2,l++[(num b p (!f)).1])):=by
   unfold qbt;rw[dec_t (by(try simp only); omega),z9,wnum hb hl,z7,qae (by omega),gd_tt,show wi64 ((j:Int)+1)=((j+1:Nat):Int) by rw[wi (by omega)]; omega]
  rw[qbj]; simp only[h1];rw[qwW N hN c n (j+1) _ _ _ (by omega) (by simp; omega)]
  simp only[nums,z31]
theorem qwX(N:Nat)(hN:N<=100)(c:List Int×Int×Bool)(q:List Int):∀(n j p:Nat) (f:Bool) (l:List (Int×Bool)),j+n=N->l.length=j->
  iter (fun x2=>qbu ((N:Int),c) x2.1 x2.2.1 x2.2.2.1 x2.2.2.2.1 x2.2.2.2.2.1 x2.2.2.2.2.2) ((j:Int),b,(p:Int),f,q,l)=some (b,((hops b n p (!f) l).1:Int),!(hops b n p (!f) l).2.1,q,(hops b n p (!f) l).2.2)
 | 0,j,p,f,l,hj,hll=>by
  have h1:qbu ((N:Int),c) (j:Int) b (p:Int) f q l=some (.inr (b,(p:Int),f,q,l)):=by
   unfold qbu; rw[dec_f (by(try simp only); omega),za]
  rw[qbj]; simp only[h1,hops,z31]
 | n+1,j,p,f,l,hj,hll=>by
  have h1:qbu ((N:Int),c) (j:Int) b (p:Int) f q l=some (.inl (((j+1:Nat):Int),b,((cnt b 1 (num b p (!f)).2.1 (num b p (!f)).2.2).2.1:Int),!(cnt b 1 (num b p (!f)).2.1 (num b p (!f)).2.2).2.2,q,l++[((num b p (!f)).1,decide ((cnt b 1 (num b p (!f)).2.1 (num b p (!f)).2.2).1=1))])):=by
   unfold qbu;rw[dec_t (by(try simp only); omega),z9,wnum hb hl,z7]
   simp only;rw[wcnt hb hl,z7,qae (by omega),gd_tt,show wi64 ((j:Int)+1)=((j+1:Nat):Int) by rw[wi (by omega)]; omega]
   simp only[z31]
  rw[qbj]; simp only[h1];rw[qwX N hN c q n (j+1) _ _ _ (by omega) (by simp; omega)]
  simp only[hops,z31]
theorem qwY:∀(n p:Nat) (f:Bool) (l:List Int),n+l.length<=100->
  iter (fun x=>qbK x.1 x.2.1 x.2.2.1 x.2.2.2.1 x.2.2.2.2) ((n:Int),b,(p:Int),f,l)=some (b,((nums b n p f l).1:Int),(nums b n p f l).2.1,(nums b n p f l).2.2)
 | 0,p,f,l,hj=>by
  have h1:qbK ((0:Nat):Int) b (p:Int) f l=some (.inr (b,(p:Int),f,l)):=by
   unfold qbK; rw[dec_f (by omega),za]
  rw[qbj]; simp only[h1,nums]
 | n+1,p,f,l,hj=>by
  have h1:qbK ((n+1:Nat):Int) b (p:Int) f l=some (.inl ((n:Int),b,((num b p f).2.1:Int),(num b p f).2.2,l++[(num b p f).1])):=by
   unfold qbK;rw[dec_t (by omega),z9,rnum hb hl,z7,qae (by omega),gd_tt,show wi64 (((n+1:Nat):Int)-1)=(n:Int) by rw[wi (by omega)]; omega]
  rw[qbj]; simp only[h1];rw[qwY n _ _ _ (by simp; omega)]
  simp only[nums]
theorem qwZ(q:List Int):∀(n p:Nat) (f:Bool) (l:List (Int×Bool)),n+l.length<=100->
  iter (fun x2=>qbL x2.1 x2.2.1 x2.2.2.1 x2.2.2.2.1 x2.2.2.2.2.1 x2.2.2.2.2.2) ((n:Int),b,(p:Int),f,q,l)=some (b,((hops b n p f l).1:Int),(hops b n p f l).2.1,q,(hops b n p f l).2.2)
 | 0,p,f,l,hj=>by
  have h1:qbL ((0:Nat):Int) b (p:Int) f q l=some (.inr (b,(p:Int),f,q,l)):=by
   unfold qbL; rw[dec_f (by omega),za]
  rw[qbj]; simp only[h1,hops]
 | n+1,p,f,l,hj=>by
  have h1:qbL ((n+1:Nat):Int) b (p:Int) f q l=some (.inl ((n:Int),b,((cnt b 1 (num b p f).2.1 (num b p f).2.2).2.1:Int),(cnt b 1 (num b p f).2.1 (num b p f).2.2).2.2,q,l++[((num b p f).1,decide ((cnt b 1 (num b p f).2.1 (num b p f).2.2).1=1))])):=by
   unfold qbL;rw[dec_t (by omega),z9,rnum hb hl,z7]
   simp only;rw[rcnt hb hl,z7,qae (by omega),gd_tt,show wi64 (((n+1:Nat):Int)-1)=(n:Int) by rw[wi (by omega)]; omega]
  rw[qbj]; simp only[h1];rw[qwZ q n _ _ _ (by simp; omega)]
  simp only[hops]
theorem wvals(p0:Nat)(o0:Bool)(c:List Int×Int×Bool)(p:Nat)(f:Bool):iter (fun x=>qbt ((cnt b 21 p0 o0).1,c) x.1 x.2.1 x.2.2.1 x.2.2.2.1 x.2.2.2.2) (0,b,(p:Int),f,[])=some (b,((nums b (cnt b 21 p0 o0).1.toNat p (!f) []).1:Int),!(nums b (cnt b 21 p0 o0).1.toNat p (!f) []).2.1,(nums b (cnt b 21 p0 o0).1.toNat p (!f) []).2.2):=by
 obtain⟨h1,h2⟩:=qsG (b:=b) (m:=21) (by omega) (p:=p0) (ok:=o0)
 have e:(cnt b 21 p0 o0).1=((cnt b 21 p0 o0).1.toNat:Int):=by omega
 generalize (cnt b 21 p0 o0).1=z at h1 h2 e ⊢;obtain⟨N,rfl⟩:∃N:Nat,z=(N:Int):=⟨_,e⟩;rw[z8];exact qwW hb hl N (by omega) c N 0 p f [] (by omega) rfl
theorem whops(p0:Nat)(o0:Bool)(c:List Int×Int×Bool)(q:List Int)(p:Nat)(f:Bool):iter (fun x2=>qbu ((cnt b 32 p0 o0).1,c) x2.1 x2.2.1 x2.2.2.1 x2.2.2.2.1 x2.2.2.2.2.1 x2.2.2.2.2.2) (0,b,(p:Int),f,q,[])=some (b,((hops b (cnt b 32 p0 o0).1.toNat p (!f) []).1:Int),!(hops b (cnt b 32 p0 o0).1.toNat p (!f) []).2.1,q,(hops b (cnt b 32 p0 o0).1.toNat p (!f) []).2.2):=by
 obtain⟨h1,h2⟩:=qsG (b:=b) (m:=32) (by omega) (p:=p0) (ok:=o0)
 have e:(cnt b 32 p0 o0).1=((cnt b 32 p0 o0).1.toNat:Int):=by omega
 generalize (cnt b 32 p0 o0).1=z at h1 h2 e ⊢;obtain⟨N,rfl⟩:∃N:Nat,z=(N:Int):=⟨_,e⟩;rw[z8];exact qwX hb hl N (by omega) c q N 0 p f [] (by omega) rfl
theorem rvals(p0:Nat)(o0:Bool)(p:Nat)(f:Bool):iter (fun x=>qbK x.1 x.2.1 x.2.2.1 x.2.2.2.1 x.2.2.2.2) ((cnt b 21 p0 o0).1,b,(p:Int),f,[])=some (b,((nums b (cnt b 21 p0 o0).1.toNat p f []).1:Int),(nums b (cnt b 21 p0 o0).1.toNat p f []).2.1,(nums b (cnt b 21 p0 o0).1.toNat p f []).2.2):=by
 obtain⟨h1,h2⟩:=qsG (b:=b) (m:=21) (by omega) (p:=p0) (ok:=o0)
 have e:(cnt b 21 p0 o0).1=((cnt b 21 p0 o0).1.toNat:Int):=by omega
 generalize (cnt b 21 p0 o0).1=z at h1 h2 e ⊢;obtain⟨N,rfl⟩:∃N:Nat,z=(N:Int):=⟨_,e⟩;rw[z8];exact qwY hb hl N p f [] (by simp; omega)
theorem rhops(p0:Nat)(o0:Bool)(q:List Int)(p:Nat)(f:Bool):iter (fun x2=>qbL x2.1 x2.2.1 x2.2.2.1 x2.2.2.2.1 x2.2.2.2.2.1 x2.2.2.2.2.2) ((cnt b 32 p0 o0).1,b,(p:Int),f,q,[])=some (b,((hops b (cnt b 32 p0 o0).1.toNat p f []).1:Int),(hops b (cnt b 32 p0 o0).1.toNat p f []).2.1,q,(hops b (cnt b 32 p0 o0).1.toNat p f []).2.2):=by
 obtain⟨h1,h2⟩:=qsG (b:=b) (m:=32) (by omega) (p:=p0) (ok:=o0)
 have e:(cnt b 32 p0 o0).1=((cnt b 32 p0 o0).1.toNat:Int):=by omega
 generalize (cnt b 32 p0 o0).1=z at h1 h2 e ⊢;obtain⟨N,rfl⟩:∃N:Nat,z=(N:Int):=⟨_,e⟩;rw[z8];exact qwZ hb hl q N p f [] (by simp; omega)
end
theorem qzM{b:List Int}:∀(n p:Nat) (ok:Bool) (l:List Int),p<=b.length->(nums b n p ok l).1<=b.length
 | 0,p,ok,l,h=>h
 | n+1,p,ok,l,h=>qzM n _ _ _ (qkT h)
theorem qzN{b:List Int}:∀(n p:Nat) (ok:Bool) (l:List (Int×Bool)),p<=b.length->(hops b n p ok l).1<=b.length
 | 0,p,ok,l,h=>h
 | n+1,p,ok,l,h=>qzN n _ _ _ (cnt_le (qkT h))
end Go.Proofs.YtgmjmgihjjddmaaGreat.Wi
namespace Go.Proofs.YtgmjmgihjjddmaaGreat.Wi
open Go Go.Sq
set_option linter.unusedVariables false
def d1(b:List Int):=num b 0 true
def d2(b:List Int):=cnt b 21 (d1 b).2.1 (d1 b).2.2
def dv(b:List Int):=nums b (d2 b).1.toNat (d2 b).2.1 (d2 b).2.2 []
def d3(b:List Int):=num b (dv b).1 (dv b).2.1
def d4(b:List Int):=num b (d3 b).2.1 (d3 b).2.2
def d5(b:List Int):=num b (d4 b).2.1 (d4 b).2.2
def d6(b:List Int):=num b (d5 b).2.1 (d5 b).2.2
def d7(b:List Int):=num b (d6 b).2.1 (d6 b).2.2
def d8(b:List Int):=cnt b 32 (d7 b).2.1 (d7 b).2.2
def dh(b:List Int):=hops b (d8 b).1.toNat (d8 b).2.1 (d8 b).2.2 []
def d9(b:List Int):=num b (dh b).1 (dh b).2.1
def d10(b:List Int):=num b (d9 b).2.1 (d9 b).2.2
def d11(b:List Int):=num b (d10 b).2.1 (d10 b).2.2
def d12(b:List Int):=cnt b 12 (d11 b).2.1 (d11 b).2.2
def zR:Rcd:=(0,([],((0,(0,(0,(0,(0,([],0)))))),([],(0,0)))))
def decR(b:List Int):Rcd×Int:=if(d12 b).2.2=false\/¬(b.length:Int)-((d12 b).2.1:Int)=(d12 b).1 then(zR,3) else
 (((d1 b).1,((dv b).2.2,(((d3 b).1,((d4 b).1,((d5 b).1,((d6 b).1,((d7 b).1,((dh b).2.2,(d9 b).1)))))),(qcV (b.drop (d12 b).2.1),((d10 b).1,(d11 b).1))))),0)
theorem qBH(b:List Int):(d12 b).2.1<=b.length:=
 cnt_le (qkT (qkT (qkT (qzN _ _ _ _ (cnt_le (qkT (qkT (qkT (qkT (qkT (qzM _ _ _ _ (cnt_le (qkT (zw1 _)))))))))))))) 
theorem cut_t{b:List Int}{p:Nat}(h:p<=b.length):cutG (some (.i64,(p:Int))) none b.length=true:=by
 unfold cutG; simp only[zb,zw]; omega
section
variable {b:List Int} (hb:qbz b) (hl:b.length<=1000000)
include hb hl
theorem wdec:qgX b=some (decR b):=by
 have hle:=qBH b;unfold qgX;have e1:qaa b 0 false=some ((d1 b).1,b,((d1 b).2.1:Int),!(d1 b).2.2):=wnum hb hl 0 false;have e2:qaI 21 b ((d1 b).2.1:Int) (!(d1 b).2.2)=some ((d2 b).1,b,((d2 b).2.1:Int),!(d2 b).2.2):=by rw[wcnt hb hl,z31]; rfl
 have ev:=wvals hb hl (d1 b).2.1 (d1 b).2.2 (b,((d2 b).2.1:Int),!(d2 b).2.2) (d2 b).2.1 (!(d2 b).2.2);rw[z31] at ev;replace ev:iter (fun x=>qbt ((d2 b).1,b,((d2 b).2.1:Int),!(d2 b).2.2) x.1 x.2.1 x.2.2.1 x.2.2.2.1 x.2.2.2.2) (0,b,((d2 b).2.1:Int),!(d2 b).2.2,[])=some (b,((dv b).1:Int),!(dv b).2.1,(dv b).2.2):=ev
 have e3:qaa b ((dv b).1:Int) (!(dv b).2.1)=some ((d3 b).1,b,((d3 b).2.1:Int),!(d3 b).2.2):=by rw[wnum hb hl,z31]; rfl
 have e4:qaa b ((d3 b).2.1:Int) (!(d3 b).2.2)=some ((d4 b).1,b,((d4 b).2.1:Int),!(d4 b).2.2):=by rw[wnum hb hl,z31]; rfl
 have e5:qaa b ((d4 b).2.1:Int) (!(d4 b).2.2)=some ((d5 b).1,b,((d5 b).2.1:Int),!(d5 b).2.2):=by rw[wnum hb hl,z31]; rfl
 have e6:qaa b ((d5 b).2.1:Int) (!(d5 b).2.2)=some ((d6 b).1,b,((d6 b).2.1:Int),!(d6 b).2.2):=by rw[wnum hb hl,z31]; rfl
 have e7:qaa b ((d6 b).2.1:Int) (!(d6 b).2.2)=some ((d7 b).1,b,((d7 b).2.1:Int),!(d7 b).2.2):=by rw[wnum hb hl,z31]; rfl
 have e8:qaI 32 b ((d7 b).2.1:Int) (!(d7 b).2.2)=some ((d8 b).1,b,((d8 b).2.1:Int),!(d8 b).2.2):=by rw[wcnt hb hl,z31]; rfl
 have eh:=whops hb hl (d7 b).2.1 (d7 b).2.2 (b,((d8 b).2.1:Int),!(d8 b).2.2) (dv b).2.2 (d8 b).2.1 (!(d8 b).2.2);rw[z31] at eh;replace eh:iter (fun x2=>qbu ((d8 b).1,b,((d8 b).2.1:Int),!(d8 b).2.2) x2.1 x2.2.1 x2.2.2.1 x2.2.2.2.1 x2.2.2.2.2.1 x2.2.2.2.2.2) (0,b,((d8 b).2.1:Int),!(d8 b).2.2,(dv b).2.2,[])=some (b,((dh b).1:Int),!(dh b).2.1,(dv b).2.2,(dh b).2.2):=eh
 have e9:qaa b ((dh b).1:Int) (!(dh b).2.1)=some ((d9 b).1,b,((d9 b).2.1:Int),!(d9 b).2.2):=by rw[wnum hb hl,z31]; rfl
 have e10:qaa b ((d9 b).2.1:Int) (!(d9 b).2.2)=some ((d10 b).1,b,((d10 b).2.1:Int),!(d10 b).2.2):=by rw[wnum hb hl,z31]; rfl
 have e11:qaa b ((d10 b).2.1:Int) (!(d10 b).2.2)=some ((d11 b).1,b,((d11 b).2.1:Int),!(d11 b).2.2):=by rw[wnum hb hl,z31]; rfl
 have e12:qaI 12 b ((d11 b).2.1:Int) (!(d11 b).2.2)=some ((d12 b).1,b,((d12 b).2.1:Int),!(d12 b).2.2):=by rw[wcnt hb hl,z31]; rfl
 simp only[e1,e2,ev,e3,e4,e5,e6,e7,e8,eh,e9,e10,e11,e12,z7];rw[wi (n:=(b.length:Int)-((d12 b).2.1:Int)) (by omega)]
 unfold decR;cases h:(d12 b).2.2 with
 | false=>rw[if_pos (.inl rfl)]; rfl
 | true=>
  by_cases h2:(b.length:Int)-((d12 b).2.1:Int)=(d12 b).1
  ·rw[dec_t h2,if_neg (by simp[h2])]
   simp only[zd,za,z7,cut_t hle,gd_tt,z8]
  ·rw[dec_f h2,if_pos (.inr h2)]; rfl
theorem rdec:qiE b=some (decR b):=by
 have hle:=qBH b;unfold qiE;have e1:qad b 0 true=some ((d1 b).1,b,((d1 b).2.1:Int),(d1 b).2.2):=rnum hb hl 0 true;have e2:qa9 21 b ((d1 b).2.1:Int) (d1 b).2.2=some ((d2 b).1,b,((d2 b).2.1:Int),(d2 b).2.2):=rcnt hb hl _ _ _;have ev:iter (fun x=>qbK x.1 x.2.1 x.2.2.1 x.2.2.2.1 x.2.2.2.2) ((d2 b).1,b,((d2 b).2.1:Int),(d2 b).2.2,[])=some (b,((dv b).1:Int),(dv b).2.1,(dv b).2.2):=rvals hb hl (d1 b).2.1 (d1 b).2.2 (d2 b).2.1 (d2 b).2.2
 have e3:qad b ((dv b).1:Int) (dv b).2.1=some ((d3 b).1,b,((d3 b).2.1:Int),(d3 b).2.2):=rnum hb hl _ _;have e4:qad b ((d3 b).2.1:Int) (d3 b).2.2=some ((d4 b).1,b,((d4 b).2.1:Int),(d4 b).2.2):=rnum hb hl _ _;have e5:qad b ((d4 b).2.1:Int) (d4 b).2.2=some ((d5 b).1,b,((d5 b).2.1:Int),(d5 b).2.2):=rnum hb hl _ _;have e6:qad b ((d5 b).2.1:Int) (d5 b).2.2=some ((d6 b).1,b,((d6 b).2.1:Int),(d6 b).2.2):=rnum hb hl _ _;have e7:qad b ((d6 b).2.1:Int) (d6 b).2.2=some ((d7 b).1,b,((d7 b).2.1:Int),(d7 b).2.2):=rnum hb hl _ _;have e8:qa9 32 b ((d7 b).2.1:Int) (d7 b).2.2=some ((d8 b).1,b,((d8 b).2.1:Int),(d8 b).2.2):=rcnt hb hl _ _ _
 have eh:iter (fun x2=>qbL x2.1 x2.2.1 x2.2.2.1 x2.2.2.2.1 x2.2.2.2.2.1 x2.2.2.2.2.2) ((d8 b).1,b,((d8 b).2.1:Int),(d8 b).2.2,(dv b).2.2,[])=some (b,((dh b).1:Int),(dh b).2.1,(dv b).2.2,(dh b).2.2):=rhops hb hl (d7 b).2.1 (d7 b).2.2 (dv b).2.2 (d8 b).2.1 (d8 b).2.2
 have e9:qad b ((dh b).1:Int) (dh b).2.1=some ((d9 b).1,b,((d9 b).2.1:Int),(d9 b).2.2):=rnum hb hl _ _;have e10:qad b ((d9 b).2.1:Int) (d9 b).2.2=some ((d10 b).1,b,((d10 b).2.1:Int),(d10 b).2.2):=rnum hb hl _ _;have e11:qad b ((d10 b).2.1:Int) (d10 b).2.2=some ((d11 b).1,b,((d11 b).2.1:Int),(d11 b).2.2):=rnum hb hl _ _;have e12:qa9 12 b ((d11 b).2.1:Int) (d11 b).2.2=some ((d12 b).1,b,((d12 b).2.1:Int),(d12 b).2.2):=rcnt hb hl _ _ _;simp only[e1,e2,ev,e3,e4,e5,e6,e7,e8,eh,e9,e10,e11,e12,z7];rw[wi (n:=(b.length:Int)-((d12 b).2.1:Int)) (by omega)]
 unfold decR;cases h:(d12 b).2.2 with
 | false=>rw[if_pos (.inl rfl)]; rfl
 | true=>
  by_cases h2:(b.length:Int)-((d12 b).2.1:Int)=(d12 b).1
  ·rw[dec_t h2,if_neg (by simp[h2])]
   simp only[zd,za,z7,cut_t hle,gd_tt,z8]
  ·rw[dec_f h2,if_pos (.inr h2)]; rfl
end
end Go.Proofs.YtgmjmgihjjddmaaGreat.Wi
namespace Go.Proofs.YtgmjmgihjjddmaaGreat.Wi
open Go Go.Sq
set_option linter.unusedVariables false
def i64A(l:List Int):Prop:=∀x∈l,-9223372036854775808<=x/\x<=9223372036854775807
theorem qqm:encs []=[]:=rfl
theorem qjC(x:Int)(l:List Int):encs (x::l)=encZ x++encs l:=rfl
theorem qw0(l m:List Int):encs (l++m)=encs l++encs m:=by unfold encs; rw[zO1,List.flatten_append]
theorem qg8:∀ {l:List Int},i64A l->(encs l).length<=10*l.length
 | [],_=>by simp[qqm]
 | x::l,h=>by
  have h1:=qiJ (h x (by simp))
  have h2:=qg8 (l:=l) fun y hy=>h y (by simp[hy])
  rw[qjC,ze,zq]; omega
theorem qsH:∀ {l:List Int},qbz (encs l)
 | []=>by intro x hx; cases hx
 | y::l=>by
  rw[qjC];intro x hx;rcases zu.1 hx with hx | hx
  ·exact qsF y x hx
  ·exact qsH x hx
theorem qw1{l:List Int}(hl:i64A l)(hn:l.length<=1000):∀(n j:Nat) (v:List Int),j+n=l.length->v.length+10*n<=100000->
  iter (fun x=>qbS l x.1 x.2) ((j:Int),v)=some (v++encs (l.drop j))
 | 0,j,v,hj,hv=>by
  have h1:qbS l (j:Int) v=some (.inr v):=by unfold qbS; rw[dec_f (by omega),za]
  rw[qbj]; simp only[h1];rw[zw2 (by omega),qqm,z51]
 | n+1,j,v,hj,hv=>by
  have hj':j<l.length:=by omega
  have hx:=hl _ (qaY (d:=0) hj');have hxl:=qiJ hx;have h1:qbS l (j:Int) v=some (.inl (((j+1:Nat):Int),v++encZ (l.getD j 0))):=by
   unfold qbS;rw[dec_t (by omega),z9,inB_t hj',gd_tt,z8,qzF hx (by omega),z7,show wi64 ((j:Int)+1)=((j+1:Nat):Int) by rw[wi (by omega)]; omega]
  rw[qbj]; simp only[h1];rw[qw1 hl hn n (j+1) _ (by omega) (by rw[ze]; omega),ze1 hj',qjC,gD_eq hj',zD]
theorem wputs{l v:List Int}(hl:i64A l)(hn:l.length<=1000)(hv:v.length<=50000):qaF l v=some (v++encs l):=by
 unfold qaF;have h:=qw1 hl hn l.length 0 v (by omega) (by omega)
 rw[zD1] at h;exact(congrArg (fun o=>Option.bind o _) h).trans rfl
theorem qw2{l:List Int}(hl:i64A l)(hn:l.length<=1000):∀(n j:Nat) (v:List Int),j+n=l.length->v.length+10*n<=100000->
  iter (fun x=>qeV l x.1 x.2) ((j:Int),v)=some (v++encs (l.drop j))
 | 0,j,v,hj,hv=>by
  have h1:qeV l (j:Int) v=some (.inr v):=by unfold qeV; rw[dec_f (by omega),za]
  rw[qbj]; simp only[h1];rw[zw2 (by omega),qqm,z51]
 | n+1,j,v,hj,hv=>by
  have hj':j<l.length:=by omega
  have hx:=hl _ (qaY (d:=0) hj');have hxl:=qiJ hx;have h1:qeV l (j:Int) v=some (.inl (((j+1:Nat):Int),v++encZ (l.getD j 0))):=by
   unfold qeV;rw[dec_t (by omega),z9,inB_t hj',gd_tt,z8,qzG hx (by omega),z7,show wi64 ((j:Int)+1)=((j+1:Nat):Int) by rw[wi (by omega)]; omega]
  rw[qbj]; simp only[h1];rw[qw2 hl hn n (j+1) _ (by omega) (by rw[ze]; omega),ze1 hj',qjC,gD_eq hj',zD]
theorem rputs{l:List Int}(hl:i64A l)(hn:l.length<=1000):qjr l=some (encs l):=by
 unfold qjr;have h:=qw2 hl hn l.length 0 [] (by omega) (by simp; omega)
 rw[zD1,zA] at h;exact(congrArg (fun o=>Option.bind o _) h).trans rfl
def hopL(hs:List (Int×Bool)):List Int:=hs.flatMap fun h=>[h.1,bif h.2 then 1 else 0]
theorem qrN(h:Int×Bool)(hs:List (Int×Bool)):hopL (h::hs)=[h.1,bif h.2 then 1 else 0]++hopL hs:=rfl
theorem qqn:∀(hs:List (Int×Bool)),(hopL hs).length=2*hs.length
 | []=>rfl
 | h::hs=>by rw[qrN,ze,qqn hs]; simp; omega
def shp(r:Rcd):List UInt8:=r.2.2.2.1
def hps(r:Rcd):List (Int×Bool):=r.2.2.1.2.2.2.2.2.1
def recA(r:Rcd):List Int:=[r.1,(r.2.1.length:Int)]
def recB(r:Rcd):List Int:=[r.2.2.1.1,r.2.2.1.2.1,r.2.2.1.2.2.1,r.2.2.1.2.2.2.1,r.2.2.1.2.2.2.2.1,((hps r).length:Int)]
def recC(r:Rcd):List Int:=[r.2.2.1.2.2.2.2.2.2,r.2.2.2.2.1,r.2.2.2.2.2,((shp r).length:Int)]
def recL(r:Rcd):List Int:=recA r++(r.2.1++(recB r++(hopL (hps r)++recC r)))
def big(r:Rcd):Prop:=(21:Int)<(r.2.1.length:Int)\/(32:Int)<((hps r).length:Int)\/(12:Int)<((shp r).length:Int)
instance (r:Rcd):Decidable (big r):=by unfold big; infer_instance
def encR(r:Rcd):Int×List Int:=if big r then(4,[]) else(0,encs (recL r)++qk2 (shp r))
theorem or3{p q s:Prop}[Decidable p][Decidable q][Decidable s]{A:Type}(k:Bool->Option A):((bif decide p then some true else bif decide q then some true else some (decide s)).bind k)=k (decide (p\/q\/s)):=by
 by_cases h:p
 ·rw[dec_t h,dec_t (p:=p\/q\/s) (Or.inl h)]; rfl
 ·rw[dec_f h,za,or2]; congr 1; exact decide_eq_decide.2 ⟨.inr,fun h'=>h'.resolve_left h⟩
theorem qA8{hs:List (Int×Bool)}(h:∀x∈hs,-9223372036854775808<=x.1/\x.1<=9223372036854775807):i64A (hopL hs):=by
 intro x hx;unfold hopL at hx;obtain⟨y,hy,hx⟩:=zW1.1 hx;rcases zE.1 hx with rfl | hx
 ·exact h y hy
 ·rw[zH.1 hx]; cases y.2 <;> decide
theorem qCw{h:Int×Bool}(hh : -9223372036854775808<=h.1/\h.1<=9223372036854775807):i64A [h.1,bif h.2 then 1 else 0]:=by
 intro x hx;rcases zE.1 hx with rfl | hx
 ·exact hh
 ·rw[zH.1 hx]; cases h.2 <;> decide
theorem qzO(r:Rcd)(hh:∀x∈hps r,-9223372036854775808<=x.1/\x.1<=9223372036854775807)(hn:(hps r).length<=100):∀(n j:Nat) (v:List Int),j+n=(hps r).length->v.length+20*n<=40000->
  iter (fun x=>qbV r x.1 x.2) ((j:Int),v)=some (v++encs (hopL ((hps r).drop j)))
 | 0,j,v,hj,hv=>by
  have h1:qbV r (j:Int) v=some (.inr v):=by
   unfold qbV; rw[dec_f (by show ¬(j:Int)<((hps r).length:Int); omega),za]
  rw[qbj]; simp only[h1];rw[zw2 (by omega)]; simp[hopL,qqm]
 | n+1,j,v,hj,hv=>by
  have hj':j<(hps r).length:=by omega
  have hx:=hh _ (qaY (d:=(0,false)) hj');have hi:=qCw hx;have hxl:=qg8 hi;simp only[zq,zG] at hxl;have h1:qbV r (j:Int) v=some (.inl (((j+1:Nat):Int),v++encs [((hps r).getD j (0,false)).1,bif ((hps r).getD j (0,false)).2 then 1 else 0])):=by
   unfold qbV;rw[dec_t (by show(j:Int)<((hps r).length:Int); omega),z9,show inB (j:Int) r.2.2.1.2.2.2.2.2.1.length=true from inB_t hj',gd_tt,z8]
   show((bif ((hps r).getD j (0,false)).2 then some ((1:Int),v) else some (0,v)).bind fun s3:Int×List Int=>(qaF [((hps r).getD j (0,false)).1,s3.1] s3.2).bind fun r5=>some ((Sum.inl (wi64 ((j:Int)+1),r5)):(Int×List Int)⊕List Int))=_
   generalize (hps r).getD j (0,false)=y at hi hxl ⊢;obtain⟨a,c⟩:=y;cases c
   ·simp only[za,z7];rw[show qaF [a,0] v=some (v++encs [a,0]) from wputs (l:=[a,0]) hi (by simp) (by omega),z7,show wi64 ((j:Int)+1)=((j+1:Nat):Int) by rw[wi (by omega)]; omega]
   ·simp only[z9,z7];rw[show qaF [a,1] v=some (v++encs [a,1]) from wputs (l:=[a,1]) hi (by simp) (by omega),z7,show wi64 ((j:Int)+1)=((j+1:Nat):Int) by rw[wi (by omega)]; omega]
  rw[qbj]; simp only[h1];rw[qzO r hh hn n (j+1) _ (by omega) (by simp only[ze]; omega),ze1 hj',qrN,qw0,gD_eq hj',zD]
theorem qzP(r:Rcd)(hn:(hps r).length<=100):∀(n j:Nat) (v:List Int),j+n=(hps r).length->v.length+2*n<=4000->
  iter (fun x=>qcl r x.1 x.2) ((j:Int),v)=some (v++hopL ((hps r).drop j))
 | 0,j,v,hj,hv=>by
  have h1:qcl r (j:Int) v=some (.inr v):=by
   unfold qcl; rw[dec_f (by show ¬(j:Int)<((hps r).length:Int); omega),za]
  rw[qbj]; simp only[h1];rw[zw2 (by omega)]; simp[hopL]
 | n+1,j,v,hj,hv=>by
  have hj':j<(hps r).length:=by omega
  have h1:qcl r (j:Int) v=some (.inl (((j+1:Nat):Int),v++[((hps r).getD j (0,false)).1,bif ((hps r).getD j (0,false)).2 then 1 else 0])):=by
   unfold qcl;have hB:inB (j:Int) r.2.2.1.2.2.2.2.2.1.length=true:=inB_t hj';rw[dec_t (by show(j:Int)<((hps r).length:Int); omega),z9,hB,gd_tt,z8]
   show((bif ((hps r).getD j (0,false)).2 then some ((1:Int),v) else some (0,v)).bind fun s3:Int×List Int=>gd true (gd (fits (s3.2.length+2) 8) (some ((Sum.inl (wi64 ((j:Int)+1),s3.2++[((hps r).getD j (0,false)).1,s3.1])):(Int×List Int)⊕List Int))))=_
   generalize (hps r).getD j (0,false)=y;obtain⟨a,c⟩:=y;cases c
   ·simp only[za,z7,gd_tt];rw[qae (by omega),gd_tt,show wi64 ((j:Int)+1)=((j+1:Nat):Int) by rw[wi (by omega)]; omega]
   ·simp only[z9,z7,gd_tt];rw[qae (by omega),gd_tt,show wi64 ((j:Int)+1)=((j+1:Nat):Int) by rw[wi (by omega)]; omega]
  rw[qbj]; simp only[h1];rw[qzP r hn n (j+1) _ (by omega) (by simp only[ze,zq,zG]; omega),ze1 hj',qrN,gD_eq hj',zD]
theorem qiK{l m:List Int}:i64A (l++m)↔i64A l/\i64A m:=by
 unfold i64A; constructor
 ·intro h; exact⟨fun x hx=>h x (by simp[hx]),fun x hx=>h x (by simp[hx])⟩
 ·rintro⟨h1,h2⟩ x hx
  rcases zu.1 hx with hx | hx
  ·exact h1 x hx
  ·exact h2 x hx
theorem wenc{r:Rcd}(hr:i64A (recL r))(hh:∀x∈hps r,-9223372036854775808<=x.1/\x.1<=9223372036854775807):qdN r=some (encR r):=by
 unfold qdN encR;rw[or3];by_cases h:big r
 ·rw[if_pos h,show decide (21<(r.2.1.length:Int)\/32<(r.2.2.1.2.2.2.2.2.1.length:Int)\/12<(r.2.2.2.1.length:Int))=true from dec_t h]; rfl
 ·rw[if_neg h,show decide (21<(r.2.1.length:Int)\/32<(r.2.2.1.2.2.2.2.2.1.length:Int)\/12<(r.2.2.2.1.length:Int))=false from dec_f h]
  simp only[big,not_or] at h;obtain⟨h1,h2,h3⟩:=h;obtain⟨iA,hr⟩:=qiK.1 hr;obtain⟨iV,hr⟩:=qiK.1 hr;obtain⟨iB,hr⟩:=qiK.1 hr;obtain⟨iH,iC⟩:=qiK.1 hr;have lA:=qg8 iA;have lV:=qg8 iV;have lB:=qg8 iB;have lH:=qg8 iH;have lC:=qg8 iC;rw[qqn] at lH;have pA:0<(encs (recA r)).length:=by unfold recA; rw[qjC,ze]; have:=qrM (zg r.1); unfold encZ; omega
  have sA:(recA r).length=2:=rfl;have sB:(recB r).length=6:=rfl;have sC:(recC r).length=4:=rfl;simp only[za,z7];have e1:qaF [r.1,(r.2.1.length:Int)] []=some (encs (recA r)):=wputs (l:=recA r) (v:=[]) iA (by omega) (by simp)
  have e2:qaF r.2.1 (encs (recA r))=some (encs (recA r)++encs r.2.1):=wputs iV (by omega) (by omega)
  have e3:qaF [r.2.2.1.1,r.2.2.1.2.1,r.2.2.1.2.2.1,r.2.2.1.2.2.2.1,r.2.2.1.2.2.2.2.1,(r.2.2.1.2.2.2.2.2.1.length:Int)] (encs (recA r)++encs r.2.1)=some ((encs (recA r)++encs r.2.1)++encs (recB r)):=wputs (l:=recB r) iB (by omega) (by rw[ze]; omega)
  have e4:=qzO r hh (by omega) (hps r).length 0 ((encs (recA r)++encs r.2.1)++encs (recB r)) (by omega) (by simp only[ze]; omega)
  rw[zD1] at e4;replace e4:iter (fun x=>qbV r x.1 x.2) (0,(encs (recA r)++encs r.2.1)++encs (recB r))=_:=e4
  have e5:qaF [r.2.2.1.2.2.2.2.2.2,r.2.2.2.2.1,r.2.2.2.2.2,(r.2.2.2.1.length:Int)] (((encs (recA r)++encs r.2.1)++encs (recB r))++encs (hopL (hps r)))=some ((((encs (recA r)++encs r.2.1)++encs (recB r))++encs (hopL (hps r)))++encs (recC r)):=wputs (l:=recC r) iC (by omega) (by simp only[ze]; omega)
  simp only[e1,e2,e3,e4,e5,z7];have eq:(((encs (recA r)++encs r.2.1)++encs (recB r))++encs (hopL (hps r)))++encs (recC r)=encs (recL r):=by unfold recL; simp only[qw0,zD]
  have hg:(Nat.blt 0 (((((encs (recA r)++encs r.2.1)++encs (recB r))++encs (hopL (hps r)))++encs (recC r)).length+r.2.2.2.1.length)&&fits (((((encs (recA r)++encs r.2.1)++encs (recB r))++encs (hopL (hps r)))++encs (recC r)).length+r.2.2.2.1.length) 1)=true:=by
   have hs:r.2.2.2.1.length=(shp r).length:=rfl;rw[zb,zM];exact⟨by simp only[ze]; omega,qae (by simp only[ze,hs]; omega)⟩
  rw[hg,gd_tt,eq]; rfl
theorem renc{r:Rcd}(hr:i64A (recL r)):qdG r=some (encR r):=by
 unfold qdG encR;rw[or3];by_cases h:big r
 ·rw[if_pos h,show decide (21<(r.2.1.length:Int)\/32<(r.2.2.1.2.2.2.2.2.1.length:Int)\/12<(r.2.2.2.1.length:Int))=true from dec_t h]; rfl
 ·rw[if_neg h,show decide (21<(r.2.1.length:Int)\/32<(r.2.2.1.2.2.2.2.2.1.length:Int)\/12<(r.2.2.2.1.length:Int))=false from dec_f h]
  simp only[big,not_or] at h;obtain⟨h1,h2,h3⟩:=h;have lL:=qg8 hr;have sA:(recA r).length=2:=rfl;have sB:(recB r).length=6:=rfl;have sC:(recC r).length=4:=rfl;have sH:=qqn (hps r);have sL:(recL r).length=12+r.2.1.length+2*(hps r).length:=by unfold recL; simp only[ze]; omega
  have pA:0<(encs (recL r)).length:=by unfold recL recA; rw[zH1,qjC,ze]; have:=qrM (zg r.1); unfold encZ; omega
  simp only[za];have e4:=qzP r (by omega) (hps r).length 0 ((recA r++r.2.1)++recB r) (by omega) (by simp only[ze]; omega)
  rw[zD1] at e4;replace e4:iter (fun x=>qcl r x.1 x.2) (0,([r.1,(r.2.1.length:Int)]++r.2.1)++[r.2.2.1.1,r.2.2.1.2.1,r.2.2.1.2.2.1,r.2.2.1.2.2.2.1,r.2.2.1.2.2.2.2.1,(r.2.2.1.2.2.2.2.2.1.length:Int)])=some (((recA r++r.2.1)++recB r)++hopL (hps r)):=e4
  have eq:(((recA r++r.2.1)++recB r)++hopL (hps r))++recC r=recL r:=by unfold recL; simp only[zD]
  have e5:qjr ((((recA r++r.2.1)++recB r)++hopL (hps r))++[r.2.2.1.2.2.2.2.2.2,r.2.2.2.2.1,r.2.2.2.2.2,(r.2.2.2.1.length:Int)])=some (encs (recL r)):=(congrArg qjr eq).trans (rputs hr (by omega))
  rw[qae (by omega),gd_tt,qae (by simp only[ze,zq,zG]; omega),gd_tt]
  simp only[e4,z7];rw[qae (by simp only[ze]; omega),gd_tt]
  simp only[e5,z7];have hs:r.2.2.2.1.length=(shp r).length:=rfl;have hg:(Nat.blt 0 ((encs (recL r)).length+r.2.2.2.1.length)&&fits ((encs (recL r)).length+r.2.2.2.1.length) 1)=true:=by
   rw[zb,zM];exact⟨by omega,qae (by omega)⟩
  rw[hg,gd_tt]; rfl
end Go.Proofs.YtgmjmgihjjddmaaGreat.Wi
namespace Go.Proofs.YtgmjmgihjjddmaaGreat.Wi
open Go Go.Sq
set_option linter.unusedVariables false
def At(b:List Int)(p:Nat)(l rest:List Int):Prop:=p<=b.length/\b.drop p=encs l++rest
end Go.Proofs.YtgmjmgihjjddmaaGreat.Wi
