/- Shares of the document: long division, sums. No condition. -/
import Derived.Test.YtfdgemafaphpaaaGreatAc3
namespace Go.Proofs.YtfdgemafaphpaaaGreat.Ac
open Go Go.Sq
set_option linter.unusedVariables false
theorem qsR{s:Int}:∀(l:List Int),isum (l.map (· / s))*s+isum (l.map (· % s))=isum l
 | []=>by simp[isum]
 | x::l=>by
  have:=qsR (s:=s) l;have h2:=Int.mul_ediv_add_emod x s;simp only[z41,isum,Int.add_mul];rw[Int.mul_comm (x/s) s];omega
def quo(t s:Int)(w:List Int):List Int:=w.map fun x=>t*x/s
def rmd(t s:Int)(w:List Int):List Int:=w.map fun x=>t*x%s
theorem qwA(t s:Int)(w:List Int):(quo t s w).length=w.length:=by simp[quo]
theorem qph(t s:Int)(w:List Int):(rmd t s w).length=w.length:=by simp[rmd]
theorem qDJ{t s:Int}{w:List Int}{i:Nat}(h:i<w.length):(quo t s w).getD i 0=t*w.getD i 0/s:=qgR _ _ _ _ _ h
theorem qDK{t s:Int}{w:List Int}{i:Nat}(h:i<w.length):(rmd t s w).getD i 0=t*w.getD i 0%s:=qgR _ _ _ _ _ h
theorem qDL{t:Int}{w:List Int}{s:Int}:isum (quo t s w)*s+isum (rmd t s w)=t*isum w:=by
 have:=qsR (s:=s) (w.map (t*·));rw[List.map_map,List.map_map,qpr (t*·) t w (fun _ _=>rfl)] at this
 exact this
theorem qAG{t:Int}{w:List Int}{s:Int}(hs:0<s)(e:isum w=s):(t-isum (quo t s w))*s=isum (rmd t s w)/\0<=t-isum (quo t s w)/\t-isum (quo t s w)<w.length:=by
 have h1:=qDL (t:=t) (w:=w) (s:=s);have h2:(t-isum (quo t s w))*s=isum (rmd t s w):=by
  rw[Int.sub_mul]; rw[e] at h1; omega
 have h3:0*((rmd t s w).length:Int)<=isum (rmd t s w)/\isum (rmd t s w)<=(s-1)*(rmd t s w).length:=qoU fun x hx=>by
  simp only[rmd,zX] at hx;obtain⟨y,_,rfl⟩:=hx;have:=zQ2 (t*y) (show s≠0 by omega)
  have:=zD2 (t*y) hs;omega
 rw[qph] at h3;have hw:0<(w.length:Int):=by
  cases w with
  | nil=>simp[isum] at e; omega
  | cons x w=>simp only[zt]; omega
 refine⟨h2,?_,?_⟩
 ·by_cases hn:0<=t-isum (quo t s w)
  ·exact hn
  ·exfalso;have:(t-isum (quo t s w))*s<0:=Int.mul_neg_of_neg_of_pos (by omega) hs
   omega
 ·by_cases hn:t-isum (quo t s w)<w.length
  ·exact hn
  ·exfalso;have h5:(w.length:Int)*s<=(t-isum (quo t s w))*s:=Int.mul_le_mul_of_nonneg_right (by omega) (by omega)
   have h6:(s-1)*(w.length:Int)=s*w.length-w.length:=by rw[Int.sub_mul]; omega
   rw[Int.mul_comm] at h5;omega
theorem qB3{l:List Int}:∀ {i:Nat} {v:Int},i<l.length->isum (l.set i v)=isum l-l.getD i 0+v:=by
 induction l with
 | nil=>intro i v h; simp at h
 | cons x l ih=>
  intro i v h;cases i with
  | zero=>simp only[List.set_cons_zero,isum,List.getD_cons_zero]; omega
  | succ i=>
   simp only[List.set_cons_succ,isum,List.getD_cons_succ];rw[ih (by simpa using h)]; omega
theorem qyt{a b:Nat}(ha:a<4611686018427387904)(hb:b<4611686018427387904):qdZ .i64 (a:Int) (b:Int)=((a&&&b:Nat):Int):=by
 unfold qdZ;have h1:BitVec.ofInt IntKind.i64.bits (a:Int)=BitVec.ofNat IntKind.i64.bits a:=BitVec.ofInt_natCast ..;have h2:BitVec.ofInt IntKind.i64.bits (b:Int)=BitVec.ofNat IntKind.i64.bits b:=BitVec.ofInt_natCast ..;rw[h1,h2,BitVec.toNat_and,zI1,zI1,zs1 (show a<2^IntKind.i64.bits by show a<2^64; omega),zs1 (show b<2^IntKind.i64.bits by show b<2^64; omega)]
 have:=Nat.and_le_left (n:=a) (m:=b);exact wi (by omega)
def am(a i:Nat):Nat:=a/2^(41-i)
theorem am_0{a:Nat}(ha:a<=1099511627776):am a 0=0:=by
 unfold am; exact Nat.div_eq_of_lt (by omega)
theorem am_41(a:Nat):am a 41=a:=by unfold am; simp
theorem qDM(a:Nat){i:Nat}(h:i<41):am a (i+1)=2*am a i+am a (i+1)%2:=by
 have:am a i=am a (i+1)/2:=by
  unfold am;rw[Nat.div_div_eq_div_mul,show 41-i=(41-(i+1))+1 by omega,Nat.pow_succ]
 omega
theorem am_le(a i:Nat):am a i<=a:=Nat.div_le_self _ _
section
variable {w s:Int}
theorem qB4{q m b:Int}(hs:0<s)(x:Int)(hx:x=2*(m%s)+b):(2*m+b)/s=2*(m/s)+x/s/\(2*m+b)%s=x%s:=by
 have h:=Int.mul_ediv_add_emod m s;have e:2*m+b=x+(2*(m/s))*s:=by
  rw[hx,Int.mul_assoc,Int.mul_comm (m/s) s]; omega
 rw[e];exact⟨by rw[Int.add_mul_ediv_right _ _ (by omega)]; omega,Int.add_mul_emod_self_right _ _ _⟩
def xNext(a i:Nat)(w s:Int):Int:=2*((am a i:Int)*w%s)+(if am a (i+1)%2=1 then w else 0)
theorem qAH(a:Nat){i:Nat}(h:i<41)(hs:0<s):(am a (i+1):Int)*w/s=2*((am a i:Int)*w/s)+xNext a i w s/s/\(am a (i+1):Int)*w%s=xNext a i w s%s:=by
 have e:(am a (i+1):Int)*w=2*((am a i:Int)*w)+(if am a (i+1)%2=1 then w else 0):=by
  have h1:=qDM a h;have h2:(am a (i+1):Int)=2*(am a i:Int)+((am a (i+1)%2:Nat):Int):=by omega
  rw[h2,Int.add_mul,Int.mul_assoc];congr 1;split
  ·rename_i h3; rw[h3]; simp
  ·rename_i h3; rw[show am a (i+1)%2=0 by omega]; simp
 rw[e];exact qB4 (q:=0) hs _ rfl
theorem qB5(a i:Nat)(hs:0<s)(hw:0<=w/\w<=s):0<=xNext a i w s/\xNext a i w s<3*s:=by
 have h1:=zQ2 ((am a i:Int)*w) (show s≠0 by omega)
 have h2:=zD2 ((am a i:Int)*w) hs;unfold xNext;split <;> omega
theorem qCN(a i:Nat)(hs:0<s)(hw:0<=w/\w<=s):0<=(am a i:Int)*w/s/\(am a i:Int)*w/s<=a:=by
 have h0:0<=(am a i:Int)*w:=Int.mul_nonneg (by omega) hw.1
 refine⟨Int.ediv_nonneg h0 (by omega),?_⟩
 have h1:(am a i:Int)*w<=(a:Int)*s:=Int.mul_le_mul (by have:=am_le a i; omega) hw.2 hw.1 (by omega)
 exact Int.ediv_le_of_le_mul hs h1
theorem qAI{a i:Nat}(ha:a<=1099511627776)(h:i<41):decide (qdZ .i64 (Int.fdiv (a:Int) (2^shAmt .i64 (wu64 (40-(i:Int))))) 1=1)=decide (am a (i+1)%2=1):=by
 have e0:wu64 (40-(i:Int))=((40-i:Nat):Int):=by
  show IntKind.u64.wrap _=_;rw[show IntKind.u64.wrap (40-(i:Int))=(40-(i:Int))%18446744073709551616 from rfl]
  omega
 have e1:shAmt .i64 ((40-i:Nat):Int)=40-i:=by
  unfold shAmt;simp only[IntKind.bits];omega
 have hle:a/2^(40-i)<=a:=Nat.div_le_self _ _;rw[e0,e1,zr2 _ (Int.le_of_lt (Int.pow_pos (by omega))),show(a:Int)/2^(40-i)=((a/2^(40-i):Nat):Int) by rw[Int.natCast_ediv,Int.natCast_pow]; rfl,
  show(1:Int)=((1:Nat):Int) from rfl,qyt (by omega) (by omega),Nat.and_one_is_mod]
 unfold am;rw[show 41-(i+1)=40-i by omega]
 by_cases h1:a/2^(40-i)%2=1
 ·rw[h1]; simp
 ·rw[show a/2^(40-i)%2=0 by omega]; simp
theorem qB6{a:Nat}(ha:a<=1099511627776)(hs:0<s/\s<=288230376151711744)(hw:0<=w/\w<=s):qji (a:Int) w s=some ((a:Int)*w/s,(a:Int)*w%s):=by
 have key:=qaG (step:=fun x:Int×Int×Int=>qhc (a:Int) w s x.1 x.2.1 x.2.2) 41 (fun i=>((am a i:Int)*w/s,(am a i:Int)*w%s,40-(i:Int))) (e:=((a:Int)*w/s,(a:Int)*w%s)) (fun i hi=>by
   obtain⟨n1,n2⟩:=qAH (w:=w) (s:=s) a hi hs.1;have hx:=qB5 a i hs.1 hw;have hq:=qCN a i hs.1 hw;have hq2:=qCN a (i+1) hs.1 hw;have hm1:=zQ2 ((am a i:Int)*w) (show s≠0 by omega)
   have hm2:=zD2 ((am a i:Int)*w) hs.1;have e0:¬wu64 (40-(i:Int))<0:=by
    rw[show wu64 (40-(i:Int))=(40-(i:Int))%18446744073709551616 from rfl]
    omega
   have hs4:(bif (decide (qdZ .i64 (Int.fdiv (a:Int) (2^shAmt .i64 (wu64 (40-(i:Int))))) 1=1)) then some (wi64 (wi64 (2*((am a i:Int)*w%s))+w)) else some (wi64 (2*((am a i:Int)*w%s))))=some (xNext a i w s):=by
    rw[qAI ha hi,show wi64 (2*((am a i:Int)*w%s))=2*((am a i:Int)*w%s) from wi (by omega),show wi64 (2*((am a i:Int)*w%s)+w)=2*((am a i:Int)*w%s)+w from wi (by omega)]
    unfold xNext;by_cases h1:am a (i+1)%2=1
    ·rw[dec_t h1,if_pos h1]; rfl
    ·rw[dec_f h1,if_neg h1];simp
   unfold qhc;simp only[dec_t (show(0:Int)<=40-(i:Int) by omega),zb,dec_f e0,zl1,gd_tt,dec_f (show ¬s=0 by omega)]
   rw[hs4];simp only[z7];have hxd:xNext a i w s/s<=xNext a i w s:=Int.ediv_le_self _ hx.1;have hxd0:=Int.ediv_nonneg hx.1 (Int.le_of_lt hs.1);rw[Int.tdiv_eq_ediv_of_nonneg hx.1,Int.tmod_eq_emod_of_nonneg hx.1,show wi64 (2*((am a i:Int)*w/s))=2*((am a i:Int)*w/s) from wi (by omega),show wi64 (xNext a i w s/s)=xNext a i w s/s from wi (by omega),<-n1,n2,wi (by omega),wi (by omega)]
   rw[show(40:Int)-(i:Int)-1=40-((i+1:Nat):Int) by omega]) (by
   unfold qhc;simp only[am_41,dec_f (show ¬(0:Int)<=40-((41:Nat):Int) by decide),za])
 rw[am_0 ha] at key;unfold qji;rw[show((0:Int),(0:Int),(40:Int))=(((0:Nat):Int)*w/s,((0:Nat):Int)*w%s,40-((0:Nat):Int)) by simp,key]
 rfl
end
theorem qB7{S:List Int}{x:Int}(h:x∈S):∃k,k<S.length/\S.getD k 0=x:=by
 obtain⟨k,hk,rfl⟩:=List.mem_iff_getElem.1 h;exact⟨k,hk,by rw[zh,zi hk]; rfl⟩
theorem qt3{S:List Int}{x:Int}{i:Nat}(h:x∈S.take i):∃k,k<i/\k<S.length/\S.getD k 0=x:=by
 obtain⟨k,hk,e⟩:=qB7 h;simp only[zk] at hk;refine⟨k,by omega,by omega,?_⟩
 rw[<-e,zh,zh,zw,if_pos (by omega)]
def vOkP(w:List Int)(i:Nat):Bool:=decide (0<=w.getD i 0)&&decide (w.getD i 0<=1125899906842624)
def vOk(w:List Int):Bool:=(List.range w.length).all (vOkP w)
theorem qDN{w:List Int}:vOk w=true↔∀x∈w,0<=x/\x<=1125899906842624:=by
 unfold vOk;rw[qkR];constructor
 ·intro h x hx;obtain⟨k,hk,rfl⟩:=qpq 0 hx;have:=h k hk;simpa[vOkP] using this
 ·intro h i hi;simpa[vOkP] using h _ (qaU (d:=0) hi)
theorem vTake{w:List Int}{i:Nat}(hi:i<=w.length)(hn:w.length<=64)(h:∀j,j<i->vOkP w j=true):0<=isum (w.take i)/\isum (w.take i)<=72057594037927936:=by
 have:=qoU (l:=w.take i) (a:=0) (b:=1125899906842624) fun x hx=>by
  obtain⟨k,h1,h2,rfl⟩:=qt3 hx;have:=h k h1;simpa[vOkP] using this
 rw[zk] at this;omega
structure AlIn(a:Nat)(w:List Int):Prop where
 n:w.length<=64
 t1:a<=1099511627776
 w01:∀x∈w,0<=x/\x<=1125899906842624
 s0:isum w≠0
theorem AlIn.s{a:Nat}{w:List Int}(h:AlIn a w):0<isum w/\isum w<=288230376151711744:=by
 have:=qoU h.w01;have:=h.n;have:=h.s0;omega
theorem AlIn.g{a:Nat}{w:List Int}(h:AlIn a w){i:Nat}(hi:i<w.length):0<=w.getD i 0/\w.getD i 0<=isum w:=by
 have b:=h.w01 _ (qaU (d:=0) hi);exact⟨b.1,qtn (fun x hx=>(h.w01 x hx).1) (qaU hi)⟩
theorem AlIn.qb{a:Nat}{w:List Int}(h:AlIn a w):(∀x∈quo a (isum w) w,0<=x)/\isum (quo a (isum w) w)<=a:=by
 have hs:=h.s;obtain⟨b1,b2,b3⟩:=qAG (t:=(a:Int)) hs.1 rfl;refine⟨fun x hx=>?_,by omega⟩
 simp only[quo,zX] at hx;obtain⟨y,hy,rfl⟩:=hx;exact Int.ediv_nonneg (Int.mul_nonneg (by omega) (h.w01 y hy).1) (Int.le_of_lt hs.1)
theorem AlIn.qi{a:Nat}{w:List Int}(h:AlIn a w){i:Nat}(hi:i<w.length):0<=isum ((quo a (isum w) w).take i)/\isum ((quo a (isum w) w).take i)<=a/\0<=(quo a (isum w) w).getD i 0/\isum ((quo a (isum w) w).take i)+(quo a (isum w) w).getD i 0<=a:=by
 obtain⟨h1,h2⟩:=h.qb;have hq:i<(quo a (isum w) w).length:=by rw[qwA]; exact hi
 have h3:=qC1 h1 (i:=i+1);rw[qnL hq] at h3;have h4:=qwf (l:=(quo a (isum w) w).take i) fun x hx=>h1 x (zB1 hx)
 have h5:=h1 _ (qaU (d:=0) hq);omega
theorem AlIn.q{a:Nat}{w:List Int}(h:AlIn a w){i:Nat}(hi:i<w.length):qji (a:Int) (w.getD i 0) (isum w)=some ((quo a (isum w) w).getD i 0,(rmd a (isum w) w).getD i 0):=by
 rw[qDJ hi,qDK hi];exact qB6 h.t1 h.s (h.g hi)
theorem qCO{t:Int}{a:Nat}(hm:max t (-t)=(a:Int))(ha:a<=1099511627776):max t (wi64 (0-t))=(a:Int):=by
 rw[wi (by omega)]; omega
theorem rl_L0{w:List Int}(hn:w.length<=64):iter (fun x:Int×Int=>qgi w x.1 x.2) (0,0)=some (bif vOk w then .inl (isum w) else .inr ([],1)):=by
 refine qbn (step:=fun x:Int×Int=>qgi w x.1 x.2) w.length (fun i=>(isum (w.take i),(i:Int))) (vOkP w) (fun i hi hj hp=>?_) (fun i hi hj hp=>?_) (fun hj=>?_)
 all_goals unfold qgi
 ·obtain⟨b1,b2⟩:=vTake (i:=i) (by omega) hn hj
  have b3:=hp;simp only[vOkP,z9,zo] at b3;rw[qnL hi];simp only[dec_t (show(i:Int)<(w.length:Int) by omega),zb,gd_t (inB_t hi),z8,dec_f (show ¬w.getD i 0<0 by omega),dec_f (show ¬1125899906842624<w.getD i 0 by omega),za,z7]
  rw[wi (by omega),wi (by omega)]; rfl
 ·simp only[dec_t (show(i:Int)<(w.length:Int) by omega),zb,gd_t (inB_t hi),z8]
  simp only[vOkP,Bool.and_eq_false_iff,z02] at hp;by_cases h1:w.getD i 0<0
  ·rw[dec_t h1]; rfl
  ·rw[dec_f h1,dec_t (show 1125899906842624<w.getD i 0 by omega)]; rfl
 ·rw[zr (zM _)];simp only[dec_f (show ¬((w.length:Nat):Int)<(w.length:Int) by omega),za]
theorem rl_L1{t:Int}{a:Nat}{w:List Int}(h:AlIn a w)(hm:max t (-t)=(a:Int)):iter (fun x:Int×Int×List Int×List Int=>qeu t w (isum w) x.1 x.2.1 x.2.2.1 x.2.2.2) ((a:Int),0,List.replicate w.length 0,List.replicate w.length 0)=some ((a:Int)-isum (quo a (isum w) w),quo a (isum w) w,rmd a (isum w) w):=by
 have ql:=qwA a (isum w) w;have rl:=qph a (isum w) w;have zl:(List.replicate w.length (0:Int)).length=w.length:=z52;have key:=qaG (step:=fun x:Int×Int×List Int×List Int=>qeu t w (isum w) x.1 x.2.1 x.2.2.1 x.2.2.2) w.length
  (fun i=>((a:Int)-isum ((quo a (isum w) w).take i),(i:Int),mix (quo a (isum w) w) (List.replicate w.length 0) i,mix (rmd a (isum w) w) (List.replicate w.length 0) i)) (e:=((a:Int)-isum (quo a (isum w) w),quo a (isum w) w,rmd a (isum w) w)) (fun i hi=>by
   obtain⟨c1,c2,c3,c4⟩:=h.qi hi;have hq:=h.q hi;have ht1:=h.t1;have hn:=h.n;unfold qeu;simp only[dec_t (show(i:Int)<(w.length:Int) by omega),zb,z8,zJ,qiw ql zl,qiw rl zl,gd_t (inB_t hi),qCO hm h.t1,hq,z7]
   rw[qqY ql zl 0 hi rfl,qqY rl zl 0 hi rfl,qsE ql zl,if_pos (by omega),qnL (by rw[ql]; exact hi),wi (by omega),wi (by omega)]
   simp only[Int.sub_sub]; rfl) (by
   unfold qeu;simp only[dec_f (show ¬((w.length:Nat):Int)<(w.length:Int) by omega),za]
   rw[mix_n ql zl,mix_n rl zl,zr (by omega)])
 simpa[mix_0,isum] using key
theorem rl_L3{out R:List Int}(hR:0<R.length)(hn:R.length<=64):∃B:Nat,B<R.length/\(∀j,j<R.length->R.getD j 0<=R.getD B 0)/\(∀j,j<B->R.getD j 0<R.getD B 0)∧
  iter (fun x3:Int×Int×List Int×List Int=>qgj x3.1 x3.2.1 x3.2.2.1 x3.2.2.2) (0,1,out,R)=some ((B:Int),out,R):=by
 have key:∃e,iter (fun x3:Int×Int×List Int×List Int=>qgj x3.1 x3.2.1 x3.2.2.1 x3.2.2.2) (0,1,out,R)=some e/\∃B:Nat,e=((B:Int),out,R)/\B<R.length/\(∀j,j<R.length->R.getD j 0<=R.getD B 0)/\(∀j,j<B->R.getD j 0<R.getD B 0):=by
  refine qjv (fun x=>∃B i:Nat,x=((B:Int),(i:Int),out,R)/\i<=R.length/\B<R.length/\(∀j,j<i->R.getD j 0<=R.getD B 0)/\(∀j,j<B->R.getD j 0<R.getD B 0)) (fun x=>((R.length:Int)-x.2.1).toNat) _ ?_ ⟨0,1,rfl,by omega,hR,fun j hj=>by rw[show j=0 by omega]; omega,by omega⟩
  rintro _ ⟨B,i,rfl,h1,h2,h3,h4⟩
  unfold qgj;simp only;by_cases hi:i<R.length
  ·right;simp only[dec_t (show(i:Int)<(R.length:Int) by omega),zb,gd_t (inB_t hi),gd_t (inB_t h2),z8]
   rw[show wi64 ((i:Int)+1)=((i+1:Nat):Int) by rw[wi (by omega)]; omega]
   by_cases hlt:R.getD B 0<R.getD i 0
   ·rw[dec_t hlt];refine⟨_,rfl,⟨i,i+1,rfl,by omega,hi,fun j hj=>?_,fun j hj=>?_⟩,?_⟩
    ·by_cases e:j=i
     ·rw[e]; omega
     ·have:=h3 j (by omega); omega
    ·have:=h3 j hj; omega
    ·simp only[zb,z7]; omega
   ·rw[dec_f hlt];refine⟨_,rfl,⟨B,i+1,rfl,by omega,h2,fun j hj=>?_,h4⟩,?_⟩
    ·by_cases e:j=i
     ·rw[e]; omega
     ·exact h3 j (by omega)
    ·simp only[za,z7]; omega
  ·left;obtain rfl:i=R.length:=by omega
   exact⟨((B:Int),out,R),by simp only[dec_f (show ¬((R.length:Nat):Int)<(R.length:Int) by omega),za],B,rfl,h2,h3,h4⟩
 obtain⟨_,q,B,rfl,q1,q2,q3⟩:=key;exact⟨B,q1,q2,q3,q⟩
def sgn(t:Int):Int:=if t<0 then -1 else 1
theorem rl_L4{t:Int}{l:List Int}(hn:l.length<=64)(hb:∀x∈l,0<=x/\x<=1099511627777):iter (fun x5:Int×List Int=>qdm t x5.1 x5.2) (0,l)=some (l.map (· * sgn t)):=by
 by_cases ht:t<0
 ·have ml:(l.map (· * sgn t)).length=l.length:=by simp
  have key:=qaG (step:=fun x5:Int×List Int=>qdm t x5.1 x5.2) l.length (fun i=>((i:Int),mix (l.map (· * sgn t)) l i)) (e:=l.map (· * sgn t)) (fun i hi=>by
    have b:=hb _ (qaU (d:=0) hi);unfold qdm;simp only[qiw ml rfl,dec_t (show(i:Int)<(l.length:Int) by omega),zb,z8,z7,dec_t ht,gd_t (inB_t hi)]
    rw[qsE ml rfl,if_neg (by omega),qqY ml rfl 0 hi (by rw[qgR _ _ _ 0 _ hi]; unfold sgn; rw[if_pos ht]; rw[wi (by omega)]; omega),wi (by omega)]; rfl) (by
    unfold qdm;simp only[qiw ml rfl,dec_f (show ¬(l.length:Int)<(l.length:Int) by omega),za,z7]
    rw[mix_n ml rfl])
  simpa[mix_0] using key
 ·have e:l.map (· * sgn t)=l:=by
   have:(fun x:Int=>x*sgn t)=id:=by funext x; unfold sgn; rw[if_neg ht,Int.mul_one]; rfl
   rw[this,List.map_id]
  rw[e];refine qb0 ?_
  unfold qdm;simp only[dec_f ht];cases decide ((0:Int)<(l.length:Int)) <;> rfl
theorem qEu{a:Int}(ha:0<=a/\a<=1099511627776){left:Nat}{out R:List Int}(hn:R.length<=64)(h0:0<R.length)(ho:out.length=R.length)(hs:isum out+(left:Int)=a)(hb:∀x∈out,0<=x):
  ∃l,iter (fun x4:Int×List Int×List Int=>qiL x4.1 x4.2.1 x4.2.2) ((left:Int),out,R)=some l/\l.length=R.length/\isum l=a/\∀x∈l,0<=x:=by
 refine qjv (fun x=>∃(k:Nat) (u S:List Int),x=((k:Int),u,S)/\S.length=R.length/\u.length=R.length/\isum u+(k:Int)=a/\∀x∈u,0<=x) (fun x=>x.1.toNat) _ ?_ ⟨left,out,R,rfl,rfl,ho,hs,hb⟩
 rintro _ ⟨k,u,S,rfl,h1,h2,h3,h4⟩
 unfold qiL;simp only;by_cases hk:0<k
 ·right;obtain⟨B,r1,_,_,r4⟩:=rl_L3 (out:=u) (R:=S) (by omega) (by omega)
  rw[dec_t (show(0:Int)<(k:Int) by omega),zb,r4]
  have hm:=qaU (d:=(0:Int)) (show B<u.length by omega)
  have hx:=h4 _ hm;have hy:=qtn h4 hm;simp only[z7,gd_t (inB_t (show B<u.length by omega)),gd_t (inB_t r1),z8]
  rw[wi (by omega),wi (by omega)]
  refine⟨_,rfl,⟨k-1,_,_,by rw[show((k:Int)-1)=((k-1:Nat):Int) by omega],by rw[zJ]; exact h1,by rw[zJ]; exact h2,?_,fun x hx'=>?_⟩,by simp only; omega⟩
  ·rw[qB3 (by omega)]; omega
  ·rcases zu2 hx' with e | rfl
   ·exact h4 x e
   ·omega
 ·left;rw[dec_f (show ¬(0:Int)<(k:Int) by omega)]
  exact⟨u,rfl,h2,by omega,h4⟩
theorem rshare{t:Int}{w:List Int}(hn:w.length<=64)(hw:∀x∈w,0<=x/\x<=1125899906842624):∃r,qj6 t w=some r/\(r.2=0->r.1.length=w.length/\isum r.1=t):=by
 unfold qj6;rw[dec_f (show ¬(64:Int)<(w.length:Int) by omega)]
 by_cases h1:t < -1099511627776
 ·rw[dec_t h1]; exact⟨_,rfl,fun h=>by cases h⟩
 by_cases h2:1099511627776<t
 ·rw[dec_f h1,dec_t h2]; exact⟨_,rfl,fun h=>by cases h⟩
 rw[dec_f h1,dec_f h2,rl_L0 hn,qDN.2 hw];simp only[za,zb,z7,z51,z8];by_cases h3:t=0
 ·rw[dec_t h3,gd_t (qfe (show w.length*8<=_ by omega))]
  refine⟨_,rfl,fun _=>⟨by simp,?_⟩⟩
  have:=qoU (l:=List.replicate w.length (0:Int)) (a:=0) (b:=0) fun x hx=>by
   rw[(List.mem_replicate.1 hx).2]; omega
  simp only at this ⊢;omega
 rw[dec_f h3];by_cases h4:isum w=0
 ·rw[dec_t h4]; exact⟨_,rfl,fun h=>by cases h⟩
 rw[dec_f h4];simp only[za];have hA:AlIn t.natAbs w:=⟨hn,by omega,hw,h4⟩
 have hm:max t (-t)=(t.natAbs:Int):=by omega
 obtain⟨b1,b2,b3⟩:=qAG (t:=(t.natAbs:Int)) hA.s.1 rfl;have hl0:0<w.length:=by
  rcases zM1 w.length with h | h
  ·exact absurd (by rw[zU h]; rfl) h4
  ·exact h
 rw[gd_t (qfe (show w.length*8<=_ by omega)),gd_t (qfe (show w.length*8<=_ by omega)),qCO hm hA.t1,rl_L1 hA hm]
 simp only[za,z7];obtain⟨l,q1,q2,q3,q4⟩:=qEu (a:=(t.natAbs:Int)) (left:=((t.natAbs:Int)-isum (quo t.natAbs (isum w) w)).toNat) (out:=quo t.natAbs (isum w) w) (R:=rmd t.natAbs (isum w) w) ⟨by omega,by omega⟩ (by rw[qph]; exact hn) (by rw[qph]; exact hl0) (by rw[qph,qwA]) (by omega) hA.qb.1
 rw[show((((t.natAbs:Int)-isum (quo t.natAbs (isum w) w)).toNat:Nat):Int)=(t.natAbs:Int)-isum (quo t.natAbs (isum w) w) by omega] at q1
 rw[qph] at q2;rw[q1,z7,rl_L4 (t:=t) (l:=l) (by omega) (fun x hx=>⟨q4 x hx,by have:=qtn q4 hx; omega⟩)]
 refine⟨(l.map (· * sgn t),0),rfl,fun _=>⟨by show(l.map _).length=_; rw[z91]; exact q2,?_⟩⟩
 show isum (l.map (· * sgn t))=t;rw[qpr (fun x=>x*sgn t) (sgn t) _ (fun x _=>Int.mul_comm _ _),q3]
 unfold sgn;split <;> omega
end Go.Proofs.YtfdgemafaphpaaaGreat.Ac
namespace Go.Proofs.YtfdgemafaphpaaaGreat.Ac
open Go Go.Sq
set_option linter.unusedVariables false
def col1(l:List Acc):List Int:=l.map fun a=>a.2.1
def col2(l:List Acc):List Int:=l.map fun a=>a.2.2.1
def col3(l:List Acc):List Int:=l.map fun a=>a.2.2.2.1
def col4(l:List Acc):List Int:=l.map fun a=>a.2.2.2.2
def sumA(l:List Acc):Acc:=([],isum (col1 l),isum (col2 l),isum (col3 l),isum (col4 l))
theorem qgQ{a:Acc}(h:accP a=true):(0<=a.2.1/\a.2.1<=1099511627776)/\(0<=a.2.2.1/\a.2.2.1<=1099511627776)/\(0<=a.2.2.2.1/\a.2.2.2.1<=1099511627776)/\(-1099511627776<=a.2.2.2.2/\a.2.2.2.2<=1099511627776):=by
 simpa only[accP,volP,sgnP,z9,zo] using h
theorem qpK{l:List Acc}(hv:ValidP l)(f:Acc->Int)(hf:∀a,accP a=true->-1099511627776<=f a/\f a<=1099511627776)(i:Nat) : -70368744177664<=isum ((l.map f).take i)/\isum ((l.map f).take i)<=70368744177664:=by
 have:=qoU (l:=(l.map f).take i) (a:=-1099511627776) (b:=1099511627776) fun x hx=>by
  obtain⟨a,ha,rfl⟩:=zX.1 (zB1 hx);exact hf a (hv.acc a ha)
 rw[zk,z91] at this;have:=hv.n;omega
theorem qvp(l:List Acc)(f:Acc->Int){i:Nat}(hi:i<l.length):isum ((l.map f).take (i+1))=isum ((l.map f).take i)+f (l.getD i d0):=by
 rw[qnL (by simpa using hi),qgR f l i d0 0 hi]
theorem qB8{l:List Acc}(hv:ValidP l):iter (fun x:Int×Int×Int×Int×Int=>qgE l x.1 x.2.1 x.2.2.1 x.2.2.2.1 x.2.2.2.2) (0,0,0,0,0)=some (isum (col1 l),isum (col2 l),isum (col3 l),isum (col4 l)):=by
 have hn:=hv.n;have key:=qaG (step:=fun x:Int×Int×Int×Int×Int=>qgE l x.1 x.2.1 x.2.2.1 x.2.2.2.1 x.2.2.2.2) l.length (fun i=>((i:Int),isum ((col1 l).take i),isum ((col2 l).take i),isum ((col3 l).take i),isum ((col4 l).take i))) (e:=(isum (col1 l),isum (col2 l),isum (col3 l),isum (col4 l))) (fun i hi=>by
   have c1:=qvp l (fun a=>a.2.1) hi
   have c2:=qvp l (fun a=>a.2.2.1) hi
   have c3:=qvp l (fun a=>a.2.2.2.1) hi
   have c4:=qvp l (fun a=>a.2.2.2.2) hi
   have b1:=qpK hv (fun a=>a.2.1) (fun a h=>by have:=qgQ h; omega) (i+1)
   have b2:=qpK hv (fun a=>a.2.2.1) (fun a h=>by have:=qgQ h; omega) (i+1)
   have b3:=qpK hv (fun a=>a.2.2.2.1) (fun a h=>by have:=qgQ h; omega) (i+1)
   have b4:=qpK hv (fun a=>a.2.2.2.2) (fun a h=>by have:=qgQ h; omega) (i+1)
   unfold qgE col1 col2 col3 col4;simp only[dec_t (show(i:Int)<(l.length:Int) by omega),zb,gd_t (inB_t hi),z8]
   rw[<-c1,<-c2,<-c3,<-c4,wi (by omega),wi (by omega),wi (by omega),wi (by omega),wi (by omega)]; rfl) (by
   unfold qgE;simp only[dec_f (show ¬(l.length:Int)<(l.length:Int) by omega),za]
   rw[zr (by simp[col1]),zr (by simp[col2]),zr (by simp[col3]),zr (by simp[col4])])
 simpa[isum] using key
theorem qDO{l:List Acc}(hl:l.length<=1000000):qoC l=some (if qoN l=true then(sumA l,0) else(d0,27)):=by
 unfold qoC;rw[rvalid_eq hl];cases hv:qoN l
 ·rfl
 ·simp only[z7,ze,za,qB8 (validB_iff.1 hv)]; rfl
def qbh(a:Acc):Int:=a.2.1-a.2.2.1-a.2.2.2.1+a.2.2.2.2
theorem qyu(a:Acc):qcC a=qfX a:=rfl
theorem qxG{a:Acc}(h:(-70368744177664<=a.2.1/\a.2.1<=70368744177664)/\(-70368744177664<=a.2.2.1/\a.2.2.1<=70368744177664)/\(-70368744177664<=a.2.2.2.1/\a.2.2.2.1<=70368744177664)/\(-70368744177664<=a.2.2.2.2/\a.2.2.2.2<=70368744177664)):qcC a=some (qbh a)/\qfX a=some (qbh a):=by
 rw[<-qyu];have:qcC a=some (qbh a):=by
  unfold qcC qbh;rw[show wi64 (a.2.1-a.2.2.1)=a.2.1-a.2.2.1 from wi (by omega),show wi64 (a.2.1-a.2.2.1-a.2.2.2.1)=a.2.1-a.2.2.1-a.2.2.2.1 from wi (by omega),wi (by omega)]
 exact⟨this,this⟩
theorem qAJ{a:Acc}(h:accP a=true):qcC a=some (qbh a)/\qfX a=some (qbh a):=by
 have:=qgQ h;exact qxG (by omega)
theorem qDP{l:List Acc}(hv:ValidP l):(-70368744177664<=(sumA l).2.1/\(sumA l).2.1<=70368744177664)/\(-70368744177664<=(sumA l).2.2.1/\(sumA l).2.2.1<=70368744177664)/\(-70368744177664<=(sumA l).2.2.2.1/\(sumA l).2.2.2.1<=70368744177664)/\(-70368744177664<=(sumA l).2.2.2.2/\(sumA l).2.2.2.2<=70368744177664):=by
 have b1:=qpK hv (fun a=>a.2.1) (fun a h=>by have:=qgQ h; omega) l.length
 have b2:=qpK hv (fun a=>a.2.2.1) (fun a h=>by have:=qgQ h; omega) l.length
 have b3:=qpK hv (fun a=>a.2.2.2.1) (fun a h=>by have:=qgQ h; omega) l.length
 have b4:=qpK hv (fun a=>a.2.2.2.2) (fun a h=>by have:=qgQ h; omega) l.length
 rw[zr (by simp)] at b1 b2 b3 b4
 exact⟨b1,b2,b3,b4⟩
def stocks(l:List Acc):List Int:=l.map qbh
theorem qyv(l:List Acc):isum (stocks l)=qbh (sumA l):=by
 induction l with
 | nil=>rfl
 | cons a l ih=>
  simp only[stocks,sumA,qbh,col1,col2,col3,col4,z41,isum] at ih ⊢;omega
noncomputable def qkD(l:List Acc):List Int->Nat->List Acc->List Ent->(List Acc×List Ent)⊕Unit
 | [],_,out,es=>.inl (out,es)
 | n::r,i,out,es=>if n=0 then qkD l r (i+1) out es
  else if(postF out ((l.getD i d0).1,4,n)).2=0 then qkD l r (i+1) (postF out ((l.getD i d0).1,4,n)).1 (es++[((l.getD i d0).1,4,n)]) else .inr ()
theorem qyw{l:List Acc}{sh:List Int}{i:Nat}{out:List Acc}{es:List Ent}(hi:i<sh.length):qkD l (sh.drop i) i out es=if sh.getD i 0=0 then qkD l (sh.drop (i+1)) (i+1) out es
  else if(postF out ((l.getD i d0).1,4,sh.getD i 0)).2=0 then qkD l (sh.drop (i+1)) (i+1) (postF out ((l.getD i d0).1,4,sh.getD i 0)).1 (es++[((l.getD i d0).1,4,sh.getD i 0)]) else .inr ():=by
 rw[gD_eq (l:=sh) hi,zf1 hi]; rfl
theorem qAK{l:List Acc}(hn:l.length<=64):iter (fun x:Int×List Int=>qev l x.1 x.2) (0,[])=some (col2 l):=by
 have key:=qaG (step:=fun x:Int×List Int=>qev l x.1 x.2) l.length (fun i=>((i:Int),(col2 l).take i)) (e:=col2 l) (fun i hi=>by
   have hl2:((col2 l).take i).length=i:=by simp[col2]; omega
   unfold qev;simp only[dec_t (show(i:Int)<(l.length:Int) by omega),zb,gd_t (inB_t hi),z8,hl2,gd_t (qaj (n:=i+1) (b:=8) (by omega))]
   have e2:(col2 l).take (i+1)=(col2 l).take i++[(l.getD i d0).2.2.1]:=by
    rw[qdu 0 (by simpa[col2] using hi)]
    congr 2;exact qgR (fun a:Acc=>a.2.2.1) l i d0 0 hi
   rw[e2,wi (by omega)]; rfl) (by
   unfold qev;simp only[dec_f (show ¬(l.length:Int)<(l.length:Int) by omega),za]
   rw[zr (by simp[col2])])
 simpa using key
theorem qAL{l:List Acc}{sh:List Int}{er:Int}(hn:l.length<=64)(hs:sh.length=l.length):∃s,iter (fun x:List Acc×Int×List Ent=>qiM l (sh,er) x.1 x.2.1 x.2.2) (l,0,[])=some s∧
  s=(qkD l sh 0 l []).elim (fun p=>.inl (p.1,p.2)) (fun _=>.inr (l,[],4)):=by
 refine qjv (fun x=>∃i:Nat,∃out es,x=(out,(i:Int),es)/\i<=sh.length/\out.length<=l.length+i/\es.length<=i/\qkD l (sh.drop i) i out es=qkD l sh 0 l []) (fun x=>((sh.length:Int)-x.2.1).toNat) _ ?_ ⟨0,l,[],rfl,by omega,by omega,by simp,by simp⟩
 rintro _ ⟨i,out,es,rfl,h2,h3,h3e,h4⟩
 unfold qiM;simp only;by_cases hi:i<sh.length
 ·rw[qyw hi] at h4;simp only[dec_t (show(i:Int)<(l.length:Int) by omega),zb,gd_t (inB_t hi),z8]
  by_cases hz:sh.getD i 0=0
  ·right;rw[if_pos hz] at h4;rw[dec_t hz,wi (by omega)]
   exact⟨_,rfl,⟨i+1,out,es,rfl,by omega,by omega,by omega,h4⟩,by simp only; omega⟩
  ·rw[if_neg hz] at h4;rw[dec_f hz];have hp:=post_eq (l:=out) (e:=((l.getD i d0).1,4,sh.getD i 0)) (by omega)
   have hl:=post_len (l:=out) (e:=((l.getD i d0).1,4,sh.getD i 0)) (by omega)
   simp only[za,gd_t (inB_t (show i<l.length by omega)),hp.2.1,z7]
   by_cases hq:(postF out ((l.getD i d0).1,4,sh.getD i 0)).2=0
   ·right;rw[if_pos hq] at h4;rw[dec_t hq,gd_t (qaj (by omega)),wi (by omega)]
    exact⟨_,rfl,⟨i+1,(postF out ((l.getD i d0).1,4,sh.getD i 0)).1,es++[((l.getD i d0).1,4,sh.getD i 0)],rfl,by omega,by omega,by simp; omega,h4⟩,by simp only; omega⟩
   ·left;rw[if_neg hq] at h4;rw[dec_f hq];exact⟨_,rfl,by rw[<-h4]; rfl⟩
 ·left;rw[z21 (by omega)] at h4
  exact⟨.inl (out,es),by simp only[dec_f (show ¬(i:Int)<(l.length:Int) by omega),za],by rw[<-h4]; rfl⟩
def g1(e:Ent):Int:=if e.2.1=1 then e.2.2 else 0
def g2(e:Ent):Int:=if e.2.1=2 then e.2.2 else 0
def g3(e:Ent):Int:=if e.2.1=3 then e.2.2 else 0
def g4(e:Ent):Int:=if e.2.1=4 then e.2.2 else 0
def addA(a:Acc)(e:Ent):Acc:=(a.1,a.2.1+g1 e,a.2.2.1+g2 e,a.2.2.2.1+g3 e,a.2.2.2.2+g4 e)
def zeroA(s:List UInt8):Acc:=(s,0,0,0,0)
theorem qsS{a:Acc}{e:Ent}(ha:accP a=true)(he:entP e=true):qbW a e=addA a e:=by
 have h1:=qgQ ha;have h2 : -1099511627776<=e.2.2/\e.2.2<=1099511627776:=by
  simp only[entP,volP,sgnP,z9,zo1,zo] at he;omega
 unfold qbW addA g1 g2 g3 g4;by_cases k1:e.2.1=1
 ·rw[if_pos k1,wi (by omega)]; simp[k1]
 by_cases k2:e.2.1=2
 ·rw[if_neg k1,if_pos k2,wi (by omega)]; simp[k2]
 by_cases k3:e.2.1=3
 ·rw[if_neg k1,if_neg k2,if_pos k3,wi (by omega)]; simp[k3]
 by_cases k4:e.2.1=4
 ·rw[if_neg k1,if_neg k2,if_neg k3,if_pos k4,wi (by omega)]; simp[k4]
 ·simp[k1,k2,k3,k4]
theorem qB9(s:List UInt8):accP (zeroA s)=true:=rfl
def gS(e:Ent):Int:=g1 e-g2 e-g3 e+g4 e
theorem qvq(a:Acc)(e:Ent):qbh (addA a e)=qbh a+gS e:=by simp only[qbh,addA,gS]; omega
theorem qpi(P Q:List Acc)(a:Acc):isum ((P++a::Q).map qbh)=isum (P.map qbh)+qbh a+isum (Q.map qbh):=by
 rw[zt1,z41,qqb]; simp only[isum]; omega
theorem qEv{P Q:List Acc}{a:Acc}(h1:∀q∈P,Op.bytesLess q.1 a.1=true)(h2:∀q∈Q,Op.bytesLess a.1 q.1=true)(hP:P.Pairwise (fun a b=>Op.bytesLess a.1 b.1=true))(hQ:Q.Pairwise (fun a b=>Op.bytesLess a.1 b.1=true)):(P++a::Q).Pairwise (fun a b=>Op.bytesLess a.1 b.1=true):=by
 rw[List.pairwise_append,zE2];refine⟨hP,⟨h2,hQ⟩,fun x hx y hy=>?_⟩
 rcases zE.1 hy with rfl | hy
 ·exact h1 x hx
 ·exact qmg (h1 x hx) (h2 y hy)
theorem pw_of{l:List Acc}:(∀i k,i<k->k<l.length->Op.bytesLess (l.getD i d0).1 (l.getD k d0).1=true)↔l.Pairwise (fun a b=>Op.bytesLess a.1 b.1=true):=by
 rw[List.pairwise_iff_getElem];constructor
 ·intro h i k hi hk hik;have:=h i k hik hk;rwa[gD_eq hi,gD_eq hk] at this
 ·intro h i k hik hk;rw[gD_eq (show i<l.length by omega),gD_eq hk]
  exact h i k (by omega) hk hik
theorem valid_iff{l:List Acc}:ValidP l↔l.length<=64/\(∀a∈l,accP a=true)/\(∀a∈l,nameP a.1=true)/\l.Pairwise (fun a b=>Op.bytesLess a.1 b.1=true):=
 ⟨fun h=>⟨h.n,h.acc,h.nm,pw_of.1 h.lt⟩,fun h=>⟨h.1,h.2.1,h.2.2.1,pw_of.2 h.2.2.2⟩⟩
theorem qCa{e:Ent}(h:entP e=true):nameP e.1=true:=by
 simp only[entP,z9] at h; exact h.2
theorem post_valid{l:List Acc}{e:Ent}(hv:ValidP l)(h:(postF l e).2=0):ValidP (postF l e).1/\isum ((postF l e).1.map qbh)=isum (l.map qbh)+gS e:=by
 have hn:=hv.n;obtain⟨_,_,hp⟩:=post_eq (l:=l) (e:=e) (by omega)
 have he:entP e=true:=by
  cases hc:entP e with
  | true=>rfl
  | false=>
   have:=hp.bad (fun hh=>by rw[hc] at hh; cases hh.2)
   rw[this] at h; cases h
 obtain⟨k,hk,hg⟩:=hp.good hv he;have h0:=valid_iff.1 hv;rcases hg with⟨hkl,hke,hr⟩ | ⟨hno,hr⟩
 ·have hm:=qaU (d:=d0) hkl;rw[qsS (hv.acc _ hm) he] at hr;by_cases ha:accP (addA (l.getD k d0) e)=true
  ·rw[if_pos ha] at hr;rw[hr];have hset:l.set k (addA (l.getD k d0) e)=l.take k++addA (l.getD k d0) e::l.drop (k+1):=by rw[List.set_eq_take_append_cons_drop,if_pos hkl]
   have hl:l=l.take k++l.getD k d0::l.drop (k+1):=by rw[gD_eq hkl,<-zf1 hkl,zh1]
   refine⟨⟨by rw[zJ]; exact hn,fun a h=>?_,fun a h=>?_,fun i j hij hj=>?_⟩,?_⟩
   ·rcases zu2 h with h | rfl
    ·exact hv.acc a h
    ·exact ha
   ·rcases zu2 h with h | rfl
    ·exact hv.nm a h
    ·exact hv.nm (l.getD k d0) hm
   ·rw[zJ] at hj;have hg:∀i,((l.set k (addA (l.getD k d0) e)).getD i d0).1=(l.getD i d0).1:=fun i=>by
     rw[qgq];split
     ·rename_i hh; rw[<-hh.1]; rfl
     ·rfl
    rw[hg,hg];exact hv.lt i j hij hj
   ·show isum ((l.set k (addA (l.getD k d0) e)).map qbh)=_;rw[hset,qpi,qvq];have h2:isum (l.map qbh)=isum ((l.take k).map qbh)+qbh (l.getD k d0)+isum ((l.drop (k+1)).map qbh):=by
     conv=>lhs; rw[hl]
     exact qpi _ _ _
    rw[h2]; omega
  ·rw[if_neg ha] at hr;rw[hr] at h; cases h
 ·rw[show((e.1,0,0,0,0):Acc)=zeroA e.1 from rfl,qsS (qB9 _) he] at hr
  by_cases ha:accP (addA (zeroA e.1) e)=true/\l.length≠64
  ·rw[if_pos ha] at hr;rw[hr];have hP:∀q∈l.take k,Op.bytesLess q.1 e.1=true:=fun q hq=>by
    obtain⟨j,hj,rfl⟩:=qpq d0 hq;rw[zk] at hj;rw[qwe,if_pos (by omega)]
    exact hk.lt j (by omega)
   have hQ:∀q∈l.drop k,Op.bytesLess e.1 q.1=true:=fun q hq=>by
    obtain⟨j,hj,rfl⟩:=qpq d0 hq;rw[zY] at hj;rw[qzG];have h1:=hk.ge (k+j) (by omega) (by omega)
    rcases qAb (l.getD (k+j) d0).1 e.1 with h | h | h
    ·rw[h] at h1; cases h1
    ·by_cases h0:j=0
     ·subst h0; exact absurd ⟨by omega,h⟩ hno
     ·have h2:=hv.lt k (k+j) (by omega) (by omega)
      have h3:=hk.ge k (zM _) (by omega)
      rw[h] at h2;rw[h2] at h3; cases h3
    ·exact h
   refine⟨valid_iff.2 ⟨?_,fun a h=>?_,fun a h=>?_,?_⟩,?_⟩
   ·have:=hk.le;simp only[zd,zt,zk,zY];omega
   ·rcases zy.1 h with h | h
    ·exact hv.acc a (zB1 h)
    ·rcases zE.1 h with rfl | h
     ·exact ha.1
     ·exact hv.acc a (zX1 h)
   ·rcases zy.1 h with h | h
    ·exact hv.nm a (zB1 h)
    ·rcases zE.1 h with rfl | h
     ·exact qCa he
     ·exact hv.nm a (zX1 h)
   ·exact qEv hP hQ (h0.2.2.2.sublist (List.take_sublist _ _)) (h0.2.2.2.sublist (List.drop_sublist _ _))
   ·show isum ((l.take k++addA (zeroA e.1) e::l.drop k).map qbh)=_;rw[qpi,qvq];have h2:isum (l.map qbh)=isum ((l.take k).map qbh)+isum ((l.drop k).map qbh):=by rw[<-qqb,<-zt1,zh1]
    have h3:qbh (zeroA e.1)=0:=rfl;rw[h2,h3]; omega
  ·rw[if_neg ha] at hr;rw[hr] at h; cases h
theorem qt4{l:List Acc}:∀(sh:List Int) (i:Nat) (out:List Acc) (es:List Ent) {p:List Acc×List Ent},ValidP out->qkD l sh i out es=.inl p->ValidP p.1/\isum (p.1.map qbh)=isum (out.map qbh)+isum sh
 | [],i,out,es,p,hv,h=>by
  rw[qkD] at h;injection h with h; subst h
  exact⟨hv,by simp[isum]⟩
 | n::r,i,out,es,p,hv,h=>by
  rw[qkD] at h;by_cases hz:n=0
  ·rw[if_pos hz] at h;obtain⟨h1,h2⟩:=qt4 r (i+1) out es hv h;exact⟨h1,by rw[h2,hz]; simp only[isum]; omega⟩
  ·rw[if_neg hz] at h;by_cases hq:(postF out ((l.getD i d0).1,4,n)).2=0
   ·rw[if_pos hq] at h;obtain⟨g1',g2'⟩:=post_valid hv hq;obtain⟨h1,h2⟩:=qt4 r (i+1) _ _ g1' h;refine⟨h1,?_⟩
    have hg:gS ((l.getD i d0).1,4,n)=n:=by simp[gS,g1,g2,g3,g4]
    rw[h2,g2',hg]; simp only[isum]; omega
   ·rw[if_neg hq] at h; cases h
theorem rclose_ok{l:List Acc}{m:Int}(hv:ValidP l)(hm:0<=m/\m<=65535):∃r,qj7 l m=some r/\(r.2.2=0->ValidP r.1/\isum (r.1.map qbh)=m):=by
 have hn:=hv.n;unfold qj7;rw[rvalid_eq (by omega),validB_iff.2 hv,z7,ze,za,dec_f (show ¬m<0 by omega),dec_f (show ¬1099511627776<m by omega)]
 simp only[za,z7];rw[qDO (by omega),validB_iff.2 hv,qAK hn]
 simp only[z7,if_true];have hsb:=qDP hv;rw[show qfX ((sumA l).1,(sumA l).2.1,(sumA l).2.2.1,(sumA l).2.2.2.1,(sumA l).2.2.2.2)=some (qbh (sumA l)) from(qxG hsb).2]
 have hst : -300000000000000<=qbh (sumA l)/\qbh (sumA l)<=300000000000000:=by unfold qbh; omega
 simp only[z7];rw[wi (by omega)]
 obtain⟨⟨sh,er⟩,q1,q2⟩:=rshare (t:=m-qbh (sumA l)) (w:=col2 l) (by simp[col2]; omega) (fun x hx=>by
  obtain⟨a,ha,rfl⟩:=zX.1 hx;have:=qgQ (hv.acc a ha);omega)
 rw[q1,z7];by_cases he:er=0
 ·obtain⟨q3,q4⟩:=q2 he;subst he;have hsl:sh.length=l.length:=by rw[q3]; simp[col2]
  obtain⟨s2,t3,t4⟩:=qAL (er:=0) hn hsl;simp only[ze1,ze,za,zD];rw[gd_t (qaj (by omega)),t3,z7,t4]
  cases hc:qkD l sh 0 l [] with
  | inl p=>
   obtain⟨h1,h2⟩:=qt4 sh 0 l [] hv hc;refine⟨_,rfl,fun _=>⟨h1,?_⟩⟩
   have hs:=qyv l;unfold stocks at hs;rw[h2,q4,hs]; omega
  | inr u=>exact⟨_,rfl,fun h=>by cases h⟩
 ·rw[dec_f he]; exact⟨_,rfl,fun h=>absurd h he⟩
theorem square_ok{l:List Acc}{m:Int}(hv:ValidP l)(hs:isum (l.map qbh)=m):qit l m=some (true,0):=by
 have hn:=hv.n;unfold qit;rw[valid_eq (by omega),validB_iff.2 hv,z7]
 simp only[ze,za];have hst:∀i,i<=l.length->-281474976710656<=isum ((l.map qbh).take i)/\isum ((l.map qbh).take i)<=281474976710656:=fun i _=>by
  have:=qoU (l:=(l.map qbh).take i) (a:=-4398046511104) (b:=4398046511104) fun x hx=>by
   obtain⟨a,ha,rfl⟩:=zX.1 (zB1 hx);have:=qgQ (hv.acc a ha);unfold qbh; omega
  rw[zk] at this;simp only[z91] at this;omega
 have key:=qaG (step:=fun x:Int×Int=>qdG l x.1 x.2) l.length (fun i=>(isum ((l.map qbh).take i),(i:Int))) (e:=m) (fun i hi=>by
   have c1:=qvp l qbh hi;have h1:=hst (i+1) (by omega)
   have h2:=hst i (by omega)
   have ha:=qAJ (hv.acc _ (qaU (d:=d0) hi));unfold qdG;simp only[dec_t (show(i:Int)<(l.length:Int) by omega),zb,gd_t (inB_t hi),z8]
   rw[show qcC ((l.getD i d0).1,(((l.getD i d0).2).1,((((l.getD i d0).2).2).1,(((((l.getD i d0).2).2).2).1,((((l.getD i d0).2).2).2).2))))=some (qbh (l.getD i d0)) from ha.1,z7,c1,wi (by omega),w1 hi (by omega)]) (by
   unfold qdG;simp only[dec_f (show ¬(l.length:Int)<(l.length:Int) by omega),za]
   rw[zr (by simp),hs])
 have k2:iter (fun x:Int×Int=>qdG l x.1 x.2) (0,0)=some m:=by simpa[isum] using key
 rw[k2,z7,dec_t rfl]
end Go.Proofs.YtfdgemafaphpaaaGreat.Ac
