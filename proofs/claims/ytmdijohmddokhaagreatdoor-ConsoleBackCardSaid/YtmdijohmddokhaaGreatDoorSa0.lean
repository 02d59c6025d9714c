/- Steps: a flow changes; a step is carried out. No condition. -/
import Derived.Test.YtmdijohmddokhaaGreatDoorSp4
import Derived.Test.YtmdijohmddokhaaGreatDoorLa2
namespace Go.Proofs.YtmdijohmddokhaaGreatDoor
open Go Go.Sq
set_option linter.unusedVariables false
section
variable {n:Net}
theorem rgk1(v:Int):(bif decide (v < -1000) then some true else some (decide (1000<v)))=some (!rg (-1000) 1000 v):=by
 unfold rg; rw[notlt v (-1000),notlt 1000 v];cases decide (-1000<=v) <;> cases decide (v<=1000) <;> rfl
theorem rgk4{A:Type}(v:Int)(x:A):(bif decide (v < -1000) then some (true,x) else some (decide (1000<v),x))=some (!rg (-1000) 1000 v,x):=by
 unfold rg; rw[notlt v (-1000),notlt 1000 v];cases decide (-1000<=v) <;> cases decide (v<=1000) <;> rfl
theorem qAL{d:Dk}(hd:VDk n d)(s:Stp):inner (chgS n d s) (qks n s d.1 d.2.1 d.2.2.1 d.2.2.2):=by
 unfold chgS qks;rw[rgk4,z7];simp only;cases hr:rg (-1000) 1000 s.2.2.1 with
 | false=>exact⟨_,rfl,rfl,fun e=>by cases e⟩
 | true=>
  have hv:=qli.1 hr;simp only[zf,zb];rw[wi (by omega),qa9,show((s.2.2.2.1,s.2.2.2.2.1,s.2.2.2.2.2.1,max s.2.2.1 (0-s.2.2.1)):Pth)=absP s from rfl,qCb hd.net,z7]
  cases hp:pathB n (absP s) with
  | false=>exact⟨_,rfl,rfl,fun e=>by cases e⟩
  | true=>
   have hx:=VPa.of hp;simp only[zf,zb];rw[show((d.1,d.2.1,d.2.2.1,d.2.2.2):Dk)=d from rfl,qCf hd hx hv,z7]
   cases hg:growB n d (absP s) s.2.2.1 with
   | false=>exact⟨_,rfl,rfl,fun e=>by cases e⟩
   | true=>
    simp only[zf,zb];rw[qDV hv hd.rate hd.prate hx hd.sz.1 hd.sz.2.1,z7];simp only;rw[show(((growP (absP s) s.2.2.1 d.2).1,(growP (absP s) s.2.2.1 d.2).2.1,(growP (absP s) s.2.2.1 d.2).2.2):Pl)=growP (absP s) s.2.2.1 d.2 from rfl,qjd,z7]
    by_cases hc:qaY n (growP (absP s) s.2.2.1 d.2)=0
    ·rw[dec_t hc,if_neg (fun e=>e hc),zf,zb,qx0 hc,z7]
     cases idleB n (growP (absP s) s.2.2.1 d.2) with
     | true=>exact⟨_,rfl,rfl,fun e=>by cases e⟩
     | false=>exact⟨_,rfl,rfl,fun _=>rfl⟩
    ·rw[dec_f hc,if_pos hc];exact⟨_,rfl,rfl,fun e=>absurd e hc⟩
theorem qAM{d:Dk}(hd:VDk n d){x:Pth}(hx:VPa n x):qkH n d x=some (qqE n d x):=by
 have hn:=(VNet.of hd.net).small;have m1:=hn.sg;have m2:=hn.po;have hl:=hd.len;have hi:=hx.i;have ho:=hx.o;have h3:=hx.hl;unfold qkH;rw[wi (by omega),wi (by omega)]
 have e1:=qbj (step:=fun y:Int×List Int=>qcY x y.1 y.2) (e:=[(n.2.1.length:Int)+x.1,(n.2.1.length:Int)+x.2.1]++x.2.2.1.map (·.1)) x.2.2.1.length (fun i=>((i:Int),[(n.2.1.length:Int)+x.1,(n.2.1.length:Int)+x.2.1]++(x.2.2.1.take i).map (·.1))) (fun i hi'=>?_) ?_
 ·have e1:iter (fun y=>qcY x y.1 y.2) ((0:Int),[(n.2.1.length:Int)+x.1,(n.2.1.length:Int)+x.2.1])=some ([(n.2.1.length:Int)+x.1,(n.2.1.length:Int)+x.2.1]++x.2.2.1.map (·.1)):=e1
  rw[e1,z7];have hlen:([(n.2.1.length:Int)+x.1,(n.2.1.length:Int)+x.2.1]++x.2.2.1.map (·.1)).length=2+x.2.2.1.length:=by simp; omega
  have hin:∀k∈[(n.2.1.length:Int)+x.1,(n.2.1.length:Int)+x.2.1]++x.2.2.1.map (·.1),0<=k/\k<(d.1.length:Int):=by
   intro k hk;simp only[zj1,zC,zw,zS] at hk;rcases hk with rfl | rfl | ⟨h,hh,rfl⟩
   ·omega
   ·omega
   ·have:=hx.h h hh; omega
  have hall:([(n.2.1.length:Int)+x.1,(n.2.1.length:Int)+x.2.1]++x.2.2.1.map (·.1)).all (fun k=>qck (d.1.getD k.toNat v0))=qqE n d x:=by
   unfold qqE;simp only[zj1,zC,z11,List.all_map];rw[show(((n.2.1.length:Int)+x.1).toNat)=n.2.1.length+x.1.toNat by omega,show(((n.2.1.length:Int)+x.2.1).toNat)=n.2.1.length+x.2.1.toNat by omega]; rfl
  generalize hL:[(n.2.1.length:Int)+x.1,(n.2.1.length:Int)+x.2.1]++x.2.2.1.map (·.1)=L at hlen hin hall;have key:∀i,i<L.length->(gd (inB (i:Int) L.length) (gd (inB (L.getD i 0) d.1.length) ((qjT (d.1.getD (L.getD i 0).toNat (0,0,false,false))).bind fun r=>
    bif !r then some (true,L) else gd (inB (i:Int) L.length) (gd (inB (L.getD i 0) d.1.length) (some ((!((((d.1.getD (L.getD i 0).toNat (0,(0,(false,false)))).2).2).1)),L))))):Option (Bool×List Int))=some (!qck (d.1.getD (L.getD i 0).toNat v0),L):=by
   intro i hi';have hk:=hin _ (qbe (d:=0) hi');have hB:inB (L.getD i 0) d.1.length=true:=qae.2 hk;rw[gd_t (inB_t hi'),gd_t (inB_t hi'),gd_t hB,gd_t hB,show(d.1.getD (L.getD i 0).toNat (0,0,false,false))=d.1.getD (L.getD i 0).toNat v0 from rfl,quL,z7]
   unfold qck;cases(qcv (d.1.getD (L.getD i 0).toNat v0)) <;> cases(decide ((d.1.getD (L.getD i 0).toNat v0).2.1=(d.1.getD (L.getD i 0).toNat v0).1)) <;> rfl
  have e2:=qa1 (step:=fun y:Int×List Int=>qbH d y.1 y.2) L.length (fun i=>((i:Int),L)) (fun i=>qck (d.1.getD (L.getD i 0).toNat v0)) (fin:=.inl ()) (bad:=.inr false) (fun i hi' _ hq=>?_) (fun i hi' _ hq=>?_) (fun _=>?_)
  ·have e2:iter (fun y=>qbH d y.1 y.2) ((0:Int),L)=some (bif (List.range L.length).all fun i=>qck (d.1.getD (L.getD i 0).toNat v0) then .inl () else .inr false):=e2
   rw[e2,z7,qst L 0 (fun k=>qck (d.1.getD k.toNat v0)),hall]
   cases qqE n d x <;> rfl
  ·show qbH d (i:Int) L=_;unfold qbH;rw[dec_t (show(i:Int)<(L.length:Int) by omega),za,z9,key i hi',hq,w1 hi' (by omega)]; rfl
  ·show qbH d (i:Int) L=_;unfold qbH;rw[dec_t (show(i:Int)<(L.length:Int) by omega),za,z9,key i hi',hq]; rfl
  ·show qbH d ((L.length:Nat):Int) L=_;unfold qbH;rw[dec_f (by omega)]; rfl
 ·show qcY x (i:Int) ([(n.2.1.length:Int)+x.1,(n.2.1.length:Int)+x.2.1]++(x.2.2.1.take i).map (·.1))=some (.inl (((i+1:Nat):Int),[(n.2.1.length:Int)+x.1,(n.2.1.length:Int)+x.2.1]++(x.2.2.1.take (i+1)).map (·.1)));unfold qcY;rw[dec_t (show(i:Int)<(x.2.2.1.length:Int) by omega),za,gd_t (inB_t hi'),gd_t (qaw (by rw[zd,z71,zn]; simp only[zg,zx]; omega)),z9,w1 hi' (by omega),qer (0,false) hi',zH1,zu]; rfl
 ·show qcY x ((x.2.2.1.length:Nat):Int) ([(n.2.1.length:Int)+x.1,(n.2.1.length:Int)+x.2.1]++(x.2.2.1.take x.2.2.1.length).map (·.1))=_;unfold qcY;rw[dec_f (by omega),zV1]; rfl
theorem qCm{d:Dk}(hd:VDk n d){x:Pth}(hx:VPa n x){s:Stp}(hv : -1000<=s.2.2.1/\s.2.2.1<=1000)(q:List Int)(b:List Bool):
  iter (fun x5=>qcd d s x5.1 x5.2.1 x5.2.2.1 x5.2.2.2.1 x5.2.2.2.2.1 x5.2.2.2.2.2.1 x5.2.2.2.2.2.2.1 x5.2.2.2.2.2.2.2.1 x5.2.2.2.2.2.2.2.2.1 x5.2.2.2.2.2.2.2.2.2) (0,[],[],[],[],x.2.2.1,d.1,d.2.1,q,b)=
   some (bif x.2.2.1.all (hpOk d.2 s.2.2.1) then .inl ([],[],[],[],d.1,growR x.2.2.1 s.2.2.1 d.2.1,q,b) else .inr (22,d)):=by
 have h3:=hx.hl;have hz:=hd.sz;have:=qa1 (step:=fun x5:Int×List Vl×List Int×List Int×List Bool×List Hop×List Vl×List Int×List Int×List Bool=>qcd d s x5.1 x5.2.1 x5.2.2.1 x5.2.2.2.1 x5.2.2.2.2.1 x5.2.2.2.2.2.1 x5.2.2.2.2.2.2.1 x5.2.2.2.2.2.2.2.1 x5.2.2.2.2.2.2.2.2.1 x5.2.2.2.2.2.2.2.2.2) x.2.2.1.length (fun i=>((i:Int),[],[],[],[],x.2.2.1,d.1,growR (x.2.2.1.take i) s.2.2.1 d.2.1,q,b)) (fun i=>hpOk d.2 s.2.2.1 (x.2.2.1.getD i (0,false)))
  (fin:=.inl ([],[],[],[],d.1,growR x.2.2.1 s.2.2.1 d.2.1,q,b)) (bad:=.inr (22,d)) (fun i hi _ hq=>?_) (fun i hi _ hq=>?_) (fun _=>?_)
 ·rw[qst x.2.2.1 (0,false) (hpOk d.2 s.2.2.1)] at this;exact this
 ·show qcd d s (i:Int) [] [] [] [] x.2.2.1 d.1 (growR (x.2.2.1.take i) s.2.2.1 d.2.1) q b=some (.inl (((i+1:Nat):Int),[],[],[],[],x.2.2.1,d.1,growR (x.2.2.1.take (i+1)) s.2.2.1 d.2.1,q,b));have hh:=hx.h _ (qbe (d:=(0,false)) hi);have hr:=hd.rate (x.2.2.1.getD i (0,false)).1.toNat;have hA:inB (x.2.2.1.getD i (0,false)).1 d.2.1.length=true:=qae.2 (by omega)
  have hC:inB (x.2.2.1.getD i (0,false)).1 (growR (x.2.2.1.take i) s.2.2.1 d.2.1).length=true:=qae.2 (by rw[qsz]; omega)
  have hg:(growR (x.2.2.1.take i) s.2.2.1 d.2.1).getD (x.2.2.1.getD i (0,false)).1.toNat 0=d.2.1.getD (x.2.2.1.getD i (0,false)).1.toNat 0:=qop _ _ _ fun h hm=>by
   obtain⟨j,hj,rfl⟩:=qvI (0,false) hm;rw[zn] at hj;rw[qAe,if_pos (by omega)]
   have:=hx.d j i (by omega) hi
   have:=hx.h _ (qbe (d:=(0,false)) (show j<x.2.2.1.length by omega))
   omega
  unfold qcd;rw[dec_t (show(i:Int)<(x.2.2.1.length:Int) by omega),za,gd_t (inB_t hi),z9]
  unfold hpOk along at hq;rw[z8,zy,zy] at hq;rw[qtw hi,hg];unfold sgn;cases hb:(x.2.2.1.getD i (0,false)).2 with
  | true=>
   rw[hb,if_pos rfl] at hq;simp only[za,z7,gd_t hA,if_true];rw[wi (by omega),wi (by omega),dec_f (show ¬ -1*d.2.1.getD (x.2.2.1.getD i (0,false)).1.toNat 0<0 by omega),dec_f (show ¬ -1*d.2.1.getD (x.2.2.1.getD i (0,false)).1.toNat 0+s.2.2.1<0 by omega),zb,z7]
   simp only[zb];rw[gd_t hC,w1 hi (by omega),wi (by omega),show -1*(-1*d.2.1.getD (x.2.2.1.getD i (0,false)).1.toNat 0+s.2.2.1)=d.2.1.getD (x.2.2.1.getD i (0,false)).1.toNat 0+(0-s.2.2.1) by omega]
  | false=>
   rw[hb,if_neg (by simp)] at hq
   simp only[zb,z7,gd_t hA];rw[wi (by omega),wi (by omega),dec_f (show ¬1*d.2.1.getD (x.2.2.1.getD i (0,false)).1.toNat 0<0 by omega),dec_f (show ¬1*d.2.1.getD (x.2.2.1.getD i (0,false)).1.toNat 0+s.2.2.1<0 by omega),zb,z7]
   simp only[zb];rw[gd_t hC,w1 hi (by omega),wi (by omega),if_neg (by simp),show 1*(1*d.2.1.getD (x.2.2.1.getD i (0,false)).1.toNat 0+s.2.2.1)=d.2.1.getD (x.2.2.1.getD i (0,false)).1.toNat 0+s.2.2.1 by omega]
 ·show qcd d s (i:Int) [] [] [] [] x.2.2.1 d.1 (growR (x.2.2.1.take i) s.2.2.1 d.2.1) q b=some (.inr (.inr (22,d)));have hh:=hx.h _ (qbe (d:=(0,false)) hi);have hr:=hd.rate (x.2.2.1.getD i (0,false)).1.toNat;have hA:inB (x.2.2.1.getD i (0,false)).1 d.2.1.length=true:=qae.2 (by omega)
  unfold qcd;rw[dec_t (show(i:Int)<(x.2.2.1.length:Int) by omega),za,gd_t (inB_t hi),z9]
  unfold hpOk along at hq;rw[Bool.and_eq_false_iff,z22,z22] at hq;cases hb:(x.2.2.1.getD i (0,false)).2 with
  | true=>
   rw[hb,if_pos rfl] at hq;simp only[za,z7,gd_t hA];rw[wi (by omega),wi (by omega)]
   by_cases h0 : -1*d.2.1.getD (x.2.2.1.getD i (0,false)).1.toNat 0<0
   ·rw[dec_t h0]; rfl
   ·rw[dec_f h0,dec_t (show -1*d.2.1.getD (x.2.2.1.getD i (0,false)).1.toNat 0+s.2.2.1<0 by omega)]; rfl
  | false=>
   rw[hb,if_neg (by simp)] at hq
   simp only[zb,z7,gd_t hA];rw[wi (by omega),wi (by omega)]
   by_cases h0:1*d.2.1.getD (x.2.2.1.getD i (0,false)).1.toNat 0<0
   ·rw[dec_t h0]; rfl
   ·rw[dec_f h0,dec_t (show 1*d.2.1.getD (x.2.2.1.getD i (0,false)).1.toNat 0+s.2.2.1<0 by omega)]; rfl
 ·show qcd d s ((x.2.2.1.length:Nat):Int) [] [] [] [] x.2.2.1 d.1 (growR (x.2.2.1.take x.2.2.1.length) s.2.2.1 d.2.1) q b=_;unfold qcd;rw[dec_f (by omega),zV1]; rfl
end
end Go.Proofs.YtmdijohmddokhaaGreatDoor
namespace Go.Proofs.YtmdijohmddokhaaGreatDoor
open Go Go.Sq
set_option linter.unusedVariables false
section
variable {n:Net}
theorem qx4(x:Pth)(h:x.2.2.1.length<=100000):qjQ x=some (x.1,x.2.1,x.2.2.2,x.2.2.1):=by
 unfold qjQ;rw[gd_t (qaw (by omega))]; rfl
theorem qCn{d:Dk}(hd:VDk n d){x:Pth}(hx:VPa n x){v:Int}(hv : -1000<=v/\v<=1000){A:Type}(X:A):
  (bif decide ((growQ x v d.2.2.1).getD x.1.toNat 0<0) then some (true,X) else
   (bif decide (0<(growQ x v d.2.2.1).getD x.2.1.toNat 0) then some (true,X) else
    (bif decide (d.2.2.1.getD x.1.toNat 0<0) then some (true,X) else some (decide (0<d.2.2.1.getD x.2.1.toNat 0),X))))=some (!ptOk d.2 x v,X):=by
 have hz:=hd.sz;have hi:=hx.i;have ho:=hx.o;have hne:=hx.ne;have e1:(growQ x v d.2.2.1).getD x.1.toNat 0=d.2.2.1.getD x.1.toNat 0+v:=by
  unfold growQ;rw[qhv,if_neg (by omega),qhv,if_pos (by omega)]
 have e2:(growQ x v d.2.2.1).getD x.2.1.toNat 0=d.2.2.1.getD x.2.1.toNat 0-v:=by
  unfold growQ;rw[qhv,if_pos (by rw[zQ]; omega),qhv,if_neg (by omega)]
 rw[e1,e2];unfold ptOk;by_cases a:d.2.2.1.getD x.1.toNat 0+v<0
 ·rw[dec_t a,dec_f (show ¬0<=d.2.2.1.getD x.1.toNat 0+v by omega)]; simp
 ·rw[dec_f a,dec_t (show 0<=d.2.2.1.getD x.1.toNat 0+v by omega),zb]
  by_cases b:0<d.2.2.1.getD x.2.1.toNat 0-v
  ·rw[dec_t b,dec_f (show ¬0<=0-d.2.2.1.getD x.2.1.toNat 0+v by omega)]; simp
  ·rw[dec_f b,dec_t (show 0<=0-d.2.2.1.getD x.2.1.toNat 0+v by omega),zb]
   by_cases c:d.2.2.1.getD x.1.toNat 0<0
   ·rw[dec_t c,dec_f (show ¬0<=d.2.2.1.getD x.1.toNat 0 by omega)]; rfl
   ·rw[dec_f c,dec_t (show 0<=d.2.2.1.getD x.1.toNat 0 by omega),zb]
    by_cases e:0<d.2.2.1.getD x.2.1.toNat 0
    ·rw[dec_t e,dec_f (show ¬0<=0-d.2.2.1.getD x.2.1.toNat 0 by omega)]; rfl
    ·rw[dec_f e,dec_t (show 0<=0-d.2.2.1.getD x.2.1.toNat 0 by omega)]; rfl
theorem qCo{d:Dk}(hd:VDk n d)(s:Stp)(hs:s.2.2.2.2.2.1.length<=100000):qm0 n d s=some (chgS n d s):=by
 unfold chgS qm0;rw[rgk1,z7];cases hr:rg (-1000) 1000 s.2.2.1 with
 | false=>rfl
 | true=>
  have hv:=qli.1 hr;simp only[zf,zb];rw[show((s.2.2.2.1,s.2.2.2.2.1,s.2.2.2.2.2.1,s.2.2.2.2.2.2):Pth)=s.2.2.2 from rfl,qx4 _ hs,z7,wi (by omega)]
  simp only;rw[qa9,show((s.2.2.2.1,s.2.2.2.2.1,s.2.2.2.2.2.1,max s.2.2.1 (0-s.2.2.1)):Pth)=absP s from rfl,qAH hd.net,z7]
  cases hp:pathB n (absP s) with
  | false=>rfl
  | true=>
   have hx:=VPa.of hp;have hi:=hx.i;have ho:=hx.o;have hz:=hd.sz;simp only[zf,zb];rw[show((d.1,d.2.1,d.2.2.1,d.2.2.2):Dk)=d from rfl,qpJ hd.small,z7,qAM hd hx,z7]
   unfold growB;cases hrd:qqE n d (absP s) with
   | false=>rfl
   | true=>
    simp only[zf,zb,zE];have b1:=hd.prate (absP s).1.toNat;have b2 : -2000<=(d.2.2.1.set (absP s).1.toNat (d.2.2.1.getD (absP s).1.toNat 0+s.2.2.1)).getD (absP s).2.1.toNat 0/\(d.2.2.1.set (absP s).1.toNat (d.2.2.1.getD (absP s).1.toNat 0+s.2.2.1)).getD (absP s).2.1.toNat 0<=2000:=by
     rw[qhv]; have:=hd.prate (absP s).2.1.toNat; split <;> omega
    have i1:s.2.2.2.1=(absP s).1:=rfl;have i2:s.2.2.2.2.1=(absP s).2.1:=rfl;have i3:s.2.2.2.2.2.1=(absP s).2.2.1:=rfl;rw[i1,i2,i3];have hB:inB (absP s).1 d.2.2.1.length=true:=qae.2 (by omega)
    have hC:inB (absP s).2.1 d.2.2.1.length=true:=qae.2 (by omega)
    rw[wi (show -9223372036854775808<=d.2.2.1.getD (absP s).1.toNat 0+s.2.2.1/\d.2.2.1.getD (absP s).1.toNat 0+s.2.2.1<=9223372036854775807 by omega),wi (by omega)]
    simp only[zQ,gd_t hB,gd_t hC];rw[show((d.2.2.1.set (absP s).1.toNat (d.2.2.1.getD (absP s).1.toNat 0+s.2.2.1)).set (absP s).2.1.toNat ((d.2.2.1.set (absP s).1.toNat (d.2.2.1.getD (absP s).1.toNat 0+s.2.2.1)).getD (absP s).2.1.toNat 0-s.2.2.1))=growQ (absP s) s.2.2.1 d.2.2.1 from rfl,
     qCn hd hx hv,z7]
    simp only;cases hpo:ptOk d.2 (absP s) s.2.2.1 with
    | false=>rfl
    | true=>
     simp only[zf,zb,zE];rw[qCm hd hx hv,z7];cases hh:(absP s).2.2.1.all (hpOk d.2 s.2.2.1) with
     | false=>rfl
     | true=>
      simp only[za,z81,zf,zb];rw[show((growR (absP s).2.2.1 s.2.2.1 d.2.1,growQ (absP s) s.2.2.1 d.2.2.1,d.2.2.2):Pl)=growP (absP s) s.2.2.1 d.2 from rfl,qm9,z7]
      by_cases hc:qaY n (growP (absP s) s.2.2.1 d.2)=0
      ·rw[dec_t hc,if_neg (fun e=>e hc),zf,zb,qw4 hc,z7,ze2]
       cases idleB n (growP (absP s) s.2.2.1 d.2) <;> rfl
      ·rw[dec_f hc,if_pos hc]; rfl
theorem qh0{r:Dk×Int}{o:Option (Int×List Vl×List Int×List Int×List Bool)}(h:inner r o):inner r (o.bind fun y=>some (y.1,y.2.1,y.2.2.1,y.2.2.2.1,y.2.2.2.2)):=by
 obtain⟨y,e,h1,h2⟩:=h;exact⟨y,by rw[e]; rfl,h1,h2⟩
theorem qCp{d:Dk}(hd:VDk n d)(s:Stp):inner (stepS n d s) (qmR n s d.1 d.2.1 d.2.2.1 d.2.2.2):=by
 unfold stepS qmR;rw[show((s.1,s.2.1,s.2.2.1,s.2.2.2.1,s.2.2.2.2.1,s.2.2.2.2.2.1,s.2.2.2.2.2.2):Stp)=s from rfl,qB7,z7,qa9]
 cases hb:qlk s with
 | false=>exact⟨_,rfl,rfl,fun e=>by cases e⟩
 | true=>
  simp only[zf,zb];by_cases k1:s.1=1
  ·rw[k1]; exact qh0 (qAK hd s)
  by_cases k2:s.1=2
  ·rw[k2]; exact qh0 (qAK hd s)
  by_cases k3:s.1=3
  ·rw[k3]; exact qh0 (qDf hd s)
  by_cases k4:s.1=4
  ·rw[k4]; exact qh0 (qDf hd s)
  by_cases k5:s.1=5
  ·rw[k5]; exact qh0 (qAL hd s)
  by_cases k6:s.1=6
  ·rw[k6]; exact qh0 (qDY hd s n)
  ·unfold qlk at hb;rw[dec_f k1,dec_f k2,dec_f k3,dec_f k4,dec_f k5,dec_f k6] at hb;cases hb
def Er(d:Dk)(r:Dk×Int):Prop:=r.2=0\/r.1=d
theorem Er.bif{d:Dk}{c:Bool}{x y:Dk×Int}(h:Er d x)(h':Er d y):Er d (bif c then x else y):=by cases c; exact h'; exact h
theorem Er.ite{d:Dk}{c:Prop}[Decidable c]{x y:Dk×Int}(h:Er d x)(h':Er d y):Er d (if c then x else y):=by split; exact h; exact h'
theorem qDZ(d:Dk)(s:Stp):Er d (stepS n d s):=by
 unfold stepS turnS runS chgS waitS;have r:∀k,Er d (d,k):=fun k=>.inr rfl
 have z:∀x,Er d (x,0):=fun x=>.inl rfl
 exact .bif (r _) (.bif (.bif (r _) (.bif (r _) (z _))) (.bif (.bif (r _) (.bif (r _) (z _))) (.bif (.bif (r _) (.bif (r _) (.bif (r _) (.ite (r _) (.bif (r _) (z _)))))) (.bif (r _) (z _)))))
theorem qCq(d:Dk)(s:Stp)(h:(stepS n d s).2≠0):(stepS n d s).1=d:=(qDZ d s).resolve_left h
theorem qCr{d:Dk}(hz:DkS d)(s:Stp):qmS n d s=some ((appS n d s).2,(appS n d s).1):=by
 unfold qmS appS;rw[qa9,show((d.1,d.2.1,d.2.2.1,d.2.2.2):Dk)=d from rfl,qvT,z7,qAC hz,z7,z7]
 by_cases hc:qdn n d=0
 ·have hd:=VDk.of hc;rw[dec_t hc,if_neg (fun e=>e hc),zf,zb,show((s.1,s.2.1,s.2.2.1,s.2.2.2.1,s.2.2.2.2.1,s.2.2.2.2.2.1,s.2.2.2.2.2.2):Stp)=s from rfl]
  obtain⟨y,e,h1,h2⟩:=qCp hd s;rw[e,z7,h1];by_cases h0:(stepS n d s).2=0
  ·rw[dec_t h0,zf,zb];have:=h2 h0;rw[h0,this]
  ·rw[dec_f h0,zk1,za,z7];exact congrArg some (Prod.ext rfl (qCq d s h0).symm)
 ·rw[dec_f hc,if_pos hc]; rfl
theorem qCs{d:Dk}(hd:VDk n d)(s:Stp):(Option.bind (α:=Bool) (bif decide (s.2.2.1<1) then some true else some (decide (100<s.2.2.1))) fun s4=>
  bif s4 then some ((d.1,d.2.1,d.2.2.1,d.2.2.2),1) else(qeh (d.1,d.2.1,d.2.2.1,d.2.2.2)).bind fun r6=>
   (iter (fun x5=>qci s x5.1 x5.2.1 x5.2.2.1 x5.2.2.2.1 x5.2.2.2.2) (0,r6.1,r6.2.1,r6.2.2.1,r6.2.2.2)).bind fun s5=>some ((s5.1,(s5.2.1,(s5.2.2.1,s5.2.2.2))),0))=some (waitS d s):=by
 unfold waitS;rw[rg1,z7];cases hr:rg 1 100 s.2.2.1 with
 | false=>rfl
 | true=>
  have ht:=qli.1 hr;have hl:=hd.small.v;simp only[zf,zb];rw[show((d.1,d.2.1,d.2.2.1,d.2.2.2):Dk)=d from rfl,qpJ hd.small,z7]
  have:=qbj (step:=fun x:Int×List Vl×List Int×List Int×List Bool=>qci s x.1 x.2.1 x.2.2.1 x.2.2.2.1 x.2.2.2.2) (e:=(d.1.map fun v=>movV v s.2.2.1,d.2)) d.1.length (fun i=>((i:Int),mix (d.1.map fun v=>movV v s.2.2.1) d.1 i,d.2)) (fun i hi=>?_) ?_
  ·have this:iter (fun x=>qci s x.1 x.2.1 x.2.2.1 x.2.2.2.1 x.2.2.2.2) ((0:Int),mix (d.1.map fun v=>movV v s.2.2.1) d.1 0,d.2)=some (d.1.map fun v=>movV v s.2.2.1,d.2):=this
   rw[mix_0] at this;rw[show((0,d.1,d.2.1,d.2.2.1,d.2.2.2):Int×Dk)=(0,d.1,d.2) from rfl,this]; rfl
  ·show qci s (i:Int) (mix (d.1.map fun v=>movV v s.2.2.1) d.1 i) d.2.1 d.2.2.1 d.2.2.2=_
   unfold qci;have hm:(d.1.map fun v=>movV v s.2.2.1).length=d.1.length:=z71 ..
   have hg:(mix (d.1.map fun v=>movV v s.2.2.1) d.1 i).getD i (0,0,false,false)=d.1.getD i v0:=by rw[qxL hm rfl,if_neg (by omega)]
   have hB:inB (i:Int) (mix (d.1.map fun v=>movV v s.2.2.1) d.1 i).length=true:=inB_t (by rw[qpW hm rfl]; exact hi)
   rw[dec_t (show(i:Int)<((mix (d.1.map fun v=>movV v s.2.2.1) d.1 i).length:Int) by rw[qpW hm rfl]; omega),za,gd_t hB,z9,hg,qCl (hd.val1 hi) ht,z7,gd_t hB,w1 hi (by omega),
    qAf hm rfl v0 hi (by rw[qlC _ _ _ v0 _ hi])]
  ·show qci s ((d.1.length:Nat):Int) (mix (d.1.map fun v=>movV v s.2.2.1) d.1 d.1.length) d.2.1 d.2.2.1 d.2.2.2=_
   unfold qci;have hm:(d.1.map fun v=>movV v s.2.2.1).length=d.1.length:=z71 ..
   rw[mix_n hm rfl,dec_f (show ¬((d.1.length:Nat):Int)<((d.1.map fun v=>movV v s.2.2.1).length:Int) by omega)]; rfl
theorem qAN{d:Dk}(s:Stp)(hs:s.2.2.2.2.2.1.length<=100000):qiF n d s=some (appS n d s):=by
 unfold qiF appS;rw[qa9,show((s.1,s.2.1,s.2.2.1,s.2.2.2.1,s.2.2.2.2.1,s.2.2.2.2.2.1,s.2.2.2.2.2.2):Stp)=s from rfl,show((d.1,d.2.1,d.2.2.1,d.2.2.2):Dk)=d from rfl,qtv,z7]
 by_cases hc:qdn n d=0
 ·have hd:=VDk.of hc;rw[dec_t hc,if_neg (fun e=>e hc),zf,zb,qAE,z7]
  unfold stepS;cases hb:qlk s with
  | false=>rfl
  | true=>
   simp only[zf,zb];have e1:∀a b:Int,(bif decide (s.1=a) then some (decide (s.1=a)) else some (decide (s.1=b)))=some (decide (s.1=a) || decide (s.1=b)):=fun a b=>by cases decide (s.1=a) <;> rfl
   rw[e1,z7,e1,z7,qCg hd,qCh hd,qCo hd s hs,z7,z7,z7];cases(decide (s.1=1) || decide (s.1=2)) with
   | true=>rfl
   | false=>
    cases(decide (s.1=3) || decide (s.1=4)) with
    | true=>rfl
    | false=>
     cases decide (s.1=5) with
     | true=>rfl
     | false=>exact qCs hd s
 ·rw[dec_f hc,if_pos hc]; rfl
end
end Go.Proofs.YtmdijohmddokhaaGreatDoor
namespace Go.Proofs.YtmdijohmddokhaaGreatDoor
open Go Go.Sq
set_option linter.unusedVariables false
structure Ln(d e:Dk):Prop where
 v:e.1.length=d.1.length
 r:e.2.1.length=d.2.1.length
 p:e.2.2.1.length=d.2.2.1.length
 b:e.2.2.2.length=d.2.2.2.length
theorem Ln.refl(d:Dk):Ln d d:=⟨rfl,rfl,rfl,rfl⟩
theorem Ln.trans{a b c:Dk}(h:Ln a b)(h':Ln b c):Ln a c:=⟨h'.v.trans h.v,h'.r.trans h.r,h'.p.trans h.p,h'.b.trans h.b⟩
theorem Ln.bif{d:Dk}{c:Bool}{x y:Dk×Int}(h:Ln d x.1)(h':Ln d y.1):Ln d (bif c then x else y).1:=by cases c; exact h'; exact h
theorem Ln.ite{d:Dk}{c:Prop}[Decidable c]{x y:Dk×Int}(h:Ln d x.1)(h':Ln d y.1):Ln d (if c then x else y).1:=by split; exact h; exact h'
theorem DkS.ln{d e:Dk}(h:DkS d)(hl:Ln d e):DkS e:=⟨by rw[hl.v]; exact h.v,by rw[hl.r]; exact h.r,by rw[hl.p]; exact h.p,by rw[hl.b]; exact h.b⟩
abbrev s0:Stp:=(0,0,0,0,0,[],0)
section
variable {n:Net}
theorem qD0(d:Dk)(s:Stp):Ln d (stepS n d s).1:=by
 unfold stepS turnS runS chgS waitS;have r:∀k:Int,Ln d (d,k).1:=fun k=>.refl d
 exact .bif (r _) (.bif (.bif (r _) (.bif (r _) ⟨zQ ..,rfl,rfl,rfl⟩)) (.bif (.bif (r _) (.bif (r _) ⟨rfl,rfl,rfl,zQ ..⟩))
  (.bif (.bif (r _) (.bif (r _) (.bif (r _) (.ite (r _) (.bif (r _) ⟨rfl,qsz ..,qAI ..,rfl⟩))))) (.bif (r _) ⟨z71 ..,rfl,rfl,rfl⟩))))
theorem qET(d:Dk)(s:Stp):Ln d (appS n d s).1:=.ite (.refl d) (qD0 d s)
def runL(n:Net):Dk->Int->List Stp->Dk×Int×Int
 | d,i,[]=>(d,i,0)
 | d,i,s::r=>if(appS n d s).2≠0 then(d,i,(appS n d s).2) else runL n (appS n d s).1 (i+1) r
def tk(s:Stp):Int:=bif decide (s.1=6)&&rg 1 100 s.2.2.1 then s.2.2.1 else 0
theorem sameV(a:List Vl)(h:a.length<=100000):qm5 a a=some true:=by
 unfold qm5;rw[dec_t rfl];have:=qa1 (step:=fun x=>qf0 a a x) a.length (fun i=>(i:Int)) (fun _=>true) (fin:=.inl ()) (bad:=.inr false) (fun i hi _ hq=>?_) (fun i hi _ hq=>by cases hq) (fun _=>?_)
 ·have e:(List.range a.length).all (fun _=>true)=true:=by simp
  rw[e] at this;have this:iter (fun x=>qf0 a a x) 0=some (.inl ()):=this
  rw[this]; rfl
 ·unfold qf0;rw[dec_t (show(i:Int)<(a.length:Int) by omega),za,gd_t (inB_t hi),gd_t (inB_t hi),dec_t rfl,dec_t rfl,w1 hi (by omega)]
  rw[beq_self_eq_true,beq_self_eq_true]; rfl
 ·unfold qf0;rw[dec_f (by omega)]; rfl
theorem sameI(a:List Int)(h:a.length<=100000):qdG a a=some true:=by
 unfold qdG;rw[dec_t rfl];have:=qa1 (step:=fun x=>qc8 a a x) a.length (fun i=>(i:Int)) (fun _=>true) (fin:=.inl ()) (bad:=.inr false) (fun i hi _ hq=>?_) (fun i hi _ hq=>by cases hq) (fun _=>?_)
 ·have e:(List.range a.length).all (fun _=>true)=true:=by simp
  rw[e] at this;have this:iter (fun x=>qc8 a a x) 0=some (.inl ()):=this
  rw[this]; rfl
 ·unfold qc8;rw[dec_t (show(i:Int)<(a.length:Int) by omega),za,gd_t (inB_t hi),gd_t (inB_t hi),dec_t rfl,w1 hi (by omega)]; rfl
 ·unfold qc8;rw[dec_f (by omega)]; rfl
theorem sameB(a:List Bool)(h:a.length<=100000):qf1 a a=some true:=by
 unfold qf1;rw[dec_t rfl];have:=qa1 (step:=fun x=>qcQ a a x) a.length (fun i=>(i:Int)) (fun _=>true) (fin:=.inl ()) (bad:=.inr false) (fun i hi _ hq=>?_) (fun i hi _ hq=>by cases hq) (fun _=>?_)
 ·have e:(List.range a.length).all (fun _=>true)=true:=by simp
  rw[e] at this;have this:iter (fun x=>qcQ a a x) 0=some (.inl ()):=this
  rw[this]; rfl
 ·unfold qcQ;rw[dec_t (show(i:Int)<(a.length:Int) by omega),za,gd_t (inB_t hi),gd_t (inB_t hi),beq_self_eq_true,w1 hi (by omega)]; rfl
 ·unfold qcQ;rw[dec_f (by omega)]; rfl
theorem sameP{p:Pl}(h1:p.1.length<=100000)(h2:p.2.1.length<=100000)(h3:p.2.2.length<=100000):qgL p p=some true:=by
 unfold qgL;rw[sameI _ h1,z7,sameI _ h2,z7,sameB _ h3]; rfl
theorem sameD{d:Dk}(h:DkS d):qm6 d d=some true:=by
 unfold qm6;rw[sameV _ h.v,z7,show((d.2.1,d.2.2.1,d.2.2.2):Pl)=d.2 from rfl,sameP h.r h.p h.b]; rfl
end
end Go.Proofs.YtmdijohmddokhaaGreatDoor
namespace Go.Proofs.YtmdijohmddokhaaGreatDoor
open Go Go.Sq
set_option linter.unusedVariables false
theorem sN{n:Int}{s:List Int}{p:Int}(h:SrcOk s p)(h1:1<=n)(h2:n<=4611686018427387904):Ok (qab n s p) fun q=>SrcOk q.2.1 q.2.2/\0<=q.1/\q.1<n:=
 (srcN h h1 h2).mono fun q hq=>⟨hq.1 ▸ hq.2.1,hq.2.2⟩
theorem sP{l s:List Int}{p:Int}(h:SrcOk s p)(h1:l≠[])(h2:l.length<=1000000):Ok (qap l s p) fun q=>SrcOk q.2.1 q.2.2/\q.1∈l:=
 (srcP h h1 h2).mono fun q hq=>⟨hq.1 ▸ hq.2.1,hq.2.2⟩
theorem sR{lo hi:Int}{s:List Int}{p:Int}(h:SrcOk s p)(h0 : -1000000<=lo)(h1:lo<=hi)(h2:hi<=1000000):Ok (qa5 lo hi s p) fun q=>SrcOk q.2.1 q.2.2/\lo<=q.1/\q.1<=hi:=
 (srcR h h0 h1 h2).mono fun q hq=>⟨hq.1 ▸ hq.2.1,hq.2.2⟩
structure GN(n:Net):Prop where
 no:n.1.length<=24
 sg:n.2.1.length<=32
 p1:1<=n.2.2.1.length
 po:n.2.2.1.length<=24
 st:n.2.2.2.1.length<=12
 kn:KnP n
theorem GN.of{k:Nat}{n:Net}(h:NetP k n):GN n:=by
 have h6:=h.k6;have e:n.1.length=k:=by rw[h.nodes,qqd]
 refine⟨by omega,by have:=h.segs.len; omega,by have:=h.some'; omega,by have:=h.ports.len; omega,by have:=h.stats.len; omega,⟨fun i hi=>?_,fun i hi=>?_,fun i hi=>?_⟩⟩
 ·have:=h.segs.rng _ (qbe (d:=sg0) hi);exact⟨⟨this.f0,by rw[e]; exact this.f1⟩,this.t0,by rw[e]; exact this.t1⟩
 ·have:=h.ports.rng _ (qbe (d:=po0) hi);exact⟨this.1,by rw[e]; exact this.2.1⟩
 ·have:=h.stats.rng _ (qbe (d:=sta0) hi);exact⟨this.1,by rw[e]; exact this.2.1⟩
structure PlS(n:Net)(p:Pl):Prop where
 r:p.1.length=n.2.1.length
 q:p.2.1.length=n.2.2.1.length
 b:p.2.2.length=n.2.2.2.1.length
theorem PlS.small{n:Net}(hn:GN n){p:Pl}(h:PlS n p):p.1.length<=32/\p.2.1.length<=24/\p.2.2.length<=12:=by
 have:=h.r; have:=h.q; have:=h.b; have:=hn.sg; have:=hn.po; have:=hn.st; omega
theorem qEU{n:Net}(hn:GN n){p:Pl}(h:PlS n p):Ok (qi3 p) (PlS n):=by
 have hs:=h.small hn;unfold qi3;refine Ok.gd (qaw (by omega)) ?_
 refine Ok.bind (Q:=fun q:List Int×List Bool=>q.1.length=p.1.length/\q.2.length=p.2.2.length) ?_ fun q hq=>?_
 ·refine Ok.loop (fun x:Int×List Int×List Bool=>x.1=(x.2.1.length:Int)/\x.2.1.length<=p.1.length/\x.2.2.length=p.2.2.length) (fun x=>p.1.length-x.2.1.length) ⟨rfl,by simp,by simp⟩ ?_
  rintro⟨v,a,b⟩ ⟨e,h1,h2⟩
  replace e:v=(a.length:Int):=e;subst e
  try simp only at h1 h2
  unfold qmb;refine Ok.bif (fun hc=>?_) fun hc=>?_
  ·have hc:=zi hc
   try simp only at hc
   refine Ok.gd (inB_t (by(try simp only); omega)) (Ok.gd (qaw (by(try simp only); omega)) (.ret ⟨⟨?_,?_,h2⟩,?_⟩))
   ·simp only[zd,zg,zx]; rw[wi (by omega)]; omega
   ·simp only[zd,zg,zx]; omega
   ·simp only[zd,zg,zx]; omega
  ·have hc:=zN hc
   try simp only at hc
   exact .ret ⟨by(try simp only); omega,h2⟩
 ·refine Ok.bind (Q:=fun z:List Int×List Int×List Bool=>z.1.length=p.1.length/\z.2.1.length=p.2.1.length/\z.2.2.length=p.2.2.length) ?_ fun z hz=>.ret ⟨hz.1.trans h.r,hz.2.1.trans h.q,hz.2.2.trans h.b⟩
  refine Ok.loop (fun x:Int×List Int×List Int×List Bool=>x.1=(x.2.2.1.length:Int)/\x.2.1.length=p.1.length/\x.2.2.1.length<=p.2.1.length/\x.2.2.2.length=p.2.2.length) (fun x=>p.2.1.length-x.2.2.1.length) ⟨rfl,hq.1,by simp,hq.2⟩ ?_
  rintro⟨v,a,c,b⟩ ⟨e,h0,h1,h2⟩
  replace e:v=(c.length:Int):=e;subst e
  try simp only at h0 h1 h2
  unfold qmc;refine Ok.bif (fun hc=>?_) fun hc=>?_
  ·have hc:=zi hc
   try simp only at hc
   refine Ok.gd (inB_t (by(try simp only); omega)) (Ok.gd (qaw (by(try simp only); omega)) (.ret ⟨⟨?_,h0,?_,h2⟩,?_⟩))
   ·simp only[zd,zg,zx]; rw[wi (by omega)]; omega
   ·simp only[zd,zg,zx]; omega
   ·simp only[zd,zg,zx]; omega
  ·have hc:=zN hc
   try simp only at hc
   exact .ret ⟨h0,by(try simp only); omega,h2⟩
section
variable {n:Net}
theorem plan3(hn:GN n){r4 r6:Int×List Int×Int}{at':Int}{s:List Int}{q:Int}(h:SrcOk s q){way p1 p2:List Int}{p3:List Bool}(hp:PlS n (p1,p2,p3)){e0:Int}(he:e0<(n.2.2.1.length:Int)):
  Ok (iter (fun x2=>qe7 n r4 r6 at' x2.1 x2.2.1 x2.2.2.1 x2.2.2.2.1 x2.2.2.2.2.1 x2.2.2.2.2.2.1 x2.2.2.2.2.2.2.1 x2.2.2.2.2.2.2.2) (e0,0,s,q,way,p1,p2,p3)) fun z=>z.1<(n.2.2.1.length:Int)/\SrcOk z.2.1 z.2.2.1/\z.2.2.2=(way,p1,p2,p3):=by
 have hq:=hp.q;simp only at hq;have hpo:=hn.po;refine Ok.loop (fun x:Int×Int×List Int×Int×List Int×List Int×List Int×List Bool=>x.1<(n.2.2.1.length:Int)/\(∃k:Nat,x.2.1=(k:Int)/\k<=n.2.2.1.length)/\SrcOk x.2.2.1 x.2.2.2.1/\x.2.2.2.2=(way,p1,p2,p3)) (fun x=>n.2.2.1.length-x.2.1.toNat) ⟨he,⟨0,rfl,by omega⟩,h,rfl⟩ ?_
 rintro⟨e,v,s',q',w⟩ ⟨h1,⟨k,hk,hk2⟩,h3,h4⟩
 replace hk:v=(k:Int):=hk;replace h4:w=(way,p1,p2,p3):=h4;subst hk h4;replace h1:e<(n.2.2.1.length:Int):=h1;replace h3:SrcOk s' q':=h3;show Ok (qe7 n r4 r6 at' e (k:Int) s' q' way p1 p2 p3) _;unfold qe7;refine Ok.bif (fun hc=>?_) fun hc=>?_
 ·have hc:=zi hc;have hk':k<n.2.2.1.length:=by omega
  have hB:inB (k:Int) p2.length=true:=inB_t (by omega)
  refine Ok.gd (inB_t hk') ?_
  refine Ok.bind (Q:=fun z:Bool×List Int×Int×List Int×List Int×List Int×List Bool=>SrcOk z.2.1 z.2.2.1/\z.2.2.2=(way,p1,p2,p3)) ?_ ?_
  ·have z:∀b:Bool,Ok (some (b,s',q',way,p1,p2,p3)) fun z:Bool×List Int×Int×List Int×List Int×List Int×List Bool=>SrcOk z.2.1 z.2.2.1/\z.2.2.2=(way,p1,p2,p3):=fun b=>.ret ⟨h3,rfl⟩
   refine Ok.bif (fun _=>Ok.bif (fun _=>Ok.gd hB (Ok.bif (fun _=>Ok.gd hB (Ok.bif (fun _=>Ok.bif (fun _=>?_) fun _=>z _) fun _=>z _)) fun _=>z _)) fun _=>z _) fun _=>z _
   exact Ok.bind (sN h3 (n:=2) (by omega) (by omega)) fun r hr=>.ret ⟨hr.1,rfl⟩
  ·rintro⟨b,s2,q2,w2⟩ ⟨hs,hw⟩
   replace hw:w2=(way,p1,p2,p3):=hw;subst hw;refine Ok.bind (Q:=fun z:Int×List Int×List Int×List Int×List Bool=>z.1<(n.2.2.1.length:Int)/\z.2=(way,p1,p2,p3)) (Ok.bif (fun _=>.ret ⟨hc,rfl⟩) fun _=>.ret ⟨h1,rfl⟩) ?_
   rintro⟨e2,w3⟩ ⟨he2,hw⟩
   replace hw:w3=(way,p1,p2,p3):=hw;subst hw;rw[w1 hk' (by omega)]
   exact .ret ⟨⟨he2,⟨k+1,rfl,by omega⟩,hs,rfl⟩,by simp only[z9]; omega⟩
 ·exact .ret ⟨h1,h3,rfl⟩
def qpK(n:Net)(l:List Int):Prop:=∀x∈l,0<=x/\x<(n.2.1.length:Int)
theorem qpK.more{l:List Int}(h:qpK n l){x:Int}(hx:0<=x/\x<(n.2.1.length:Int)):qpK n (l++[x]):=fun y hy=>by
 rcases zD.1 hy with hy | hy
 ·exact h y hy
 ·rw[zW.1 hy]; exact hx
def other(n:Net)(x a:Int):Int:=(n.2.1.getD x.toNat sg0).2.1+(n.2.1.getD x.toNat sg0).2.2.1-a
theorem plan4(hn:GN n){r6:Int×List Int×Int}{a:Int}(ha:0<=a/\a<n.1.length){way p1 p2:List Int}{p3:List Bool}(hp:PlS n (p1,p2,p3)):
  Ok (iter (fun x3=>qe8 n r6 a x3.1 x3.2.1 x3.2.2.1 x3.2.2.2.1 x3.2.2.2.2.1 x3.2.2.2.2.2) (0,way,[],p1,p2,p3)) fun z=>z.1=way/\z.2.1.length<=32/\qpK n z.2.1/\(∀x∈z.2.1,a<other n x a/\((n.2.1.getD x.toNat sg0).2.1=a\/(n.2.1.getD x.toNat sg0).2.2.1=a))/\z.2.2=(p1,p2,p3):=by
 have hr:=hp.r;simp only at hr;have hsg:=hn.sg;have hno:=hn.no;refine Ok.loop (fun x:Int×List Int×List Int×List Int×List Int×List Bool=>(∃k:Nat,x.1=(k:Int)/\k<=n.2.1.length/\x.2.2.1.length<=k)/\x.2.1=way/\qpK n x.2.2.1/\(∀y∈x.2.2.1,a<other n y a/\((n.2.1.getD y.toNat sg0).2.1=a\/(n.2.1.getD y.toNat sg0).2.2.1=a))/\x.2.2.2=(p1,p2,p3)) (fun x=>n.2.1.length-x.1.toNat) ⟨⟨0,rfl,by omega,by simp⟩,rfl,fun x hx=>(by cases hx),fun x hx=>(by cases hx),rfl⟩ ?_
 rintro⟨v,w,o,ps⟩ ⟨⟨k,hk,hk2,hk3⟩,h1,h2,h3,h4⟩
 replace hk:v=(k:Int):=hk;replace h1:w=way:=h1;replace h4:ps=(p1,p2,p3):=h4;subst hk h1 h4;simp only at hk3 h2 h3;show Ok (qe8 n r6 a (k:Int) w o p1 p2 p3) _;unfold qe8;refine Ok.bif (fun hc=>?_) fun hc=>?_
 ·have hc:=zi hc;have hk':k<n.2.1.length:=by omega
  have hkn:=hn.kn.s k hk';refine Ok.gd (inB_t hk') ?_
  have hw:wi64 (wi64 ((n.2.1.getD k sg0).2.1+(n.2.1.getD k sg0).2.2.1)-a)=(n.2.1.getD k sg0).2.1+(n.2.1.getD k sg0).2.2.1-a:=by
   rw[wi (show -9223372036854775808<=(n.2.1.getD k sg0).2.1+(n.2.1.getD k sg0).2.2.1/\(n.2.1.getD k sg0).2.1+(n.2.1.getD k sg0).2.2.1<=9223372036854775807 by omega),wi (by omega)]
  rw[z9,show(n.2.1.getD k ([],0,0,0,0,0,[]))=n.2.1.getD k sg0 from rfl,hw]
  refine Ok.bind (Q:=fun z:Bool×List Int×List Int×List Int×List Int×List Bool=>(z.1=true->a<other n (k:Int) a/\((n.2.1.getD (k:Int).toNat sg0).2.1=a\/(n.2.1.getD (k:Int).toNat sg0).2.2.1=a))/\z.2=(w,o,p1,p2,p3)) ?_ ?_
  ·have z:Ok (some (false,w,o,p1,p2,p3)) fun z:Bool×List Int×List Int×List Int×List Int×List Bool=>(z.1=true->a<other n (k:Int) a/\((n.2.1.getD (k:Int).toNat sg0).2.1=a\/(n.2.1.getD (k:Int).toNat sg0).2.2.1=a))/\z.2=(w,o,p1,p2,p3):=.ret ⟨fun h=>(by cases h),rfl⟩
   have hB:inB (k:Int) p1.length=true:=inB_t (by omega)
   refine Ok.bif (fun ha1=>Ok.bif (fun ha2=>Ok.gd hB ?_) fun _=>z) fun _=>Ok.bif (fun ha1=>Ok.bif (fun ha2=>Ok.gd hB ?_) fun _=>z) fun _=>z
   ·exact Ok.eq (a:=max (p1.getD k 0) (wi64 (0-p1.getD k 0))) rfl (.ret ⟨fun _=>⟨by have:=zi ha2; unfold other; rw[z9]; exact this,.inl (by rw[z9]; exact zi ha1)⟩,rfl⟩)
   ·exact Ok.eq (a:=max (p1.getD k 0) (wi64 (0-p1.getD k 0))) rfl (.ret ⟨fun _=>⟨by have:=zi ha2; unfold other; rw[z9]; exact this,.inr (by rw[z9]; exact zi ha1)⟩,rfl⟩)
  ·rintro⟨b,w2⟩ ⟨hb,hw⟩
   replace hw:w2=(w,o,p1,p2,p3):=hw;subst hw;refine Ok.bind (Q:=fun z:List Int×List Int×List Int×List Int×List Bool=>z.1=w/\z.2.1.length<=k+1/\qpK n z.2.1/\(∀y∈z.2.1,a<other n y a/\((n.2.1.getD y.toNat sg0).2.1=a\/(n.2.1.getD y.toNat sg0).2.2.1=a))/\z.2.2=(p1,p2,p3)) ?_ ?_
   ·refine Ok.bif (fun hbt=>Ok.gd (qaw (by(try simp only); omega)) (.ret ⟨rfl,?_,h2.more (by omega),fun y hy=>?_,rfl⟩)) fun _=>.ret ⟨rfl,by(try simp only); omega,h2,h3,rfl⟩
    ·simp only[zd,zg,zx]; omega
    ·rcases zD.1 hy with hy | hy
     ·exact h3 y hy
     ·rw[zW.1 hy]; exact hb hbt
   ·rintro⟨w3,o3,ps3⟩ ⟨e1,e2,e3,e4,e5⟩
    replace e1:w3=w:=e1;replace e5:ps3=(p1,p2,p3):=e5;subst e1 e5;rw[w1 hk' (by omega)]
    exact .ret ⟨⟨⟨k+1,rfl,by omega,e2⟩,rfl,e3,e4,rfl⟩,by simp only[z9]; omega⟩
 ·exact .ret ⟨rfl,by(try simp only); omega,h2,h3,rfl⟩
theorem plan2(hn:GN n){r4 r6:Int×List Int×Int}{a:Int}(ha:0<=a/\a<n.1.length){s:List Int}{q:Int}(h:SrcOk s q){p1 p2:List Int}{p3:List Bool}(hp:PlS n (p1,p2,p3)):
  Ok (iter (fun x4=>qe9 n r4 r6 x4.1 x4.2.1 x4.2.2.1 x4.2.2.2.1 x4.2.2.2.2.1 x4.2.2.2.2.2.1 x4.2.2.2.2.2.2.1 x4.2.2.2.2.2.2.2) (a,-1,s,q,[],p1,p2,p3)) fun z=>z.1<(n.2.2.1.length:Int)/\SrcOk z.2.1 z.2.2.1/\z.2.2.2.1.length<=24/\qpK n z.2.2.2.1/\z.2.2.2.2=(p1,p2,p3):=by
 have hsg:=hn.sg;have hno:=hn.no;refine Ok.loop (fun x:Int×Int×List Int×Int×List Int×List Int×List Int×List Bool=>(∃k:Nat,x.1=(k:Int)/\k<n.1.length/\x.2.2.2.2.1.length<=k)/\x.2.1<(n.2.2.1.length:Int)/\SrcOk x.2.2.1 x.2.2.2.1/\qpK n x.2.2.2.2.1/\x.2.2.2.2.2=(p1,p2,p3)) (fun x=>n.1.length-x.1.toNat) ⟨⟨a.toNat,by(try simp only); omega,by omega,by simp⟩,by have:=hn.p1; simp only; omega,h,fun x hx=>(by cases hx),rfl⟩ ?_
 rintro⟨v,e,s',q',w,ps⟩ ⟨⟨k,hk,hk2,hk3⟩,h1,h2,h3,h4⟩
 replace hk:v=(k:Int):=hk;replace h4:ps=(p1,p2,p3):=h4;subst hk h4;simp only at hk3 h1 h2 h3;show Ok (qe9 n r4 r6 (k:Int) e s' q' w p1 p2 p3) _;unfold qe9;refine Ok.bif (fun hc=>?_) fun hc=>.ret ⟨h1,h2,by(try simp only); omega,h3,rfl⟩
 refine Ok.bind (plan3 hn (r4:=r4) (r6:=r6) (at':=(k:Int)) h2 (way:=w) hp h1) ?_
 rintro⟨e2,s2,q2,w2⟩ ⟨a1,a2,a3⟩
 replace a3:w2=(w,p1,p2,p3):=a3;subst a3;refine Ok.bif (fun hc2=>.ret ⟨a1,a2,by(try simp only); omega,h3,rfl⟩) fun hc2=>?_
 refine Ok.bind (plan4 hn (r6:=r6) (a:=(k:Int)) ⟨by omega,by omega⟩ (way:=w) hp) ?_
 rintro⟨w3,o,ps⟩ ⟨b1,b2,b3,b4,b5⟩
 replace b1:w3=w:=b1;replace b5:ps=(p1,p2,p3):=b5;subst b1 b5;simp only at b2 b3 b4;refine Ok.bif (fun hc3=>.ret ⟨a1,a2,by(try simp only); omega,h3,rfl⟩) fun hc3=>?_
 have hc3:=zN hc3;simp only at hc3;refine Ok.bind (sN a2 (n:=(o.length:Int)) (by omega) (by omega)) ?_
 rintro⟨r,s5,q5⟩ ⟨c1,c2,c3⟩
 simp only at c1 c2 c3;have hr:r.toNat<o.length:=by omega
 have hm:=qbe (d:=0) hr;have hx:=b3 _ hm;have hy:=b4 _ hm;have hB:inB (o.getD r.toNat 0) n.2.1.length=true:=qae.2 hx;refine Ok.gd (qae.2 (by(try simp only); omega)) (Ok.gd (qaw (by(try simp only); omega)) (Ok.gd hB (Ok.gd hB ?_)))
 have hkn:=hn.kn.s (o.getD r.toNat 0).toNat (by omega)
 unfold other at hy;simp only;have hw:wi64 (wi64 ((n.2.1.getD (o.getD r.toNat 0).toNat sg0).2.1+(n.2.1.getD (o.getD r.toNat 0).toNat sg0).2.2.1)-(k:Int))=(n.2.1.getD (o.getD r.toNat 0).toNat sg0).2.1+(n.2.1.getD (o.getD r.toNat 0).toNat sg0).2.2.1-(k:Int):=by
  rw[wi (show -9223372036854775808<=(n.2.1.getD (o.getD r.toNat 0).toNat sg0).2.1+(n.2.1.getD (o.getD r.toNat 0).toNat sg0).2.2.1/\(n.2.1.getD (o.getD r.toNat 0).toNat sg0).2.1+(n.2.1.getD (o.getD r.toNat 0).toNat sg0).2.2.1<=9223372036854775807 by omega),wi (by omega)]
 rw[show(n.2.1.getD (o.getD r.toNat 0).toNat ([],0,0,0,0,0,[]))=n.2.1.getD (o.getD r.toNat 0).toNat sg0 from rfl,hw]
 refine .ret ⟨⟨⟨((n.2.1.getD (o.getD r.toNat 0).toNat sg0).2.1+(n.2.1.getD (o.getD r.toNat 0).toNat sg0).2.2.1-(k:Int)).toNat,by(try simp only); omega,by omega,?_⟩,a1,c1,h3.more hx,rfl⟩,by(try simp only); omega⟩
 simp only[zd,zg,zx]; omega
theorem plan5(hn:GN n){r6:Int×List Int×Int}{s19:Int×List Int×Int×List Int×List Int×List Int×List Bool}(h1:s19.2.2.2.1.length<=24)(h2:qpK n s19.2.2.2.1){p1 p2:List Int}{p3:List Bool}(hp:PlS n (p1,p2,p3)):
  Ok (iter (fun x5=>qfa n r6 s19 x5.1 x5.2.1 x5.2.2.1 x5.2.2.2.1 x5.2.2.2.2) (0,s19.2.2.2.1,p1,p2,p3)) (PlS n):=by
 refine Ok.loop (fun x:Int×List Int×List Int×List Int×List Bool=>(∃k:Nat,x.1=(k:Int)/\k<=s19.2.2.2.1.length)/\x.2.1=s19.2.2.2.1/\PlS n x.2.2) (fun x=>s19.2.2.2.1.length-x.1.toNat) ⟨⟨0,rfl,by omega⟩,rfl,hp⟩ ?_
 rintro⟨v,w,ps⟩ ⟨⟨k,hk,hk2⟩,h3,h4⟩
 replace hk:v=(k:Int):=hk;replace h3:w=s19.2.2.2.1:=h3;subst hk;obtain⟨q1,q2,q3⟩:=ps;replace h4:PlS n (q1,q2,q3):=h4;have hr:=h4.r;simp only at hr;show Ok (qfa n r6 s19 (k:Int) w q1 q2 q3) _;unfold qfa;refine Ok.bif (fun hc=>?_) fun hc=>.ret h4
 have hc:=zi hc;have hk':k<w.length:=by rw[h3]; omega
 have hm:=h2 _ (by rw[<-h3]; exact qbe (d:=0) hk')
 have hB:inB (w.getD k 0) n.2.1.length=true:=qae.2 hm;have hA:inB (w.getD k 0) q1.length=true:=qae.2 (by omega)
 refine Ok.gd (inB_t hk') ?_
 rw[z9];refine Ok.gd hB (Ok.gd hB ?_)
 refine Ok.bind (Q:=fun z:List Int×List Int×List Int×List Bool=>z.1=w/\PlS n z.2) (Ok.bif (fun _=>Ok.gd hA (Ok.gd hA (.ret ⟨rfl,⟨(zQ ..).trans h4.r,h4.q,h4.b⟩⟩))) fun _=>Ok.gd hA (Ok.gd hA (.ret ⟨rfl,⟨(zQ ..).trans h4.r,h4.q,h4.b⟩⟩))) ?_
 rintro⟨w2,z⟩ ⟨e,hz⟩
 rw[w1 (show k<24 by rw[h3] at hk'; omega) (by omega)]
 exact .ret ⟨⟨⟨k+1,rfl,by rw[<-h3]; omega⟩,Eq.trans e h3,hz⟩,by rw[h3] at hk'; simp only[z9]; omega⟩
theorem qD1(hn:GN n){s:List Int}{q:Int}(h:SrcOk s q):Ok (qhW n s q) fun z=>SrcOk z.2.1 z.2.2/\PlS n z.1:=by
 have hsg:=hn.sg;have hpo:=hn.po;have hst:=hn.st;unfold qhW;refine Ok.gd (qhg (by omega)) (Ok.gd (qhg (by omega)) ?_)
 rw[z9,z9];refine Ok.bind (Q:=fun z:List Int×Int×List Int×List Int×List Bool=>SrcOk z.1 z.2.1/\PlS n z.2.2) ?_ ?_
 ·refine Ok.loop (fun x:Int×List Int×Int×List Int×List Int×List Bool=>x.1=(x.2.2.2.2.2.length:Int)/\SrcOk x.2.1 x.2.2.1/\x.2.2.2.1.length=n.2.1.length/\x.2.2.2.2.1.length=n.2.2.1.length/\x.2.2.2.2.2.length<=n.2.2.2.1.length) (fun x=>n.2.2.2.1.length-x.2.2.2.2.2.length) ⟨rfl,h,by simp,by simp,by simp⟩ ?_
  rintro⟨v,s',q',p1,p2,p3⟩ ⟨e,h1,h2,h3,h4⟩
  replace e:v=(p3.length:Int):=e;subst e;simp only at h1 h2 h3 h4;unfold qlc;refine Ok.bif (fun hc=>?_) fun hc=>?_
  ·have hc:=zi hc
   try simp only at hc
   refine Ok.bind (sN h1 (n:=2) (by omega) (by omega)) ?_
   rintro⟨r,s2,q2⟩ ⟨c1,_⟩
   refine Ok.gd (qaw (by(try simp only); omega)) (.ret ⟨⟨?_,c1,h2,h3,?_⟩,?_⟩)
   ·simp only[zd,zg,zx]; rw[wi (by omega)]; omega
   ·simp only[zd,zg,zx]; omega
   ·simp only[zd,zg,zx]; omega
  ·have hc:=zN hc
   try simp only at hc
   exact .ret ⟨h1,⟨h2,h3,by(try simp only); omega⟩⟩
 rintro⟨s1,q1,ps⟩ ⟨h,hp⟩
 simp only at h hp;refine Ok.bind (sN h (n:=3) (by omega) (by omega)) ?_
 rintro⟨r2,s2,q2⟩ ⟨h,_⟩
 simp only at h;refine Ok.bind (sN h (n:=5) (by omega) (by omega)) ?_
 rintro⟨r3,s3,q3⟩ ⟨h,h30,h31⟩
 simp only at h h30 h31;refine Ok.bind (Q:=fun z:List Int×Int×List Int×List Int×List Bool=>SrcOk z.1 z.2.1/\PlS n z.2.2) ?_ ?_
 ·refine Ok.loop (fun x:Int×List Int×Int×List Int×List Int×List Bool=>0<=x.1/\x.1<=5/\SrcOk x.2.1 x.2.2.1/\PlS n x.2.2.2) (fun x=>x.1.toNat) ⟨h30,by(try simp only); omega,h,hp⟩ ?_
  rintro⟨v,s',q',p1,p2,p3⟩ ⟨v0,v5,h1,h2⟩
  simp only at v0 v5 h1 h2;show Ok (qhr n v s' q' p1 p2 p3) _;unfold qhr;refine Ok.bif (fun hc=>?_) fun hc=>.ret ⟨h1,h2⟩
  have hc:=zi hc;refine Ok.bind (Q:=fun z:List Int×Int×List Int×List Int×List Bool=>SrcOk z.1 z.2.1/\PlS n z.2.2) ?_ ?_
  ·have hp1:=hn.p1;have hq:=h2.q;simp only at hq;refine Ok.bind (sN h1 (n:=(n.2.2.1.length:Int)) (by omega) (by omega)) ?_
   rintro⟨r4,s4,q4⟩ ⟨h,h40,h41⟩
   simp only at h h40 h41;refine Ok.gd (qae.2 ⟨h40,h41⟩) ?_
   refine Ok.bind (sP h (by simp) (by simp)) ?_
   rintro⟨r5,s5,q5⟩ ⟨h,h5⟩
   simp only at h h5;have b5:1<=r5/\r5<=300:=by simp at h5; omega
   refine Ok.bind (sR h (by omega) (by omega) (by omega)) ?_
   rintro⟨r6,s6,q6⟩ ⟨h,h60,h61⟩
   simp only at h h60 h61;have hA:inB r4 p2.length=true:=qae.2 (by omega)
   refine Ok.bind (Q:=fun z:Bool×List Int×List Int×List Bool=>z.2=(p1,p2,p3)) (Ok.gd hA (Ok.bif (fun _=>.ret rfl) fun _=>Ok.gd hA (.ret rfl))) ?_
   rintro⟨b,ps⟩ e
   replace e:ps=(p1,p2,p3):=e;subst e;refine Ok.bif (fun _=>.ret ⟨h,h2⟩) fun _=>?_
   have hk4:=hn.kn.p r4.toNat (by omega)
   refine Ok.bind (plan2 hn (r4:=(r4,s4,q4)) (r6:=(r6,s6,q6)) (a:=(n.2.2.1.getD r4.toNat po0).2.1) hk4 h h2) ?_
   rintro⟨e,s7,q7,w,ps⟩ ⟨a1,a2,a3,a4,a5⟩
   replace a5:ps=(p1,p2,p3):=a5;subst a5;simp only at a1 a2 a3 a4;refine Ok.bif (fun _=>.ret ⟨a2,h2⟩) fun hc7=>?_
   have hc7:=zN hc7;simp only at hc7;have hE:inB e p2.length=true:=qae.2 (by omega)
   refine Ok.gd hA (Ok.gd hE (Ok.gd hA (Ok.gd (qae.2 (by rw[zQ]; simp only; omega)) ?_)))
   refine Ok.bind (plan5 hn (r6:=(r6,s6,q6)) (s19:=(e,s7,q7,w,p1,p2,p3)) a3 a4 (p1:=p1) (p2:=(p2.set r4.toNat (wi64 ((p2.getD r4.toNat 0)+r6))).set e.toNat (wi64 ((p2.getD e.toNat 0)-r6))) (p3:=p3) ⟨h2.r,by simp only[zQ]; exact h2.q,h2.b⟩) ?_
   intro z hz;exact .ret ⟨a2,hz⟩
  ·rintro⟨s8,q8,ps⟩ ⟨a1,a2⟩
   rw[wi (by omega)]
   exact .ret ⟨⟨by(try simp only); omega,by(try simp only); omega,a1,a2⟩,by(try simp only); omega⟩
 ·rintro⟨s4,q4,ps⟩ ⟨h,hp⟩
  simp only at h hp;refine Ok.bif (fun _=>?_) fun _=>.ret ⟨h,hp⟩
  exact Ok.bind (qEU hn hp) fun z hz=>.ret ⟨h,hz⟩
end
end Go.Proofs.YtmdijohmddokhaaGreatDoor
namespace Go.Proofs.YtmdijohmddokhaaGreatDoor
open Go Go.Sq
set_option linter.unusedVariables false
section
variable {n:Net}
structure DkN(n:Net)(d:Dk):Prop where
 v:d.1.length=n.2.1.length+n.2.2.1.length
 p:PlS n d.2
theorem DkN.small(hn:GN n){d:Dk}(h:DkN n d):DkS d:=by
 have:=h.p.small hn; have:=h.v; have:=hn.sg; have:=hn.po;exact⟨by omega,by omega,by omega,by omega⟩
theorem DkN.ln{d e:Dk}(h:DkN n d)(hl:Ln d e):DkN n e:=⟨hl.v.trans h.v,⟨hl.r.trans h.p.r,hl.p.trans h.p.q,hl.b.trans h.p.b⟩⟩
/-! ### Dividing a plan -/
theorem qD2(hn:GN n){rates:List Int}(hr:rates.length=n.2.1.length)(a:Int):Ok (qi4 n rates a) fun z=>z.2=true->hopOk n z.1=true:=by
 have hsg:=hn.sg;unfold qi4;refine Ok.bind (Q:=fun e:(Int×Bool)⊕(Bool×Int×Bool)=>∀z,e=.inr z->hopOk n z.2=true) ?_ fun e he=>?_
 ·refine Ok.loop (fun x:Int×Int×Bool=>∃k:Nat,x.1=(k:Int)/\k<=n.2.1.length) (fun x=>n.2.1.length-x.1.toNat) ⟨0,rfl,by omega⟩ ?_
  rintro⟨v,b,c⟩ ⟨k,hk,hk2⟩
  replace hk:v=(k:Int):=hk;subst hk;show Ok (qiv n rates a (k:Int) b c) _;unfold qiv;refine Ok.bif (fun hc=>?_) fun _=>.ret fun z hz=>(by cases hz)
  have hc:=zi hc;have hk':k<n.2.1.length:=by omega
  have hA:inB (k:Int) rates.length=true:=inB_t (by omega)
  have hB:inB (k:Int) n.2.1.length=true:=inB_t hk';refine Ok.bind (Q:=fun _=>True) ?_ fun b _=>?_
  ·have z:∀b:Bool,Ok (some b) fun _=>True:=fun b=>.ret trivial
   exact Ok.gd hA (Ok.bif (fun _=>Ok.gd hB (Ok.bif (fun _=>z _) fun _=>Ok.gd hA (Ok.bif (fun _=>Ok.gd hB (z _)) fun _=>z _))) fun _=>Ok.gd hA (Ok.bif (fun _=>Ok.gd hB (z _)) fun _=>z _))
  ·refine Ok.bif (fun _=>Ok.gd hA (.ret fun z hz=>?_)) fun _=>?_
   ·cases hz; exact qsy.2 ⟨by(try simp only); omega,by(try simp only); omega⟩
   ·rw[w1 hk' (by omega)]
    exact .ret ⟨⟨k+1,rfl,by omega⟩,by simp only[z9]; omega⟩
 ·cases e with
  | inl z=>exact .ret fun h=>(by cases h)
  | inr z=>exact .ret fun _=>he z rfl
def qsB(n:Net)(l:List Hop):Prop:=∀h∈l,hopOk n h=true
theorem qsB.more{l:List Hop}(h:qsB n l){x:Hop}(hx:hopOk n x=true):qsB n (l++[x]):=fun y hy=>by
 rcases zD.1 hy with hy | hy
 ·exact h y hy
 ·rw[zW.1 hy]; exact hx
theorem qD3(hn:GN n){rates ports:List Int}(hr:rates.length=n.2.1.length)(hp:ports.length=n.2.2.1.length){i:Int}(hi:0<=i/\i<(n.2.2.1.length:Int)):
  Ok (qi5 n rates ports i) fun z=>z.1=i/\(0<=z.2.1/\z.2.1<(n.2.2.1.length:Int))/\qsB n z.2.2.2.2/\z.2.2.2.2.length<=40:=by
 have hsg:=hn.sg;have hpo:=hn.po;have hno:=hn.no;unfold qi5;refine Ok.gd (qae.2 (by omega)) (Ok.gd (qae.2 (by omega)) ?_)
 refine Ok.bind (Q:=fun e:(Int×Int×List Hop×Int×Int×Int×List Hop)⊕(Bool×Int×Int×Int×List Hop)=>(∀z,e=.inl z->(0<=z.2.2.2.2.1/\z.2.2.2.2.1<(n.2.2.1.length:Int))/\qsB n z.2.2.2.2.2.2/\z.2.2.2.2.2.2.length<=40)∧
  (∀z,e=.inr z->z.2.1=i/\(0<=z.2.2.1/\z.2.2.1<(n.2.2.1.length:Int))/\qsB n z.2.2.2.2/\z.2.2.2.2.length<=40)) ?_ fun e he=>?_
 ·refine Ok.loop (fun x:Int×Int×Int×Int×List Hop×Int×Int×Int×List Hop=>(∃k:Nat,x.2.1=(k:Int)/\k<=n.1.length+1/\x.2.2.2.2.2.2.2.2.length<=k)/\(0<=x.2.2.2.2.2.2.1/\x.2.2.2.2.2.2.1<(n.2.2.1.length:Int))/\qsB n x.2.2.2.2.2.2.2.2) (fun x=>n.1.length+1-x.2.1.toNat) ⟨⟨0,rfl,by omega,by simp⟩,by(try simp only); omega,fun x hx=>(by cases hx)⟩ ?_
  rintro⟨a,v,c1,c2,c3,c4,o,rt,hs⟩ ⟨⟨k,hk,hk2,hk3⟩,h1,h2⟩
  replace hk:v=(k:Int):=hk;subst hk;simp only at hk3 h1 h2;show Ok (qix n rates ports i a (k:Int) c1 c2 c3 c4 o rt hs) _;unfold qix;refine Ok.bif (fun hc=>?_) fun hc=>.ret ⟨fun z hz=>?_,fun z hz=>(by cases hz)⟩
  ·have hc:=zi hc;refine Ok.bind (Q:=fun e:(Int×Int×List Hop×Int×Int×Int×List Hop)⊕(Bool×Int×Int×Int×List Hop)=>(∀z,e=.inl z->z.2.2.2.2.1=o/\z.2.2.2.2.2.2=hs)∧
    (∀z,e=.inr z->z.2.1=i/\(0<=z.2.2.1/\z.2.2.1<(n.2.2.1.length:Int))/\z.2.2.2.2=hs)) ?_ fun e he=>?_
   ·refine Ok.loop (fun x:Int×Int×Int×List Hop×Int×Int×Int×List Hop=>(∃k:Nat,x.1=(k:Int)/\k<=n.2.2.1.length)/\x.2.2.2.2.2.1=o/\x.2.2.2.2.2.2.2=hs) (fun x=>n.2.2.1.length-x.1.toNat) ⟨⟨0,rfl,by omega⟩,rfl,rfl⟩ ?_
    rintro⟨v,b1,b2,b3,b4,o',rt',hs'⟩ ⟨⟨j,hj,hj2⟩,e1,e2⟩
    replace hj:v=(j:Int):=hj;replace e1:o'=o:=e1;replace e2:hs'=hs:=e2;subst hj e1 e2;show Ok (qiw n ports i a (j:Int) b1 b2 b3 b4 o' rt' hs') _;unfold qiw;refine Ok.bif (fun hc=>?_) fun hc=>.ret ⟨fun z hz=>(by cases hz; exact⟨rfl,rfl⟩),fun z hz=>(by cases hz)⟩
    have hc:=zi hc;have hj':j<n.2.2.1.length:=by omega
    have hB:inB (j:Int) ports.length=true:=inB_t (by omega)
    refine Ok.bind (Q:=fun z:Bool×List Hop=>z.2=hs') (Ok.gd (inB_t hj') (Ok.bif (fun _=>Ok.gd hB (.ret rfl)) fun _=>.ret rfl)) ?_
    rintro⟨b,x⟩ e
    replace e:x=hs':=e;subst e;refine Ok.bif (fun _=>Ok.gd hB (.ret ⟨fun z hz=>(by cases hz),fun z hz=>(by cases hz; exact⟨rfl,⟨by(try simp only); omega,by(try simp only); omega⟩,rfl⟩)⟩)) fun _=>?_
    rw[w1 hj' (by omega)]
    exact .ret ⟨⟨⟨j+1,rfl,by omega⟩,rfl,rfl⟩,by simp only[z9]; omega⟩
   ·cases e with
    | inl z=>
     obtain⟨e1,e2⟩:=he.1 z rfl;refine Ok.bind (qD2 hn hr a) fun r hr2=>?_
     refine Ok.bif (fun _=>.ret ⟨fun z hz=>(by cases hz),fun w hw=>?_⟩) fun hb=>?_
     ·cases hw;exact⟨rfl,by rw[e1]; exact h1,by rw[e2]; exact h2,by rw[e2]; omega⟩
     ·have hb:r.2=true:=by simpa using hb
      have ho:=hr2 hb;have ho2:=qsy.1 ho;refine Ok.gd (qaw (by rw[e2]; omega)) (Ok.gd (qae.2 (by omega)) ?_)
      refine Ok.eq (a:=max (rates.getD r.1.1.toNat 0) (wi64 (0-rates.getD r.1.1.toNat 0))) rfl ?_
      rw[show((r.1.1,r.1.2):Hop)=r.1 from rfl]
      refine Ok.eq (qvU ho) ?_
      rw[w1 (show k<n.1.length+1 by omega) (by omega),e1,e2]
      exact .ret ⟨⟨⟨k+1,rfl,by omega,by(try simp only); simp only[zd,zg,zx]; omega⟩,h1,h2.more ho⟩,by simp only[z9]; omega⟩
    | inr z=>
     obtain⟨e1,e2,e3⟩:=he.2 z rfl;exact .ret ⟨fun z hz=>(by cases hz),fun w hw=>(by cases hw; exact⟨e1,e2,by rw[e3]; exact h2,by rw[e3]; omega⟩)⟩
  ·cases hz; exact⟨h1,h2,by(try simp only); omega⟩
 ·cases e with
  | inl z=>have:=he.1 z rfl; exact .ret ⟨rfl,this.1,this.2.1,this.2.2⟩
  | inr z=>exact .ret (he.2 z rfl)
def qoq(l:List Pth):Prop:=∀x∈l,x.2.2.1.length<=100
theorem qAO(hn:GN n)(p:Pl):Ok (qi6 n p) fun z=>z.1.length<=100/\qoq z.1:=by
 have hsg:=hn.sg;have hpo:=hn.po;unfold qi6;rw[show((p.1,p.2.1,p.2.2):Pl)=p from rfl]
 refine Ok.eq (qm9 n p) ?_
 refine Ok.bif (fun _=>.ret ⟨by simp,fun x hx=>(by cases hx)⟩) fun hc=>?_
 have hc:qaY n p=0:=by simpa using hc
 obtain⟨l1,l2,l3⟩:=(VPl.of hc).len;refine Ok.gd (qaw (by omega)) (Ok.gd (qaw (by omega)) ?_)
 rw[zC,zC];refine Ok.bind (Q:=fun e:List Pth⊕(List Pth×Int)=>(∀z,e=.inl z->z.length<=100/\qoq z)/\(∀z,e=.inr z->z.1.length<=100/\qoq z.1)) ?_ fun e he=>?_
 ·refine Ok.loop (fun x:Int×List Int×List Int×List Pth=>(∃k:Nat,x.1=(k:Int)/\k<=n.2.2.1.length)/\x.2.1.length=n.2.1.length/\x.2.2.1.length=n.2.2.1.length/\x.2.2.2.length<=64/\qoq x.2.2.2) (fun x=>n.2.2.1.length-x.1.toNat) ⟨⟨0,rfl,by omega⟩,l1,l2,by simp,fun x hx=>(by cases hx)⟩ ?_
  rintro⟨v,ra,po,out⟩ ⟨⟨k,hk,hk2⟩,h1,h2,h3,h4⟩
  replace hk:v=(k:Int):=hk;subst hk;simp only at h1 h2 h3 h4;show Ok (qiz n (k:Int) ra po out) _;unfold qiz;refine Ok.bif (fun hc=>?_) fun hc=>.ret ⟨fun z hz=>(by cases hz; exact⟨by omega,h4⟩),fun z hz=>(by cases hz)⟩
  have hc:=zi hc;have hk':k<n.2.2.1.length:=by omega
  refine Ok.bind (Q:=fun e:(List Int×List Int×List Pth)⊕(List Pth×Int)=>(∀z,e=.inl z->z.1.length=n.2.1.length/\z.2.1.length=n.2.2.1.length/\z.2.2.length<=64/\qoq z.2.2)/\(∀z,e=.inr z->z.1.length<=100/\qoq z.1)) ?_ fun e he=>?_
  ·refine Ok.loop (fun x:List Int×List Int×List Pth=>x.1.length=n.2.1.length/\x.2.1.length=n.2.2.1.length/\x.2.2.length<=64/\qoq x.2.2) (fun x=>64-x.2.2.length) ⟨h1,h2,h3,h4⟩ ?_
   rintro⟨ra,po,out⟩ ⟨h1,h2,h3,h4⟩
   simp only at h1 h2 h3 h4;show Ok (qiy n (k:Int) ra po out) _;unfold qiy;refine Ok.gd (inB_t (by omega)) ?_
   refine Ok.bif (fun hc=>?_) fun hc=>.ret ⟨fun z hz=>(by cases hz; exact⟨h1,h2,h3,h4⟩),fun z hz=>(by cases hz)⟩
   refine Ok.bind (qD3 hn (rates:=ra) (ports:=po) h1 h2 (i:=(k:Int)) ⟨by omega,by omega⟩) ?_
   rintro⟨i,o,rt,ok,hs⟩ ⟨e1,e2,e3,e4⟩
   replace e1:i=(k:Int):=e1;subst e1;simp only at e2 e3 e4;refine Ok.bind (Q:=fun z:Bool×List Int×List Int×List Pth×List Hop=>z.2=(ra,po,out,hs)/\(z.1=false->out.length<64)) ?_ ?_
   ·refine Ok.bif (fun _=>.ret ⟨rfl,fun h=>(by cases h)⟩) fun _=>Ok.bif (fun _=>.ret ⟨rfl,fun h=>(by cases h)⟩) fun hb=>.ret ⟨rfl,fun _=>?_⟩
    have hb:=zN hb;omega
   rintro⟨b,z⟩ ⟨e,hb⟩
   replace e:z=(ra,po,out,hs):=e;subst e;refine Ok.bif (fun _=>.ret ⟨fun z hz=>(by cases hz),fun z hz=>(by cases hz; exact⟨by simp,fun x hx=>(by cases hx)⟩)⟩) fun hbf=>?_
   have h64:=hb hbf;have hA:inB (k:Int) po.length=true:=inB_t (by omega)
   refine Ok.gd hA (Ok.gd hA (Ok.gd (qae.2 (by rw[zQ]; (try simp only); omega)) (Ok.gd (qae.2 (by rw[zQ]; (try simp only); omega)) ?_)))
   refine Ok.bind (Q:=fun z:List Int×List Int×List Pth×List Hop=>z.1.length=n.2.1.length/\z.2.1.length=n.2.2.1.length/\z.2.2.1=out/\z.2.2.2=hs) ?_ ?_
   ·refine Ok.loop (fun x:Int×List Int×List Int×List Pth×List Hop=>(∃j:Nat,x.1=(j:Int)/\j<=hs.length)/\x.2.1.length=n.2.1.length/\x.2.2.1.length=n.2.2.1.length/\x.2.2.2.1=out/\x.2.2.2.2=hs) (fun x=>hs.length-x.1.toNat) ⟨⟨0,rfl,by omega⟩,h1,by simp only[zQ]; exact h2,rfl,rfl⟩ ?_
    rintro⟨v,ra',po',out',hs'⟩ ⟨⟨j,hj,hj2⟩,g1,g2,g3,g4⟩
    replace hj:v=(j:Int):=hj;replace g3:out'=out:=g3;replace g4:hs'=hs:=g4;subst hj g3 g4;simp only at g1 g2;unfold qmi;refine Ok.bif (fun hc=>?_) fun hc=>.ret ⟨g1,g2,rfl,rfl⟩
    have hc:=zi hc;simp only at hc;have hj':j<hs'.length:=by omega
    have hh:=qsy.1 (e3 _ (qbe (d:=(0,false)) hj'));have hC:inB (hs'.getD j (0,false)).1 ra'.length=true:=qae.2 (by omega)
    refine Ok.gd (inB_t hj') ?_
    simp only[z9];refine Ok.bind (Q:=fun z:List Int×List Int×List Pth×List Hop=>z.1.length=n.2.1.length/\z.2=(po',out',hs')) (Ok.bif (fun _=>Ok.gd hC (Ok.gd hC (.ret ⟨(zQ ..).trans g1,rfl⟩))) fun _=>Ok.gd hC (Ok.gd hC (.ret ⟨(zQ ..).trans g1,rfl⟩))) ?_
    rintro⟨y,w⟩ ⟨hy,e⟩
    replace e:w=(po',out',hs'):=e;subst e;rw[w1 hj' (by omega)]
    exact .ret ⟨⟨⟨j+1,rfl,by omega⟩,hy,g2,rfl,rfl⟩,by simp only[z9]; omega⟩
   ·rintro⟨ra',po',out',hs'⟩ ⟨g1,g2,g3,g4⟩
    replace g3:out'=out:=g3;replace g4:hs'=hs:=g4;subst g3 g4;refine Ok.gd (qaw (by(try simp only); omega)) (.ret ⟨⟨g1,g2,?_,fun x hx=>?_⟩,?_⟩)
    ·simp only[zd,zg,zx]; omega
    ·rcases zD.1 hx with hx | hx
     ·exact h4 x hx
     ·rw[zW.1 hx]; (try simp only); omega
    ·simp only[zd,zg,zx]; omega
  ·cases e with
   | inl z=>
    have:=he.1 z rfl;rw[w1 hk' (by omega)]
    exact .ret ⟨⟨⟨k+1,rfl,by omega⟩,this.1,this.2.1,this.2.2.1,this.2.2.2⟩,by simp only[z9]; omega⟩
   | inr z=>exact .ret ⟨fun w hw=>(by cases hw),fun w hw=>(by cases hw; exact he.2 z rfl)⟩
 ·cases e with
  | inl z=>exact .ret (he.1 z rfl)
  | inr z=>exact .ret (he.2 z rfl)
theorem qCt(hn:GN n){d:Dk}(hd:d.1.length<=100000){s:List Int}{q:Int}(h:SrcOk s q):Ok (qkB n d s q) fun z=>SrcOk z.2.1 z.2.2/\z.1.2.2.2.2.2.1.length<=100:=by
 have hst:=hn.st;unfold qkB;refine Ok.bind (sN h (n:=9) (by omega) (by omega)) fun r hr=>?_
 refine Ok.bif (fun _=>?_) fun _=>Ok.bif (fun _=>?_) fun _=>Ok.bif (fun _=>?_) fun _=>Ok.bif (fun _=>?_) fun _=>?_
 ·rw[wi (by omega)]; exact Ok.bind (sN hr.1 (by omega) (by omega)) fun r2 h2=>.ret ⟨h2.1,by simp⟩
 ·rw[wi (by omega)]; exact Ok.bind (sN hr.1 (by omega) (by omega)) fun r2 h2=>.ret ⟨h2.1,by simp⟩
 ·rw[wi (by omega)]; exact Ok.bind (sN hr.1 (by omega) (by omega)) fun r2 h2=>.ret ⟨h2.1,by simp⟩
 ·rw[wi (by omega)]; exact Ok.bind (sN hr.1 (by omega) (by omega)) fun r2 h2=>.ret ⟨h2.1,by simp⟩
 refine Ok.bind (Q:=fun _=>True) (Ok.bif (fun _=>.ret trivial) fun _=>.ret trivial) fun b _=>?_
 refine Ok.bif (fun _=>Ok.bind (sP hr.1 (by simp) (by simp)) fun r6 h6=>.ret ⟨h6.1,by simp⟩) fun _=>Ok.bif (fun _=>?_) fun _=>?_
 ·exact Ok.bind (sN hr.1 (n:=9) (by omega) (by omega)) fun r7 h7=>Ok.bind (sN h7.1 (n:=4) (by omega) (by omega)) fun r8 h8=>Ok.bind (sN h8.1 (n:=5) (by omega) (by omega)) fun r9 h9=>Ok.bind (sN h9.1 (n:=2) (by omega) (by omega)) fun r10 h10=>Ok.bind (sN h10.1 (n:=2) (by omega) (by omega)) fun r11 h11=>.ret ⟨h11.1,by simp⟩
 refine Ok.bind (sN hr.1 (n:=2) (by omega) (by omega)) fun r12 h12=>?_
 refine Ok.bind (Q:=fun z:List Int×Int×Pl=>SrcOk z.1 z.2.1) (Ok.bif (fun _=>Ok.bind (qD1 hn h12.1) fun r13 h13=>.ret h13.1) fun _=>.ret h12.1) ?_
 rintro⟨s4,q4,p⟩ h4
 replace h4:SrcOk s4 q4:=h4;refine Ok.bind (qAO hn p) fun r14 h14=>?_
 refine Ok.bif (fun _=>.ret ⟨h4,by simp⟩) fun hc=>?_
 have hc:=zN hc;refine Ok.bind (sN h4 (n:=(r14.1.length:Int)) (by omega) (by omega)) fun r15 h15=>?_
 refine Ok.gd (qae.2 h15.2) ?_
 have hx:=h14.2 _ (qbe (d:=((0,0,[],0):Pth)) (show r15.1.toNat<r14.1.length by omega))
 refine Ok.eq (qx4 _ (by omega)) ?_
 exact Ok.bind (sP h15.1 (by simp) (by simp)) fun r17 h17=>.ret ⟨h17.1,hx⟩
end
end Go.Proofs.YtmdijohmddokhaaGreatDoor
namespace Go.Proofs.YtmdijohmddokhaaGreatDoor
open Go Go.Sq
set_option linter.unusedVariables false
theorem qEV:∀k:Fin 100,qki (wu64 1) (wu64 ((k.val:Nat):Int))=some (0,((k.val:Nat):Int)):=by decide +kernel
theorem qEW(v:Vl)(k:Nat)(hk:k<=1000):∀(f m:Nat) (l:List Vl),k<=m+f->1<=m->m<=k->l.length=k->(∀i,i<m->l[i]? = some v)->
  iter (fun x2=>qad x2.1 x2.2) ((m:Int),l)=some (List.replicate k v):=by
 have fin:∀(l:List Vl),l.length=k->(∀i,i<k->l[i]? = some v)->l=List.replicate k v:=fun l hl h=>by
  refine zC1 fun i=>?_
  by_cases hi:i<k
  ·rw[h i hi,zu2,if_pos hi]
  ·rw[zl1 (by omega),zl1 (by simp; omega)]
 intro f;induction f with
 | zero=>
  intro m l hf h1 hm hl h;have:m=k:=by omega
  subst this;rw[<-fin l hl h];exact qaV (by show qad (m:Int) l=_; unfold qad; rw[dec_f (by omega)]; rfl)
 | succ f ih=>
  intro m l hf h1 hm hl h;by_cases he:m=k
  ·subst he;rw[<-fin l hl h];exact qaV (by show qad (m:Int) l=_; unfold qad; rw[dec_f (by omega)]; rfl)
  ·have hlt:(l.take m).length=m:=by rw[zn]; omega
   have hst:qad (m:Int) l=some (.inl (((m+min m (k-m):Nat):Int),cpyD l m (l.take m))):=by
    unfold qad;rw[dec_t (show(m:Int)<(l.length:Int) by omega),za,gd_t (by rw[dec_t (by omega),inR_t (by omega) (by omega)]; rfl),gd_t (by rw[dec_t (by omega)]; exact inR_t (a:=0) (by omega) (by omega)),z9,
     gd_t (by rw[dec_t rfl,dec_t (show m<=l.length by omega),dec_t (show 0<l.length by omega)]; rfl),hlt,hl]
    rw[show wi64 ((m:Int)+Int.ofNat (min m (k-m)))=((m+min m (k-m):Nat):Int) by rw[show Int.ofNat (min m (k-m))=((min m (k-m):Nat):Int) from rfl,wi (by omega)]; omega]
   rw[qbp hst];refine ih _ _ (by omega) (by omega) (by omega) (by rw[qtZ _ _ (by omega)]; exact hl) fun i hi=>?_
   rw[qt0 _ _ (by omega),hlt]
   by_cases hc:m<=i/\i<m+min m (l.length-m)
   ·rw[if_pos hc,zp,if_pos (by omega)]
    exact h _ (by omega)
   ·rw[if_neg hc];rw[hl] at hc;exact h i (by omega)
theorem qEX(v:Vl){k:Nat}(h1:1<=k)(h2:k<100):qaZ [v] (k:Int)=some (List.replicate k v):=by
 unfold qaZ;rw[dec_f (show ¬(k:Int)<0 by omega),zb,z7,show(([v].length:Nat):Int)=1 from rfl,qEV ⟨k,h2⟩,z7,dec_f (show ¬(0:Int)<0 by omega),zb,dec_f (show ¬9223372036854775807<(k:Int) by omega),z7]
 simp only[zb,z7];rw[wi (by omega),gd_t (qhg (by omega)),z9,zf2,gd_t (by rw[dec_t (by omega)]; rfl),show Int.ofNat (min [v].length (k-0))=((1:Nat):Int) by simp only[zg,zx]; rw[z91 (by omega)]; rfl]
 rw[qEW v k (by omega) k 1 _ (by omega) (by omega) h1 (by rw[qtZ _ _ (by omega),zf2]) fun i hi=>?_]
 ·rfl
 ·rw[qt0 _ _ (by omega),if_pos (by simp; omega),show i-0=0 by omega]; rfl
def idleS(n:Net)(t:Int):Dk×Int:=if qbb n≠0 then(([],[],[],[]),qbb n) else
 bif rg 1 60 t then((List.replicate (n.2.1.length+n.2.2.1.length) (t,0,false,false),List.replicate n.2.1.length 0,List.replicate n.2.2.1.length 0,List.replicate n.2.2.2.1.length false),0) else(([],[],[],[]),20)
theorem valid0(t:Int):qcv (t,0,false,false)=rg 1 60 t:=by
 unfold qcv rg;simp only;by_cases h:1<=t
 ·rw[dec_t h,dec_t (show(0:Int)<=t by omega),zE]; simp
 ·rw[dec_f h]; rfl
theorem qD4(n:Net)(t:Int)(h1:qbb n=0->1<=n.2.1.length+n.2.2.1.length):qoW n t=some (idleS n t):=by
 unfold qoW idleS;rw[qa9,qfl,z7,valid_eq,z7,valid0];by_cases h0:qbb n=0
 ·have hn:=VNet.of h0;have m1:=hn.small.sg;have m2:=hn.small.po;have m3:=hn.small.st;have hh:=h1 h0;rw[dec_t h0,if_neg (fun e=>e h0),zf,zb]
  cases rg 1 60 t with
  | false=>rfl
  | true=>
   simp only[zf,zb,za];rw[gd_t (qhg (by omega)),gd_t (qhg (by omega)),gd_t (qhg (by omega)),quN hn,z7,qEX _ hh (by omega),z7]
   simp only[z9]
 ·rw[dec_f h0,if_pos h0]; rfl
theorem qEY(l:List Int):qpY l=some (decide ((l.length:Int)<=400)):=rfl
end Go.Proofs.YtmdijohmddokhaaGreatDoor
