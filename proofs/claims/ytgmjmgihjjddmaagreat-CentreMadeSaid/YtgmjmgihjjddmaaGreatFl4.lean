/- Flows: what comes to the nodes and leaves them. No condition. -/
import Derived.Test.YtgmjmgihjjddmaaGreatNk5
namespace Go.Proofs.YtgmjmgihjjddmaaGreat
open Go Go.Sq
set_option linter.unusedVariables false
abbrev Pl:=List Int×List Int×List Bool
def sumTo(f:Nat->Int):Nat->Int
 | 0=>0
 | n+1=>sumTo f n+f n
theorem qdU{f:Nat->Int}{b:Int}(h:∀i,0<=f i/\f i<=b):∀n:Nat,0<=sumTo f n/\sumTo f n<=b*n
 | 0=>⟨Int.le_refl _,by simp[sumTo]⟩
 | n+1=>by
  have h1:=qdU h n;have h2:=h n;have e:b*((n+1:Nat):Int)=b*n+b:=by rw[Int.natCast_add,Int.mul_add]; simp
  rw[e];simp only[sumTo]; omega
theorem qjA{f:Nat->Int}:∀n:Nat,(∀i,i<n->f i=0)->sumTo f n=0
 | 0,_=>rfl
 | n+1,h=>by simp only[sumTo]; rw[qjA n fun i hi=>h i (by omega),h n (by omega)]; rfl
def rate(p:Pl)(i:Nat):Int:=p.1.getD i 0
def prate(p:Pl)(i:Nat):Int:=p.2.1.getD i 0
def frm(n:Net)(p:Pl)(i:Nat):Int:=if rate p i<0 then(n.2.1.getD i sg0).2.2.1 else(n.2.1.getD i sg0).2.1
def tow(n:Net)(p:Pl)(i:Nat):Int:=if rate p i<0 then(n.2.1.getD i sg0).2.1 else(n.2.1.getD i sg0).2.2.1
def amt(x:Int):Int:=max x (0-x)
def segIn(n:Net)(p:Pl)(k:Int)(i:Nat):Int:=if tow n p i=k then amt (rate p i) else 0
def qcm(n:Net)(p:Pl)(k:Int)(i:Nat):Int:=if frm n p i=k then amt (rate p i) else 0
def qh3(n:Net)(p:Pl)(k:Int)(i:Nat):Int:=if(n.2.2.1.getD i po0).2.1=k then max 0 (prate p i) else 0
def qeQ(n:Net)(p:Pl)(k:Int)(i:Nat):Int:=if(n.2.2.1.getD i po0).2.1=k then max 0 (0-prate p i) else 0
def comeF(n:Net)(p:Pl)(k:Int):Int:=sumTo (segIn n p k) n.2.1.length+sumTo (qh3 n p k) n.2.2.1.length
def qlW(n:Net)(p:Pl)(k:Int):Int:=sumTo (qcm n p k) n.2.1.length+sumTo (qeQ n p k) n.2.2.1.length
structure RB(p:Pl):Prop where
 s:∀i,-1000<=rate p i/\rate p i<=1000
 q:∀i,-1000<=prate p i/\prate p i<=1000
section
variable {n:Net} {p:Pl}
theorem qoU(h:RB p)(k:Int)(i:Nat):0<=segIn n p k i/\segIn n p k i<=1000:=by
 have:=h.s i; unfold segIn amt; split <;> omega
theorem qlX(h:RB p)(k:Int)(i:Nat):0<=qcm n p k i/\qcm n p k i<=1000:=by
 have:=h.s i; unfold qcm amt; split <;> omega
theorem qrB(h:RB p)(k:Int)(i:Nat):0<=qh3 n p k i/\qh3 n p k i<=1000:=by
 have:=h.q i; unfold qh3; split <;> omega
theorem qpr(h:RB p)(k:Int)(i:Nat):0<=qeQ n p k i/\qeQ n p k i<=1000:=by
 have:=h.q i; unfold qeQ; split <;> omega
end
structure KnP(n:Net):Prop where
 s:∀i,i<n.2.1.length->(0<=(n.2.1.getD i sg0).2.1/\(n.2.1.getD i sg0).2.1<n.1.length)/\(0<=(n.2.1.getD i sg0).2.2.1/\(n.2.1.getD i sg0).2.2.1<n.1.length)
 p:∀i,i<n.2.2.1.length->0<=(n.2.2.1.getD i po0).2.1/\(n.2.2.1.getD i po0).2.1<n.1.length
 t:∀i,i<n.2.2.2.1.length->0<=(n.2.2.2.1.getD i sta0).2.1/\(n.2.2.2.1.getD i sta0).2.1<n.1.length
theorem qsx{n:Net}{k:Int}:kn n k=true↔0<=k/\k<n.1.length:=by
 unfold kn; rw[zb,zz,zz]
theorem KnP.of{n:Net}(h:knB n=true):KnP n:=by
 unfold knB at h;simp only[zb,zt] at h;exact⟨fun i hi=>by have:=h.1 _ (qaY (d:=sg0) hi); rwa[qsx,qsx] at this,fun i hi=>by have:=h.2.1 _ (qaY (d:=po0) hi); rwa[qsx] at this,fun i hi=>by have:=h.2.2 _ (qaY (d:=sta0) hi); rwa[qsx] at this⟩
structure VNet(n:Net):Prop where
 small:Small n
 kn:KnP n
 pr:prB n=true
theorem qpL{c:Bool}{a b:Int}(hb:b≠0)(h:(bif c then a else b)=0):c=true/\a=0:=by
 cases c
 ·exact absurd h hb
 ·exact⟨rfl,h⟩
theorem VNet.of{n:Net}(h:qbZ n=0):VNet n:=by
 unfold qbZ at h;obtain⟨h1,h⟩:=qpL (by decide) h
 obtain⟨h2,h⟩:=qpL (by decide) h
 cases h3:twB n with
 | true=>rw[h3] at h; cases h
 | false=>
  rw[h3] at h; simp only[za] at h;obtain⟨h4,h⟩:=qpL (by decide) h
  obtain⟨h5,h⟩:=qpL (by decide) h
  exact⟨(qqj n).1 h1,KnP.of h4,h5⟩
theorem qwJ{n:Net}{p:Pl}(h:KnP n){i:Nat}(hi:i<n.2.1.length):0<=frm n p i/\frm n p i<n.1.length:=by
 have:=h.s i hi; unfold frm; split <;> omega
theorem qCS{n:Net}{p:Pl}(h:KnP n){i:Nat}(hi:i<n.2.1.length):0<=tow n p i/\tow n p i<n.1.length:=by
 have:=h.s i hi; unfold tow; split <;> omega
/-! ### The program's sums -/
def m24(f:Nat->Int):List Int:=(List.range 24).map f
theorem qvT(f:Nat->Int):(m24 f).length=24:=by simp[m24]
theorem qiX(f:Nat->Int){k:Nat}(h:k<24):(m24 f).getD k 0=f k:=qAo f 24 k h
theorem qgs{f g:Nat->Int}(h:∀k,k<24->f k=g k):m24 f=m24 g:=zK2 fun k hk=>h k (zK.1 hk)
theorem qB1(f:Nat->Int){k:Nat}(hk:k<24)(x:Int):(m24 f).set k ((m24 f).getD k 0+x)=m24 fun j=>f j+(if k=j then x else 0):=by
 refine qBu 0 (by simp[qvT]) fun j hj=>?_
 rw[zN,qvT] at hj;rw[qkq,qiX _ hj,qvT];by_cases e:k=j
 ·subst e; rw[if_pos ⟨rfl,hk⟩,qiX _ hk,qiX _ hk,if_pos rfl]
 ·rw[if_neg (fun h=>e h.1),qiX _ hj,if_neg e]; omega
def addF(f:Nat->Int)(k x:Int):Nat->Int:=fun j=>f j+(if k=(j:Int) then x else 0)
theorem qwK(f:Nat->Int)(x:Int):m24 (addF f (-1) x)=m24 f:=qgs fun k _=>by unfold addF; rw[if_neg (by omega)]; omega
theorem m24_set'(f:Nat->Int){k:Int}(h0:0<=k)(h1:k<24){x:Int}(hb:∀j,j<24->-1000000<=f j/\f j<=1000000)(hx : -1000000<=x/\x<=1000000):(m24 f).set k.toNat (wi64 ((m24 f).getD k.toNat 0+x))=m24 (addF f k x):=by
 obtain⟨k',rfl⟩:∃k':Nat,k=(k':Int):=⟨k.toNat,by omega⟩
 rw[z8,show wi64 ((m24 f).getD k' 0+x)=(m24 f).getD k' 0+x by
  rw[qiX _ (by omega)]; have:=hb k' (by omega); exact wi (by omega),qB1 f (by omega)]
 refine qgs fun j hj=>?_
 unfold addF;by_cases e:k'=j
 ·rw[if_pos e,if_pos (by omega)]
 ·rw[if_neg e,if_neg (by omega)]
def bd6(f:Nat->Int):Prop:=∀j,j<24->-1000000<=f j/\f j<=1000000
theorem qBy{f g:Nat->Int}(hf:bd6 f)(hg:bd6 g){a b r:Int}(ha : -1<=a/\a<24)(hb:0<=b/\b<24)(hr : -1000<=r/\r<=1000):
  qdc a b r (m24 f,m24 g)=some (m24 (addF f (if r<0 then a else b) (amt r)),m24 (addF g (if r<0 then b else a) (amt r))):=by
 unfold qdc;by_cases h:r<0
 ·rw[dec_t h,if_pos h,if_pos h,z9,show wi64 (0-r)=amt r by unfold amt; rw[wi (by omega)]; omega]
  have hx : -1000000<=amt r/\amt r<=1000000:=by unfold amt; omega
  simp only[z7];have hB:inB b 24=true:=qal.2 (by omega)
  rw[dec_t hb.1,z9,gd_t hB,gd_t hB,m24_set' g hb.1 hb.2 hg hx,z7];by_cases h0:0<=a
  ·have hA:inB a 24=true:=qal.2 (by omega)
   rw[dec_t h0,z9,gd_t hA,gd_t hA,m24_set' f h0 ha.2 hf hx]
  ·rw[dec_f h0,za,show a=-1 by omega,qwK]
 ·rw[dec_f h,if_neg h,if_neg h,za];have hx : -1000000<=r/\r<=1000000:=by omega
  rw[show amt r=r by unfold amt; omega]
  have hB:inB b 24=true:=qal.2 (by omega)
  simp only[z7];by_cases h0:0<=a
  ·have hA:inB a 24=true:=qal.2 (by omega)
   rw[dec_t h0,z9,gd_t hA,gd_t hA,m24_set' g h0 ha.2 hg hx,z7,dec_t hb.1,z9,gd_t hB,gd_t hB,m24_set' f hb.1 hb.2 hf hx]
  ·rw[dec_f h0,za,z7,dec_t hb.1,z9,gd_t hB,gd_t hB,m24_set' f hb.1 hb.2 hf hx,show a=-1 by omega,qwK]
theorem pairE{A B C D E:Type}{i:A}{v:B}{a a':C}{b b':D}(h:a=a')(h':b=b'):(some (Sum.inl (i,v,a,b)):Option ((A×B×C×D)⊕E))=some (Sum.inl (i,v,a',b')):=by rw[h,h']
theorem qwL{n:Net}(hn:VNet n){p:Pl}(hp:RB p)(h1:p.1.length=n.2.1.length)(h2:p.2.1.length=n.2.2.1.length):qle n p=some (m24 fun k=>comeF n p k,m24 fun k=>qlW n p k):=by
 obtain⟨s1,s2,s3,s4,s5,s6⟩:=hn.small;unfold qle;have e1:iter (fun x=>qdx n p x.1 x.2.1 x.2.2) (0,((List.replicate 24 0),(List.replicate 24 0)),((List.replicate 24 0),(List.replicate 24 0)))=
   some (((List.replicate 24 0),(List.replicate 24 0)),(m24 fun k=>sumTo (segIn n p k) n.2.1.length,m24 fun k=>sumTo (qcm n p k) n.2.1.length)):=by
  refine qbe (step:=fun x:Int×(List Int×List Int)×(List Int×List Int)=>qdx n p x.1 x.2.1 x.2.2) n.2.1.length (fun i=>((i:Int),((List.replicate 24 0),(List.replicate 24 0)),(m24 fun k=>sumTo (segIn n p k) i,m24 fun k=>sumTo (qcm n p k) i))) (fun i hi=>?_) ?_
  ·show qdx n p _ _ _=_;unfold qdx;have k1:=hn.kn.s i hi;have b1:bd6 fun k=>sumTo (segIn n p k) i:=fun j _=>by have:=qdU (qoU (n:=n) hp (j:Int)) i; dsimp only; omega
   have b2:bd6 fun k=>sumTo (qcm n p k) i:=fun j _=>by have:=qdU (qlX (n:=n) hp (j:Int)) i; dsimp only; omega
   have hr:=hp.s i;unfold rate at hr;rw[dec_t (show(i:Int)<(n.2.1.length:Int) by omega),z9,gd_t (inB_t hi),gd_t (inB_t (show i<p.1.length by omega)),z8,
    qBy b1 b2 (by have:=k1.1; simp only[sg0] at this; omega) (by have:=k1.2; simp only[sg0] at this; omega) hr,z7,w1 hi (by omega)]
   refine pairE ?_ ?_
   ·refine qgs fun k hk=>?_
    simp only[addF,sumTo,segIn,tow,rate,sg0]; rfl
   ·refine qgs fun k hk=>?_
    simp only[addF,sumTo,qcm,frm,rate,sg0]; rfl
  ·show qdx n p _ _ _=_;unfold qdx;rw[dec_f (by omega)]; rfl
 rw[e1,z7];have e2:iter (fun x2=>qdy n p x2.1 x2.2.1 x2.2.2) (0,((List.replicate 24 0),(List.replicate 24 0)),(m24 fun k=>sumTo (segIn n p k) n.2.1.length,m24 fun k=>sumTo (qcm n p k) n.2.1.length))=
   some (((List.replicate 24 0),(List.replicate 24 0)),(m24 fun k=>comeF n p k,m24 fun k=>qlW n p k)):=by
  have:=qbe (step:=fun x2:Int×(List Int×List Int)×(List Int×List Int)=>qdy n p x2.1 x2.2.1 x2.2.2) (e:=(((List.replicate 24 0),(List.replicate 24 0)),(m24 fun k=>comeF n p k,m24 fun k=>qlW n p k))) n.2.2.1.length (fun i=>((i:Int),((List.replicate 24 0),(List.replicate 24 0)),(m24 fun k=>sumTo (segIn n p k) n.2.1.length+sumTo (qh3 n p k) i,m24 fun k=>sumTo (qcm n p k) n.2.1.length+sumTo (qeQ n p k) i))) (fun i hi=>?_) ?_
  ·refine Eq.trans ?_ this
   rw[show(m24 fun k=>sumTo (segIn n p k) n.2.1.length)=m24 fun k=>sumTo (segIn n p k) n.2.1.length+sumTo (qh3 n p k) 0 from qgs fun k _=>by simp only[sumTo]; omega,
    show(m24 fun k=>sumTo (qcm n p k) n.2.1.length)=m24 fun k=>sumTo (qcm n p k) n.2.1.length+sumTo (qeQ n p k) 0 from qgs fun k _=>by simp only[sumTo]; omega]
   rfl
  ·show qdy n p _ _ _=_;unfold qdy;have k1:=hn.kn.p i hi;have b1:bd6 fun k=>sumTo (segIn n p k) n.2.1.length+sumTo (qh3 n p k) i:=fun j _=>by
    have:=qdU (qoU (n:=n) hp (j:Int)) n.2.1.length;have:=qdU (qrB (n:=n) hp (j:Int)) i; dsimp only; omega
   have b2:bd6 fun k=>sumTo (qcm n p k) n.2.1.length+sumTo (qeQ n p k) i:=fun j _=>by
    have:=qdU (qlX (n:=n) hp (j:Int)) n.2.1.length;have:=qdU (qpr (n:=n) hp (j:Int)) i; dsimp only; omega
   have hr:=hp.q i;unfold prate at hr;rw[dec_t (show(i:Int)<(n.2.2.1.length:Int) by omega),z9,gd_t (inB_t hi),gd_t (inB_t (show i<p.2.1.length by omega)),z8,
    qBy b1 b2 (by omega) (by have:=k1; simp only[po0] at this; omega) hr,z7,w1 hi (by omega)]
   refine pairE ?_ ?_
   ·refine qgs fun k hk=>?_
    simp only[addF,sumTo,qh3,prate,amt];split <;> split <;> (try split) <;> omega
   ·refine qgs fun k hk=>?_
    simp only[addF,sumTo,qeQ,prate,amt];split <;> split <;> (try split) <;> omega
  ·show qdy n p _ _ _=_;unfold qdy;rw[dec_f (by omega)]; rfl
 rw[e2]; rfl
end Go.Proofs.YtgmjmgihjjddmaaGreat
namespace Go.Proofs.YtgmjmgihjjddmaaGreat
open Go Go.Sq
set_option linter.unusedVariables false
section
variable {n:Net} {p:Pl}
theorem qvU(s:Seg)(r:Int):qoa s r=some (if r<0 then s.2.2.1 else s.2.1,if r<0 then s.2.1 else s.2.2.1):=by
 unfold qoa;by_cases h:r<0
 ·rw[dec_t h,z9,if_pos h,if_pos h]
 ·rw[dec_f h,za,if_neg h,if_neg h]
theorem qwM(s:Seg)(r:Int):qmp s r=some (if r<0 then s.2.2.1 else s.2.1,if r<0 then s.2.1 else s.2.2.1):=qvU s r
theorem qB2{r:Int}(h : -1000<=r/\r<=1000):qlz r=some (amt r):=by
 unfold qlz amt; rw[wi (by omega)]
theorem qtG(hp:RB p)(hs:n.2.1.length<=32)(hq:n.2.2.1.length<=24)(h1:p.1.length=n.2.1.length)(h2:p.2.1.length=n.2.2.1.length)(k:Int):qjk n p k=some (comeF n p k,qlW n p k):=by
 unfold qjk;have e1:iter (fun x=>qc2 n p k x.1 x.2.1 x.2.2) (0,0,0)=some (sumTo (segIn n p k) n.2.1.length,sumTo (qcm n p k) n.2.1.length):=by
  refine qbe (step:=fun x:Int×Int×Int=>qc2 n p k x.1 x.2.1 x.2.2) n.2.1.length (fun i=>(sumTo (segIn n p k) i,sumTo (qcm n p k) i,(i:Int))) (fun i hi=>?_) ?_
  ·show qc2 n p k (sumTo (segIn n p k) i) (sumTo (qcm n p k) i) (i:Int)=some (.inl (sumTo (segIn n p k) i+segIn n p k i,sumTo (qcm n p k) i+qcm n p k i,((i+1:Nat):Int)));have b1:=qdU (qoU (n:=n) hp k) i;have b2:=qdU (qlX (n:=n) hp k) i;have b3:=qoU (n:=n) hp k i;have b4:=qlX (n:=n) hp k i;have hr:=hp.s i;unfold qc2;rw[dec_t (show(i:Int)<(n.2.1.length:Int) by omega),z9,gd_t (inB_t hi),gd_t (inB_t (show i<p.1.length by omega)),z8,qwM]
   have ef:frm n p i=if p.1.getD i 0<0 then(n.2.1.getD i ([],(0,(0,(0,(0,(0,[]))))))).2.2.1 else(n.2.1.getD i ([],(0,(0,(0,(0,(0,[]))))))).2.1:=rfl
   have et:tow n p i=if p.1.getD i 0<0 then(n.2.1.getD i ([],(0,(0,(0,(0,(0,[]))))))).2.1 else(n.2.1.getD i ([],(0,(0,(0,(0,(0,[]))))))).2.2.1:=rfl
   have er:rate p i=p.1.getD i 0:=rfl;simp only[z7];have hB:inB (i:Int) p.1.length=true:=inB_t (by omega)
   rw[<-ef,<-et,<-er,qB2 hr];simp only[z7,gd_t hB];by_cases h0:rate p i=0
   ·have z1:segIn n p k i=0:=by unfold segIn amt; split <;> omega
    have z2:qcm n p k i=0:=by unfold qcm amt; split <;> omega
    rw[dec_t h0,z9,z7,z1,z2,w1 hi (by omega),zE2,zE2]
   ·rw[dec_f h0,za];have s1:(bif decide (frm n p i=k) then some (wi64 (sumTo (qcm n p k) i+amt (rate p i))) else some (sumTo (qcm n p k) i))=some (sumTo (qcm n p k) i+qcm n p k i):=by
     by_cases hc:frm n p i=k
     ·have:qcm n p k i=amt (rate p i):=if_pos hc;rw[dec_t hc,z9,<-this,wi (by omega)]
     ·have:qcm n p k i=0:=if_neg hc;rw[dec_f hc,za,this,zE2]
    have s2:(bif decide (tow n p i=k) then some (wi64 (sumTo (segIn n p k) i+amt (rate p i))) else some (sumTo (segIn n p k) i))=some (sumTo (segIn n p k) i+segIn n p k i):=by
     by_cases hc:tow n p i=k
     ·have:segIn n p k i=amt (rate p i):=if_pos hc;rw[dec_t hc,z9,<-this,wi (by omega)]
     ·have:segIn n p k i=0:=if_neg hc;rw[dec_f hc,za,this,zE2]
    rw[s1,z7,s2,z7,z7,w1 hi (by omega)]
  ·show qc2 n p k _ _ ((n.2.1.length:Nat):Int)=_;unfold qc2;rw[dec_f (by omega)]; rfl
 rw[e1,z7];have e2:iter (fun x2=>qc3 n p k x2.1 x2.2.1 x2.2.2) (sumTo (segIn n p k) n.2.1.length,sumTo (qcm n p k) n.2.1.length,0)=some (comeF n p k,qlW n p k):=by
  have:=qbe (step:=fun x2:Int×Int×Int=>qc3 n p k x2.1 x2.2.1 x2.2.2) (e:=(comeF n p k,qlW n p k)) n.2.2.1.length (fun i=>(sumTo (segIn n p k) n.2.1.length+sumTo (qh3 n p k) i,sumTo (qcm n p k) n.2.1.length+sumTo (qeQ n p k) i,(i:Int))) (fun i hi=>?_) ?_
  ·refine Eq.trans ?_ this
   simp only[sumTo,zE2]; rfl
  ·have b1:=qdU (qoU (n:=n) hp k) n.2.1.length;have b2:=qdU (qlX (n:=n) hp k) n.2.1.length;have b3:=qdU (qrB (n:=n) hp k) i;have b4:=qdU (qpr (n:=n) hp k) i;have b5:=qrB (n:=n) hp k i;have b6:=qpr (n:=n) hp k i;show qc3 n p k (sumTo (segIn n p k) n.2.1.length+sumTo (qh3 n p k) i) (sumTo (qcm n p k) n.2.1.length+sumTo (qeQ n p k) i) (i:Int)=some (.inl (sumTo (segIn n p k) n.2.1.length+(sumTo (qh3 n p k) i+qh3 n p k i),sumTo (qcm n p k) n.2.1.length+(sumTo (qeQ n p k) i+qeQ n p k i),((i+1:Nat):Int)));have hr:=hp.q i;unfold qc3;have hB:inB (i:Int) p.2.1.length=true:=inB_t (by omega)
   have eq:prate p i=p.2.1.getD i 0:=rfl;rw[dec_t (show(i:Int)<(n.2.2.1.length:Int) by omega),z9,gd_t (inB_t hi),z8,gd_t hB,gd_t hB,<-eq,w1 hi (by omega)]
   by_cases hc:(n.2.2.1.getD i po0).2.1=k
   ·have z1:qh3 n p k i=max 0 (prate p i):=if_pos hc;have z2:qeQ n p k i=max 0 (0-prate p i):=if_pos hc;have hc':((n.2.2.1.getD i ([],(0,0))).2).1=k:=hc;rw[dec_t hc',z9,z7,wi (show -9223372036854775808<=0-prate p i/\0-prate p i<=9223372036854775807 by omega),<-z1,<-z2,wi (by omega),wi (by omega),Int.add_assoc,Int.add_assoc]
   ·have z1:qh3 n p k i=0:=if_neg hc;have z2:qeQ n p k i=0:=if_neg hc;have hc':¬((n.2.2.1.getD i ([],(0,0))).2).1=k:=hc;rw[dec_f hc',za,z7,z1,z2,zE2,zE2]
  ·show qc3 n p k _ _ ((n.2.2.1.length:Nat):Int)=_;unfold qc3;rw[dec_f (by omega)]; rfl
 rw[e2]; rfl
/-! ### The order -/
def blk(n:Net)(p:Pl)(there:List Bool)(k:Nat)(i:Nat):Bool:=!decide (rate p i=0)&&(decide (tow n p i=(k:Int))&&!there.getD (frm n p i).toNat false)
def freeB(n:Net)(p:Pl)(there:List Bool)(k:Nat):Bool:=!there.getD k false&&!(List.range n.2.1.length).any (blk n p there k)
def nextF(n:Net)(p:Pl)(there:List Bool):Option Nat:=(List.range n.1.length).find? (freeB n p there)
def topo(n:Net)(p:Pl):Nat->List Bool->List Int
 | 0,_=>[]
 | f+1,there=>match nextF n p there with
  | none=>[]
  | some k=>(k:Int)::topo n p f (there.set k true)
def ordL(n:Net)(p:Pl):List Int:=topo n p n.1.length (List.replicate n.1.length false)
theorem qAA(f:Nat):∀there,(topo n p f there).length<=f:=by
 induction f with
 | zero=>intro _; exact zX _
 | succ f ih=>
  intro there;unfold topo;split
  ·exact zw1 _
  ·rw[zq]; have:=ih (there.set (by assumption) true); omega
theorem quJ{there:List Bool}(h:∀j,j<n.1.length->freeB n p there j=false):nextF n p there=none:=by
 unfold nextF;rw[List.find?_eq_none]
 intro x hx;rw[h x (zK.1 hx)]; simp
theorem qxB{q:Nat->Bool}{k m:Nat}(hk:k<m)(h:∀j,j<k->q j=false)(hq:q k=true):(List.range m).find? q=some k:=by
 rw[List.find?_range_eq_some]
 refine⟨hq,zK.2 hk,fun j hj=>?_⟩
 rw[h j hj]; rfl
theorem qyY{there:List Bool}{k:Nat}(hk:k<n.1.length)(h:∀j,j<k->freeB n p there j=false)(hq:freeB n p there k=true):nextF n p there=some k:=qxB hk h hq
theorem qoV{there:List Bool}(h:nextF n p there=none):∀f,topo n p f there=[]
 | 0=>rfl
 | f+1=>by unfold topo; rw[h]
theorem count_set{l:List Bool}{k:Nat}(hk:k<l.length)(h:l.getD k false=false):(l.set k true).count false+1=l.count false:=by
 rw[gD_eq hk] at h;have:=List.count_set (l:=l) (a:=true) (b:=false) hk;rw[this,h];have:0<l.count false:=List.count_pos_iff.2 (h ▸ zX2 hk);simp; omega
theorem quK{l:List Bool}{k:Nat}(hk:k<l.length)(h:l.getD k false=false):0<l.count false:=by
 have:=count_set hk h; omega
theorem qwN(hn:VNet n)(h1:p.1.length=n.2.1.length){there:List Bool}(ht:there.length=n.1.length)(k:Nat)(out:List Int):
  iter (fun x=>qb3 n p (k:Int) x.1 x.2.1 x.2.2) (0,out,there)=some (bif (List.range n.2.1.length).any (blk n p there k) then .inl (out,there) else .inr (out,there)):=by
 have hs:=hn.small.sg;have:=qa2 (step:=fun x:Int×List Int×List Bool=>qb3 n p (k:Int) x.1 x.2.1 x.2.2) n.2.1.length (fun i=>((i:Int),out,there)) (fun i=>!blk n p there k i) (fin:=.inr (out,there)) (bad:=.inl (out,there)) (fun i hi _ hq=>?_) (fun i hi _ hq=>?_) (fun _=>?_)
 ·have e:(List.range n.2.1.length).all (fun i=>!blk n p there k i)=!(List.range n.2.1.length).any (blk n p there k):=by simp[zZ]
  rw[e] at this;refine Eq.trans this ?_
  cases(List.range n.2.1.length).any (blk n p there k) <;> rfl
 ·show qb3 n p (k:Int) (i:Int) out there=_;unfold qb3;have hf:=qwJ (p:=p) hn.kn hi;have ef:frm n p i=if p.1.getD i 0<0 then(n.2.1.getD i ([],(0,(0,(0,(0,(0,[]))))))).2.2.1 else(n.2.1.getD i ([],(0,(0,(0,(0,(0,[]))))))).2.1:=rfl
  have et:tow n p i=if p.1.getD i 0<0 then(n.2.1.getD i ([],(0,(0,(0,(0,(0,[]))))))).2.1 else(n.2.1.getD i ([],(0,(0,(0,(0,(0,[]))))))).2.2.1:=rfl
  have er:rate p i=p.1.getD i 0:=rfl;have hB:inB (i:Int) p.1.length=true:=inB_t (by omega)
  rw[dec_t (show(i:Int)<(n.2.1.length:Int) by omega),z9,gd_t (inB_t hi),gd_t hB,z8,qvU,z7,gd_t hB,<-ef,<-et,<-er,w1 hi (by omega),gd_t (qal.2 (by omega))]
  unfold blk at hq;simp only[Bool.not_and,z31] at hq;cases hr:decide (rate p i=0) with
  | true=>simp only[zd,za,z7]
  | false=>
   rw[hr] at hq;simp only[z91,z9];cases ht2:decide (tow n p i=(k:Int)) with
   | false=>simp only[za,z7]
   | true=>
    rw[ht2] at hq;simp only[zf2,zd] at hq;simp only[z9,hq,zd,z7,za]
 ·show qb3 n p (k:Int) (i:Int) out there=_;unfold qb3;have hf:=qwJ (p:=p) hn.kn hi;have ef:frm n p i=if p.1.getD i 0<0 then(n.2.1.getD i ([],(0,(0,(0,(0,(0,[]))))))).2.2.1 else(n.2.1.getD i ([],(0,(0,(0,(0,(0,[]))))))).2.1:=rfl
  have et:tow n p i=if p.1.getD i 0<0 then(n.2.1.getD i ([],(0,(0,(0,(0,(0,[]))))))).2.1 else(n.2.1.getD i ([],(0,(0,(0,(0,(0,[]))))))).2.2.1:=rfl
  have er:rate p i=p.1.getD i 0:=rfl;have hB:inB (i:Int) p.1.length=true:=inB_t (by omega)
  rw[dec_t (show(i:Int)<(n.2.1.length:Int) by omega),z9,gd_t (inB_t hi),gd_t hB,z8,qvU,z7,gd_t hB,<-ef,<-et,<-er,gd_t (qal.2 (by omega))]
  have hq':blk n p there k i=true:=by revert hq; cases blk n p there k i <;> simp
  unfold blk at hq';rw[zb,zb] at hq';obtain⟨a,b,c⟩:=hq';rw[a,b,c]; rfl
 ·show qb3 n p (k:Int) ((n.2.1.length:Nat):Int) out there=_;unfold qb3;rw[dec_f (by omega)]; rfl
theorem qAB(hn:VNet n)(h1:p.1.length=n.2.1.length):∀(f:Nat) (there:List Bool) (out:List Int),there.length=n.1.length->there.count false<=f->out.length+f<=100->∀m k:Nat,k+m=n.1.length->(∀j,j<k->freeB n p there j=false)->
  iter (fun x=>qaV n p x.1 x.2.1 x.2.2) ((k:Int),out,there)=some (out++topo n p f there):=by
 have hN:=hn.small.no;intro f;induction f with
 | zero=>
  intro there out ht hc ho m;induction m with
  | zero=>
   intro k hk hf;rw[qb0 (e:=out) (by show qaV n p ((k:Nat):Int) out there=_; unfold qaV; rw[dec_f (by omega)]; rfl),qoV (quJ fun j hj=>hf j (by omega)),z51]
  | succ m ih=>
   intro k hk hf;have hk':k<n.1.length:=by omega
   have hth:there.getD k false=true:=by
    cases hg:there.getD k false with
    | true=>rfl
    | false=>have:=quK (by omega) hg; omega
   have hfk:freeB n p there k=false:=by unfold freeB; rw[hth]; rfl
   rw[qcW (y:=(((k+1:Nat):Int),out,there)) (by
    show qaV n p ((k:Nat):Int) out there=_; unfold qaV;rw[dec_t (by omega),z9,gd_t (inB_t (by omega)),z8,hth,z9,z7,w1 hk' (by omega)])]
   refine ih (k+1) (by omega) fun j hj=>?_
   rcases zj2 j k with h | h
   ·exact hf j h
   ·rw[show j=k by omega]; exact hfk
 | succ f ihf=>
  intro there out ht hc ho m;induction m with
  | zero=>
   intro k hk hf;rw[qb0 (e:=out) (by show qaV n p ((k:Nat):Int) out there=_; unfold qaV; rw[dec_f (by omega)]; rfl),qoV (quJ fun j hj=>hf j (by omega)),z51]
  | succ m ih=>
   intro k hk hf;have hk':k<n.1.length:=by omega
   have go:freeB n p there k=false->∀j,j<k+1->freeB n p there j=false:=fun hfk j hj=>by
    rcases zj2 j k with h | h
    ·exact hf j h
    ·rw[show j=k by omega]; exact hfk
   cases hth:there.getD k false with
   | true=>
    have hfk:freeB n p there k=false:=by unfold freeB; rw[hth]; rfl
    rw[qcW (y:=(((k+1:Nat):Int),out,there)) (by
     show qaV n p ((k:Nat):Int) out there=_; unfold qaV;rw[dec_t (by omega),z9,gd_t (inB_t (by omega)),z8,hth,z9,z7,w1 hk' (by omega)])]
    exact ih (k+1) (by omega) (go hfk)
   | false=>
    cases hb:(List.range n.2.1.length).any (blk n p there k) with
    | true=>
     have hfk:freeB n p there k=false:=by unfold freeB; rw[hth,hb]; rfl
     rw[qcW (y:=(((k+1:Nat):Int),out,there)) (by
      show qaV n p ((k:Nat):Int) out there=_; unfold qaV;rw[dec_t (by omega),z9,gd_t (inB_t (by omega)),z8,hth,za,qwN hn h1 ht k out,hb,z7,z9,z21,z7,w1 hk' (by omega)])]
     exact ih (k+1) (by omega) (go hfk)
    | false=>
     have hfk:freeB n p there k=true:=by unfold freeB; rw[hth,hb]; rfl
     rw[qcW (y:=((0:Int),out++[(k:Int)],there.set k true)) (by
      show qaV n p ((k:Nat):Int) out there=_; unfold qaV;rw[dec_t (by omega),z9,gd_t (inB_t (by omega)),z8,hth,za,qwN hn h1 ht k out,hb,z7,za,Sum.elim_inr,gd_t (inB_t (by show k<there.length; omega)),gd_t (qae (by show(out.length+1)*8<=_; omega))]; rfl)]
     have hcs:=count_set (l:=there) (k:=k) (by omega) hth
     have:=ihf (there.set k true) (out++[(k:Int)]) (by rw[zN]; exact ht) (by omega) (by rw[ze]; simp only[zq,zG]; omega) n.1.length 0 (by omega) (fun j hj=>by omega)
     refine Eq.trans this ?_
     rw[topo,qyY hk' hf hfk,zD]; rfl
theorem qyZ(hn:VNet n)(h1:p.1.length=n.2.1.length):qma n p=some (ordL n p):=by
 have hN:=hn.small.no;unfold qma;rw[gd_t (qhe (by omega)),z8]
 have:=qAB hn h1 n.1.length (List.replicate n.1.length false) [] (by simp) (by simp) (by simp; omega) n.1.length 0 (by omega) (fun j hj=>by omega)
 have this:iter (fun x=>qaV n p x.1 x.2.1 x.2.2) ((0:Int),[],List.replicate n.1.length false)=some (ordL n p):=this
 rw[this]; rfl
end
end Go.Proofs.YtgmjmgihjjddmaaGreat
namespace Go.Proofs.YtgmjmgihjjddmaaGreat
open Go Go.Sq
set_option linter.unusedVariables false
section
variable {n:Net} {p:Pl}
theorem qy0(hn:VNet n)(h1:p.1.length=n.2.1.length){there:List Bool}(ht:there.length=n.1.length)(k:Nat)(out:List Int):
  iter (fun x=>qcD n p (k:Int) x.1 x.2.1 x.2.2.1 x.2.2.2) (!there.getD k false,0,out,there)=some (freeB n p there k,out,there):=by
 have hs:=hn.small.sg;have:=qbe (step:=fun x:Bool×Int×List Int×List Bool=>qcD n p (k:Int) x.1 x.2.1 x.2.2.1 x.2.2.2) (e:=(freeB n p there k,out,there)) n.2.1.length (fun i=>(!there.getD k false&&!(List.range i).any (blk n p there k),(i:Int),out,there)) (fun i hi=>?_) ?_
 ·refine Eq.trans ?_ this
  simp only[List.range_zero,List.any_nil,z91,zI2]; rfl
 ·show qcD n p (k:Int) (!there.getD k false&&!(List.range i).any (blk n p there k)) (i:Int) out there=some (.inl (!there.getD k false&&!(List.range (i+1)).any (blk n p there k),((i+1:Nat):Int),out,there));unfold qcD;have hf:=qwJ (p:=p) hn.kn hi;have ef:frm n p i=if p.1.getD i 0<0 then(n.2.1.getD i ([],(0,(0,(0,(0,(0,[]))))))).2.2.1 else(n.2.1.getD i ([],(0,(0,(0,(0,(0,[]))))))).2.1:=rfl
  have et:tow n p i=if p.1.getD i 0<0 then(n.2.1.getD i ([],(0,(0,(0,(0,(0,[]))))))).2.1 else(n.2.1.getD i ([],(0,(0,(0,(0,(0,[]))))))).2.2.1:=rfl
  have er:rate p i=p.1.getD i 0:=rfl;have hB:inB (i:Int) p.1.length=true:=inB_t (by omega)
  have hT:inB (frm n p i) there.length=true:=qal.2 (by omega)
  rw[dec_t (show(i:Int)<(n.2.1.length:Int) by omega),z9,gd_t (inB_t hi),gd_t hB,z8,qwM,w1 hi (by omega),List.range_succ,List.any_append]
  simp only[z7,gd_t hB];rw[<-ef,<-et,<-er];simp only[gd_t hT,List.any_cons,List.any_nil,Bool.or_false];generalize hz:(List.range i).any (blk n p there k)=Z;rw[show blk n p there k i=(!decide (rate p i=0)&&(decide (tow n p i=(k:Int))&&!there.getD (frm n p i).toNat false)) from rfl]
  cases there.getD k false <;> cases Z <;> cases decide (rate p i=0) <;> cases decide (tow n p i=(k:Int)) <;> cases there.getD (frm n p i).toNat false <;> rfl
 ·show qcD n p (k:Int) _ ((n.2.1.length:Nat):Int) out there=_;unfold qcD;rw[dec_f (by omega)]; rfl
def nx(n:Net)(p:Pl)(there:List Bool)(v:Nat):Int:=match(List.range v).find? (freeB n p there) with
 | none=>-1
 | some k=>(k:Int)
theorem qB3{there:List Bool}{v:Nat}:nx n p there (v+1)=if nx n p there v<0/\freeB n p there v=true then(v:Int) else nx n p there v:=by
 unfold nx;rw[List.range_succ,List.find?_append]
 cases h:(List.range v).find? (freeB n p there) with
 | some k=>simp only[Option.some_or]; rw[if_neg (by omega)]
 | none=>
  simp only[Option.none_or];cases hf:freeB n p there v with
  | true=>simp[List.find?_cons,hf]
  | false=>simp[List.find?_cons,hf]
theorem qps(hn:VNet n)(h1:p.1.length=n.2.1.length){there:List Bool}(ht:there.length=n.1.length)(out:List Int):
  iter (fun x=>qcE n p x.1 x.2.1 x.2.2.1 x.2.2.2) (-1,0,out,there)=some (nx n p there n.1.length,out,there):=by
 have hs:=hn.small.no;refine qbe (step:=fun x:Int×Int×List Int×List Bool=>qcE n p x.1 x.2.1 x.2.2.1 x.2.2.2) n.1.length (fun i=>(nx n p there i,(i:Int),out,there)) (fun i hi=>?_) ?_
 ·show qcE n p (nx n p there i) (i:Int) out there=some (.inl (nx n p there (i+1),((i+1:Nat):Int),out,there));unfold qcE;rw[dec_t (show(i:Int)<(n.1.length:Int) by omega),z9,gd_t (inB_t (by omega)),z8,qy0 hn h1 ht i out,z7,w1 hi (by omega),qB3]
  simp only;cases hf:freeB n p there i with
  | false=>rw[if_neg (by simp)]; rfl
  | true=>
   simp only[z9,z7];by_cases h:nx n p there i<0
   ·rw[dec_t h,if_pos ⟨h,trivial⟩]; rfl
   ·rw[dec_f h,if_neg (fun hh=>h hh.1)]; rfl
 ·show qcE n p (nx n p there n.1.length) ((n.1.length:Nat):Int) out there=_;unfold qcE;rw[dec_f (by omega)]; rfl
theorem quL{there:List Bool}{k:Nat}(h:nextF n p there=some k):k<n.1.length/\there.getD k false=false:=by
 unfold nextF at h;have h1:=List.mem_of_find?_eq_some h
 have h2:=List.find?_some h
 refine⟨zK.1 h1,?_⟩
 unfold freeB at h2;cases hg:there.getD k false with
 | false=>rfl
 | true=>rw[hg] at h2; cases h2
theorem qxC(hn:VNet n)(h1:p.1.length=n.2.1.length):∀(f:Nat) (there:List Bool) (out:List Int),there.length=n.1.length->there.count false<=f->out.length+f<=100->
  iter (fun x=>qcb n p x.1 x.2) (out,there)=some (out++topo n p f there):=by
 intro f;induction f with
 | zero=>
  intro there out ht hc ho;have hnone:nextF n p there=none:=by
   cases h:nextF n p there with
   | none=>rfl
   | some k=>have:=quL h; have:=quK (by omega) this.2; omega
  rw[qb0 (e:=out) (by
   show qcb n p out there=_; unfold qcb;rw[qps hn h1 ht out,z7,show nx n p there n.1.length=-1 by unfold nx; unfold nextF at hnone; rw[hnone]]; rfl),qoV hnone,z51]
 | succ f ih=>
  intro there out ht hc ho;cases h:nextF n p there with
  | none=>
   rw[qb0 (e:=out) (by
    show qcb n p out there=_; unfold qcb;rw[qps hn h1 ht out,z7,show nx n p there n.1.length=-1 by unfold nx; unfold nextF at h; rw[h]]; rfl),qoV h,z51]
  | some k=>
   have hk:=quL h;rw[qcW (y:=(out++[(k:Int)],there.set k true)) (by
    show qcb n p out there=_; unfold qcb;rw[qps hn h1 ht out,z7,show nx n p there n.1.length=(k:Int) by unfold nx; unfold nextF at h; rw[h]]
    simp only;rw[dec_f (by omega),za,gd_t (qae (by omega)),gd_t (inB_t (by omega)),z8])]
   have hcs:=count_set (l:=there) (k:=k) (by omega) hk.2
   rw[ih (there.set k true) (out++[(k:Int)]) (by rw[zN]; exact ht) (by omega) (by rw[ze]; simp only[zq,zG]; omega),topo,h,zD]; rfl
theorem qy1(hn:VNet n)(h1:p.1.length=n.2.1.length):qj4 n p=some (ordL n p):=by
 have hN:=hn.small.no;unfold qj4;rw[gd_t (qhe (by omega)),z8]
 have:=qxC hn h1 n.1.length (List.replicate n.1.length false) [] (by simp) (by simp) (by simp; omega)
 rw[this]; rfl
/-! ### Checks -/
def szB(n:Net)(p:Pl):Bool:=decide (p.1.length=n.2.1.length)&&(decide (p.2.1.length=n.2.2.1.length)&&decide (p.2.2.length=n.2.2.2.1.length))
def rtB(n:Net)(p:Pl)(i:Nat):Bool:=rg (0-min 1000 (n.2.1.getD i sg0).2.2.2.1) (min 1000 (n.2.1.getD i sg0).2.2.2.1) (rate p i)
def qpM(n:Net)(p:Pl):Bool:=(List.range n.2.1.length).all (rtB n p)
def qlY(p:Pl):Bool:=p.2.1.all (rg (-1000) 1000)
def balB(n:Net)(p:Pl):Bool:=(List.range n.1.length).all fun k=>decide (comeF n p (k:Int)=qlW n p (k:Int))
def qbd(n:Net)(p:Pl):Int:=if qbZ n≠0 then qbZ n else
 bif szB n p then(bif qpM n p&&qlY p then(bif balB n p then(bif Nat.beq (ordL n p).length n.1.length then 0 else 13) else 12) else 1) else 9
theorem qrC:szB n p=true↔p.1.length=n.2.1.length/\p.2.1.length=n.2.2.1.length/\p.2.2.length=n.2.2.2.1.length:=by
 unfold szB; simp only[zb,zz]
theorem qlZ{a b x:Int}:rg a b x=true↔a<=x/\x<=b:=by unfold rg; rw[zb,zz,zz]
theorem qvV(hn:VNet n){i:Nat}(hi:i<n.2.1.length):1<=(n.2.1.getD i sg0).2.2.2.1/\(n.2.1.getD i sg0).2.2.2.1<=1000000:=by
 have h:=hn.pr;unfold prB at h;rw[zb,zt] at h;have:=h.1 _ (qaY (d:=sg0) hi);unfold pipeB at this;simp only[zb] at this;exact qlZ.1 this.1.2.1
theorem RB.of(hs:szB n p=true)(h1:qpM n p=true)(h2:qlY p=true):RB p:=by
 obtain⟨s1,s2,s3⟩:=qrC.1 hs;refine⟨fun i=>?_,fun i=>?_⟩
 ·rcases zj2 i p.1.length with h | h
  ·have:=zt.1 h1 i (zK.2 (by omega))
   unfold rtB at this;rw[qlZ] at this; omega
  ·unfold rate; rw[qsu h]; omega
 ·rcases zj2 i p.2.1.length with h | h
  ·have:=zt.1 h2 _ (qaY (d:=0) h);rw[qlZ] at this; unfold prate; omega
  ·unfold prate; rw[qsu h]; omega
theorem qrD(r m:Int)(h:0<=m/\m<=1000000):qhr r m=some (rg (0-m) m r):=by
 unfold qhr rg;rw[wi (by omega)]
 cases decide (0-m<=r) <;> rfl
theorem qAC(hn:VNet n){k:Int}(h:¬(0<=k/\k<n.1.length)):comeF n p k=0/\qlW n p k=0:=by
 have a1:sumTo (segIn n p k) n.2.1.length=0:=qjA _ fun i hi=>if_neg fun(e:tow n p i=k)=>h (e ▸ qCS (p:=p) hn.kn hi)
 have a2:sumTo (qcm n p k) n.2.1.length=0:=qjA _ fun i hi=>if_neg fun(e:frm n p i=k)=>h (e ▸ qwJ (p:=p) hn.kn hi)
 have a3:sumTo (qh3 n p k) n.2.2.1.length=0:=qjA _ fun i hi=>if_neg fun(e:(n.2.2.1.getD i po0).2.1=k)=>h (e ▸ hn.kn.p i hi)
 have a4:sumTo (qeQ n p k) n.2.2.1.length=0:=qjA _ fun i hi=>if_neg fun(e:(n.2.2.1.getD i po0).2.1=k)=>h (e ▸ hn.kn.p i hi)
 unfold comeF qlW;rw[a1,a2,a3,a4]; exact⟨rfl,rfl⟩
theorem bal24(hn:VNet n):((List.range 24).all fun i=>decide (((m24 fun k=>comeF n p k).getD i 0)=((m24 fun k=>qlW n p k).getD i 0)))=balB n p:=by
 unfold balB;rw[zQ,zt,zt];constructor
 ·intro h k hk;have hk:=zK.1 hk;have:=h k (zK.2 (by have:=hn.small.no; omega))
  rwa[qiX _ (by have:=hn.small.no; omega),qiX _ (by have:=hn.small.no; omega)] at this
 ·intro h k hk;have hk:=zK.1 hk;rw[qiX _ hk,qiX _ hk];by_cases hl:k<n.1.length
  ·exact h k (zK.2 hl)
  ·have:=qAC (p:=p) hn (k:=(k:Int)) (by omega)
   rw[this.1,this.2]; rfl
theorem qaL(n:Net):(n.1,(n.2.1,(n.2.2.1,(n.2.2.2.1,(n.2.2.2.2.1,n.2.2.2.2.2)))))=n:=rfl
theorem qCT:(ordL n p).length<=n.1.length:=qAA _ _
theorem qiH(n:Net)(p:Pl):qfx n p=some (qbd n p):=by
 unfold qfx qbd;rw[qh2,z7];by_cases h0:qbZ n=0
 ·rw[if_neg (fun h=>h h0),dec_t h0,zd,za]
  have hn:=VNet.of h0;have es:(
    bif !decide ((p.1.length:Int)=(n.2.1.length:Int)) then some true
    else bif !decide ((p.2.1.length:Int)=(n.2.2.1.length:Int)) then some true
    else some (!decide ((p.2.2.length:Int)=(n.2.2.2.1.length:Int))))=some (!szB n p):=by
   unfold szB;rw[show decide ((p.1.length:Int)=(n.2.1.length:Int))=decide (p.1.length=n.2.1.length) by congr 1; rw[Int.natCast_inj],
    show decide ((p.2.1.length:Int)=(n.2.2.1.length:Int))=decide (p.2.1.length=n.2.2.1.length) by congr 1; rw[Int.natCast_inj],
    show decide ((p.2.2.length:Int)=(n.2.2.2.1.length:Int))=decide (p.2.2.length=n.2.2.2.1.length) by congr 1; rw[Int.natCast_inj]]
   cases decide (p.1.length=n.2.1.length) <;> cases decide (p.2.1.length=n.2.2.1.length) <;> cases decide (p.2.2.length=n.2.2.2.1.length) <;> rfl
  rw[es,z7];cases hz:szB n p with
  | false=>rfl
  | true=>
   obtain⟨s1,s2,s3⟩:=qrC.1 hz;have m1:=hn.small.sg;have m2:=hn.small.po;simp only[zd,za,z9];have e1:iter (fun x=>qgR n p x) 0=some (bif qpM n p then .inl () else .inr 1):=by
    refine qa2 (step:=fun x=>qgR n p x) n.2.1.length (fun i=>(i:Int)) (rtB n p) (fin:=.inl ()) (bad:=.inr 1) (fun i hi _ hq=>?_) (fun i hi _ hq=>?_) (fun _=>?_)
    all_goals unfold qgR
    ·have hc:=qvV hn hi;have e:((((n.2.1.getD i ([],(0,(0,(0,(0,(0,[]))))))).2).2).2).1=(n.2.1.getD i sg0).2.2.2.1:=rfl;have e':p.1.getD i 0=rate p i:=rfl;rw[dec_t (show(i:Int)<(n.2.1.length:Int) by omega),z9,gd_t (inB_t hi),gd_t (inB_t (show i<p.1.length by omega)),z8,e,e',qrD _ _ (by omega),z7]
     unfold rtB at hq;rw[hq,w1 hi (by omega)]; rfl
    ·have hc:=qvV hn hi;have e:((((n.2.1.getD i ([],(0,(0,(0,(0,(0,[]))))))).2).2).2).1=(n.2.1.getD i sg0).2.2.2.1:=rfl;have e':p.1.getD i 0=rate p i:=rfl;rw[dec_t (show(i:Int)<(n.2.1.length:Int) by omega),z9,gd_t (inB_t hi),gd_t (inB_t (show i<p.1.length by omega)),z8,e,e',qrD _ _ (by omega),z7]
     unfold rtB at hq;rw[hq]; rfl
    ·rw[dec_f (by omega)]; rfl
   rw[e1,z7];cases hr:qpM n p with
   | false=>rfl
   | true=>
    simp only[z9,z21,zF];rw[qnz p.2.1 (fun x=>!rg (-1000) 1000 x) _ (fun x _=>by
     show(qig x).bind _=_;unfold qig;rw[qrD _ _ (by omega)]; rfl) (by omega),z7]
    have ep:(p.2.1.any fun x=>!rg (-1000) 1000 x)=!qlY p:=by unfold qlY; simp[zZ]
    rw[ep];cases hq:qlY p with
    | false=>rfl
    | true=>
     simp only[zd,za,z9];rw[show((p.1,(p.2.1,p.2.2)):Pl)=p from rfl,qaL,qwL hn (RB.of hz hr hq) s1 s2,z7,bal24 hn]
     cases hb:balB n p with
     | false=>rfl
     | true=>
      simp only[zd,za,z9];rw[qyZ hn s1,z7];have:=qCT (n:=n) (p:=p);cases ho:Nat.beq (ordL n p).length n.1.length with
      | true=>have:=zc ho; rw[dec_f (by omega)]; rfl
      | false=>
       have:(ordL n p).length≠n.1.length:=fun e=>by rw[e,zO2] at ho; cases ho
       rw[dec_t (by omega)]; rfl
 ·rw[if_pos h0,dec_f h0]; rfl
end
end Go.Proofs.YtgmjmgihjjddmaaGreat
namespace Go.Proofs.YtgmjmgihjjddmaaGreat
open Go Go.Sq
set_option linter.unusedVariables false
section
variable {n:Net} {p:Pl}
theorem natdec(a b:Nat):decide ((a:Int)=(b:Int))=decide (a=b):=by congr 1; rw[Int.natCast_inj]
theorem qmy(n:Net)(p:Pl):qeM n p=some (qbd n p):=by
 unfold qeM qbd;rw[qaL,qfK,z7];by_cases h0:qbZ n=0
 ·rw[if_neg (fun h=>h h0),dec_t h0,zd,za]
  have hn:=VNet.of h0;have es:(
    bif !decide ((p.1.length:Int)=(n.2.1.length:Int)) then some true
    else bif !decide ((p.2.1.length:Int)=(n.2.2.1.length:Int)) then some true
    else some (!decide ((p.2.2.length:Int)=(n.2.2.2.1.length:Int))))=some (!szB n p):=by
   unfold szB;rw[natdec,natdec,natdec];cases decide (p.1.length=n.2.1.length) <;> cases decide (p.2.1.length=n.2.2.1.length) <;> cases decide (p.2.2.length=n.2.2.2.1.length) <;> rfl
  rw[es,z7];cases hz:szB n p with
  | false=>rfl
  | true=>
   obtain⟨s1,s2,s3⟩:=qrC.1 hz;have m1:=hn.small.sg;have m2:=hn.small.po;simp only[zd,za,z9];have key:∀i,i<n.2.1.length->(bif decide (p.1.getD i 0<wi64 (0-(min 1000 (((((n.2.1.getD i ([],(0,(0,(0,(0,(0,[]))))))).2).2).2).1)))) then some true
     else some (decide (min 1000 (((((n.2.1.getD i ([],(0,(0,(0,(0,(0,[]))))))).2).2).2).1)<p.1.getD i 0)))=some (!rtB n p i):=by
    intro i hi;have hc:=qvV hn hi;have e:((((n.2.1.getD i ([],(0,(0,(0,(0,(0,[]))))))).2).2).2).1=(n.2.1.getD i sg0).2.2.2.1:=rfl;rw[e,wi (by omega)]
    unfold rtB rg rate;by_cases a:p.1.getD i 0<0-min 1000 (n.2.1.getD i sg0).2.2.2.1
    ·rw[dec_t a,dec_f (show ¬(0-min 1000 (n.2.1.getD i sg0).2.2.2.1<=p.1.getD i 0) by omega)]; rfl
    ·rw[dec_f a,dec_t (show(0-min 1000 (n.2.1.getD i sg0).2.2.2.1<=p.1.getD i 0) by omega),za,zF]
     by_cases b:min 1000 (n.2.1.getD i sg0).2.2.2.1<p.1.getD i 0
     ·rw[dec_t b,dec_f (by omega)]; rfl
     ·rw[dec_f b,dec_t (by omega)]; rfl
   have e1:iter (fun x=>qfZ n p x) 0=some (bif qpM n p then .inl () else .inr 1):=by
    unfold qpM;rw[<-s1];refine qa2 (step:=fun x=>qfZ n p x) p.1.length (fun i=>(i:Int)) (rtB n p) (fin:=.inl ()) (bad:=.inr 1) (fun i hi _ hq=>?_) (fun i hi _ hq=>?_) (fun _=>?_)
    all_goals unfold qfZ
    ·rw[dec_t (show(i:Int)<(p.1.length:Int) by omega),z9,gd_t (inB_t hi),gd_t (inB_t (show i<n.2.1.length by omega)),z8,key i (by omega),hq,z7,w1 hi (by omega)]; rfl
    ·rw[dec_t (show(i:Int)<(p.1.length:Int) by omega),z9,gd_t (inB_t hi),gd_t (inB_t (show i<n.2.1.length by omega)),z8,key i (by omega),hq,z7]; rfl
    ·rw[dec_f (by omega)]; rfl
   rw[e1,z7];cases hr:qpM n p with
   | false=>rfl
   | true=>
    simp only[z9,z21,zF];have key2:∀x:Int,(bif decide (x < -1000) then some true else some (decide (1000<x)))=some (!rg (-1000) 1000 x):=by
     intro x;unfold rg;by_cases a:x < -1000
     ·rw[dec_t a,dec_f (show ¬(-1000<=x) by omega)]; rfl
     ·rw[dec_f a,dec_t (show -1000<=x by omega),za,zF]
      by_cases b:1000<x
      ·rw[dec_t b,dec_f (by omega)]; rfl
      ·rw[dec_f b,dec_t (by omega)]; rfl
    have e2:iter (fun x2=>qf0 p x2) 0=some (bif qlY p then .inl () else .inr 1):=by
     refine scanL (step:=fun x2=>qf0 p x2) p.2.1 0 (rg (-1000) 1000) (bad:=1) (fun i hi hq=>?_) (fun i hi hq=>?_) ?_
     all_goals unfold qf0
     ·rw[dec_t (show(i:Int)<(p.2.1.length:Int) by omega),z9,gd_t (inB_t hi),z8,key2,hq,z7,w1 hi (by omega)]; rfl
     ·rw[dec_t (show(i:Int)<(p.2.1.length:Int) by omega),z9,gd_t (inB_t hi),z8,key2,hq,z7]; rfl
     ·rw[dec_f (by omega)]; rfl
    rw[e2,z7];cases hq:qlY p with
    | false=>rfl
    | true=>
     simp only[z9,z21];have hp:=RB.of hz hr hq;have e3:iter (fun x3=>qf1 n p x3) 0=some (bif balB n p then .inl () else .inr 12):=by
      refine qa2 (step:=fun x=>qf1 n p x) n.1.length (fun i=>(i:Int)) (fun k=>decide (comeF n p (k:Int)=qlW n p (k:Int))) (fin:=.inl ()) (bad:=.inr 12) (fun i hi _ hq=>?_) (fun i hi _ hq=>?_) (fun _=>?_)
      all_goals unfold qf1
      ·rw[dec_t (show(i:Int)<(n.1.length:Int) by omega),z9,qaL,show((p.1,(p.2.1,p.2.2)):Pl)=p from rfl,qtG hp m1 m2 s1 s2,z7]
       simp only;rw[hq,w1 hi (by have:=hn.small.no; omega)]; rfl
      ·rw[dec_t (show(i:Int)<(n.1.length:Int) by omega),z9,qaL,show((p.1,(p.2.1,p.2.2)):Pl)=p from rfl,qtG hp m1 m2 s1 s2,z7]
       simp only;rw[hq]; rfl
      ·rw[dec_f (by omega)]; rfl
     rw[e3,z7];cases hb:balB n p with
     | false=>rfl
     | true=>
      simp only[z9,z21];rw[show((p.1,(p.2.1,p.2.2)):Pl)=p from rfl,qy1 hn s1,z7,natdec]
      cases ho:Nat.beq (ordL n p).length n.1.length with
      | true=>have:=zc ho; rw[dec_t this]; rfl
      | false=>
       have:(ordL n p).length≠n.1.length:=fun e=>by rw[e,zO2] at ho; cases ho
       rw[dec_f this]; rfl
 ·rw[if_pos h0,dec_f h0]; rfl
structure VPl(n:Net)(p:Pl):Prop where
 net:qbZ n=0
 sz:szB n p=true
 rt:qpM n p=true
 pr:qlY p=true
theorem VPl.of(h:qbd n p=0):VPl n p:=by
 unfold qbd at h;by_cases h0:qbZ n=0
 ·rw[if_neg (fun h=>h h0)] at h
  obtain⟨h1,h⟩:=qpL (by decide) h
  obtain⟨h2,h⟩:=qpL (by decide) h
  rw[zb] at h2;exact⟨h0,h1,h2.1,h2.2⟩
 ·rw[if_pos h0] at h; exact absurd h h0
theorem VPl.rb(h:VPl n p):RB p:=RB.of h.sz h.rt h.pr
theorem VPl.len(h:VPl n p):p.1.length=n.2.1.length/\p.2.1.length=n.2.2.1.length/\p.2.2.length=n.2.2.2.1.length:=qrC.1 h.sz
def thr(n:Net)(p:Pl)(k:Int):Int×Int:=if qbd n p≠0 then(0,qbd n p) else bif kn n k then(comeF n p k,0) else(0,8)
theorem knD(n:Net)(k:Int):(bif decide (k<0) then some true else some (decide ((n.1.length:Int)<=k)))=some (!kn n k):=by
 unfold kn;by_cases a:k<0
 ·rw[dec_t a,dec_f (show ¬0<=k by omega)]; rfl
 ·rw[dec_f a,dec_t (show 0<=k by omega),za,zF]
  by_cases b:(n.1.length:Int)<=k
  ·rw[dec_t b,dec_f (by omega)]; rfl
  ·rw[dec_f b,dec_t (by omega)]; rfl
theorem qCU(n:Net)(p:Pl)(k:Int):qih n p k=some (thr n p k):=by
 unfold qih thr;rw[qaL,show((p.1,(p.2.1,p.2.2)):Pl)=p from rfl,qiH,z7]
 by_cases h:qbd n p=0
 ·rw[dec_t h,if_neg (fun e=>e h),zd,za,knD,z7]
  have hv:=VPl.of h;have hn:=VNet.of hv.net;cases hk:kn n k with
  | false=>rfl
  | true=>
   have hk:=qsx.1 hk;have:=hn.small.no;obtain⟨k',rfl⟩:∃k':Nat,k=(k':Int):=⟨k.toNat,by omega⟩
   simp only[zd,za,z9];rw[qwL hn hv.rb hv.len.1 hv.len.2.1,z7,gd_t (inB_t (by omega)),z8]
   simp only;rw[qiX _ (by omega)]
 ·rw[dec_f h,if_pos h]; rfl
theorem qy2(n:Net)(p:Pl)(k:Int):qg3 n p k=some (thr n p k):=by
 unfold qg3 thr;rw[qaL,show((p.1,(p.2.1,p.2.2)):Pl)=p from rfl,qmy,z7]
 by_cases h:qbd n p=0
 ·rw[dec_t h,if_neg (fun e=>e h),zd,za,knD,z7]
  have hv:=VPl.of h;have hn:=VNet.of hv.net;cases hk:kn n k with
  | false=>rfl
  | true=>
   simp only[zd,za,z9];rw[qtG hv.rb hn.small.sg hn.small.po hv.len.1 hv.len.2.1,z7]
 ·rw[dec_f h,if_pos h]; rfl
/-! ### Lineups -/
def nz(l:List Int):List Bool:=l.map fun r=>!decide (r=0)
theorem qjB(l:List Int):(nz l).length=l.length:=zy1 ..
def need(p:Pl):List Bool:=nz p.1++nz p.2.1
theorem qvW{l:List Int}{i:Nat}(h:i<l.length):nz (l.take (i+1))=nz (l.take i)++[!decide (l.getD i 0=0)]:=by
 unfold nz; rw[qeY 0 h,zO1]; rfl
theorem qwO(l:List Int)(h:l.length<=1000000):qgi l=some (nz l):=by
 unfold qgi;have:=qbe (step:=fun x:Int×List Bool=>qci l x.1 x.2) (e:=nz l) l.length (fun i=>((i:Int),nz (l.take i))) (fun i hi=>?_) ?_
 ·have this:iter (fun x=>qci l x.1 x.2) ((0:Int),[])=some (nz l):=this
  rw[this]; rfl
 ·show qci l (i:Int) (nz (l.take i))=some (.inl (((i+1:Nat):Int),nz (l.take (i+1))));unfold qci;rw[dec_t (show(i:Int)<(l.length:Int) by omega),z9,gd_t (inB_t hi),gd_t (qae (by rw[qjB,zl]; omega)),z8,w1 hi (by omega),qvW hi]
 ·show qci l ((l.length:Nat):Int) (nz (l.take l.length))=_;unfold qci;rw[dec_f (by omega),zJ1]; rfl
theorem qwP(p:Pl)(h1:p.1.length<=1000000)(h2:p.2.1.length<=1000000):qfG p=some (nz p.1,nz p.2.1):=by
 unfold qfG;have e1:=qbe (step:=fun x:Int×List Bool=>qcF p x.1 x.2) (e:=nz p.1) p.1.length (fun i=>((i:Int),nz (p.1.take i))) (fun i hi=>?_) ?_
 ·have e1:iter (fun x=>qcF p x.1 x.2) ((0:Int),[])=some (nz p.1):=e1
  rw[e1,z7];have e2:=qbe (step:=fun x2:Int×List Bool×List Bool=>qcG p x2.1 x2.2.1 x2.2.2) (e:=(nz p.1,nz p.2.1)) p.2.1.length (fun i=>((i:Int),nz p.1,nz (p.2.1.take i))) (fun i hi=>?_) ?_
  ·have e2:iter (fun x2=>qcG p x2.1 x2.2.1 x2.2.2) ((0:Int),nz p.1,[])=some (nz p.1,nz p.2.1):=e2
   rw[e2]; rfl
  ·show qcG p (i:Int) (nz p.1) (nz (p.2.1.take i))=some (.inl (((i+1:Nat):Int),nz p.1,nz (p.2.1.take (i+1))));unfold qcG;rw[dec_t (show(i:Int)<(p.2.1.length:Int) by omega),z9,gd_t (inB_t hi),gd_t (qae (by rw[qjB,zl]; omega)),z8,w1 hi (by omega),qvW hi]
  ·show qcG p ((p.2.1.length:Nat):Int) (nz p.1) (nz (p.2.1.take p.2.1.length))=_;unfold qcG;rw[dec_f (by omega),zJ1]; rfl
 ·show qcF p (i:Int) (nz (p.1.take i))=some (.inl (((i+1:Nat):Int),nz (p.1.take (i+1))));unfold qcF;rw[dec_t (show(i:Int)<(p.1.length:Int) by omega),z9,gd_t (inB_t hi),gd_t (qae (by rw[qjB,zl]; omega)),z8,w1 hi (by omega),qvW hi]
 ·show qcF p ((p.1.length:Nat):Int) (nz (p.1.take p.1.length))=_;unfold qcF;rw[dec_f (by omega),zJ1]; rfl
theorem qy3(a b:List Bool)(h1:a.length<=1000000)(h2:b.length<=1000000):qjo (a,b)=some (a++b):=by
 unfold qjo;rw[gd_t (qae (by simp only; omega)),gd_t (qae (by simp only[zA]; omega))]; rfl
theorem qsy(a b:List Bool)(h1:a.length<=1000000)(h2:b.length<=1000000):qd6 (a,b)=some (a++b):=qy3 a b h1 h2
theorem qy4(n:Net)(p:Pl):qfy n p=some (if qbd n p≠0 then(qbd n p,[],[]) else(0,nz p.1,nz p.2.1)):=by
 unfold qfy;rw[qaL,qh2,z7,show((p.1,(p.2.1,p.2.2)):Pl)=p from rfl,qiH,z7]
 by_cases h0:qbZ n=0
 ·rw[dec_t h0,zd,za];by_cases h:qbd n p=0
  ·have hv:=VPl.of h;have hn:=VNet.of h0;have:=hv.len;have:=hn.small.sg;have:=hn.small.po;rw[dec_t h,if_neg (fun e=>e h),zd,za,qwO _ (by omega),z7,qwO _ (by omega)]; rfl
  ·rw[dec_f h,if_pos h]; rfl
 ·have e:qbd n p=qbZ n:=by unfold qbd; rw[if_pos h0]
  rw[dec_f h0,e,if_pos h0]; rfl
end
end Go.Proofs.YtgmjmgihjjddmaaGreat
