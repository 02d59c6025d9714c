/- Flows: what comes to the nodes and leaves them. No condition. -/
import Derived.Test.YtmdijohmddokhaaGreatDoorNk5
namespace Go.Proofs.YtmdijohmddokhaaGreatDoor
open Go Go.Sq
set_option linter.unusedVariables false
abbrev Pl:=List Int×List Int×List Bool
def sumTo(f:Nat->Int):Nat->Int
 | 0=>0
 | n+1=>sumTo f n+f n
theorem qek{f:Nat->Int}{b:Int}(h:∀i,0<=f i/\f i<=b):∀n:Nat,0<=sumTo f n/\sumTo f n<=b*n
 | 0=>⟨Int.le_refl _,by simp[sumTo]⟩
 | n+1=>by
  have h1:=qek h n;have h2:=h n;have e:b*((n+1:Nat):Int)=b*n+b:=by rw[Int.natCast_add,Int.mul_add]; simp
  rw[e];simp only[sumTo]; omega
theorem qel{f:Nat->Int}:∀n:Nat,(∀i,i<n->f i=0)->sumTo f n=0
 | 0,_=>rfl
 | n+1,h=>by simp only[sumTo]; rw[qel n fun i hi=>h i (by omega),h n (by omega)]; rfl
def rate(p:Pl)(i:Nat):Int:=p.1.getD i 0
def prate(p:Pl)(i:Nat):Int:=p.2.1.getD i 0
def frm(n:Net)(p:Pl)(i:Nat):Int:=if rate p i<0 then(n.2.1.getD i sg0).2.2.1 else(n.2.1.getD i sg0).2.1
def tow(n:Net)(p:Pl)(i:Nat):Int:=if rate p i<0 then(n.2.1.getD i sg0).2.1 else(n.2.1.getD i sg0).2.2.1
def amt(x:Int):Int:=max x (0-x)
def segIn(n:Net)(p:Pl)(k:Int)(i:Nat):Int:=if tow n p i=k then amt (rate p i) else 0
def qcj(n:Net)(p:Pl)(k:Int)(i:Nat):Int:=if frm n p i=k then amt (rate p i) else 0
def qhD(n:Net)(p:Pl)(k:Int)(i:Nat):Int:=if(n.2.2.1.getD i po0).2.1=k then max 0 (prate p i) else 0
def qeq(n:Net)(p:Pl)(k:Int)(i:Nat):Int:=if(n.2.2.1.getD i po0).2.1=k then max 0 (0-prate p i) else 0
def comeF(n:Net)(p:Pl)(k:Int):Int:=sumTo (segIn n p k) n.2.1.length+sumTo (qhD n p k) n.2.2.1.length
def qj3(n:Net)(p:Pl)(k:Int):Int:=sumTo (qcj n p k) n.2.1.length+sumTo (qeq n p k) n.2.2.1.length
structure RB(p:Pl):Prop where
 s:∀i,-1000<=rate p i/\rate p i<=1000
 q:∀i,-1000<=prate p i/\prate p i<=1000
section
variable {n:Net} {p:Pl}
theorem qpG(h:RB p)(k:Int)(i:Nat):0<=segIn n p k i/\segIn n p k i<=1000:=by
 have:=h.s i; unfold segIn amt; split <;> omega
theorem qmy(h:RB p)(k:Int)(i:Nat):0<=qcj n p k i/\qcj n p k i<=1000:=by
 have:=h.s i; unfold qcj amt; split <;> omega
theorem qsv(h:RB p)(k:Int)(i:Nat):0<=qhD n p k i/\qhD n p k i<=1000:=by
 have:=h.q i; unfold qhD; split <;> omega
theorem qqf(h:RB p)(k:Int)(i:Nat):0<=qeq n p k i/\qeq n p k i<=1000:=by
 have:=h.q i; unfold qeq; split <;> omega
end
structure KnP(n:Net):Prop where
 s:∀i,i<n.2.1.length->(0<=(n.2.1.getD i sg0).2.1/\(n.2.1.getD i sg0).2.1<n.1.length)/\(0<=(n.2.1.getD i sg0).2.2.1/\(n.2.1.getD i sg0).2.2.1<n.1.length)
 p:∀i,i<n.2.2.1.length->0<=(n.2.2.1.getD i po0).2.1/\(n.2.2.1.getD i po0).2.1<n.1.length
 t:∀i,i<n.2.2.2.1.length->0<=(n.2.2.2.1.getD i sta0).2.1/\(n.2.2.2.1.getD i sta0).2.1<n.1.length
theorem qtt{n:Net}{k:Int}:kn n k=true↔0<=k/\k<n.1.length:=by
 unfold kn; rw[z8,zy,zy]
theorem KnP.of{n:Net}(h:knB n=true):KnP n:=by
 unfold knB at h;simp only[z8,zm] at h;exact⟨fun i hi=>by have:=h.1 _ (qbe (d:=sg0) hi); rwa[qtt,qtt] at this,fun i hi=>by have:=h.2.1 _ (qbe (d:=po0) hi); rwa[qtt] at this,fun i hi=>by have:=h.2.2 _ (qbe (d:=sta0) hi); rwa[qtt] at this⟩
structure VNet(n:Net):Prop where
 small:Small n
 kn:KnP n
 pr:prB n=true
theorem qn0{c:Bool}{a b:Int}(hb:b≠0)(h:(bif c then a else b)=0):c=true/\a=0:=by
 cases c
 ·exact absurd h hb
 ·exact⟨rfl,h⟩
theorem VNet.of{n:Net}(h:qbb n=0):VNet n:=by
 unfold qbb at h;obtain⟨h1,h⟩:=qn0 (by decide) h
 obtain⟨h2,h⟩:=qn0 (by decide) h
 cases h3:twB n with
 | true=>rw[h3] at h; cases h
 | false=>
  rw[h3] at h; simp only[zb] at h;obtain⟨h4,h⟩:=qn0 (by decide) h
  obtain⟨h5,h⟩:=qn0 (by decide) h
  exact⟨(qq8 n).1 h1,KnP.of h4,h5⟩
theorem qxT{n:Net}{p:Pl}(h:KnP n){i:Nat}(hi:i<n.2.1.length):0<=frm n p i/\frm n p i<n.1.length:=by
 have:=h.s i hi; unfold frm; split <;> omega
theorem qEN{n:Net}{p:Pl}(h:KnP n){i:Nat}(hi:i<n.2.1.length):0<=tow n p i/\tow n p i<n.1.length:=by
 have:=h.s i hi; unfold tow; split <;> omega
/-! ### The program's sums -/
def m24(f:Nat->Int):List Int:=(List.range 24).map f
theorem qw1(f:Nat->Int):(m24 f).length=24:=by simp[m24]
theorem qjs(f:Nat->Int){k:Nat}(h:k<24):(m24 f).getD k 0=f k:=qBP f 24 k h
theorem qhd{f g:Nat->Int}(h:∀k,k<24->f k=g k):m24 f=m24 g:=zr2 fun k hk=>h k (zK.1 hk)
theorem qDP(f:Nat->Int){k:Nat}(hk:k<24)(x:Int):(m24 f).set k ((m24 f).getD k 0+x)=m24 fun j=>f j+(if k=j then x else 0):=by
 refine qC2 0 (by simp[qw1]) fun j hj=>?_
 rw[zQ,qw1] at hj;rw[qhv,qjs _ hj,qw1];by_cases e:k=j
 ·subst e; rw[if_pos ⟨rfl,hk⟩,qjs _ hk,qjs _ hk,if_pos rfl]
 ·rw[if_neg (fun h=>e h.1),qjs _ hj,if_neg e]; omega
def addF(f:Nat->Int)(k x:Int):Nat->Int:=fun j=>f j+(if k=(j:Int) then x else 0)
theorem qxU(f:Nat->Int)(x:Int):m24 (addF f (-1) x)=m24 f:=qhd fun k _=>by unfold addF; rw[if_neg (by omega)]; omega
theorem m24_set'(f:Nat->Int){k:Int}(h0:0<=k)(h1:k<24){x:Int}(hb:∀j,j<24->-1000000<=f j/\f j<=1000000)(hx : -1000000<=x/\x<=1000000):(m24 f).set k.toNat (wi64 ((m24 f).getD k.toNat 0+x))=m24 (addF f k x):=by
 obtain⟨k',rfl⟩:∃k':Nat,k=(k':Int):=⟨k.toNat,by omega⟩
 rw[z9,show wi64 ((m24 f).getD k' 0+x)=(m24 f).getD k' 0+x by
  rw[qjs _ (by omega)]; have:=hb k' (by omega); exact wi (by omega),qDP f (by omega)]
 refine qhd fun j hj=>?_
 unfold addF;by_cases e:k'=j
 ·rw[if_pos e,if_pos (by omega)]
 ·rw[if_neg e,if_neg (by omega)]
def bd6(f:Nat->Int):Prop:=∀j,j<24->-1000000<=f j/\f j<=1000000
theorem qDc{f g:Nat->Int}(hf:bd6 f)(hg:bd6 g){a b r:Int}(ha : -1<=a/\a<24)(hb:0<=b/\b<24)(hr : -1000<=r/\r<=1000):
  qdu a b r (m24 f,m24 g)=some (m24 (addF f (if r<0 then a else b) (amt r)),m24 (addF g (if r<0 then b else a) (amt r))):=by
 unfold qdu;by_cases h:r<0
 ·rw[dec_t h,if_pos h,if_pos h,za,show wi64 (0-r)=amt r by unfold amt; rw[wi (by omega)]; omega]
  have hx : -1000000<=amt r/\amt r<=1000000:=by unfold amt; omega
  simp only[z7];have hB:inB b 24=true:=qae.2 (by omega)
  rw[dec_t hb.1,za,gd_t hB,gd_t hB,m24_set' g hb.1 hb.2 hg hx,z7];by_cases h0:0<=a
  ·have hA:inB a 24=true:=qae.2 (by omega)
   rw[dec_t h0,za,gd_t hA,gd_t hA,m24_set' f h0 ha.2 hf hx]
  ·rw[dec_f h0,zb,show a=-1 by omega,qxU]
 ·rw[dec_f h,if_neg h,if_neg h,zb];have hx : -1000000<=r/\r<=1000000:=by omega
  rw[show amt r=r by unfold amt; omega]
  have hB:inB b 24=true:=qae.2 (by omega)
  simp only[z7];by_cases h0:0<=a
  ·have hA:inB a 24=true:=qae.2 (by omega)
   rw[dec_t h0,za,gd_t hA,gd_t hA,m24_set' g h0 ha.2 hg hx,z7,dec_t hb.1,za,gd_t hB,gd_t hB,m24_set' f hb.1 hb.2 hf hx]
  ·rw[dec_f h0,zb,z7,dec_t hb.1,za,gd_t hB,gd_t hB,m24_set' f hb.1 hb.2 hf hx,show a=-1 by omega,qxU]
theorem pairE{A B C D E:Type}{i:A}{v:B}{a a':C}{b b':D}(h:a=a')(h':b=b'):(some (Sum.inl (i,v,a,b)):Option ((A×B×C×D)⊕E))=some (Sum.inl (i,v,a',b')):=by rw[h,h']
theorem qxV{n:Net}(hn:VNet n){p:Pl}(hp:RB p)(h1:p.1.length=n.2.1.length)(h2:p.2.1.length=n.2.2.1.length):qlU n p=some (m24 fun k=>comeF n p k,m24 fun k=>qj3 n p k):=by
 obtain⟨s1,s2,s3,s4,s5,s6⟩:=hn.small;unfold qlU;have e1:iter (fun x=>qdV n p x.1 x.2.1 x.2.2) (0,((List.replicate 24 0),List.replicate 24 0),(List.replicate 24 0),List.replicate 24 0)=
   some (((List.replicate 24 0),List.replicate 24 0),(m24 fun k=>sumTo (segIn n p k) n.2.1.length,m24 fun k=>sumTo (qcj n p k) n.2.1.length)):=by
  refine qbj (step:=fun x:Int×(List Int×List Int)×(List Int×List Int)=>qdV n p x.1 x.2.1 x.2.2) n.2.1.length (fun i=>((i:Int),((List.replicate 24 0),List.replicate 24 0),(m24 fun k=>sumTo (segIn n p k) i,m24 fun k=>sumTo (qcj n p k) i))) (fun i hi=>?_) ?_
  ·show qdV n p _ _ _=_;unfold qdV;have k1:=hn.kn.s i hi;have b1:bd6 fun k=>sumTo (segIn n p k) i:=fun j _=>by have:=qek (qpG (n:=n) hp (j:Int)) i; dsimp only; omega
   have b2:bd6 fun k=>sumTo (qcj n p k) i:=fun j _=>by have:=qek (qmy (n:=n) hp (j:Int)) i; dsimp only; omega
   have hr:=hp.s i;unfold rate at hr;rw[dec_t (show(i:Int)<(n.2.1.length:Int) by omega),za,gd_t (inB_t hi),gd_t (inB_t (show i<p.1.length by omega)),z9,
    qDc b1 b2 (by have:=k1.1; simp only[sg0] at this; omega) (by have:=k1.2; simp only[sg0] at this; omega) hr,z7,w1 hi (by omega)]
   refine pairE ?_ ?_
   ·refine qhd fun k hk=>?_
    simp only[addF,sumTo,segIn,tow,rate,sg0]; rfl
   ·refine qhd fun k hk=>?_
    simp only[addF,sumTo,qcj,frm,rate,sg0]; rfl
  ·show qdV n p _ _ _=_;unfold qdV;rw[dec_f (by omega)]; rfl
 rw[e1,z7];have e2:iter (fun x2=>qdW n p x2.1 x2.2.1 x2.2.2) (0,((List.replicate 24 0),List.replicate 24 0),(m24 fun k=>sumTo (segIn n p k) n.2.1.length,m24 fun k=>sumTo (qcj n p k) n.2.1.length))=
   some (((List.replicate 24 0),List.replicate 24 0),(m24 fun k=>comeF n p k,m24 fun k=>qj3 n p k)):=by
  have:=qbj (step:=fun x2:Int×(List Int×List Int)×(List Int×List Int)=>qdW n p x2.1 x2.2.1 x2.2.2) (e:=(((List.replicate 24 0),List.replicate 24 0),(m24 fun k=>comeF n p k,m24 fun k=>qj3 n p k))) n.2.2.1.length (fun i=>((i:Int),((List.replicate 24 0),List.replicate 24 0),(m24 fun k=>sumTo (segIn n p k) n.2.1.length+sumTo (qhD n p k) i,m24 fun k=>sumTo (qcj n p k) n.2.1.length+sumTo (qeq n p k) i))) (fun i hi=>?_) ?_
  ·refine Eq.trans ?_ this
   rw[show(m24 fun k=>sumTo (segIn n p k) n.2.1.length)=m24 fun k=>sumTo (segIn n p k) n.2.1.length+sumTo (qhD n p k) 0 from qhd fun k _=>by simp only[sumTo]; omega,
    show(m24 fun k=>sumTo (qcj n p k) n.2.1.length)=m24 fun k=>sumTo (qcj n p k) n.2.1.length+sumTo (qeq n p k) 0 from qhd fun k _=>by simp only[sumTo]; omega]
   rfl
  ·show qdW n p _ _ _=_;unfold qdW;have k1:=hn.kn.p i hi;have b1:bd6 fun k=>sumTo (segIn n p k) n.2.1.length+sumTo (qhD n p k) i:=fun j _=>by
    have:=qek (qpG (n:=n) hp (j:Int)) n.2.1.length;have:=qek (qsv (n:=n) hp (j:Int)) i; dsimp only; omega
   have b2:bd6 fun k=>sumTo (qcj n p k) n.2.1.length+sumTo (qeq n p k) i:=fun j _=>by
    have:=qek (qmy (n:=n) hp (j:Int)) n.2.1.length;have:=qek (qqf (n:=n) hp (j:Int)) i; dsimp only; omega
   have hr:=hp.q i;unfold prate at hr;rw[dec_t (show(i:Int)<(n.2.2.1.length:Int) by omega),za,gd_t (inB_t hi),gd_t (inB_t (show i<p.2.1.length by omega)),z9,
    qDc b1 b2 (by omega) (by have:=k1; simp only[po0] at this; omega) hr,z7,w1 hi (by omega)]
   refine pairE ?_ ?_
   ·refine qhd fun k hk=>?_
    simp only[addF,sumTo,qhD,prate,amt];split <;> split <;> (try split) <;> omega
   ·refine qhd fun k hk=>?_
    simp only[addF,sumTo,qeq,prate,amt];split <;> split <;> (try split) <;> omega
  ·show qdW n p _ _ _=_;unfold qdW;rw[dec_f (by omega)]; rfl
 rw[e2]; rfl
end Go.Proofs.YtmdijohmddokhaaGreatDoor
namespace Go.Proofs.YtmdijohmddokhaaGreatDoor
open Go Go.Sq
set_option linter.unusedVariables false
section
variable {n:Net} {p:Pl}
theorem qw2(s:Seg)(r:Int):qo0 s r=some (if r<0 then s.2.2.1 else s.2.1,if r<0 then s.2.1 else s.2.2.1):=by
 unfold qo0;by_cases h:r<0
 ·rw[dec_t h,za,if_pos h,if_pos h]
 ·rw[dec_f h,zb,if_neg h,if_neg h]
theorem qxW(s:Seg)(r:Int):qmU s r=some (if r<0 then s.2.2.1 else s.2.1,if r<0 then s.2.1 else s.2.2.1):=qw2 s r
theorem qDQ{r:Int}(h : -1000<=r/\r<=1000):qme r=some (amt r):=by
 unfold qme amt; rw[wi (by omega)]
theorem quJ(hp:RB p)(hs:n.2.1.length<=32)(hq:n.2.2.1.length<=24)(h1:p.1.length=n.2.1.length)(h2:p.2.1.length=n.2.2.1.length)(k:Int):qjP n p k=some (comeF n p k,qj3 n p k):=by
 unfold qjP;have e1:iter (fun x=>qdk n p k x.1 x.2.1 x.2.2) (0,0,0)=some (sumTo (segIn n p k) n.2.1.length,sumTo (qcj n p k) n.2.1.length):=by
  refine qbj (step:=fun x:Int×Int×Int=>qdk n p k x.1 x.2.1 x.2.2) n.2.1.length (fun i=>(sumTo (segIn n p k) i,sumTo (qcj n p k) i,(i:Int))) (fun i hi=>?_) ?_
  ·show qdk n p k (sumTo (segIn n p k) i) (sumTo (qcj n p k) i) (i:Int)=some (.inl (sumTo (segIn n p k) i+segIn n p k i,sumTo (qcj n p k) i+qcj n p k i,((i+1:Nat):Int)));have b1:=qek (qpG (n:=n) hp k) i;have b2:=qek (qmy (n:=n) hp k) i;have b3:=qpG (n:=n) hp k i;have b4:=qmy (n:=n) hp k i;have hr:=hp.s i;unfold qdk;rw[dec_t (show(i:Int)<(n.2.1.length:Int) by omega),za,gd_t (inB_t hi),gd_t (inB_t (show i<p.1.length by omega)),z9,qxW]
   have ef:frm n p i=if p.1.getD i 0<0 then(n.2.1.getD i ([],0,0,0,0,0,[])).2.2.1 else(n.2.1.getD i ([],0,0,0,0,0,[])).2.1:=rfl
   have et:tow n p i=if p.1.getD i 0<0 then(n.2.1.getD i ([],0,0,0,0,0,[])).2.1 else(n.2.1.getD i ([],0,0,0,0,0,[])).2.2.1:=rfl
   have er:rate p i=p.1.getD i 0:=rfl;simp only[z7];have hB:inB (i:Int) p.1.length=true:=inB_t (by omega)
   rw[<-ef,<-et,<-er,qDQ hr];simp only[z7,gd_t hB];by_cases h0:rate p i=0
   ·have z1:segIn n p k i=0:=by unfold segIn amt; split <;> omega
    have z2:qcj n p k i=0:=by unfold qcj amt; split <;> omega
    rw[dec_t h0,za,z7,z1,z2,w1 hi (by omega),zD2,zD2]
   ·rw[dec_f h0,zb];have s1:(bif decide (frm n p i=k) then some (wi64 (sumTo (qcj n p k) i+amt (rate p i))) else some (sumTo (qcj n p k) i))=some (sumTo (qcj n p k) i+qcj n p k i):=by
     by_cases hc:frm n p i=k
     ·have:qcj n p k i=amt (rate p i):=if_pos hc;rw[dec_t hc,za,<-this,wi (by omega)]
     ·have:qcj n p k i=0:=if_neg hc;rw[dec_f hc,zb,this,zD2]
    have s2:(bif decide (tow n p i=k) then some (wi64 (sumTo (segIn n p k) i+amt (rate p i))) else some (sumTo (segIn n p k) i))=some (sumTo (segIn n p k) i+segIn n p k i):=by
     by_cases hc:tow n p i=k
     ·have:segIn n p k i=amt (rate p i):=if_pos hc;rw[dec_t hc,za,<-this,wi (by omega)]
     ·have:segIn n p k i=0:=if_neg hc;rw[dec_f hc,zb,this,zD2]
    rw[s1,z7,s2,z7,z7,w1 hi (by omega)]
  ·show qdk n p k _ _ ((n.2.1.length:Nat):Int)=_;unfold qdk;rw[dec_f (by omega)]; rfl
 rw[e1,z7];have e2:iter (fun x2=>qdl n p k x2.1 x2.2.1 x2.2.2) (sumTo (segIn n p k) n.2.1.length,sumTo (qcj n p k) n.2.1.length,0)=some (comeF n p k,qj3 n p k):=by
  have:=qbj (step:=fun x2:Int×Int×Int=>qdl n p k x2.1 x2.2.1 x2.2.2) (e:=(comeF n p k,qj3 n p k)) n.2.2.1.length (fun i=>(sumTo (segIn n p k) n.2.1.length+sumTo (qhD n p k) i,sumTo (qcj n p k) n.2.1.length+sumTo (qeq n p k) i,(i:Int))) (fun i hi=>?_) ?_
  ·refine Eq.trans ?_ this
   simp only[sumTo,zD2]; rfl
  ·have b1:=qek (qpG (n:=n) hp k) n.2.1.length;have b2:=qek (qmy (n:=n) hp k) n.2.1.length;have b3:=qek (qsv (n:=n) hp k) i;have b4:=qek (qqf (n:=n) hp k) i;have b5:=qsv (n:=n) hp k i;have b6:=qqf (n:=n) hp k i;show qdl n p k (sumTo (segIn n p k) n.2.1.length+sumTo (qhD n p k) i) (sumTo (qcj n p k) n.2.1.length+sumTo (qeq n p k) i) (i:Int)=some (.inl (sumTo (segIn n p k) n.2.1.length+(sumTo (qhD n p k) i+qhD n p k i),sumTo (qcj n p k) n.2.1.length+(sumTo (qeq n p k) i+qeq n p k i),((i+1:Nat):Int)));have hr:=hp.q i;unfold qdl;have hB:inB (i:Int) p.2.1.length=true:=inB_t (by omega)
   have eq:prate p i=p.2.1.getD i 0:=rfl;rw[dec_t (show(i:Int)<(n.2.2.1.length:Int) by omega),za,gd_t (inB_t hi),z9,gd_t hB,gd_t hB,<-eq,w1 hi (by omega)]
   by_cases hc:(n.2.2.1.getD i po0).2.1=k
   ·have z1:qhD n p k i=max 0 (prate p i):=if_pos hc;have z2:qeq n p k i=max 0 (0-prate p i):=if_pos hc;have hc':((n.2.2.1.getD i ([],0,0)).2).1=k:=hc;rw[dec_t hc',za,z7,wi (show -9223372036854775808<=0-prate p i/\0-prate p i<=9223372036854775807 by omega),<-z1,<-z2,wi (by omega),wi (by omega),Int.add_assoc,Int.add_assoc]
   ·have z1:qhD n p k i=0:=if_neg hc;have z2:qeq n p k i=0:=if_neg hc;have hc':¬((n.2.2.1.getD i ([],0,0)).2).1=k:=hc;rw[dec_f hc',zb,z7,z1,z2,zD2,zD2]
  ·show qdl n p k _ _ ((n.2.2.1.length:Nat):Int)=_;unfold qdl;rw[dec_f (by omega)]; rfl
 rw[e2]; rfl
/-! ### The order -/
def blk(n:Net)(p:Pl)(there:List Bool)(k:Nat)(i:Nat):Bool:=!decide (rate p i=0)&&(decide (tow n p i=(k:Int))&&!there.getD (frm n p i).toNat false)
def freeB(n:Net)(p:Pl)(there:List Bool)(k:Nat):Bool:=!there.getD k false&&!(List.range n.2.1.length).any (blk n p there k)
def nextF(n:Net)(p:Pl)(there:List Bool):Option Nat:=(List.range n.1.length).find? (freeB n p there)
def topo(n:Net)(p:Pl):Nat->List Bool->List Int
 | 0,_=>[]
 | f+1,there=>match nextF n p there with
  | none=>[]
  | some k=>(k:Int)::topo n p f (there.set k true)
def ordL(n:Net)(p:Pl):List Int:=topo n p n.1.length (List.replicate n.1.length false)
theorem qB3(f:Nat):∀there,(topo n p f there).length<=f:=by
 induction f with
 | zero=>intro _; exact z61 _
 | succ f ih=>
  intro there;unfold topo;split
  ·exact zu1 _
  ·rw[zg]; have:=ih (there.set (by assumption) true); omega
theorem qvQ{there:List Bool}(h:∀j,j<n.1.length->freeB n p there j=false):nextF n p there=none:=by
 unfold nextF;rw[List.find?_eq_none]
 intro x hx;rw[h x (zK.1 hx)]; simp
theorem qyT{q:Nat->Bool}{k m:Nat}(hk:k<m)(h:∀j,j<k->q j=false)(hq:q k=true):(List.range m).find? q=some k:=by
 rw[List.find?_range_eq_some]
 refine⟨hq,zK.2 hk,fun j hj=>?_⟩
 rw[h j hj]; rfl
theorem qAs{there:List Bool}{k:Nat}(hk:k<n.1.length)(h:∀j,j<k->freeB n p there j=false)(hq:freeB n p there k=true):nextF n p there=some k:=qyT hk h hq
theorem qpH{there:List Bool}(h:nextF n p there=none):∀f,topo n p f there=[]
 | 0=>rfl
 | f+1=>by unfold topo; rw[h]
theorem count_set{l:List Bool}{k:Nat}(hk:k<l.length)(h:l.getD k false=false):(l.set k true).count false+1=l.count false:=by
 rw[gD_eq hk] at h;have:=List.count_set (l:=l) (a:=true) (b:=false) hk;rw[this,h];have:0<l.count false:=List.count_pos_iff.2 (h ▸ zY2 hk);simp; omega
theorem qvR{l:List Bool}{k:Nat}(hk:k<l.length)(h:l.getD k false=false):0<l.count false:=by
 have:=count_set hk h; omega
theorem qxX(hn:VNet n)(h1:p.1.length=n.2.1.length){there:List Bool}(ht:there.length=n.1.length)(k:Nat)(out:List Int):
  iter (fun x=>qb9 n p (k:Int) x.1 x.2.1 x.2.2) (0,out,there)=some (bif (List.range n.2.1.length).any (blk n p there k) then .inl (out,there) else .inr (out,there)):=by
 have hs:=hn.small.sg;have:=qa1 (step:=fun x:Int×List Int×List Bool=>qb9 n p (k:Int) x.1 x.2.1 x.2.2) n.2.1.length (fun i=>((i:Int),out,there)) (fun i=>!blk n p there k i) (fin:=.inr (out,there)) (bad:=.inl (out,there)) (fun i hi _ hq=>?_) (fun i hi _ hq=>?_) (fun _=>?_)
 ·have e:(List.range n.2.1.length).all (fun i=>!blk n p there k i)=!(List.range n.2.1.length).any (blk n p there k):=by simp[z51]
  rw[e] at this;refine Eq.trans this ?_
  cases(List.range n.2.1.length).any (blk n p there k) <;> rfl
 ·show qb9 n p (k:Int) (i:Int) out there=_;unfold qb9;have hf:=qxT (p:=p) hn.kn hi;have ef:frm n p i=if p.1.getD i 0<0 then(n.2.1.getD i ([],0,0,0,0,0,[])).2.2.1 else(n.2.1.getD i ([],0,0,0,0,0,[])).2.1:=rfl
  have et:tow n p i=if p.1.getD i 0<0 then(n.2.1.getD i ([],0,0,0,0,0,[])).2.1 else(n.2.1.getD i ([],0,0,0,0,0,[])).2.2.1:=rfl
  have er:rate p i=p.1.getD i 0:=rfl;have hB:inB (i:Int) p.1.length=true:=inB_t (by omega)
  rw[dec_t (show(i:Int)<(n.2.1.length:Int) by omega),za,gd_t (inB_t hi),gd_t hB,z9,qw2,z7,gd_t hB,<-ef,<-et,<-er,w1 hi (by omega),gd_t (qae.2 (by omega))]
  unfold blk at hq;simp only[Bool.not_and,ze2] at hq;cases hr:decide (rate p i=0) with
  | true=>simp only[zf,zb,z7]
  | false=>
   rw[hr] at hq;simp only[zk1,za];cases ht2:decide (tow n p i=(k:Int)) with
   | false=>simp only[zb,z7]
   | true=>
    rw[ht2] at hq;simp only[zi2,zf] at hq;simp only[za,hq,zf,z7,zb]
 ·show qb9 n p (k:Int) (i:Int) out there=_;unfold qb9;have hf:=qxT (p:=p) hn.kn hi;have ef:frm n p i=if p.1.getD i 0<0 then(n.2.1.getD i ([],0,0,0,0,0,[])).2.2.1 else(n.2.1.getD i ([],0,0,0,0,0,[])).2.1:=rfl
  have et:tow n p i=if p.1.getD i 0<0 then(n.2.1.getD i ([],0,0,0,0,0,[])).2.1 else(n.2.1.getD i ([],0,0,0,0,0,[])).2.2.1:=rfl
  have er:rate p i=p.1.getD i 0:=rfl;have hB:inB (i:Int) p.1.length=true:=inB_t (by omega)
  rw[dec_t (show(i:Int)<(n.2.1.length:Int) by omega),za,gd_t (inB_t hi),gd_t hB,z9,qw2,z7,gd_t hB,<-ef,<-et,<-er,gd_t (qae.2 (by omega))]
  have hq':blk n p there k i=true:=by revert hq; cases blk n p there k i <;> simp
  unfold blk at hq';rw[z8,z8] at hq';obtain⟨a,b,c⟩:=hq';rw[a,b,c]; rfl
 ·show qb9 n p (k:Int) ((n.2.1.length:Nat):Int) out there=_;unfold qb9;rw[dec_f (by omega)]; rfl
theorem qB4(hn:VNet n)(h1:p.1.length=n.2.1.length):∀(f:Nat) (there:List Bool) (out:List Int),there.length=n.1.length->there.count false<=f->out.length+f<=100->∀m k:Nat,k+m=n.1.length->(∀j,j<k->freeB n p there j=false)->
  iter (fun x=>qaR n p x.1 x.2.1 x.2.2) ((k:Int),out,there)=some (out++topo n p f there):=by
 have hN:=hn.small.no;intro f;induction f with
 | zero=>
  intro there out ht hc ho m;induction m with
  | zero=>
   intro k hk hf;rw[qaV (e:=out) (by show qaR n p ((k:Nat):Int) out there=_; unfold qaR; rw[dec_f (by omega)]; rfl),qpH (qvQ fun j hj=>hf j (by omega)),zM]
  | succ m ih=>
   intro k hk hf;have hk':k<n.1.length:=by omega
   have hth:there.getD k false=true:=by
    cases hg:there.getD k false with
    | true=>rfl
    | false=>have:=qvR (by omega) hg; omega
   have hfk:freeB n p there k=false:=by unfold freeB; rw[hth]; rfl
   rw[qbp (y:=(((k+1:Nat):Int),out,there)) (by
    show qaR n p ((k:Nat):Int) out there=_; unfold qaR;rw[dec_t (by omega),za,gd_t (inB_t (by omega)),z9,hth,za,z7,w1 hk' (by omega)])]
   refine ih (k+1) (by omega) fun j hj=>?_
   rcases zb2 j k with h | h
   ·exact hf j h
   ·rw[show j=k by omega]; exact hfk
 | succ f ihf=>
  intro there out ht hc ho m;induction m with
  | zero=>
   intro k hk hf;rw[qaV (e:=out) (by show qaR n p ((k:Nat):Int) out there=_; unfold qaR; rw[dec_f (by omega)]; rfl),qpH (qvQ fun j hj=>hf j (by omega)),zM]
  | succ m ih=>
   intro k hk hf;have hk':k<n.1.length:=by omega
   have go:freeB n p there k=false->∀j,j<k+1->freeB n p there j=false:=fun hfk j hj=>by
    rcases zb2 j k with h | h
    ·exact hf j h
    ·rw[show j=k by omega]; exact hfk
   cases hth:there.getD k false with
   | true=>
    have hfk:freeB n p there k=false:=by unfold freeB; rw[hth]; rfl
    rw[qbp (y:=(((k+1:Nat):Int),out,there)) (by
     show qaR n p ((k:Nat):Int) out there=_; unfold qaR;rw[dec_t (by omega),za,gd_t (inB_t (by omega)),z9,hth,za,z7,w1 hk' (by omega)])]
    exact ih (k+1) (by omega) (go hfk)
   | false=>
    cases hb:(List.range n.2.1.length).any (blk n p there k) with
    | true=>
     have hfk:freeB n p there k=false:=by unfold freeB; rw[hth,hb]; rfl
     rw[qbp (y:=(((k+1:Nat):Int),out,there)) (by
      show qaR n p ((k:Nat):Int) out there=_; unfold qaR;rw[dec_t (by omega),za,gd_t (inB_t (by omega)),z9,hth,zb,qxX hn h1 ht k out,hb,z7,za,z81,z7,w1 hk' (by omega)])]
     exact ih (k+1) (by omega) (go hfk)
    | false=>
     have hfk:freeB n p there k=true:=by unfold freeB; rw[hth,hb]; rfl
     rw[qbp (y:=((0:Int),out++[(k:Int)],there.set k true)) (by
      show qaR n p ((k:Nat):Int) out there=_; unfold qaR;rw[dec_t (by omega),za,gd_t (inB_t (by omega)),z9,hth,zb,qxX hn h1 ht k out,hb,z7,zb,Sum.elim_inr,gd_t (inB_t (by show k<there.length; omega)),gd_t (qaw (by show(out.length+1)*8<=_; omega))]; rfl)]
     have hcs:=count_set (l:=there) (k:=k) (by omega) hth
     have:=ihf (there.set k true) (out++[(k:Int)]) (by rw[zQ]; exact ht) (by omega) (by rw[zd]; simp only[zg,zx]; omega) n.1.length 0 (by omega) (fun j hj=>by omega)
     refine Eq.trans this ?_
     rw[topo,qAs hk' hf hfk,zu]; rfl
theorem qAt(hn:VNet n)(h1:p.1.length=n.2.1.length):qmI n p=some (ordL n p):=by
 have hN:=hn.small.no;unfold qmI;rw[gd_t (qhg (by omega)),z9]
 have:=qB4 hn h1 n.1.length (List.replicate n.1.length false) [] (by simp) (by simp) (by simp; omega) n.1.length 0 (by omega) (fun j hj=>by omega)
 have this:iter (fun x=>qaR n p x.1 x.2.1 x.2.2) ((0:Int),[],List.replicate n.1.length false)=some (ordL n p):=this
 rw[this]; rfl
end
end Go.Proofs.YtmdijohmddokhaaGreatDoor
namespace Go.Proofs.YtmdijohmddokhaaGreatDoor
open Go Go.Sq
set_option linter.unusedVariables false
section
variable {n:Net} {p:Pl}
theorem qAu(hn:VNet n)(h1:p.1.length=n.2.1.length){there:List Bool}(ht:there.length=n.1.length)(k:Nat)(out:List Int):
  iter (fun x=>qcT n p (k:Int) x.1 x.2.1 x.2.2.1 x.2.2.2) (!there.getD k false,0,out,there)=some (freeB n p there k,out,there):=by
 have hs:=hn.small.sg;have:=qbj (step:=fun x:Bool×Int×List Int×List Bool=>qcT n p (k:Int) x.1 x.2.1 x.2.2.1 x.2.2.2) (e:=(freeB n p there k,out,there)) n.2.1.length (fun i=>(!there.getD k false&&!(List.range i).any (blk n p there k),(i:Int),out,there)) (fun i hi=>?_) ?_
 ·refine Eq.trans ?_ this
  simp only[List.range_zero,List.any_nil,zk1,zv2]; rfl
 ·show qcT n p (k:Int) (!there.getD k false&&!(List.range i).any (blk n p there k)) (i:Int) out there=some (.inl (!there.getD k false&&!(List.range (i+1)).any (blk n p there k),((i+1:Nat):Int),out,there));unfold qcT;have hf:=qxT (p:=p) hn.kn hi;have ef:frm n p i=if p.1.getD i 0<0 then(n.2.1.getD i ([],0,0,0,0,0,[])).2.2.1 else(n.2.1.getD i ([],0,0,0,0,0,[])).2.1:=rfl
  have et:tow n p i=if p.1.getD i 0<0 then(n.2.1.getD i ([],0,0,0,0,0,[])).2.1 else(n.2.1.getD i ([],0,0,0,0,0,[])).2.2.1:=rfl
  have er:rate p i=p.1.getD i 0:=rfl;have hB:inB (i:Int) p.1.length=true:=inB_t (by omega)
  have hT:inB (frm n p i) there.length=true:=qae.2 (by omega)
  rw[dec_t (show(i:Int)<(n.2.1.length:Int) by omega),za,gd_t (inB_t hi),gd_t hB,z9,qxW,w1 hi (by omega),List.range_succ,List.any_append]
  simp only[z7,gd_t hB];rw[<-ef,<-et,<-er];simp only[gd_t hT,List.any_cons,List.any_nil,Bool.or_false];generalize hz:(List.range i).any (blk n p there k)=Z;rw[show blk n p there k i=(!decide (rate p i=0)&&(decide (tow n p i=(k:Int))&&!there.getD (frm n p i).toNat false)) from rfl]
  cases there.getD k false <;> cases Z <;> cases decide (rate p i=0) <;> cases decide (tow n p i=(k:Int)) <;> cases there.getD (frm n p i).toNat false <;> rfl
 ·show qcT n p (k:Int) _ ((n.2.1.length:Nat):Int) out there=_;unfold qcT;rw[dec_f (by omega)]; rfl
def nx(n:Net)(p:Pl)(there:List Bool)(v:Nat):Int:=match(List.range v).find? (freeB n p there) with
 | none=>-1
 | some k=>(k:Int)
theorem qDR{there:List Bool}{v:Nat}:nx n p there (v+1)=if nx n p there v<0/\freeB n p there v=true then(v:Int) else nx n p there v:=by
 unfold nx;rw[List.range_succ,List.find?_append]
 cases h:(List.range v).find? (freeB n p there) with
 | some k=>simp only[Option.some_or]; rw[if_neg (by omega)]
 | none=>
  simp only[Option.none_or];cases hf:freeB n p there v with
  | true=>simp[List.find?_cons,hf]
  | false=>simp[List.find?_cons,hf]
theorem qqg(hn:VNet n)(h1:p.1.length=n.2.1.length){there:List Bool}(ht:there.length=n.1.length)(out:List Int):
  iter (fun x=>qcU n p x.1 x.2.1 x.2.2.1 x.2.2.2) (-1,0,out,there)=some (nx n p there n.1.length,out,there):=by
 have hs:=hn.small.no;refine qbj (step:=fun x:Int×Int×List Int×List Bool=>qcU n p x.1 x.2.1 x.2.2.1 x.2.2.2) n.1.length (fun i=>(nx n p there i,(i:Int),out,there)) (fun i hi=>?_) ?_
 ·show qcU n p (nx n p there i) (i:Int) out there=some (.inl (nx n p there (i+1),((i+1:Nat):Int),out,there));unfold qcU;rw[dec_t (show(i:Int)<(n.1.length:Int) by omega),za,gd_t (inB_t (by omega)),z9,qAu hn h1 ht i out,z7,w1 hi (by omega),qDR]
  simp only;cases hf:freeB n p there i with
  | false=>rw[if_neg (by simp)]; rfl
  | true=>
   simp only[za,z7];by_cases h:nx n p there i<0
   ·rw[dec_t h,if_pos ⟨h,trivial⟩]; rfl
   ·rw[dec_f h,if_neg (fun hh=>h hh.1)]; rfl
 ·show qcU n p (nx n p there n.1.length) ((n.1.length:Nat):Int) out there=_;unfold qcU;rw[dec_f (by omega)]; rfl
theorem qvS{there:List Bool}{k:Nat}(h:nextF n p there=some k):k<n.1.length/\there.getD k false=false:=by
 unfold nextF at h;have h1:=List.mem_of_find?_eq_some h
 have h2:=List.find?_some h
 refine⟨zK.1 h1,?_⟩
 unfold freeB at h2;cases hg:there.getD k false with
 | false=>rfl
 | true=>rw[hg] at h2; cases h2
theorem qyU(hn:VNet n)(h1:p.1.length=n.2.1.length):∀(f:Nat) (there:List Bool) (out:List Int),there.length=n.1.length->there.count false<=f->out.length+f<=100->
  iter (fun x=>qcg n p x.1 x.2) (out,there)=some (out++topo n p f there):=by
 intro f;induction f with
 | zero=>
  intro there out ht hc ho;have hnone:nextF n p there=none:=by
   cases h:nextF n p there with
   | none=>rfl
   | some k=>have:=qvS h; have:=qvR (by omega) this.2; omega
  rw[qaV (e:=out) (by
   show qcg n p out there=_; unfold qcg;rw[qqg hn h1 ht out,z7,show nx n p there n.1.length=-1 by unfold nx; unfold nextF at hnone; rw[hnone]]; rfl),qpH hnone,zM]
 | succ f ih=>
  intro there out ht hc ho;cases h:nextF n p there with
  | none=>
   rw[qaV (e:=out) (by
    show qcg n p out there=_; unfold qcg;rw[qqg hn h1 ht out,z7,show nx n p there n.1.length=-1 by unfold nx; unfold nextF at h; rw[h]]; rfl),qpH h,zM]
  | some k=>
   have hk:=qvS h;rw[qbp (y:=(out++[(k:Int)],there.set k true)) (by
    show qcg n p out there=_; unfold qcg;rw[qqg hn h1 ht out,z7,show nx n p there n.1.length=(k:Int) by unfold nx; unfold nextF at h; rw[h]]
    simp only;rw[dec_f (by omega),zb,gd_t (qaw (by omega)),gd_t (inB_t (by omega)),z9])]
   have hcs:=count_set (l:=there) (k:=k) (by omega) hk.2
   rw[ih (there.set k true) (out++[(k:Int)]) (by rw[zQ]; exact ht) (by omega) (by rw[zd]; simp only[zg,zx]; omega),topo,h,zu]; rfl
theorem qAv(hn:VNet n)(h1:p.1.length=n.2.1.length):qky n p=some (ordL n p):=by
 have hN:=hn.small.no;unfold qky;rw[gd_t (qhg (by omega)),z9]
 have:=qyU hn h1 n.1.length (List.replicate n.1.length false) [] (by simp) (by simp) (by simp; omega)
 rw[this]; rfl
/-! ### Checks -/
def szB(n:Net)(p:Pl):Bool:=decide (p.1.length=n.2.1.length)&&(decide (p.2.1.length=n.2.2.1.length)&&decide (p.2.2.length=n.2.2.2.1.length))
def rtB(n:Net)(p:Pl)(i:Nat):Bool:=rg (0-min 1000 (n.2.1.getD i sg0).2.2.2.1) (min 1000 (n.2.1.getD i sg0).2.2.2.1) (rate p i)
def qn1(n:Net)(p:Pl):Bool:=(List.range n.2.1.length).all (rtB n p)
def qjt(p:Pl):Bool:=p.2.1.all (rg (-1000) 1000)
def balB(n:Net)(p:Pl):Bool:=(List.range n.1.length).all fun k=>decide (comeF n p (k:Int)=qj3 n p (k:Int))
def qaY(n:Net)(p:Pl):Int:=if qbb n≠0 then qbb n else
 bif szB n p then(bif qn1 n p&&qjt p then(bif balB n p then(bif Nat.beq (ordL n p).length n.1.length then 0 else 13) else 12) else 1) else 9
theorem qqh:szB n p=true↔p.1.length=n.2.1.length/\p.2.1.length=n.2.2.1.length/\p.2.2.length=n.2.2.2.1.length:=by
 unfold szB; simp only[z8,zy]
theorem qli{a b x:Int}:rg a b x=true↔a<=x/\x<=b:=by unfold rg; rw[z8,zy,zy]
theorem quK(hn:VNet n){i:Nat}(hi:i<n.2.1.length):1<=(n.2.1.getD i sg0).2.2.2.1/\(n.2.1.getD i sg0).2.2.2.1<=1000000:=by
 have h:=hn.pr;unfold prB at h;rw[z8,zm] at h;have:=h.1 _ (qbe (d:=sg0) hi);unfold pipeB at this;simp only[z8] at this;exact qli.1 this.1.2.1
theorem RB.of(hs:szB n p=true)(h1:qn1 n p=true)(h2:qjt p=true):RB p:=by
 obtain⟨s1,s2,s3⟩:=qqh.1 hs;refine⟨fun i=>?_,fun i=>?_⟩
 ·rcases zb2 i p.1.length with h | h
  ·have:=zm.1 h1 i (zK.2 (by omega))
   unfold rtB at this;rw[qli] at this; omega
  ·unfold rate; rw[qtp h]; omega
 ·rcases zb2 i p.2.1.length with h | h
  ·have:=zm.1 h2 _ (qbe (d:=0) h);rw[qli] at this; unfold prate; omega
  ·unfold prate; rw[qtp h]; omega
theorem qsw(r m:Int)(h:0<=m/\m<=1000000):qih r m=some (rg (0-m) m r):=by
 unfold qih rg;rw[wi (by omega)]
 cases decide (0-m<=r) <;> rfl
theorem qB5(hn:VNet n){k:Int}(h:¬(0<=k/\k<n.1.length)):comeF n p k=0/\qj3 n p k=0:=by
 have a1:sumTo (segIn n p k) n.2.1.length=0:=qel _ fun i hi=>if_neg fun(e:tow n p i=k)=>h (e ▸ qEN (p:=p) hn.kn hi)
 have a2:sumTo (qcj n p k) n.2.1.length=0:=qel _ fun i hi=>if_neg fun(e:frm n p i=k)=>h (e ▸ qxT (p:=p) hn.kn hi)
 have a3:sumTo (qhD n p k) n.2.2.1.length=0:=qel _ fun i hi=>if_neg fun(e:(n.2.2.1.getD i po0).2.1=k)=>h (e ▸ hn.kn.p i hi)
 have a4:sumTo (qeq n p k) n.2.2.1.length=0:=qel _ fun i hi=>if_neg fun(e:(n.2.2.1.getD i po0).2.1=k)=>h (e ▸ hn.kn.p i hi)
 unfold comeF qj3;rw[a1,a2,a3,a4]; exact⟨rfl,rfl⟩
theorem bal24(hn:VNet n):((List.range 24).all fun i=>decide (((m24 fun k=>comeF n p k).getD i 0)=((m24 fun k=>qj3 n p k).getD i 0)))=balB n p:=by
 unfold balB;rw[zU,zm,zm];constructor
 ·intro h k hk;have hk:=zK.1 hk;have:=h k (zK.2 (by have:=hn.small.no; omega))
  rwa[qjs _ (by have:=hn.small.no; omega),qjs _ (by have:=hn.small.no; omega)] at this
 ·intro h k hk;have hk:=zK.1 hk;rw[qjs _ hk,qjs _ hk];by_cases hl:k<n.1.length
  ·exact h k (zK.2 hl)
  ·have:=qB5 (p:=p) hn (k:=(k:Int)) (by omega)
   rw[this.1,this.2]; rfl
theorem qa9(n:Net):(n.1,n.2.1,n.2.2.1,n.2.2.2.1,n.2.2.2.2.1,n.2.2.2.2.2)=n:=rfl
theorem qEO:(ordL n p).length<=n.1.length:=qB3 _ _
theorem qjd(n:Net)(p:Pl):qgf n p=some (qaY n p):=by
 unfold qgf qaY;rw[qfl,z7];by_cases h0:qbb n=0
 ·rw[if_neg (fun h=>h h0),dec_t h0,zf,zb]
  have hn:=VNet.of h0;have es:(
    bif !decide ((p.1.length:Int)=(n.2.1.length:Int)) then some true
    else bif !decide ((p.2.1.length:Int)=(n.2.2.1.length:Int)) then some true
    else some (!decide ((p.2.2.length:Int)=(n.2.2.2.1.length:Int))))=some (!szB n p):=by
   unfold szB;rw[show decide ((p.1.length:Int)=(n.2.1.length:Int))=decide (p.1.length=n.2.1.length) by congr 1; rw[Int.natCast_inj],
    show decide ((p.2.1.length:Int)=(n.2.2.1.length:Int))=decide (p.2.1.length=n.2.2.1.length) by congr 1; rw[Int.natCast_inj],
    show decide ((p.2.2.length:Int)=(n.2.2.2.1.length:Int))=decide (p.2.2.length=n.2.2.2.1.length) by congr 1; rw[Int.natCast_inj]]
   cases decide (p.1.length=n.2.1.length) <;> cases decide (p.2.1.length=n.2.2.1.length) <;> cases decide (p.2.2.length=n.2.2.2.1.length) <;> rfl
  rw[es,z7];cases hz:szB n p with
  | false=>rfl
  | true=>
   obtain⟨s1,s2,s3⟩:=qqh.1 hz;have m1:=hn.small.sg;have m2:=hn.small.po;simp only[zf,zb,za];have e1:iter (fun x=>qhO n p x) 0=some (bif qn1 n p then .inl () else .inr 1):=by
    refine qa1 (step:=fun x=>qhO n p x) n.2.1.length (fun i=>(i:Int)) (rtB n p) (fin:=.inl ()) (bad:=.inr 1) (fun i hi _ hq=>?_) (fun i hi _ hq=>?_) (fun _=>?_)
    all_goals unfold qhO
    ·have hc:=quK hn hi;have e:((((n.2.1.getD i ([],0,0,0,0,0,[])).2).2).2).1=(n.2.1.getD i sg0).2.2.2.1:=rfl;have e':p.1.getD i 0=rate p i:=rfl;rw[dec_t (show(i:Int)<(n.2.1.length:Int) by omega),za,gd_t (inB_t hi),gd_t (inB_t (show i<p.1.length by omega)),z9,e,e',qsw _ _ (by omega),z7]
     unfold rtB at hq;rw[hq,w1 hi (by omega)]; rfl
    ·have hc:=quK hn hi;have e:((((n.2.1.getD i ([],0,0,0,0,0,[])).2).2).2).1=(n.2.1.getD i sg0).2.2.2.1:=rfl;have e':p.1.getD i 0=rate p i:=rfl;rw[dec_t (show(i:Int)<(n.2.1.length:Int) by omega),za,gd_t (inB_t hi),gd_t (inB_t (show i<p.1.length by omega)),z9,e,e',qsw _ _ (by omega),z7]
     unfold rtB at hq;rw[hq]; rfl
    ·rw[dec_f (by omega)]; rfl
   rw[e1,z7];cases hr:qn1 n p with
   | false=>rfl
   | true=>
    simp only[za,z81,zE];rw[qom p.2.1 (fun x=>!rg (-1000) 1000 x) _ (fun x _=>by
     show(qiV x).bind _=_;unfold qiV;rw[qsw _ _ (by omega)]; rfl) (by omega),z7]
    have ep:(p.2.1.any fun x=>!rg (-1000) 1000 x)=!qjt p:=by unfold qjt; simp[z51]
    rw[ep];cases hq:qjt p with
    | false=>rfl
    | true=>
     simp only[zf,zb,za];rw[show((p.1,p.2.1,p.2.2):Pl)=p from rfl,qa9,qxV hn (RB.of hz hr hq) s1 s2,z7,bal24 hn]
     cases hb:balB n p with
     | false=>rfl
     | true=>
      simp only[zf,zb,za];rw[qAt hn s1,z7];have:=qEO (n:=n) (p:=p);cases ho:Nat.beq (ordL n p).length n.1.length with
      | true=>have:=zc ho; rw[dec_f (by omega)]; rfl
      | false=>
       have:(ordL n p).length≠n.1.length:=fun e=>by rw[e,zO2] at ho; cases ho
       rw[dec_t (by omega)]; rfl
 ·rw[if_pos h0,dec_f h0]; rfl
end
end Go.Proofs.YtmdijohmddokhaaGreatDoor
namespace Go.Proofs.YtmdijohmddokhaaGreatDoor
open Go Go.Sq
set_option linter.unusedVariables false
section
variable {n:Net} {p:Pl}
theorem natdec(a b:Nat):decide ((a:Int)=(b:Int))=decide (a=b):=by congr 1; rw[Int.natCast_inj]
theorem qm9(n:Net)(p:Pl):qfi n p=some (qaY n p):=by
 unfold qfi qaY;rw[qa9,qiI,z7];by_cases h0:qbb n=0
 ·rw[if_neg (fun h=>h h0),dec_t h0,zf,zb]
  have hn:=VNet.of h0;have es:(
    bif !decide ((p.1.length:Int)=(n.2.1.length:Int)) then some true
    else bif !decide ((p.2.1.length:Int)=(n.2.2.1.length:Int)) then some true
    else some (!decide ((p.2.2.length:Int)=(n.2.2.2.1.length:Int))))=some (!szB n p):=by
   unfold szB;rw[natdec,natdec,natdec];cases decide (p.1.length=n.2.1.length) <;> cases decide (p.2.1.length=n.2.2.1.length) <;> cases decide (p.2.2.length=n.2.2.2.1.length) <;> rfl
  rw[es,z7];cases hz:szB n p with
  | false=>rfl
  | true=>
   obtain⟨s1,s2,s3⟩:=qqh.1 hz;have m1:=hn.small.sg;have m2:=hn.small.po;simp only[zf,zb,za];have key:∀i,i<n.2.1.length->(bif decide (p.1.getD i 0<wi64 (0-(min 1000 (((((n.2.1.getD i ([],0,0,0,0,0,[])).2).2).2).1)))) then some true
     else some (decide (min 1000 (((((n.2.1.getD i ([],(0,(0,(0,(0,(0,[]))))))).2).2).2).1)<p.1.getD i 0)))=some (!rtB n p i):=by
    intro i hi;have hc:=quK hn hi;have e:((((n.2.1.getD i ([],0,0,0,0,0,[])).2).2).2).1=(n.2.1.getD i sg0).2.2.2.1:=rfl;rw[e,wi (by omega)]
    unfold rtB rg rate;by_cases a:p.1.getD i 0<0-min 1000 (n.2.1.getD i sg0).2.2.2.1
    ·rw[dec_t a,dec_f (show ¬(0-min 1000 (n.2.1.getD i sg0).2.2.2.1<=p.1.getD i 0) by omega)]; rfl
    ·rw[dec_f a,dec_t (show(0-min 1000 (n.2.1.getD i sg0).2.2.2.1<=p.1.getD i 0) by omega),zb,zE]
     by_cases b:min 1000 (n.2.1.getD i sg0).2.2.2.1<p.1.getD i 0
     ·rw[dec_t b,dec_f (by omega)]; rfl
     ·rw[dec_f b,dec_t (by omega)]; rfl
   have e1:iter (fun x=>qgD n p x) 0=some (bif qn1 n p then .inl () else .inr 1):=by
    unfold qn1;rw[<-s1];refine qa1 (step:=fun x=>qgD n p x) p.1.length (fun i=>(i:Int)) (rtB n p) (fin:=.inl ()) (bad:=.inr 1) (fun i hi _ hq=>?_) (fun i hi _ hq=>?_) (fun _=>?_)
    all_goals unfold qgD
    ·rw[dec_t (show(i:Int)<(p.1.length:Int) by omega),za,gd_t (inB_t hi),gd_t (inB_t (show i<n.2.1.length by omega)),z9,key i (by omega),hq,z7,w1 hi (by omega)]; rfl
    ·rw[dec_t (show(i:Int)<(p.1.length:Int) by omega),za,gd_t (inB_t hi),gd_t (inB_t (show i<n.2.1.length by omega)),z9,key i (by omega),hq,z7]; rfl
    ·rw[dec_f (by omega)]; rfl
   rw[e1,z7];cases hr:qn1 n p with
   | false=>rfl
   | true=>
    simp only[za,z81,zE];have key2:∀x:Int,(bif decide (x < -1000) then some true else some (decide (1000<x)))=some (!rg (-1000) 1000 x):=by
     intro x;unfold rg;by_cases a:x < -1000
     ·rw[dec_t a,dec_f (show ¬(-1000<=x) by omega)]; rfl
     ·rw[dec_f a,dec_t (show -1000<=x by omega),zb,zE]
      by_cases b:1000<x
      ·rw[dec_t b,dec_f (by omega)]; rfl
      ·rw[dec_f b,dec_t (by omega)]; rfl
    have e2:iter (fun x2=>qgE p x2) 0=some (bif qjt p then .inl () else .inr 1):=by
     refine scanL (step:=fun x2=>qgE p x2) p.2.1 0 (rg (-1000) 1000) (bad:=1) (fun i hi hq=>?_) (fun i hi hq=>?_) ?_
     all_goals unfold qgE
     ·rw[dec_t (show(i:Int)<(p.2.1.length:Int) by omega),za,gd_t (inB_t hi),z9,key2,hq,z7,w1 hi (by omega)]; rfl
     ·rw[dec_t (show(i:Int)<(p.2.1.length:Int) by omega),za,gd_t (inB_t hi),z9,key2,hq,z7]; rfl
     ·rw[dec_f (by omega)]; rfl
    rw[e2,z7];cases hq:qjt p with
    | false=>rfl
    | true=>
     simp only[za,z81];have hp:=RB.of hz hr hq;have e3:iter (fun x3=>qgF n p x3) 0=some (bif balB n p then .inl () else .inr 12):=by
      refine qa1 (step:=fun x=>qgF n p x) n.1.length (fun i=>(i:Int)) (fun k=>decide (comeF n p (k:Int)=qj3 n p (k:Int))) (fin:=.inl ()) (bad:=.inr 12) (fun i hi _ hq=>?_) (fun i hi _ hq=>?_) (fun _=>?_)
      all_goals unfold qgF
      ·rw[dec_t (show(i:Int)<(n.1.length:Int) by omega),za,qa9,show((p.1,p.2.1,p.2.2):Pl)=p from rfl,quJ hp m1 m2 s1 s2,z7]
       simp only;rw[hq,w1 hi (by have:=hn.small.no; omega)]; rfl
      ·rw[dec_t (show(i:Int)<(n.1.length:Int) by omega),za,qa9,show((p.1,p.2.1,p.2.2):Pl)=p from rfl,quJ hp m1 m2 s1 s2,z7]
       simp only;rw[hq]; rfl
      ·rw[dec_f (by omega)]; rfl
     rw[e3,z7];cases hb:balB n p with
     | false=>rfl
     | true=>
      simp only[za,z81];rw[show((p.1,p.2.1,p.2.2):Pl)=p from rfl,qAv hn s1,z7,natdec]
      cases ho:Nat.beq (ordL n p).length n.1.length with
      | true=>have:=zc ho; rw[dec_t this]; rfl
      | false=>
       have:(ordL n p).length≠n.1.length:=fun e=>by rw[e,zO2] at ho; cases ho
       rw[dec_f this]; rfl
 ·rw[if_pos h0,dec_f h0]; rfl
structure VPl(n:Net)(p:Pl):Prop where
 net:qbb n=0
 sz:szB n p=true
 rt:qn1 n p=true
 pr:qjt p=true
theorem VPl.of(h:qaY n p=0):VPl n p:=by
 unfold qaY at h;by_cases h0:qbb n=0
 ·rw[if_neg (fun h=>h h0)] at h
  obtain⟨h1,h⟩:=qn0 (by decide) h
  obtain⟨h2,h⟩:=qn0 (by decide) h
  rw[z8] at h2;exact⟨h0,h1,h2.1,h2.2⟩
 ·rw[if_pos h0] at h; exact absurd h h0
theorem VPl.rb(h:VPl n p):RB p:=RB.of h.sz h.rt h.pr
theorem VPl.len(h:VPl n p):p.1.length=n.2.1.length/\p.2.1.length=n.2.2.1.length/\p.2.2.length=n.2.2.2.1.length:=qqh.1 h.sz
def thr(n:Net)(p:Pl)(k:Int):Int×Int:=if qaY n p≠0 then(0,qaY n p) else bif kn n k then(comeF n p k,0) else(0,8)
theorem knD(n:Net)(k:Int):(bif decide (k<0) then some true else some (decide ((n.1.length:Int)<=k)))=some (!kn n k):=by
 unfold kn;by_cases a:k<0
 ·rw[dec_t a,dec_f (show ¬0<=k by omega)]; rfl
 ·rw[dec_f a,dec_t (show 0<=k by omega),zb,zE]
  by_cases b:(n.1.length:Int)<=k
  ·rw[dec_t b,dec_f (by omega)]; rfl
  ·rw[dec_f b,dec_t (by omega)]; rfl
theorem qEP(n:Net)(p:Pl)(k:Int):qiW n p k=some (thr n p k):=by
 unfold qiW thr;rw[qa9,show((p.1,p.2.1,p.2.2):Pl)=p from rfl,qjd,z7]
 by_cases h:qaY n p=0
 ·rw[dec_t h,if_neg (fun e=>e h),zf,zb,knD,z7]
  have hv:=VPl.of h;have hn:=VNet.of hv.net;cases hk:kn n k with
  | false=>rfl
  | true=>
   have hk:=qtt.1 hk;have:=hn.small.no;obtain⟨k',rfl⟩:∃k':Nat,k=(k':Int):=⟨k.toNat,by omega⟩
   simp only[zf,zb,za];rw[qxV hn hv.rb hv.len.1 hv.len.2.1,z7,gd_t (inB_t (by omega)),z9]
   simp only;rw[qjs _ (by omega)]
 ·rw[dec_f h,if_pos h]; rfl
theorem qAw(n:Net)(p:Pl)(k:Int):qhY n p k=some (thr n p k):=by
 unfold qhY thr;rw[qa9,show((p.1,p.2.1,p.2.2):Pl)=p from rfl,qm9,z7]
 by_cases h:qaY n p=0
 ·rw[dec_t h,if_neg (fun e=>e h),zf,zb,knD,z7]
  have hv:=VPl.of h;have hn:=VNet.of hv.net;cases hk:kn n k with
  | false=>rfl
  | true=>
   simp only[zf,zb,za];rw[quJ hv.rb hn.small.sg hn.small.po hv.len.1 hv.len.2.1,z7]
 ·rw[dec_f h,if_pos h]; rfl
/-! ### Lineups -/
def nz(l:List Int):List Bool:=l.map fun r=>!decide (r=0)
theorem qhE(l:List Int):(nz l).length=l.length:=z71 ..
def need(p:Pl):List Bool:=nz p.1++nz p.2.1
theorem qw3{l:List Int}{i:Nat}(h:i<l.length):nz (l.take (i+1))=nz (l.take i)++[!decide (l.getD i 0=0)]:=by
 unfold nz; rw[qer 0 h,zH1]; rfl
theorem qxY(l:List Int)(h:l.length<=1000000):qg7 l=some (nz l):=by
 unfold qg7;have:=qbj (step:=fun x:Int×List Bool=>qcr l x.1 x.2) (e:=nz l) l.length (fun i=>((i:Int),nz (l.take i))) (fun i hi=>?_) ?_
 ·have this:iter (fun x=>qcr l x.1 x.2) ((0:Int),[])=some (nz l):=this
  rw[this]; rfl
 ·show qcr l (i:Int) (nz (l.take i))=some (.inl (((i+1:Nat):Int),nz (l.take (i+1))));unfold qcr;rw[dec_t (show(i:Int)<(l.length:Int) by omega),za,gd_t (inB_t hi),gd_t (qaw (by rw[qhE,zn]; omega)),z9,w1 hi (by omega),qw3 hi]
 ·show qcr l ((l.length:Nat):Int) (nz (l.take l.length))=_;unfold qcr;rw[dec_f (by omega),zV1]; rfl
theorem qxZ(p:Pl)(h1:p.1.length<=1000000)(h2:p.2.1.length<=1000000):qgk p=some (nz p.1,nz p.2.1):=by
 unfold qgk;have e1:=qbj (step:=fun x:Int×List Bool=>qcV p x.1 x.2) (e:=nz p.1) p.1.length (fun i=>((i:Int),nz (p.1.take i))) (fun i hi=>?_) ?_
 ·have e1:iter (fun x=>qcV p x.1 x.2) ((0:Int),[])=some (nz p.1):=e1
  rw[e1,z7];have e2:=qbj (step:=fun x2:Int×List Bool×List Bool=>qcW p x2.1 x2.2.1 x2.2.2) (e:=(nz p.1,nz p.2.1)) p.2.1.length (fun i=>((i:Int),nz p.1,nz (p.2.1.take i))) (fun i hi=>?_) ?_
  ·have e2:iter (fun x2=>qcW p x2.1 x2.2.1 x2.2.2) ((0:Int),nz p.1,[])=some (nz p.1,nz p.2.1):=e2
   rw[e2]; rfl
  ·show qcW p (i:Int) (nz p.1) (nz (p.2.1.take i))=some (.inl (((i+1:Nat):Int),nz p.1,nz (p.2.1.take (i+1))));unfold qcW;rw[dec_t (show(i:Int)<(p.2.1.length:Int) by omega),za,gd_t (inB_t hi),gd_t (qaw (by rw[qhE,zn]; omega)),z9,w1 hi (by omega),qw3 hi]
  ·show qcW p ((p.2.1.length:Nat):Int) (nz p.1) (nz (p.2.1.take p.2.1.length))=_;unfold qcW;rw[dec_f (by omega),zV1]; rfl
 ·show qcV p (i:Int) (nz (p.1.take i))=some (.inl (((i+1:Nat):Int),nz (p.1.take (i+1))));unfold qcV;rw[dec_t (show(i:Int)<(p.1.length:Int) by omega),za,gd_t (inB_t hi),gd_t (qaw (by rw[qhE,zn]; omega)),z9,w1 hi (by omega),qw3 hi]
 ·show qcV p ((p.1.length:Nat):Int) (nz (p.1.take p.1.length))=_;unfold qcV;rw[dec_f (by omega),zV1]; rfl
theorem qAx(a b:List Bool)(h1:a.length<=1000000)(h2:b.length<=1000000):qjS (a,b)=some (a++b):=by
 unfold qjS;rw[gd_t (qaw (by simp only; omega)),gd_t (qaw (by simp only[zC]; omega))]; rfl
theorem qtu(a b:List Bool)(h1:a.length<=1000000)(h2:b.length<=1000000):qez (a,b)=some (a++b):=qAx a b h1 h2
theorem qAy(n:Net)(p:Pl):qgg n p=some (if qaY n p≠0 then(qaY n p,[],[]) else(0,nz p.1,nz p.2.1)):=by
 unfold qgg;rw[qa9,qfl,z7,show((p.1,p.2.1,p.2.2):Pl)=p from rfl,qjd,z7]
 by_cases h0:qbb n=0
 ·rw[dec_t h0,zf,zb];by_cases h:qaY n p=0
  ·have hv:=VPl.of h;have hn:=VNet.of h0;have:=hv.len;have:=hn.small.sg;have:=hn.small.po;rw[dec_t h,if_neg (fun e=>e h),zf,zb,qxY _ (by omega),z7,qxY _ (by omega)]; rfl
  ·rw[dec_f h,if_pos h]; rfl
 ·have e:qaY n p=qbb n:=by unfold qaY; rw[if_pos h0]
  rw[dec_f h0,e,if_pos h0]; rfl
end
end Go.Proofs.YtmdijohmddokhaaGreatDoor
