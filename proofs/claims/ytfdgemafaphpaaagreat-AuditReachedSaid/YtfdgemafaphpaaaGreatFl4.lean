/- Flows: what comes to the nodes and leaves them. No condition. -/
import Derived.Test.YtfdgemafaphpaaaGreatNk5
namespace Go.Proofs.YtfdgemafaphpaaaGreat
open Go Go.Sq
set_option linter.unusedVariables false
abbrev Pl:=List Int×List Int×List Bool
def sumTo(f:Nat->Int):Nat->Int
 | 0=>0
 | n+1=>sumTo f n+f n
theorem qdX{f:Nat->Int}{b:Int}(h:∀i,0<=f i/\f i<=b):∀n:Nat,0<=sumTo f n/\sumTo f n<=b*n
 | 0=>⟨Int.le_refl _,by simp[sumTo]⟩
 | n+1=>by
  have h1:=qdX h n;have h2:=h n;have e:b*((n+1:Nat):Int)=b*n+b:=by rw[Int.natCast_add,Int.mul_add]; simp
  rw[e];simp only[sumTo]; omega
theorem qdY{f:Nat->Int}:∀n:Nat,(∀i,i<n->f i=0)->sumTo f n=0
 | 0,_=>rfl
 | n+1,h=>by simp only[sumTo]; rw[qdY n fun i hi=>h i (by omega),h n (by omega)]; rfl
def rate(p:Pl)(i:Nat):Int:=p.1.getD i 0
def prate(p:Pl)(i:Nat):Int:=p.2.1.getD i 0
def frm(n:Net)(p:Pl)(i:Nat):Int:=if rate p i<0 then(n.2.1.getD i sg0).2.2.1 else(n.2.1.getD i sg0).2.1
def tow(n:Net)(p:Pl)(i:Nat):Int:=if rate p i<0 then(n.2.1.getD i sg0).2.1 else(n.2.1.getD i sg0).2.2.1
def amt(x:Int):Int:=max x (0-x)
def segIn(n:Net)(p:Pl)(k:Int)(i:Nat):Int:=if tow n p i=k then amt (rate p i) else 0
def qcd(n:Net)(p:Pl)(k:Int)(i:Nat):Int:=if frm n p i=k then amt (rate p i) else 0
def qgT(n:Net)(p:Pl)(k:Int)(i:Nat):Int:=if(n.2.2.1.getD i po0).2.1=k then max 0 (prate p i) else 0
def qd6(n:Net)(p:Pl)(k:Int)(i:Nat):Int:=if(n.2.2.1.getD i po0).2.1=k then max 0 (0-prate p i) else 0
def comeF(n:Net)(p:Pl)(k:Int):Int:=sumTo (segIn n p k) n.2.1.length+sumTo (qgT n p k) n.2.2.1.length
def qjl(n:Net)(p:Pl)(k:Int):Int:=sumTo (qcd n p k) n.2.1.length+sumTo (qd6 n p k) n.2.2.1.length
structure RB(p:Pl):Prop where
 s:∀i,-1000<=rate p i/\rate p i<=1000
 q:∀i,-1000<=prate p i/\prate p i<=1000
section
variable {n:Net} {p:Pl}
theorem qoG(h:RB p)(k:Int)(i:Nat):0<=segIn n p k i/\segIn n p k i<=1000:=by
 have:=h.s i; unfold segIn amt; split <;> omega
theorem qlH(h:RB p)(k:Int)(i:Nat):0<=qcd n p k i/\qcd n p k i<=1000:=by
 have:=h.s i; unfold qcd amt; split <;> omega
theorem qrG(h:RB p)(k:Int)(i:Nat):0<=qgT n p k i/\qgT n p k i<=1000:=by
 have:=h.q i; unfold qgT; split <;> omega
theorem qpb(h:RB p)(k:Int)(i:Nat):0<=qd6 n p k i/\qd6 n p k i<=1000:=by
 have:=h.q i; unfold qd6; split <;> omega
end
structure KnP(n:Net):Prop where
 s:∀i,i<n.2.1.length->(0<=(n.2.1.getD i sg0).2.1/\(n.2.1.getD i sg0).2.1<n.1.length)/\(0<=(n.2.1.getD i sg0).2.2.1/\(n.2.1.getD i sg0).2.2.1<n.1.length)
 p:∀i,i<n.2.2.1.length->0<=(n.2.2.1.getD i po0).2.1/\(n.2.2.1.getD i po0).2.1<n.1.length
 t:∀i,i<n.2.2.2.1.length->0<=(n.2.2.2.1.getD i sta0).2.1/\(n.2.2.2.1.getD i sta0).2.1<n.1.length
theorem qsH{n:Net}{k:Int}:kn n k=true↔0<=k/\k<n.1.length:=by
 unfold kn; rw[z9,zA,zA]
theorem KnP.of{n:Net}(h:knB n=true):KnP n:=by
 unfold knB at h;simp only[z9,zx] at h;exact⟨fun i hi=>by have:=h.1 _ (qaU (d:=sg0) hi); rwa[qsH,qsH] at this,fun i hi=>by have:=h.2.1 _ (qaU (d:=po0) hi); rwa[qsH] at this,fun i hi=>by have:=h.2.2 _ (qaU (d:=sta0) hi); rwa[qsH] at this⟩
structure VNet(n:Net):Prop where
 small:Small n
 kn:KnP n
 pr:prB n=true
theorem qpH{c:Bool}{a b:Int}(hb:b≠0)(h:(bif c then a else b)=0):c=true/\a=0:=by
 cases c
 ·exact absurd h hb
 ·exact⟨rfl,h⟩
theorem VNet.of{n:Net}(h:qcc n=0):VNet n:=by
 unfold qcc at h;obtain⟨h1,h⟩:=qpH (by decide) h
 obtain⟨h2,h⟩:=qpH (by decide) h
 cases h3:twB n with
 | true=>rw[h3] at h; cases h
 | false=>
  rw[h3] at h; simp only[za] at h;obtain⟨h4,h⟩:=qpH (by decide) h
  obtain⟨h5,h⟩:=qpH (by decide) h
  exact⟨(qqg n).1 h1,KnP.of h4,h5⟩
theorem qxk{n:Net}{p:Pl}(h:KnP n){i:Nat}(hi:i<n.2.1.length):0<=frm n p i/\frm n p i<n.1.length:=by
 have:=h.s i hi; unfold frm; split <;> omega
theorem qD9{n:Net}{p:Pl}(h:KnP n){i:Nat}(hi:i<n.2.1.length):0<=tow n p i/\tow n p i<n.1.length:=by
 have:=h.s i hi; unfold tow; split <;> omega
/-! ### The program's sums -/
def m24(f:Nat->Int):List Int:=(List.range 24).map f
theorem qwo(f:Nat->Int):(m24 f).length=24:=by simp[m24]
theorem qiN(f:Nat->Int){k:Nat}(h:k<24):(m24 f).getD k 0=f k:=qBe f 24 k h
theorem qgG{f g:Nat->Int}(h:∀k,k<24->f k=g k):m24 f=m24 g:=zy2 fun k hk=>h k (zO.1 hk)
theorem qC9(f:Nat->Int){k:Nat}(hk:k<24)(x:Int):(m24 f).set k ((m24 f).getD k 0+x)=m24 fun j=>f j+(if k=j then x else 0):=by
 refine qCt 0 (by simp[qwo]) fun j hj=>?_
 rw[zJ,qwo] at hj;rw[qgq,qiN _ hj,qwo];by_cases e:k=j
 ·subst e; rw[if_pos ⟨rfl,hk⟩,qiN _ hk,qiN _ hk,if_pos rfl]
 ·rw[if_neg (fun h=>e h.1),qiN _ hj,if_neg e]; omega
def addF(f:Nat->Int)(k x:Int):Nat->Int:=fun j=>f j+(if k=(j:Int) then x else 0)
theorem qxl(f:Nat->Int)(x:Int):m24 (addF f (-1) x)=m24 f:=qgG fun k _=>by unfold addF; rw[if_neg (by omega)]; omega
theorem m24_set'(f:Nat->Int){k:Int}(h0:0<=k)(h1:k<24){x:Int}(hb:∀j,j<24->-1000000<=f j/\f j<=1000000)(hx : -1000000<=x/\x<=1000000):(m24 f).set k.toNat (wi64 ((m24 f).getD k.toNat 0+x))=m24 (addF f k x):=by
 obtain⟨k',rfl⟩:∃k':Nat,k=(k':Int):=⟨k.toNat,by omega⟩
 rw[z8,show wi64 ((m24 f).getD k' 0+x)=(m24 f).getD k' 0+x by
  rw[qiN _ (by omega)]; have:=hb k' (by omega); exact wi (by omega),qC9 f (by omega)]
 refine qgG fun j hj=>?_
 unfold addF;by_cases e:k'=j
 ·rw[if_pos e,if_pos (by omega)]
 ·rw[if_neg e,if_neg (by omega)]
def bd6(f:Nat->Int):Prop:=∀j,j<24->-1000000<=f j/\f j<=1000000
theorem qCw{f g:Nat->Int}(hf:bd6 f)(hg:bd6 g){a b r:Int}(ha : -1<=a/\a<24)(hb:0<=b/\b<24)(hr : -1000<=r/\r<=1000):
  qdf a b r (m24 f,m24 g)=some (m24 (addF f (if r<0 then a else b) (amt r)),m24 (addF g (if r<0 then b else a) (amt r))):=by
 unfold qdf;by_cases h:r<0
 ·rw[dec_t h,if_pos h,if_pos h,zb,show wi64 (0-r)=amt r by unfold amt; rw[wi (by omega)]; omega]
  have hx : -1000000<=amt r/\amt r<=1000000:=by unfold amt; omega
  simp only[z7];have hB:inB b 24=true:=qan.2 (by omega)
  rw[dec_t hb.1,zb,gd_t hB,gd_t hB,m24_set' g hb.1 hb.2 hg hx,z7];by_cases h0:0<=a
  ·have hA:inB a 24=true:=qan.2 (by omega)
   rw[dec_t h0,zb,gd_t hA,gd_t hA,m24_set' f h0 ha.2 hf hx]
  ·rw[dec_f h0,za,show a=-1 by omega,qxl]
 ·rw[dec_f h,if_neg h,if_neg h,za];have hx : -1000000<=r/\r<=1000000:=by omega
  rw[show amt r=r by unfold amt; omega]
  have hB:inB b 24=true:=qan.2 (by omega)
  simp only[z7];by_cases h0:0<=a
  ·have hA:inB a 24=true:=qan.2 (by omega)
   rw[dec_t h0,zb,gd_t hA,gd_t hA,m24_set' g h0 ha.2 hg hx,z7,dec_t hb.1,zb,gd_t hB,gd_t hB,m24_set' f hb.1 hb.2 hf hx]
  ·rw[dec_f h0,za,z7,dec_t hb.1,zb,gd_t hB,gd_t hB,m24_set' f hb.1 hb.2 hf hx,show a=-1 by omega,qxl]
theorem pairE{A B C D E:Type}{i:A}{v:B}{a a':C}{b b':D}(h:a=a')(h':b=b'):(some (Sum.inl (i,v,a,b)):Option ((A×B×C×D)⊕E))=some (Sum.inl (i,v,a',b')):=by rw[h,h']
theorem qxm{n:Net}(hn:VNet n){p:Pl}(hp:RB p)(h1:p.1.length=n.2.1.length)(h2:p.2.1.length=n.2.2.1.length):qlr n p=some (m24 fun k=>comeF n p k,m24 fun k=>qjl n p k):=by
 obtain⟨s1,s2,s3,s4,s5,s6⟩:=hn.small;unfold qlr;have e1:iter (fun x=>qdB n p x.1 x.2.1 x.2.2) (0,((List.replicate 24 0),List.replicate 24 0),(List.replicate 24 0),List.replicate 24 0)=
   some (((List.replicate 24 0),List.replicate 24 0),(m24 fun k=>sumTo (segIn n p k) n.2.1.length,m24 fun k=>sumTo (qcd n p k) n.2.1.length)):=by
  refine qaG (step:=fun x:Int×(List Int×List Int)×(List Int×List Int)=>qdB n p x.1 x.2.1 x.2.2) n.2.1.length (fun i=>((i:Int),((List.replicate 24 0),List.replicate 24 0),(m24 fun k=>sumTo (segIn n p k) i,m24 fun k=>sumTo (qcd n p k) i))) (fun i hi=>?_) ?_
  ·show qdB n p _ _ _=_;unfold qdB;have k1:=hn.kn.s i hi;have b1:bd6 fun k=>sumTo (segIn n p k) i:=fun j _=>by have:=qdX (qoG (n:=n) hp (j:Int)) i; dsimp only; omega
   have b2:bd6 fun k=>sumTo (qcd n p k) i:=fun j _=>by have:=qdX (qlH (n:=n) hp (j:Int)) i; dsimp only; omega
   have hr:=hp.s i;unfold rate at hr;rw[dec_t (show(i:Int)<(n.2.1.length:Int) by omega),zb,gd_t (inB_t hi),gd_t (inB_t (show i<p.1.length by omega)),z8,
    qCw b1 b2 (by have:=k1.1; simp only[sg0] at this; omega) (by have:=k1.2; simp only[sg0] at this; omega) hr,z7,w1 hi (by omega)]
   refine pairE ?_ ?_
   ·refine qgG fun k hk=>?_
    simp only[addF,sumTo,segIn,tow,rate,sg0]; rfl
   ·refine qgG fun k hk=>?_
    simp only[addF,sumTo,qcd,frm,rate,sg0]; rfl
  ·show qdB n p _ _ _=_;unfold qdB;rw[dec_f (by omega)]; rfl
 rw[e1,z7];have e2:iter (fun x2=>qdC n p x2.1 x2.2.1 x2.2.2) (0,((List.replicate 24 0),List.replicate 24 0),(m24 fun k=>sumTo (segIn n p k) n.2.1.length,m24 fun k=>sumTo (qcd n p k) n.2.1.length))=
   some (((List.replicate 24 0),List.replicate 24 0),(m24 fun k=>comeF n p k,m24 fun k=>qjl n p k)):=by
  have:=qaG (step:=fun x2:Int×(List Int×List Int)×(List Int×List Int)=>qdC n p x2.1 x2.2.1 x2.2.2) (e:=(((List.replicate 24 0),List.replicate 24 0),(m24 fun k=>comeF n p k,m24 fun k=>qjl n p k))) n.2.2.1.length (fun i=>((i:Int),((List.replicate 24 0),List.replicate 24 0),(m24 fun k=>sumTo (segIn n p k) n.2.1.length+sumTo (qgT n p k) i,m24 fun k=>sumTo (qcd n p k) n.2.1.length+sumTo (qd6 n p k) i))) (fun i hi=>?_) ?_
  ·refine Eq.trans ?_ this
   rw[show(m24 fun k=>sumTo (segIn n p k) n.2.1.length)=m24 fun k=>sumTo (segIn n p k) n.2.1.length+sumTo (qgT n p k) 0 from qgG fun k _=>by simp only[sumTo]; omega,
    show(m24 fun k=>sumTo (qcd n p k) n.2.1.length)=m24 fun k=>sumTo (qcd n p k) n.2.1.length+sumTo (qd6 n p k) 0 from qgG fun k _=>by simp only[sumTo]; omega]
   rfl
  ·show qdC n p _ _ _=_;unfold qdC;have k1:=hn.kn.p i hi;have b1:bd6 fun k=>sumTo (segIn n p k) n.2.1.length+sumTo (qgT n p k) i:=fun j _=>by
    have:=qdX (qoG (n:=n) hp (j:Int)) n.2.1.length;have:=qdX (qrG (n:=n) hp (j:Int)) i; dsimp only; omega
   have b2:bd6 fun k=>sumTo (qcd n p k) n.2.1.length+sumTo (qd6 n p k) i:=fun j _=>by
    have:=qdX (qlH (n:=n) hp (j:Int)) n.2.1.length;have:=qdX (qpb (n:=n) hp (j:Int)) i; dsimp only; omega
   have hr:=hp.q i;unfold prate at hr;rw[dec_t (show(i:Int)<(n.2.2.1.length:Int) by omega),zb,gd_t (inB_t hi),gd_t (inB_t (show i<p.2.1.length by omega)),z8,
    qCw b1 b2 (by omega) (by have:=k1; simp only[po0] at this; omega) hr,z7,w1 hi (by omega)]
   refine pairE ?_ ?_
   ·refine qgG fun k hk=>?_
    simp only[addF,sumTo,qgT,prate,amt];split <;> split <;> (try split) <;> omega
   ·refine qgG fun k hk=>?_
    simp only[addF,sumTo,qd6,prate,amt];split <;> split <;> (try split) <;> omega
  ·show qdC n p _ _ _=_;unfold qdC;rw[dec_f (by omega)]; rfl
 rw[e2]; rfl
end Go.Proofs.YtfdgemafaphpaaaGreat
namespace Go.Proofs.YtfdgemafaphpaaaGreat
open Go Go.Sq
set_option linter.unusedVariables false
section
variable {n:Net} {p:Pl}
theorem qwp(s:Seg)(r:Int):qoi s r=some (if r<0 then s.2.2.1 else s.2.1,if r<0 then s.2.1 else s.2.2.1):=by
 unfold qoi;by_cases h:r<0
 ·rw[dec_t h,zb,if_pos h,if_pos h]
 ·rw[dec_f h,za,if_neg h,if_neg h]
theorem qxn(s:Seg)(r:Int):qlT s r=some (if r<0 then s.2.2.1 else s.2.1,if r<0 then s.2.1 else s.2.2.1):=qwp s r
theorem qDa{r:Int}(h : -1000<=r/\r<=1000):qk0 r=some (amt r):=by
 unfold qk0 amt; rw[wi (by omega)]
theorem qtR(hp:RB p)(hs:n.2.1.length<=32)(hq:n.2.2.1.length<=24)(h1:p.1.length=n.2.1.length)(h2:p.2.1.length=n.2.2.1.length)(k:Int):qiT n p k=some (comeF n p k,qjl n p k):=by
 unfold qiT;have e1:iter (fun x=>qcW n p k x.1 x.2.1 x.2.2) (0,0,0)=some (sumTo (segIn n p k) n.2.1.length,sumTo (qcd n p k) n.2.1.length):=by
  refine qaG (step:=fun x:Int×Int×Int=>qcW n p k x.1 x.2.1 x.2.2) n.2.1.length (fun i=>(sumTo (segIn n p k) i,sumTo (qcd n p k) i,(i:Int))) (fun i hi=>?_) ?_
  ·show qcW n p k (sumTo (segIn n p k) i) (sumTo (qcd n p k) i) (i:Int)=some (.inl (sumTo (segIn n p k) i+segIn n p k i,sumTo (qcd n p k) i+qcd n p k i,((i+1:Nat):Int)));have b1:=qdX (qoG (n:=n) hp k) i;have b2:=qdX (qlH (n:=n) hp k) i;have b3:=qoG (n:=n) hp k i;have b4:=qlH (n:=n) hp k i;have hr:=hp.s i;unfold qcW;rw[dec_t (show(i:Int)<(n.2.1.length:Int) by omega),zb,gd_t (inB_t hi),gd_t (inB_t (show i<p.1.length by omega)),z8,qxn]
   have ef:frm n p i=if p.1.getD i 0<0 then(n.2.1.getD i ([],0,0,0,0,0,[])).2.2.1 else(n.2.1.getD i ([],0,0,0,0,0,[])).2.1:=rfl
   have et:tow n p i=if p.1.getD i 0<0 then(n.2.1.getD i ([],0,0,0,0,0,[])).2.1 else(n.2.1.getD i ([],0,0,0,0,0,[])).2.2.1:=rfl
   have er:rate p i=p.1.getD i 0:=rfl;simp only[z7];have hB:inB (i:Int) p.1.length=true:=inB_t (by omega)
   rw[<-ef,<-et,<-er,qDa hr];simp only[z7,gd_t hB];by_cases h0:rate p i=0
   ·have z1:segIn n p k i=0:=by unfold segIn amt; split <;> omega
    have z2:qcd n p k i=0:=by unfold qcd amt; split <;> omega
    rw[dec_t h0,zb,z7,z1,z2,w1 hi (by omega),zI2,zI2]
   ·rw[dec_f h0,za];have s1:(bif decide (frm n p i=k) then some (wi64 (sumTo (qcd n p k) i+amt (rate p i))) else some (sumTo (qcd n p k) i))=some (sumTo (qcd n p k) i+qcd n p k i):=by
     by_cases hc:frm n p i=k
     ·have:qcd n p k i=amt (rate p i):=if_pos hc;rw[dec_t hc,zb,<-this,wi (by omega)]
     ·have:qcd n p k i=0:=if_neg hc;rw[dec_f hc,za,this,zI2]
    have s2:(bif decide (tow n p i=k) then some (wi64 (sumTo (segIn n p k) i+amt (rate p i))) else some (sumTo (segIn n p k) i))=some (sumTo (segIn n p k) i+segIn n p k i):=by
     by_cases hc:tow n p i=k
     ·have:segIn n p k i=amt (rate p i):=if_pos hc;rw[dec_t hc,zb,<-this,wi (by omega)]
     ·have:segIn n p k i=0:=if_neg hc;rw[dec_f hc,za,this,zI2]
    rw[s1,z7,s2,z7,z7,w1 hi (by omega)]
  ·show qcW n p k _ _ ((n.2.1.length:Nat):Int)=_;unfold qcW;rw[dec_f (by omega)]; rfl
 rw[e1,z7];have e2:iter (fun x2=>qcX n p k x2.1 x2.2.1 x2.2.2) (sumTo (segIn n p k) n.2.1.length,sumTo (qcd n p k) n.2.1.length,0)=some (comeF n p k,qjl n p k):=by
  have:=qaG (step:=fun x2:Int×Int×Int=>qcX n p k x2.1 x2.2.1 x2.2.2) (e:=(comeF n p k,qjl n p k)) n.2.2.1.length (fun i=>(sumTo (segIn n p k) n.2.1.length+sumTo (qgT n p k) i,sumTo (qcd n p k) n.2.1.length+sumTo (qd6 n p k) i,(i:Int))) (fun i hi=>?_) ?_
  ·refine Eq.trans ?_ this
   simp only[sumTo,zI2]; rfl
  ·have b1:=qdX (qoG (n:=n) hp k) n.2.1.length;have b2:=qdX (qlH (n:=n) hp k) n.2.1.length;have b3:=qdX (qrG (n:=n) hp k) i;have b4:=qdX (qpb (n:=n) hp k) i;have b5:=qrG (n:=n) hp k i;have b6:=qpb (n:=n) hp k i;show qcX n p k (sumTo (segIn n p k) n.2.1.length+sumTo (qgT n p k) i) (sumTo (qcd n p k) n.2.1.length+sumTo (qd6 n p k) i) (i:Int)=some (.inl (sumTo (segIn n p k) n.2.1.length+(sumTo (qgT n p k) i+qgT n p k i),sumTo (qcd n p k) n.2.1.length+(sumTo (qd6 n p k) i+qd6 n p k i),((i+1:Nat):Int)));have hr:=hp.q i;unfold qcX;have hB:inB (i:Int) p.2.1.length=true:=inB_t (by omega)
   have eq:prate p i=p.2.1.getD i 0:=rfl;rw[dec_t (show(i:Int)<(n.2.2.1.length:Int) by omega),zb,gd_t (inB_t hi),z8,gd_t hB,gd_t hB,<-eq,w1 hi (by omega)]
   by_cases hc:(n.2.2.1.getD i po0).2.1=k
   ·have z1:qgT n p k i=max 0 (prate p i):=if_pos hc;have z2:qd6 n p k i=max 0 (0-prate p i):=if_pos hc;have hc':((n.2.2.1.getD i ([],0,0)).2).1=k:=hc;rw[dec_t hc',zb,z7,wi (show -9223372036854775808<=0-prate p i/\0-prate p i<=9223372036854775807 by omega),<-z1,<-z2,wi (by omega),wi (by omega),Int.add_assoc,Int.add_assoc]
   ·have z1:qgT n p k i=0:=if_neg hc;have z2:qd6 n p k i=0:=if_neg hc;have hc':¬((n.2.2.1.getD i ([],0,0)).2).1=k:=hc;rw[dec_f hc',za,z7,z1,z2,zI2,zI2]
  ·show qcX n p k _ _ ((n.2.2.1.length:Nat):Int)=_;unfold qcX;rw[dec_f (by omega)]; rfl
 rw[e2]; rfl
/-! ### The order -/
def blk(n:Net)(p:Pl)(there:List Bool)(k:Nat)(i:Nat):Bool:=!decide (rate p i=0)&&(decide (tow n p i=(k:Int))&&!there.getD (frm n p i).toNat false)
def freeB(n:Net)(p:Pl)(there:List Bool)(k:Nat):Bool:=!there.getD k false&&!(List.range n.2.1.length).any (blk n p there k)
def nextF(n:Net)(p:Pl)(there:List Bool):Option Nat:=(List.range n.1.length).find? (freeB n p there)
def topo(n:Net)(p:Pl):Nat->List Bool->List Int
 | 0,_=>[]
 | f+1,there=>match nextF n p there with
  | none=>[]
  | some k=>(k:Int)::topo n p f (there.set k true)
def ordL(n:Net)(p:Pl):List Int:=topo n p n.1.length (List.replicate n.1.length false)
theorem qBq(f:Nat):∀there,(topo n p f there).length<=f:=by
 induction f with
 | zero=>intro _; exact zM _
 | succ f ih=>
  intro there;unfold topo;split
  ·exact zE1 _
  ·rw[zt]; have:=ih (there.set (by assumption) true); omega
theorem qu2{there:List Bool}(h:∀j,j<n.1.length->freeB n p there j=false):nextF n p there=none:=by
 unfold nextF;rw[List.find?_eq_none]
 intro x hx;rw[h x (zO.1 hx)]; simp
theorem qyf{q:Nat->Bool}{k m:Nat}(hk:k<m)(h:∀j,j<k->q j=false)(hq:q k=true):(List.range m).find? q=some k:=by
 rw[List.find?_range_eq_some]
 refine⟨hq,zO.2 hk,fun j hj=>?_⟩
 rw[h j hj]; rfl
theorem qzL{there:List Bool}{k:Nat}(hk:k<n.1.length)(h:∀j,j<k->freeB n p there j=false)(hq:freeB n p there k=true):nextF n p there=some k:=qyf hk h hq
theorem qoH{there:List Bool}(h:nextF n p there=none):∀f,topo n p f there=[]
 | 0=>rfl
 | f+1=>by unfold topo; rw[h]
theorem count_set{l:List Bool}{k:Nat}(hk:k<l.length)(h:l.getD k false=false):(l.set k true).count false+1=l.count false:=by
 rw[gD_eq hk] at h;have:=List.count_set (l:=l) (a:=true) (b:=false) hk;rw[this,h];have:0<l.count false:=List.count_pos_iff.2 (h ▸ zL2 hk);simp; omega
theorem qu3{l:List Bool}{k:Nat}(hk:k<l.length)(h:l.getD k false=false):0<l.count false:=by
 have:=count_set hk h; omega
theorem qxo(hn:VNet n)(h1:p.1.length=n.2.1.length){there:List Bool}(ht:there.length=n.1.length)(k:Nat)(out:List Int):
  iter (fun x=>qb5 n p (k:Int) x.1 x.2.1 x.2.2) (0,out,there)=some (bif (List.range n.2.1.length).any (blk n p there k) then .inl (out,there) else .inr (out,there)):=by
 have hs:=hn.small.sg;have:=qbn (step:=fun x:Int×List Int×List Bool=>qb5 n p (k:Int) x.1 x.2.1 x.2.2) n.2.1.length (fun i=>((i:Int),out,there)) (fun i=>!blk n p there k i) (fin:=.inr (out,there)) (bad:=.inl (out,there)) (fun i hi _ hq=>?_) (fun i hi _ hq=>?_) (fun _=>?_)
 ·have e:(List.range n.2.1.length).all (fun i=>!blk n p there k i)=!(List.range n.2.1.length).any (blk n p there k):=by simp[zc1]
  rw[e] at this;refine Eq.trans this ?_
  cases(List.range n.2.1.length).any (blk n p there k) <;> rfl
 ·show qb5 n p (k:Int) (i:Int) out there=_;unfold qb5;have hf:=qxk (p:=p) hn.kn hi;have ef:frm n p i=if p.1.getD i 0<0 then(n.2.1.getD i ([],0,0,0,0,0,[])).2.2.1 else(n.2.1.getD i ([],0,0,0,0,0,[])).2.1:=rfl
  have et:tow n p i=if p.1.getD i 0<0 then(n.2.1.getD i ([],0,0,0,0,0,[])).2.1 else(n.2.1.getD i ([],0,0,0,0,0,[])).2.2.1:=rfl
  have er:rate p i=p.1.getD i 0:=rfl;have hB:inB (i:Int) p.1.length=true:=inB_t (by omega)
  rw[dec_t (show(i:Int)<(n.2.1.length:Int) by omega),zb,gd_t (inB_t hi),gd_t hB,z8,qwp,z7,gd_t hB,<-ef,<-et,<-er,w1 hi (by omega),gd_t (qan.2 (by omega))]
  unfold blk at hq;simp only[Bool.not_and,zd1] at hq;cases hr:decide (rate p i=0) with
  | true=>simp only[ze,za,z7]
  | false=>
   rw[hr] at hq;simp only[zl1,zb];cases ht2:decide (tow n p i=(k:Int)) with
   | false=>simp only[za,z7]
   | true=>
    rw[ht2] at hq;simp only[zq2,ze] at hq;simp only[zb,hq,ze,z7,za]
 ·show qb5 n p (k:Int) (i:Int) out there=_;unfold qb5;have hf:=qxk (p:=p) hn.kn hi;have ef:frm n p i=if p.1.getD i 0<0 then(n.2.1.getD i ([],0,0,0,0,0,[])).2.2.1 else(n.2.1.getD i ([],0,0,0,0,0,[])).2.1:=rfl
  have et:tow n p i=if p.1.getD i 0<0 then(n.2.1.getD i ([],0,0,0,0,0,[])).2.1 else(n.2.1.getD i ([],0,0,0,0,0,[])).2.2.1:=rfl
  have er:rate p i=p.1.getD i 0:=rfl;have hB:inB (i:Int) p.1.length=true:=inB_t (by omega)
  rw[dec_t (show(i:Int)<(n.2.1.length:Int) by omega),zb,gd_t (inB_t hi),gd_t hB,z8,qwp,z7,gd_t hB,<-ef,<-et,<-er,gd_t (qan.2 (by omega))]
  have hq':blk n p there k i=true:=by revert hq; cases blk n p there k i <;> simp
  unfold blk at hq';rw[z9,z9] at hq';obtain⟨a,b,c⟩:=hq';rw[a,b,c]; rfl
 ·show qb5 n p (k:Int) ((n.2.1.length:Nat):Int) out there=_;unfold qb5;rw[dec_f (by omega)]; rfl
theorem qBr(hn:VNet n)(h1:p.1.length=n.2.1.length):∀(f:Nat) (there:List Bool) (out:List Int),there.length=n.1.length->there.count false<=f->out.length+f<=100->∀m k:Nat,k+m=n.1.length->(∀j,j<k->freeB n p there j=false)->
  iter (fun x=>qaY n p x.1 x.2.1 x.2.2) ((k:Int),out,there)=some (out++topo n p f there):=by
 have hN:=hn.small.no;intro f;induction f with
 | zero=>
  intro there out ht hc ho m;induction m with
  | zero=>
   intro k hk hf;rw[qb0 (e:=out) (by show qaY n p ((k:Nat):Int) out there=_; unfold qaY; rw[dec_f (by omega)]; rfl),qoH (qu2 fun j hj=>hf j (by omega)),z81]
  | succ m ih=>
   intro k hk hf;have hk':k<n.1.length:=by omega
   have hth:there.getD k false=true:=by
    cases hg:there.getD k false with
    | true=>rfl
    | false=>have:=qu3 (by omega) hg; omega
   have hfk:freeB n p there k=false:=by unfold freeB; rw[hth]; rfl
   rw[qcw (y:=(((k+1:Nat):Int),out,there)) (by
    show qaY n p ((k:Nat):Int) out there=_; unfold qaY;rw[dec_t (by omega),zb,gd_t (inB_t (by omega)),z8,hth,zb,z7,w1 hk' (by omega)])]
   refine ih (k+1) (by omega) fun j hj=>?_
   rcases zm2 j k with h | h
   ·exact hf j h
   ·rw[show j=k by omega]; exact hfk
 | succ f ihf=>
  intro there out ht hc ho m;induction m with
  | zero=>
   intro k hk hf;rw[qb0 (e:=out) (by show qaY n p ((k:Nat):Int) out there=_; unfold qaY; rw[dec_f (by omega)]; rfl),qoH (qu2 fun j hj=>hf j (by omega)),z81]
  | succ m ih=>
   intro k hk hf;have hk':k<n.1.length:=by omega
   have go:freeB n p there k=false->∀j,j<k+1->freeB n p there j=false:=fun hfk j hj=>by
    rcases zm2 j k with h | h
    ·exact hf j h
    ·rw[show j=k by omega]; exact hfk
   cases hth:there.getD k false with
   | true=>
    have hfk:freeB n p there k=false:=by unfold freeB; rw[hth]; rfl
    rw[qcw (y:=(((k+1:Nat):Int),out,there)) (by
     show qaY n p ((k:Nat):Int) out there=_; unfold qaY;rw[dec_t (by omega),zb,gd_t (inB_t (by omega)),z8,hth,zb,z7,w1 hk' (by omega)])]
    exact ih (k+1) (by omega) (go hfk)
   | false=>
    cases hb:(List.range n.2.1.length).any (blk n p there k) with
    | true=>
     have hfk:freeB n p there k=false:=by unfold freeB; rw[hth,hb]; rfl
     rw[qcw (y:=(((k+1:Nat):Int),out,there)) (by
      show qaY n p ((k:Nat):Int) out there=_; unfold qaY;rw[dec_t (by omega),zb,gd_t (inB_t (by omega)),z8,hth,za,qxo hn h1 ht k out,hb,z7,zb,z51,z7,w1 hk' (by omega)])]
     exact ih (k+1) (by omega) (go hfk)
    | false=>
     have hfk:freeB n p there k=true:=by unfold freeB; rw[hth,hb]; rfl
     rw[qcw (y:=((0:Int),out++[(k:Int)],there.set k true)) (by
      show qaY n p ((k:Nat):Int) out there=_; unfold qaY;rw[dec_t (by omega),zb,gd_t (inB_t (by omega)),z8,hth,za,qxo hn h1 ht k out,hb,z7,za,Sum.elim_inr,gd_t (inB_t (by show k<there.length; omega)),gd_t (qaj (by show(out.length+1)*8<=_; omega))]; rfl)]
     have hcs:=count_set (l:=there) (k:=k) (by omega) hth
     have:=ihf (there.set k true) (out++[(k:Int)]) (by rw[zJ]; exact ht) (by omega) (by rw[zd]; simp only[zt,zK]; omega) n.1.length 0 (by omega) (fun j hj=>by omega)
     refine Eq.trans this ?_
     rw[topo,qzL hk' hf hfk,zz]; rfl
theorem qzM(hn:VNet n)(h1:p.1.length=n.2.1.length):ql5 n p=some (ordL n p):=by
 have hN:=hn.small.no;unfold ql5;rw[gd_t (qfe (by omega)),z8]
 have:=qBr hn h1 n.1.length (List.replicate n.1.length false) [] (by simp) (by simp) (by simp; omega) n.1.length 0 (by omega) (fun j hj=>by omega)
 have this:iter (fun x=>qaY n p x.1 x.2.1 x.2.2) ((0:Int),[],List.replicate n.1.length false)=some (ordL n p):=this
 rw[this]; rfl
end
end Go.Proofs.YtfdgemafaphpaaaGreat
namespace Go.Proofs.YtfdgemafaphpaaaGreat
open Go Go.Sq
set_option linter.unusedVariables false
section
variable {n:Net} {p:Pl}
theorem qzN(hn:VNet n)(h1:p.1.length=n.2.1.length){there:List Bool}(ht:there.length=n.1.length)(k:Nat)(out:List Int):
  iter (fun x=>qcE n p (k:Int) x.1 x.2.1 x.2.2.1 x.2.2.2) (!there.getD k false,0,out,there)=some (freeB n p there k,out,there):=by
 have hs:=hn.small.sg;have:=qaG (step:=fun x:Bool×Int×List Int×List Bool=>qcE n p (k:Int) x.1 x.2.1 x.2.2.1 x.2.2.2) (e:=(freeB n p there k,out,there)) n.2.1.length (fun i=>(!there.getD k false&&!(List.range i).any (blk n p there k),(i:Int),out,there)) (fun i hi=>?_) ?_
 ·refine Eq.trans ?_ this
  simp only[List.range_zero,List.any_nil,zl1,zN2]; rfl
 ·show qcE n p (k:Int) (!there.getD k false&&!(List.range i).any (blk n p there k)) (i:Int) out there=some (.inl (!there.getD k false&&!(List.range (i+1)).any (blk n p there k),((i+1:Nat):Int),out,there));unfold qcE;have hf:=qxk (p:=p) hn.kn hi;have ef:frm n p i=if p.1.getD i 0<0 then(n.2.1.getD i ([],0,0,0,0,0,[])).2.2.1 else(n.2.1.getD i ([],0,0,0,0,0,[])).2.1:=rfl
  have et:tow n p i=if p.1.getD i 0<0 then(n.2.1.getD i ([],0,0,0,0,0,[])).2.1 else(n.2.1.getD i ([],0,0,0,0,0,[])).2.2.1:=rfl
  have er:rate p i=p.1.getD i 0:=rfl;have hB:inB (i:Int) p.1.length=true:=inB_t (by omega)
  have hT:inB (frm n p i) there.length=true:=qan.2 (by omega)
  rw[dec_t (show(i:Int)<(n.2.1.length:Int) by omega),zb,gd_t (inB_t hi),gd_t hB,z8,qxn,w1 hi (by omega),List.range_succ,List.any_append]
  simp only[z7,gd_t hB];rw[<-ef,<-et,<-er];simp only[gd_t hT,List.any_cons,List.any_nil,Bool.or_false];generalize hz:(List.range i).any (blk n p there k)=Z;rw[show blk n p there k i=(!decide (rate p i=0)&&(decide (tow n p i=(k:Int))&&!there.getD (frm n p i).toNat false)) from rfl]
  cases there.getD k false <;> cases Z <;> cases decide (rate p i=0) <;> cases decide (tow n p i=(k:Int)) <;> cases there.getD (frm n p i).toNat false <;> rfl
 ·show qcE n p (k:Int) _ ((n.2.1.length:Nat):Int) out there=_;unfold qcE;rw[dec_f (by omega)]; rfl
def nx(n:Net)(p:Pl)(there:List Bool)(v:Nat):Int:=match(List.range v).find? (freeB n p there) with
 | none=>-1
 | some k=>(k:Int)
theorem qDb{there:List Bool}{v:Nat}:nx n p there (v+1)=if nx n p there v<0/\freeB n p there v=true then(v:Int) else nx n p there v:=by
 unfold nx;rw[List.range_succ,List.find?_append]
 cases h:(List.range v).find? (freeB n p there) with
 | some k=>simp only[Option.some_or]; rw[if_neg (by omega)]
 | none=>
  simp only[Option.none_or];cases hf:freeB n p there v with
  | true=>simp[List.find?_cons,hf]
  | false=>simp[List.find?_cons,hf]
theorem qpc(hn:VNet n)(h1:p.1.length=n.2.1.length){there:List Bool}(ht:there.length=n.1.length)(out:List Int):
  iter (fun x=>qcF n p x.1 x.2.1 x.2.2.1 x.2.2.2) (-1,0,out,there)=some (nx n p there n.1.length,out,there):=by
 have hs:=hn.small.no;refine qaG (step:=fun x:Int×Int×List Int×List Bool=>qcF n p x.1 x.2.1 x.2.2.1 x.2.2.2) n.1.length (fun i=>(nx n p there i,(i:Int),out,there)) (fun i hi=>?_) ?_
 ·show qcF n p (nx n p there i) (i:Int) out there=some (.inl (nx n p there (i+1),((i+1:Nat):Int),out,there));unfold qcF;rw[dec_t (show(i:Int)<(n.1.length:Int) by omega),zb,gd_t (inB_t (by omega)),z8,qzN hn h1 ht i out,z7,w1 hi (by omega),qDb]
  simp only;cases hf:freeB n p there i with
  | false=>rw[if_neg (by simp)]; rfl
  | true=>
   simp only[zb,z7];by_cases h:nx n p there i<0
   ·rw[dec_t h,if_pos ⟨h,trivial⟩]; rfl
   ·rw[dec_f h,if_neg (fun hh=>h hh.1)]; rfl
 ·show qcF n p (nx n p there n.1.length) ((n.1.length:Nat):Int) out there=_;unfold qcF;rw[dec_f (by omega)]; rfl
theorem qu4{there:List Bool}{k:Nat}(h:nextF n p there=some k):k<n.1.length/\there.getD k false=false:=by
 unfold nextF at h;have h1:=List.mem_of_find?_eq_some h
 have h2:=List.find?_some h
 refine⟨zO.1 h1,?_⟩
 unfold freeB at h2;cases hg:there.getD k false with
 | false=>rfl
 | true=>rw[hg] at h2; cases h2
theorem qyg(hn:VNet n)(h1:p.1.length=n.2.1.length):∀(f:Nat) (there:List Bool) (out:List Int),there.length=n.1.length->there.count false<=f->out.length+f<=100->
  iter (fun x=>qb8 n p x.1 x.2) (out,there)=some (out++topo n p f there):=by
 intro f;induction f with
 | zero=>
  intro there out ht hc ho;have hnone:nextF n p there=none:=by
   cases h:nextF n p there with
   | none=>rfl
   | some k=>have:=qu4 h; have:=qu3 (by omega) this.2; omega
  rw[qb0 (e:=out) (by
   show qb8 n p out there=_; unfold qb8;rw[qpc hn h1 ht out,z7,show nx n p there n.1.length=-1 by unfold nx; unfold nextF at hnone; rw[hnone]]; rfl),qoH hnone,z81]
 | succ f ih=>
  intro there out ht hc ho;cases h:nextF n p there with
  | none=>
   rw[qb0 (e:=out) (by
    show qb8 n p out there=_; unfold qb8;rw[qpc hn h1 ht out,z7,show nx n p there n.1.length=-1 by unfold nx; unfold nextF at h; rw[h]]; rfl),qoH h,z81]
  | some k=>
   have hk:=qu4 h;rw[qcw (y:=(out++[(k:Int)],there.set k true)) (by
    show qb8 n p out there=_; unfold qb8;rw[qpc hn h1 ht out,z7,show nx n p there n.1.length=(k:Int) by unfold nx; unfold nextF at h; rw[h]]
    simp only;rw[dec_f (by omega),za,gd_t (qaj (by omega)),gd_t (inB_t (by omega)),z8])]
   have hcs:=count_set (l:=there) (k:=k) (by omega) hk.2
   rw[ih (there.set k true) (out++[(k:Int)]) (by rw[zJ]; exact ht) (by omega) (by rw[zd]; simp only[zt,zK]; omega),topo,h,zz]; rfl
theorem qzO(hn:VNet n)(h1:p.1.length=n.2.1.length):qjB n p=some (ordL n p):=by
 have hN:=hn.small.no;unfold qjB;rw[gd_t (qfe (by omega)),z8]
 have:=qyg hn h1 n.1.length (List.replicate n.1.length false) [] (by simp) (by simp) (by simp; omega)
 rw[this]; rfl
/-! ### Checks -/
def szB(n:Net)(p:Pl):Bool:=decide (p.1.length=n.2.1.length)&&(decide (p.2.1.length=n.2.2.1.length)&&decide (p.2.2.length=n.2.2.2.1.length))
def rtB(n:Net)(p:Pl)(i:Nat):Bool:=rg (0-min 1000 (n.2.1.getD i sg0).2.2.2.1) (min 1000 (n.2.1.getD i sg0).2.2.2.1) (rate p i)
def qm1(n:Net)(p:Pl):Bool:=(List.range n.2.1.length).all (rtB n p)
def qiO(p:Pl):Bool:=p.2.1.all (rg (-1000) 1000)
def balB(n:Net)(p:Pl):Bool:=(List.range n.1.length).all fun k=>decide (comeF n p (k:Int)=qjl n p (k:Int))
def qa4(n:Net)(p:Pl):Int:=if qcc n≠0 then qcc n else
 bif szB n p then(bif qm1 n p&&qiO p then(bif balB n p then(bif Nat.beq (ordL n p).length n.1.length then 0 else 13) else 12) else 1) else 9
theorem qpd:szB n p=true↔p.1.length=n.2.1.length/\p.2.1.length=n.2.2.1.length/\p.2.2.length=n.2.2.2.1.length:=by
 unfold szB; simp only[z9,zA]
theorem qkz{a b x:Int}:rg a b x=true↔a<=x/\x<=b:=by unfold rg; rw[z9,zA,zA]
theorem qtS(hn:VNet n){i:Nat}(hi:i<n.2.1.length):1<=(n.2.1.getD i sg0).2.2.2.1/\(n.2.1.getD i sg0).2.2.2.1<=1000000:=by
 have h:=hn.pr;unfold prB at h;rw[z9,zx] at h;have:=h.1 _ (qaU (d:=sg0) hi);unfold pipeB at this;simp only[z9] at this;exact qkz.1 this.1.2.1
theorem RB.of(hs:szB n p=true)(h1:qm1 n p=true)(h2:qiO p=true):RB p:=by
 obtain⟨s1,s2,s3⟩:=qpd.1 hs;refine⟨fun i=>?_,fun i=>?_⟩
 ·rcases zm2 i p.1.length with h | h
  ·have:=zx.1 h1 i (zO.2 (by omega))
   unfold rtB at this;rw[qkz] at this; omega
  ·unfold rate; rw[qsD h]; omega
 ·rcases zm2 i p.2.1.length with h | h
  ·have:=zx.1 h2 _ (qaU (d:=0) h);rw[qkz] at this; unfold prate; omega
  ·unfold prate; rw[qsD h]; omega
theorem qrH(r m:Int)(h:0<=m/\m<=1000000):qhO r m=some (rg (0-m) m r):=by
 unfold qhO rg;rw[wi (by omega)]
 cases decide (0-m<=r) <;> rfl
theorem qBs(hn:VNet n){k:Int}(h:¬(0<=k/\k<n.1.length)):comeF n p k=0/\qjl n p k=0:=by
 have a1:sumTo (segIn n p k) n.2.1.length=0:=qdY _ fun i hi=>if_neg fun(e:tow n p i=k)=>h (e ▸ qD9 (p:=p) hn.kn hi)
 have a2:sumTo (qcd n p k) n.2.1.length=0:=qdY _ fun i hi=>if_neg fun(e:frm n p i=k)=>h (e ▸ qxk (p:=p) hn.kn hi)
 have a3:sumTo (qgT n p k) n.2.2.1.length=0:=qdY _ fun i hi=>if_neg fun(e:(n.2.2.1.getD i po0).2.1=k)=>h (e ▸ hn.kn.p i hi)
 have a4:sumTo (qd6 n p k) n.2.2.1.length=0:=qdY _ fun i hi=>if_neg fun(e:(n.2.2.1.getD i po0).2.1=k)=>h (e ▸ hn.kn.p i hi)
 unfold comeF qjl;rw[a1,a2,a3,a4]; exact⟨rfl,rfl⟩
theorem bal24(hn:VNet n):((List.range 24).all fun i=>decide (((m24 fun k=>comeF n p k).getD i 0)=((m24 fun k=>qjl n p k).getD i 0)))=balB n p:=by
 unfold balB;rw[zZ,zx,zx];constructor
 ·intro h k hk;have hk:=zO.1 hk;have:=h k (zO.2 (by have:=hn.small.no; omega))
  rwa[qiN _ (by have:=hn.small.no; omega),qiN _ (by have:=hn.small.no; omega)] at this
 ·intro h k hk;have hk:=zO.1 hk;rw[qiN _ hk,qiN _ hk];by_cases hl:k<n.1.length
  ·exact h k (zO.2 hl)
  ·have:=qBs (p:=p) hn (k:=(k:Int)) (by omega)
   rw[this.1,this.2]; rfl
theorem qaR(n:Net):(n.1,n.2.1,n.2.2.1,n.2.2.2.1,n.2.2.2.2.1,n.2.2.2.2.2)=n:=rfl
theorem qEa:(ordL n p).length<=n.1.length:=qBq _ _
theorem qiu(n:Net)(p:Pl):qfT n p=some (qa4 n p):=by
 unfold qfT qa4;rw[qhU,z7];by_cases h0:qcc n=0
 ·rw[if_neg (fun h=>h h0),dec_t h0,ze,za]
  have hn:=VNet.of h0;have es:(
    bif !decide ((p.1.length:Int)=(n.2.1.length:Int)) then some true
    else bif !decide ((p.2.1.length:Int)=(n.2.2.1.length:Int)) then some true
    else some (!decide ((p.2.2.length:Int)=(n.2.2.2.1.length:Int))))=some (!szB n p):=by
   unfold szB;rw[show decide ((p.1.length:Int)=(n.2.1.length:Int))=decide (p.1.length=n.2.1.length) by congr 1; rw[Int.natCast_inj],
    show decide ((p.2.1.length:Int)=(n.2.2.1.length:Int))=decide (p.2.1.length=n.2.2.1.length) by congr 1; rw[Int.natCast_inj],
    show decide ((p.2.2.length:Int)=(n.2.2.2.1.length:Int))=decide (p.2.2.length=n.2.2.2.1.length) by congr 1; rw[Int.natCast_inj]]
   cases decide (p.1.length=n.2.1.length) <;> cases decide (p.2.1.length=n.2.2.1.length) <;> cases decide (p.2.2.length=n.2.2.2.1.length) <;> rfl
  rw[es,z7];cases hz:szB n p with
  | false=>rfl
  | true=>
   obtain⟨s1,s2,s3⟩:=qpd.1 hz;have m1:=hn.small.sg;have m2:=hn.small.po;simp only[ze,za,zb];have e1:iter (fun x=>qg8 n p x) 0=some (bif qm1 n p then .inl () else .inr 1):=by
    refine qbn (step:=fun x=>qg8 n p x) n.2.1.length (fun i=>(i:Int)) (rtB n p) (fin:=.inl ()) (bad:=.inr 1) (fun i hi _ hq=>?_) (fun i hi _ hq=>?_) (fun _=>?_)
    all_goals unfold qg8
    ·have hc:=qtS hn hi;have e:((((n.2.1.getD i ([],0,0,0,0,0,[])).2).2).2).1=(n.2.1.getD i sg0).2.2.2.1:=rfl;have e':p.1.getD i 0=rate p i:=rfl;rw[dec_t (show(i:Int)<(n.2.1.length:Int) by omega),zb,gd_t (inB_t hi),gd_t (inB_t (show i<p.1.length by omega)),z8,e,e',qrH _ _ (by omega),z7]
     unfold rtB at hq;rw[hq,w1 hi (by omega)]; rfl
    ·have hc:=qtS hn hi;have e:((((n.2.1.getD i ([],0,0,0,0,0,[])).2).2).2).1=(n.2.1.getD i sg0).2.2.2.1:=rfl;have e':p.1.getD i 0=rate p i:=rfl;rw[dec_t (show(i:Int)<(n.2.1.length:Int) by omega),zb,gd_t (inB_t hi),gd_t (inB_t (show i<p.1.length by omega)),z8,e,e',qrH _ _ (by omega),z7]
     unfold rtB at hq;rw[hq]; rfl
    ·rw[dec_f (by omega)]; rfl
   rw[e1,z7];cases hr:qm1 n p with
   | false=>rfl
   | true=>
    simp only[zb,z51,zF];rw[qnj p.2.1 (fun x=>!rg (-1000) 1000 x) _ (fun x _=>by
     show(qil x).bind _=_;unfold qil;rw[qrH _ _ (by omega)]; rfl) (by omega),z7]
    have ep:(p.2.1.any fun x=>!rg (-1000) 1000 x)=!qiO p:=by unfold qiO; simp[zc1]
    rw[ep];cases hq:qiO p with
    | false=>rfl
    | true=>
     simp only[ze,za,zb];rw[show((p.1,p.2.1,p.2.2):Pl)=p from rfl,qaR,qxm hn (RB.of hz hr hq) s1 s2,z7,bal24 hn]
     cases hb:balB n p with
     | false=>rfl
     | true=>
      simp only[ze,za,zb];rw[qzM hn s1,z7];have:=qEa (n:=n) (p:=p);cases ho:Nat.beq (ordL n p).length n.1.length with
      | true=>have:=zc ho; rw[dec_f (by omega)]; rfl
      | false=>
       have:(ordL n p).length≠n.1.length:=fun e=>by rw[e,zS2] at ho; cases ho
       rw[dec_t (by omega)]; rfl
 ·rw[if_pos h0,dec_f h0]; rfl
end
end Go.Proofs.YtfdgemafaphpaaaGreat
namespace Go.Proofs.YtfdgemafaphpaaaGreat
open Go Go.Sq
set_option linter.unusedVariables false
section
variable {n:Net} {p:Pl}
theorem natdec(a b:Nat):decide ((a:Int)=(b:Int))=decide (a=b):=by congr 1; rw[Int.natCast_inj]
theorem qmf(n:Net)(p:Pl):qeW n p=some (qa4 n p):=by
 unfold qeW qa4;rw[qaR,qka,z7];by_cases h0:qcc n=0
 ·rw[if_neg (fun h=>h h0),dec_t h0,ze,za]
  have hn:=VNet.of h0;have es:(
    bif !decide ((p.1.length:Int)=(n.2.1.length:Int)) then some true
    else bif !decide ((p.2.1.length:Int)=(n.2.2.1.length:Int)) then some true
    else some (!decide ((p.2.2.length:Int)=(n.2.2.2.1.length:Int))))=some (!szB n p):=by
   unfold szB;rw[natdec,natdec,natdec];cases decide (p.1.length=n.2.1.length) <;> cases decide (p.2.1.length=n.2.2.1.length) <;> cases decide (p.2.2.length=n.2.2.2.1.length) <;> rfl
  rw[es,z7];cases hz:szB n p with
  | false=>rfl
  | true=>
   obtain⟨s1,s2,s3⟩:=qpd.1 hz;have m1:=hn.small.sg;have m2:=hn.small.po;simp only[ze,za,zb];have key:∀i,i<n.2.1.length->(bif decide (p.1.getD i 0<wi64 (0-(min 1000 (((((n.2.1.getD i ([],0,0,0,0,0,[])).2).2).2).1)))) then some true
     else some (decide (min 1000 (((((n.2.1.getD i ([],(0,(0,(0,(0,(0,[]))))))).2).2).2).1)<p.1.getD i 0)))=some (!rtB n p i):=by
    intro i hi;have hc:=qtS hn hi;have e:((((n.2.1.getD i ([],0,0,0,0,0,[])).2).2).2).1=(n.2.1.getD i sg0).2.2.2.1:=rfl;rw[e,wi (by omega)]
    unfold rtB rg rate;by_cases a:p.1.getD i 0<0-min 1000 (n.2.1.getD i sg0).2.2.2.1
    ·rw[dec_t a,dec_f (show ¬(0-min 1000 (n.2.1.getD i sg0).2.2.2.1<=p.1.getD i 0) by omega)]; rfl
    ·rw[dec_f a,dec_t (show(0-min 1000 (n.2.1.getD i sg0).2.2.2.1<=p.1.getD i 0) by omega),za,zF]
     by_cases b:min 1000 (n.2.1.getD i sg0).2.2.2.1<p.1.getD i 0
     ·rw[dec_t b,dec_f (by omega)]; rfl
     ·rw[dec_f b,dec_t (by omega)]; rfl
   have e1:iter (fun x=>qf8 n p x) 0=some (bif qm1 n p then .inl () else .inr 1):=by
    unfold qm1;rw[<-s1];refine qbn (step:=fun x=>qf8 n p x) p.1.length (fun i=>(i:Int)) (rtB n p) (fin:=.inl ()) (bad:=.inr 1) (fun i hi _ hq=>?_) (fun i hi _ hq=>?_) (fun _=>?_)
    all_goals unfold qf8
    ·rw[dec_t (show(i:Int)<(p.1.length:Int) by omega),zb,gd_t (inB_t hi),gd_t (inB_t (show i<n.2.1.length by omega)),z8,key i (by omega),hq,z7,w1 hi (by omega)]; rfl
    ·rw[dec_t (show(i:Int)<(p.1.length:Int) by omega),zb,gd_t (inB_t hi),gd_t (inB_t (show i<n.2.1.length by omega)),z8,key i (by omega),hq,z7]; rfl
    ·rw[dec_f (by omega)]; rfl
   rw[e1,z7];cases hr:qm1 n p with
   | false=>rfl
   | true=>
    simp only[zb,z51,zF];have key2:∀x:Int,(bif decide (x < -1000) then some true else some (decide (1000<x)))=some (!rg (-1000) 1000 x):=by
     intro x;unfold rg;by_cases a:x < -1000
     ·rw[dec_t a,dec_f (show ¬(-1000<=x) by omega)]; rfl
     ·rw[dec_f a,dec_t (show -1000<=x by omega),za,zF]
      by_cases b:1000<x
      ·rw[dec_t b,dec_f (by omega)]; rfl
      ·rw[dec_f b,dec_t (by omega)]; rfl
    have e2:iter (fun x2=>qf9 p x2) 0=some (bif qiO p then .inl () else .inr 1):=by
     refine scanL (step:=fun x2=>qf9 p x2) p.2.1 0 (rg (-1000) 1000) (bad:=1) (fun i hi hq=>?_) (fun i hi hq=>?_) ?_
     all_goals unfold qf9
     ·rw[dec_t (show(i:Int)<(p.2.1.length:Int) by omega),zb,gd_t (inB_t hi),z8,key2,hq,z7,w1 hi (by omega)]; rfl
     ·rw[dec_t (show(i:Int)<(p.2.1.length:Int) by omega),zb,gd_t (inB_t hi),z8,key2,hq,z7]; rfl
     ·rw[dec_f (by omega)]; rfl
    rw[e2,z7];cases hq:qiO p with
    | false=>rfl
    | true=>
     simp only[zb,z51];have hp:=RB.of hz hr hq;have e3:iter (fun x3=>qga n p x3) 0=some (bif balB n p then .inl () else .inr 12):=by
      refine qbn (step:=fun x=>qga n p x) n.1.length (fun i=>(i:Int)) (fun k=>decide (comeF n p (k:Int)=qjl n p (k:Int))) (fin:=.inl ()) (bad:=.inr 12) (fun i hi _ hq=>?_) (fun i hi _ hq=>?_) (fun _=>?_)
      all_goals unfold qga
      ·rw[dec_t (show(i:Int)<(n.1.length:Int) by omega),zb,qaR,show((p.1,p.2.1,p.2.2):Pl)=p from rfl,qtR hp m1 m2 s1 s2,z7]
       simp only;rw[hq,w1 hi (by have:=hn.small.no; omega)]; rfl
      ·rw[dec_t (show(i:Int)<(n.1.length:Int) by omega),zb,qaR,show((p.1,p.2.1,p.2.2):Pl)=p from rfl,qtR hp m1 m2 s1 s2,z7]
       simp only;rw[hq]; rfl
      ·rw[dec_f (by omega)]; rfl
     rw[e3,z7];cases hb:balB n p with
     | false=>rfl
     | true=>
      simp only[zb,z51];rw[show((p.1,p.2.1,p.2.2):Pl)=p from rfl,qzO hn s1,z7,natdec]
      cases ho:Nat.beq (ordL n p).length n.1.length with
      | true=>have:=zc ho; rw[dec_t this]; rfl
      | false=>
       have:(ordL n p).length≠n.1.length:=fun e=>by rw[e,zS2] at ho; cases ho
       rw[dec_f this]; rfl
 ·rw[if_pos h0,dec_f h0]; rfl
structure VPl(n:Net)(p:Pl):Prop where
 net:qcc n=0
 sz:szB n p=true
 rt:qm1 n p=true
 pr:qiO p=true
theorem VPl.of(h:qa4 n p=0):VPl n p:=by
 unfold qa4 at h;by_cases h0:qcc n=0
 ·rw[if_neg (fun h=>h h0)] at h
  obtain⟨h1,h⟩:=qpH (by decide) h
  obtain⟨h2,h⟩:=qpH (by decide) h
  rw[z9] at h2;exact⟨h0,h1,h2.1,h2.2⟩
 ·rw[if_pos h0] at h; exact absurd h h0
theorem VPl.rb(h:VPl n p):RB p:=RB.of h.sz h.rt h.pr
theorem VPl.len(h:VPl n p):p.1.length=n.2.1.length/\p.2.1.length=n.2.2.1.length/\p.2.2.length=n.2.2.2.1.length:=qpd.1 h.sz
def thr(n:Net)(p:Pl)(k:Int):Int×Int:=if qa4 n p≠0 then(0,qa4 n p) else bif kn n k then(comeF n p k,0) else(0,8)
theorem knD(n:Net)(k:Int):(bif decide (k<0) then some true else some (decide ((n.1.length:Int)<=k)))=some (!kn n k):=by
 unfold kn;by_cases a:k<0
 ·rw[dec_t a,dec_f (show ¬0<=k by omega)]; rfl
 ·rw[dec_f a,dec_t (show 0<=k by omega),za,zF]
  by_cases b:(n.1.length:Int)<=k
  ·rw[dec_t b,dec_f (by omega)]; rfl
  ·rw[dec_f b,dec_t (by omega)]; rfl
theorem qEb(n:Net)(p:Pl)(k:Int):qim n p k=some (thr n p k):=by
 unfold qim thr;rw[qaR,show((p.1,p.2.1,p.2.2):Pl)=p from rfl,qiu,z7]
 by_cases h:qa4 n p=0
 ·rw[dec_t h,if_neg (fun e=>e h),ze,za,knD,z7]
  have hv:=VPl.of h;have hn:=VNet.of hv.net;cases hk:kn n k with
  | false=>rfl
  | true=>
   have hk:=qsH.1 hk;have:=hn.small.no;obtain⟨k',rfl⟩:∃k':Nat,k=(k':Int):=⟨k.toNat,by omega⟩
   simp only[ze,za,zb];rw[qxm hn hv.rb hv.len.1 hv.len.2.1,z7,gd_t (inB_t (by omega)),z8]
   simp only;rw[qiN _ (by omega)]
 ·rw[dec_f h,if_pos h]; rfl
theorem qzP(n:Net)(p:Pl)(k:Int):qg3 n p k=some (thr n p k):=by
 unfold qg3 thr;rw[qaR,show((p.1,p.2.1,p.2.2):Pl)=p from rfl,qmf,z7]
 by_cases h:qa4 n p=0
 ·rw[dec_t h,if_neg (fun e=>e h),ze,za,knD,z7]
  have hv:=VPl.of h;have hn:=VNet.of hv.net;cases hk:kn n k with
  | false=>rfl
  | true=>
   simp only[ze,za,zb];rw[qtR hv.rb hn.small.sg hn.small.po hv.len.1 hv.len.2.1,z7]
 ·rw[dec_f h,if_pos h]; rfl
/-! ### Lineups -/
def nz(l:List Int):List Bool:=l.map fun r=>!decide (r=0)
theorem qgU(l:List Int):(nz l).length=l.length:=z91 ..
def need(p:Pl):List Bool:=nz p.1++nz p.2.1
theorem qwq{l:List Int}{i:Nat}(h:i<l.length):nz (l.take (i+1))=nz (l.take i)++[!decide (l.getD i 0=0)]:=by
 unfold nz; rw[qdu 0 h,zt1]; rfl
theorem qxp(l:List Int)(h:l.length<=1000000):qgC l=some (nz l):=by
 unfold qgC;have:=qaG (step:=fun x:Int×List Bool=>qcl l x.1 x.2) (e:=nz l) l.length (fun i=>((i:Int),nz (l.take i))) (fun i hi=>?_) ?_
 ·have this:iter (fun x=>qcl l x.1 x.2) ((0:Int),[])=some (nz l):=this
  rw[this]; rfl
 ·show qcl l (i:Int) (nz (l.take i))=some (.inl (((i+1:Nat):Int),nz (l.take (i+1))));unfold qcl;rw[dec_t (show(i:Int)<(l.length:Int) by omega),zb,gd_t (inB_t hi),gd_t (qaj (by rw[qgU,zk]; omega)),z8,w1 hi (by omega),qwq hi]
 ·show qcl l ((l.length:Nat):Int) (nz (l.take l.length))=_;unfold qcl;rw[dec_f (by omega),zk1]; rfl
theorem qxq(p:Pl)(h1:p.1.length<=1000000)(h2:p.2.1.length<=1000000):qfO p=some (nz p.1,nz p.2.1):=by
 unfold qfO;have e1:=qaG (step:=fun x:Int×List Bool=>qcG p x.1 x.2) (e:=nz p.1) p.1.length (fun i=>((i:Int),nz (p.1.take i))) (fun i hi=>?_) ?_
 ·have e1:iter (fun x=>qcG p x.1 x.2) ((0:Int),[])=some (nz p.1):=e1
  rw[e1,z7];have e2:=qaG (step:=fun x2:Int×List Bool×List Bool=>qcH p x2.1 x2.2.1 x2.2.2) (e:=(nz p.1,nz p.2.1)) p.2.1.length (fun i=>((i:Int),nz p.1,nz (p.2.1.take i))) (fun i hi=>?_) ?_
  ·have e2:iter (fun x2=>qcH p x2.1 x2.2.1 x2.2.2) ((0:Int),nz p.1,[])=some (nz p.1,nz p.2.1):=e2
   rw[e2]; rfl
  ·show qcH p (i:Int) (nz p.1) (nz (p.2.1.take i))=some (.inl (((i+1:Nat):Int),nz p.1,nz (p.2.1.take (i+1))));unfold qcH;rw[dec_t (show(i:Int)<(p.2.1.length:Int) by omega),zb,gd_t (inB_t hi),gd_t (qaj (by rw[qgU,zk]; omega)),z8,w1 hi (by omega),qwq hi]
  ·show qcH p ((p.2.1.length:Nat):Int) (nz p.1) (nz (p.2.1.take p.2.1.length))=_;unfold qcH;rw[dec_f (by omega),zk1]; rfl
 ·show qcG p (i:Int) (nz (p.1.take i))=some (.inl (((i+1:Nat):Int),nz (p.1.take (i+1))));unfold qcG;rw[dec_t (show(i:Int)<(p.1.length:Int) by omega),zb,gd_t (inB_t hi),gd_t (qaj (by rw[qgU,zk]; omega)),z8,w1 hi (by omega),qwq hi]
 ·show qcG p ((p.1.length:Nat):Int) (nz (p.1.take p.1.length))=_;unfold qcG;rw[dec_f (by omega),zk1]; rfl
theorem qzQ(a b:List Bool)(h1:a.length<=1000000)(h2:b.length<=1000000):qiX (a,b)=some (a++b):=by
 unfold qiX;rw[gd_t (qaj (by simp only; omega)),gd_t (qaj (by simp only[zD]; omega))]; rfl
theorem qsI(a b:List Bool)(h1:a.length<=1000000)(h2:b.length<=1000000):qep (a,b)=some (a++b):=qzQ a b h1 h2
theorem qzR(n:Net)(p:Pl):qfU n p=some (if qa4 n p≠0 then(qa4 n p,[],[]) else(0,nz p.1,nz p.2.1)):=by
 unfold qfU;rw[qaR,qhU,z7,show((p.1,p.2.1,p.2.2):Pl)=p from rfl,qiu,z7]
 by_cases h0:qcc n=0
 ·rw[dec_t h0,ze,za];by_cases h:qa4 n p=0
  ·have hv:=VPl.of h;have hn:=VNet.of h0;have:=hv.len;have:=hn.small.sg;have:=hn.small.po;rw[dec_t h,if_neg (fun e=>e h),ze,za,qxp _ (by omega),z7,qxp _ (by omega)]; rfl
  ·rw[dec_f h,if_pos h]; rfl
 ·have e:qa4 n p=qcc n:=by unfold qa4; rw[if_pos h0]
  rw[dec_f h0,e,if_pos h0]; rfl
end
end Go.Proofs.YtfdgemafaphpaaaGreat
