/- Steps: desks, and what is checked of them. No condition. -/
import Derived.Test.YtfdgemafaphpaaaGreatFl4
namespace Go.Proofs.YtfdgemafaphpaaaGreat
open Go Go.Sq
set_option linter.unusedVariables false
abbrev Vl:=Int×Int×Bool×Bool
abbrev Dk:=List Vl×Pl
abbrev v0:Vl:=(0,0,false,false)
def qcp(v:Vl):Bool:=rg 1 60 v.1&&rg 0 v.1 v.2.1
def qce(v:Vl):Bool:=qcp v&&(decide (v.2.1=v.1)&&v.2.2.1)
def vlB(n:Net)(l:List Vl):Bool:=decide (l.length=n.2.1.length+n.2.2.1.length)&&l.all qcp
def rdyB(d:Dk):Bool:=(List.range (need d.2).length).all fun i=>!(need d.2).getD i false || qce (d.1.getD i v0)
def qkA(n:Net)(p:Pl)(i:Nat):Bool:=p.2.2.getD i false&&decide (comeF n p (n.2.2.2.1.getD i sta0).2.1=0)
def idleB(n:Net)(p:Pl):Bool:=(List.range n.2.2.2.1.length).any (qkA n p)
def qc7(n:Net)(d:Dk):Int:=if qcc n≠0 then qcc n else
 bif vlB n d.1 then(if qa4 n d.2≠0 then qa4 n d.2 else bif rdyB d then(bif idleB n d.2 then 21 else 0) else 21) else 20
section
variable {n:Net} {p:Pl}
theorem valid_eq(v:Vl):qdy v=some (qcp v):=by
 unfold qdy qcp rg;cases decide (1<=v.1) <;> cases decide (v.1<=60) <;> cases decide (0<=v.2.1) <;> rfl
theorem rvalid_eq(v:Vl):qeX v=some (qcp v):=valid_eq v
theorem qzS(v:Vl):ql6 v=some (qcp v&&decide (v.2.1=v.1)):=by
 unfold ql6;rw[show((v.1,v.2.1,v.2.2.1,v.2.2.2):Vl)=v from rfl,valid_eq,z7]
 cases qcp v <;> rfl
theorem qtT(v:Vl):qiY v=some (qcp v&&decide (v.2.1=v.1)):=qzS v
theorem qtU(v:Vl):qi9 v=some (qce v):=by
 unfold qi9 qce;rw[show((v.1,v.2.1,v.2.2.1,v.2.2.2):Vl)=v from rfl,qzS,z7]
 cases qcp v <;> cases decide (v.2.1=v.1) <;> rfl
theorem qzT(h:qa4 n p=0){i:Nat}(hi:i<n.2.2.2.1.length):thr n p (n.2.2.2.1.getD i sta0).2.1=(comeF n p (n.2.2.2.1.getD i sta0).2.1,0):=by
 unfold thr;have hn:=VNet.of (VPl.of h).net;rw[if_neg (fun e=>e h),qsH.2 (hn.kn.t i hi)]; rfl
theorem qrI(h:qa4 n p=0){i:Nat}(hi:i<n.2.2.2.1.length):qhQ n p (i:Int)=some (!decide (comeF n p (n.2.2.2.1.getD i sta0).2.1=0)):=by
 unfold qhQ;rw[gd_t (inB_t hi),z8,qaR,qEb,z7,show((n.2.2.2.1.getD i ([],0,0,0,0)).2).1=(n.2.2.2.1.getD i sta0).2.1 from rfl,show((p.1,p.2.1,p.2.2):Pl)=p from rfl,qzT h hi]; rfl
theorem qxr(h:qa4 n p=0):qja n p=some (idleB n p):=by
 have hv:=VPl.of h;have hn:=VNet.of hv.net;have hl:=hv.len.2.2;have hs:=hn.small.st;unfold qja;have:=scanN (ε:=Unit⊕Bool) (step:=fun x=>qjX n p x) n.2.2.2.1.length (qkA n p) (fin:=.inl ()) (bad:=.inr true) (fun i hi hq=>?_) (fun i hi hq=>?_) ?_
 ·rw[this,z7]; unfold idleB;cases(List.range n.2.2.2.1.length).any (qkA n p) <;> rfl
 all_goals unfold qjX
 ·rw[dec_t (show(i:Int)<(p.2.2.length:Int) by omega),zb,gd_t (inB_t (by omega)),z8,dec_t (show(i:Int)<(n.2.2.2.1.length:Int) by omega),qaR,show((p.1,p.2.1,p.2.2):Pl)=p from rfl,qrI h hi,w1 hi (by omega)]
  unfold qkA at hq;cases hp:p.2.2.getD i false with
  | false=>rfl
  | true=>
   rw[hp,zF] at hq;simp only[zb,z7,hq,zl1,ze,za]
 ·rw[dec_t (show(i:Int)<(p.2.2.length:Int) by omega),zb,gd_t (inB_t (by omega)),z8,dec_t (show(i:Int)<(n.2.2.2.1.length:Int) by omega),qaR,show((p.1,p.2.1,p.2.2):Pl)=p from rfl,qrI h hi]
  unfold qkA at hq;rw[z9] at hq;rw[hq.1];simp only[zb,z7,hq.2,ze,zl1]
 ·rw[dec_f (by omega)]; rfl
theorem qwr(h:qa4 n p=0):qiZ n p=some (!idleB n p):=by
 have hv:=VPl.of h;have hn:=VNet.of hv.net;have hl:=hv.len.2.2;have hs:=hn.small.st;unfold qiZ;have:=scanN (ε:=Unit⊕Bool) (step:=fun x=>qlc n p x) n.2.2.2.1.length (qkA n p) (fin:=.inl ()) (bad:=.inr false) (fun i hi hq=>?_) (fun i hi hq=>?_) ?_
 ·rw[this,z7]; unfold idleB;cases(List.range n.2.2.2.1.length).any (qkA n p) <;> rfl
 all_goals unfold qlc
 ·rw[dec_t (show(i:Int)<(n.2.2.2.1.length:Int) by omega),zb,gd_t (inB_t (by omega)),z8,gd_t (inB_t hi),qaR,show((p.1,p.2.1,p.2.2):Pl)=p from rfl,show((n.2.2.2.1.getD i ([],0,0,0,0)).2).1=(n.2.2.2.1.getD i sta0).2.1 from rfl,qzP,qzT h hi,w1 hi (by omega)]
  unfold qkA at hq;cases hp:p.2.2.getD i false with
  | false=>rfl
  | true=>
   rw[hp,zF] at hq;simp only[zb,z7,hq,dec_t,ze,za,z51]
 ·rw[dec_t (show(i:Int)<(n.2.2.2.1.length:Int) by omega),zb,gd_t (inB_t (by omega)),z8,gd_t (inB_t hi),qaR,show((p.1,p.2.1,p.2.2):Pl)=p from rfl,show((n.2.2.2.1.getD i ([],0,0,0,0)).2).1=(n.2.2.2.1.getD i sta0).2.1 from rfl,qzP,qzT h hi]
  unfold qkA at hq;rw[z9] at hq;rw[hq.1];simp only[zb,z7,hq.2,dec_t,ze,za,Sum.elim_inr]
 ·rw[dec_f (by omega)]; rfl
theorem qoI(h:szB n p=true):(need p).length=n.2.1.length+n.2.2.1.length:=by
 have:=qpd.1 h;unfold need; rw[zd,qgU,qgU]; omega
theorem qEc(d:Dk)(hl:(need d.2).length<=d.1.length)(hs:d.1.length<=1000):iter (fun x=>qb6 d (need d.2) x.1 x.2) (0,need d.2)=some (bif rdyB d then .inl () else .inr 21):=by
 refine qbn (step:=fun x:Int×List Bool=>qb6 d (need d.2) x.1 x.2) (need d.2).length (fun i=>((i:Int),need d.2)) (fun i=>!(need d.2).getD i false || qce (d.1.getD i v0)) (fin:=.inl ()) (bad:=.inr 21) (fun i hi _ hq=>?_) (fun i hi _ hq=>?_) (fun _=>?_)
 ·show qb6 d (need d.2) (i:Int) (need d.2)=_;unfold qb6;rw[dec_t (show(i:Int)<((need d.2).length:Int) by omega),zb,gd_t (inB_t hi),gd_t (inB_t (by omega)),z8,show(d.1.getD i (0,0,false,false))=d.1.getD i v0 from rfl,qtU,w1 hi (by omega)]
  cases hp:(need d.2).getD i false with
  | false=>rfl
  | true=>
   rw[hp] at hq;simp only[ze,zq2] at hq;rw[hq]; rfl
 ·show qb6 d (need d.2) (i:Int) (need d.2)=_;unfold qb6;rw[dec_t (show(i:Int)<((need d.2).length:Int) by omega),zb,gd_t (inB_t hi),gd_t (inB_t (by omega)),z8,show(d.1.getD i (0,0,false,false))=d.1.getD i v0 from rfl,qtU]
  rw[zs2] at hq;have h1:(need d.2).getD i false=true:=by simpa using hq.1
  rw[h1,hq.2]; rfl
 ·show qb6 d (need d.2) (((need d.2).length:Nat):Int) (need d.2)=_;unfold qb6;rw[dec_f (by omega)]; rfl
theorem qDc(d:Dk)(hl:(need d.2).length<=d.1.length)(hs:d.1.length<=1000):iter (fun x=>qbH d x.1 x.2) (0,need d.2)=some (bif rdyB d then .inl () else .inr 21):=by
 refine qbn (step:=fun x:Int×List Bool=>qbH d x.1 x.2) (need d.2).length (fun i=>((i:Int),need d.2)) (fun i=>!(need d.2).getD i false || qce (d.1.getD i v0)) (fin:=.inl ()) (bad:=.inr 21) (fun i hi _ hq=>?_) (fun i hi _ hq=>?_) (fun _=>?_)
 ·show qbH d (i:Int) (need d.2)=_;unfold qbH;have hB:inB (i:Int) d.1.length=true:=inB_t (by omega)
  rw[dec_t (show(i:Int)<((need d.2).length:Int) by omega),zb,gd_t (inB_t hi)]
  simp only[gd_t hB,z8];rw[show(d.1.getD i (0,0,false,false))=d.1.getD i v0 from rfl,qtT,w1 hi (by omega)]
  cases hp:(need d.2).getD i false with
  | false=>rfl
  | true=>
   rw[hp] at hq;simp only[ze,zq2] at hq;unfold qce at hq;rw[z9,z9] at hq;rw[hq.1,hq.2.1,hq.2.2]; rfl
 ·show qbH d (i:Int) (need d.2)=_;unfold qbH;have hB:inB (i:Int) d.1.length=true:=inB_t (by omega)
  rw[dec_t (show(i:Int)<((need d.2).length:Int) by omega),zb,gd_t (inB_t hi)]
  simp only[gd_t hB,z8];rw[show(d.1.getD i (0,0,false,false))=d.1.getD i v0 from rfl,qtT]
  rw[zs2] at hq;have h1:(need d.2).getD i false=true:=by simpa using hq.1
  have h2:=hq.2;unfold qce at h2;rw[h1];revert h2;cases qcp (d.1.getD i v0) <;> cases decide ((d.1.getD i v0).2.1=(d.1.getD i v0).1) <;> cases(d.1.getD i v0).2.2.1 <;> intro h2 <;> first | rfl | cases h2
 ·show qbH d (((need d.2).length:Nat):Int) (need d.2)=_;unfold qbH;rw[dec_f (by omega)]; rfl
theorem qtV(hn:VNet n):qgz n=some ((n.2.1.length+n.2.2.1.length:Nat):Int):=by
 have:=hn.small.sg;have:=hn.small.po;unfold qgz;rw[wi (by omega)]; rfl
theorem qzU(hn:VNet n):qdN n=some ((n.2.1.length+n.2.2.1.length:Nat):Int):=qtV hn
theorem qpI(n:Net)(d:Dk):qjb n d=some (qc7 n d):=by
 unfold qjb qc7;rw[qaR,qhU,z7];by_cases h0:qcc n=0
 ·have hn:=VNet.of h0;have m1:=hn.small.sg;have m2:=hn.small.po;rw[dec_t h0,if_neg (fun e=>e h0),ze,za,qtV hn,z7,natdec]
  have e1:(bif !decide (d.1.length=n.2.1.length+n.2.2.1.length) then some true
    else(qav d.1 (fun h=>(qgB h.1).bind fun y=>some y)).bind fun r3=>some r3)=some (!vlB n d.1):=by
   unfold vlB;by_cases hl:d.1.length=n.2.1.length+n.2.2.1.length
   ·rw[dec_t hl,ze,za,qj9 d.1 (fun v=>!qcp v) _ (fun v _=>by
     show(qgB v).bind _=_;unfold qgB;rw[show((v.1,(v.2.1,(v.2.2.1,v.2.2.2))):Vl)=v from rfl,valid_eq]; rfl) (by omega),z7,zF]
    congr 1;simp[zc1]
   ·rw[dec_f hl]; rfl
  rw[e1,z7];cases hv:vlB n d.1 with
  | false=>rfl
  | true=>
   have hl:d.1.length=n.2.1.length+n.2.2.1.length:=by
    unfold vlB at hv; rw[z9,zA] at hv; exact hv.1
   simp only[ze,za,zb];rw[show((d.2.1,d.2.2.1,d.2.2.2):Pl)=d.2 from rfl,qiu,z7,qzR,z7]
   by_cases hp:qa4 n d.2=0
   ·have hz:=(VPl.of hp).sz;have hnl:=qoI hz;have hzl:=(VPl.of hp).len;rw[dec_t hp,if_neg (fun e=>e hp),if_neg (fun e=>e hp)]
    simp only[ze,za,ze1];rw[qsI _ _ (by rw[qgU]; omega) (by rw[qgU]; omega),z7,show nz d.2.1++nz d.2.2.1=need d.2 from rfl,qEc d (by omega) (by omega),z7]
    cases rdyB d with
    | false=>rfl
    | true=>
     simp only[zb,z51];rw[qxr hp,z7];cases idleB n d.2 <;> rfl
   ·rw[dec_f hp,if_pos hp,if_pos hp]; rfl
 ·rw[dec_f h0,if_pos h0]; rfl
theorem qyh(n:Net)(d:Dk):qjH n d=some (qc7 n d):=by
 unfold qjH qc7;rw[qaR,qka,z7];by_cases h0:qcc n=0
 ·have hn:=VNet.of h0;have m1:=hn.small.sg;have m2:=hn.small.po;rw[dec_t h0,if_neg (fun e=>e h0),ze,za]
  have e1:qh8 n d.1=some (bif vlB n d.1 then 0 else 20):=by
   unfold qh8 vlB;rw[qaR,qzU hn,z7,natdec];by_cases hl:d.1.length=n.2.1.length+n.2.2.1.length
   ·rw[dec_t hl,ze,za,zF];have:=scanL (step:=fun x=>qhy d.1 x) d.1 v0 qcp (bad:=(20:Int)) (fun i hi hq=>?_) (fun i hi hq=>?_) ?_
    ·rw[this,z7];cases d.1.all qcp <;> rfl
    all_goals unfold qhy
    ·rw[dec_t (show(i:Int)<(d.1.length:Int) by omega),zb,gd_t (inB_t hi),z8,rvalid_eq,z7,hq,w1 hi (by omega)]; rfl
    ·rw[dec_t (show(i:Int)<(d.1.length:Int) by omega),zb,gd_t (inB_t hi),z8,rvalid_eq,z7,hq]; rfl
    ·rw[dec_f (by omega)]; rfl
   ·rw[dec_f hl]; rfl
  rw[e1,z7];cases hv:vlB n d.1 with
  | false=>rfl
  | true=>
   have hl:d.1.length=n.2.1.length+n.2.2.1.length:=by
    unfold vlB at hv; rw[z9,zA] at hv; exact hv.1
   simp only[zb,ze1,ze,za];rw[show((d.2.1,d.2.2.1,d.2.2.2):Pl)=d.2 from rfl,qmf,z7]
   by_cases hp:qa4 n d.2=0
   ·have hz:=(VPl.of hp).sz;have hnl:=qoI hz;have hzl:=(VPl.of hp).len;rw[dec_t hp,if_neg (fun e=>e hp)]
    simp only[ze,za];rw[qxq _ (by omega) (by omega),z7,qzQ _ _ (by rw[qgU]; omega) (by rw[qgU]; omega),z7,show nz d.2.1++nz d.2.2.1=need d.2 from rfl,qDc d (by omega) (by omega),z7]
    cases rdyB d with
    | false=>rfl
    | true=>
     simp only[zb,z51];rw[qwr hp,z7];cases idleB n d.2 <;> rfl
   ·rw[dec_f hp,if_pos hp]; rfl
 ·rw[dec_f h0,if_pos h0]; rfl
end
end Go.Proofs.YtfdgemafaphpaaaGreat
namespace Go.Proofs.YtfdgemafaphpaaaGreat
open Go Go.Sq
set_option linter.unusedVariables false
abbrev Hop:=Int×Bool
abbrev Pth:=Int×Int×List Hop×Int
abbrev Stp:=Int×Int×Int×Pth
structure DkS(d:Dk):Prop where
 v:d.1.length<=100000
 r:d.2.1.length<=100000
 p:d.2.2.1.length<=100000
 b:d.2.2.2.length<=100000
theorem qEd(l:List Vl)(h:l.length<=100000):qa6 l=some l:=by
 unfold qa6;rw[gd_t (qaj (by omega)),zD]
theorem qCx(l:List Int)(h:l.length<=100000):qbY l=some l:=by
 unfold qbY;rw[gd_t (qaj (by omega)),zD]
theorem qEe(l:List Bool)(h:l.length<=100000):qcq l=some l:=by
 unfold qcq;rw[gd_t (qaj (by omega)),zD]
theorem qzV{d:Dk}(h:DkS d):qhK d=some d:=by
 unfold qhK;rw[qEd _ h.v,z7,qCx _ h.r,z7,qCx _ h.p,z7,qEe _ h.b]; rfl
theorem qBt{p:Pl}(h1:p.1.length<=100000)(h2:p.2.1.length<=100000)(h3:p.2.2.length<=100000):qgc p=some p:=by
 unfold qgc;rw[gd_t (qaj (by omega)),gd_t (qaj (by omega)),gd_t (qaj (by omega))]; rfl
theorem qoJ{d:Dk}(h:DkS d):qdP d=some d:=by
 unfold qdP;have:=h.v;rw[gd_t (qaj (by omega)),show((d.2.1,d.2.2.1,d.2.2.2):Pl)=d.2 from rfl,qBt h.r h.p h.b]; rfl
/-! ### Kinds -/
def bareP(x:Pth):Bool:=decide (x.1=0)&&(decide (x.2.1=0)&&(decide ((x.2.2.1.length:Int)=0)&&decide (x.2.2.2=0)))
def qjm(s:Stp):Bool:=bif decide (s.1=1) || (decide (s.1=2) || (decide (s.1=3) || decide (s.1=4))) then decide (s.2.2.1=0)&&bareP s.2.2.2
 else bif decide (s.1=5) then decide (s.2.1=0)&&decide (s.2.2.2.2.2.2=0) else bif decide (s.1=6) then decide (s.2.1=0)&&bareP s.2.2.2 else false
theorem qxs(k:Int):Option.bind (α:=Bool) (bif decide (k=1) then some (decide (k=1)) else(
  Option.bind (α:=Bool) (bif decide (k=2) then some (decide (k=2)) else(
  Option.bind (α:=Bool) (bif decide (k=3) then some (decide (k=3)) else some (decide (k=4))) fun s2=>some s2)) fun s3=>some s3)) some=some (decide (k=1) || (decide (k=2) || (decide (k=3) || decide (k=4)))):=by
 cases decide (k=1) <;> cases decide (k=2) <;> cases decide (k=3) <;> cases decide (k=4) <;> rfl
theorem bareX(x:Pth):(bif decide (x.1=0) then bif decide (x.2.1=0) then bif decide ((x.2.2.1.length:Int)=0) then some (decide (x.2.2.2=0)) else some false else some false else some false)=some (bareP x):=by
 unfold bareP;cases decide (x.1=0) <;> cases decide (x.2.1=0) <;> cases decide ((x.2.2.1.length:Int)=0) <;> rfl
theorem qDd(x:Pth):qlW x=some (bareP x):=bareX x
theorem qzW{A B:Type}{x:Option A}{a:A}{f:A->Option B}(h:Option.bind x some=some a):Option.bind x f=f a:=by
 rw[show x=some a by rw[<-h]; cases x <;> rfl]; rfl
theorem qBu(s:Stp):ql7 s=some (qjm s):=by
 unfold ql7 qjm;have eb:(bif decide (s.2.2.2.1=0) then bif decide (s.2.2.2.2.1=0) then bif decide ((s.2.2.2.2.2.1.length:Int)=0) then some (decide (s.2.2.2.2.2.2=0)) else some false else some false else some false)=some (bareP s.2.2.2):=bareX s.2.2.2;rw[eb,z7];refine(qzW (qxs s.1)).trans ?_
 cases decide (s.1=1) || (decide (s.1=2) || (decide (s.1=3) || decide (s.1=4))) <;> cases decide (s.2.2.1=0) <;> cases decide (s.1=5) <;> cases decide (s.2.1=0) <;> cases decide (s.1=6) <;> rfl
theorem qzX(s:Stp):qia s=some (qjm s):=by
 unfold qia qjm;refine(qzW (qxs s.1)).trans ?_
 rw[show((s.2.2.2.1,s.2.2.2.2.1,s.2.2.2.2.2.1,s.2.2.2.2.2.2):Pth)=s.2.2.2 from rfl,qDd,z7]
 cases decide (s.1=1) || (decide (s.1=2) || (decide (s.1=3) || decide (s.1=4))) <;> cases decide (s.2.2.1=0) <;> cases decide (s.1=5) <;> cases decide (s.2.1=0) <;> cases decide (s.1=6) <;> rfl
/-! ### Paths -/
def sgH(n:Net)(h:Hop):Seg:=n.2.1.getD h.1.toNat sg0
def hopF(n:Net)(h:Hop):Int:=if h.2=true then(sgH n h).2.2.1 else(sgH n h).2.1
def hopT(n:Net)(h:Hop):Int:=if h.2=true then(sgH n h).2.1 else(sgH n h).2.2.1
def hopOk(n:Net)(h:Hop):Bool:=decide (0<=h.1)&&decide (h.1<(n.2.1.length:Int))
def walk(n:Net):List Hop->Int->List Int->Option Int
 | [],at',_=>some at'
 | h::r,at',ps=>bif hopOk n h&&(decide (hopF n h=at')&&!decide (hopT n h∈ps)) then walk n r (hopT n h) (ps++[hopT n h]) else none
def qdK(n:Net)(i:Int):Int:=(n.2.2.1.getD i.toNat po0).2.1
def isPt(n:Net)(i:Int):Bool:=decide (0<=i)&&decide (i<(n.2.2.1.length:Int))
def pathB(n:Net)(x:Pth):Bool:=(isPt n x.1&&(isPt n x.2.1&&(!decide (x.1=x.2.1)&&(decide (1<=x.2.2.2)&&(decide (x.2.2.2<=1000)&&decide (x.2.2.1.length<=32))))))&&
 (match walk n x.2.2.1 (qdK n x.1) [qdK n x.1] with
  | some a=>decide (a=qdK n x.2.1)
  | none=>false)
section
variable {n:Net}
theorem qrJ{h:Hop}:hopOk n h=true↔0<=h.1/\h.1<(n.2.1.length:Int):=by unfold hopOk; rw[z9,zA,zA]
theorem qqi{i:Int}:isPt n i=true↔0<=i/\i<(n.2.2.1.length:Int):=by unfold isPt; rw[z9,zA,zA]
theorem qxt{h:Hop}(ho:hopOk n h=true):ql8 n h=some (hopF n h,hopT n h):=by
 have:=qrJ.1 ho;unfold ql8;rw[gd_t (qan.2 (by omega))]
 unfold hopF hopT sgH;cases h.2 <;> rfl
theorem qu5{h:Hop}(ho:hopOk n h=true):qlU n h=some (hopF n h,hopT n h):=qxt ho
theorem qDe(l:List Int)(v:Int)(hl:l.length<=1000000):qb7 l v=some (decide (v∈l)):=by
 unfold qb7 qd5;have h:iter (fun x=>qbd l v x) 0=some (if l.findIdx (fun x=>decide (v=x))<l.length then .inr ((l.findIdx (fun x=>decide (v=x)):Nat):Int) else .inl ()):=by
  refine qfE (step:=fun y=>qbd l v y) (ε:=Unit⊕Int) l 0 (fun x=>decide (v=x)) (fin:=.inl ()) (fun i=>.inr (i:Int)) (fun i hi hq=>?_) (fun i hi hq=>?_) ?_
  ·unfold qbd;rw[dec_t (show(i:Int)<(l.length:Int) by omega),zb,gd_t (inB_t hi),z8,hq,za,w1 hi (by omega)]
  ·unfold qbd;rw[dec_t (show(i:Int)<(l.length:Int) by omega),zb,gd_t (inB_t hi),z8,hq,zb]
  ·unfold qbd;rw[dec_f (by omega)]; rfl
 rw[h,z7];by_cases hf:l.findIdx (fun x=>decide (v=x))<l.length
 ·have hm:v∈l:=by
   obtain⟨x,hx,he⟩:=zF2.1 hf;rw[zm he]; exact hx
  rw[if_pos hf,dec_t hm];show some (decide ((0:Int)<=_))=_;rw[dec_t (by omega)]
 ·have hm:¬v∈l:=fun hm=>hf (zF2.2 ⟨v,hm,by simp⟩)
  rw[if_neg hf,dec_f hm]; rfl
theorem hopD(h:Hop)(ps:List Int):(bif decide (h.1<0) then some (true,ps) else some (decide ((n.2.1.length:Int)<=h.1),ps))=some (!hopOk n h,ps):=by
 unfold hopOk;by_cases a:h.1<0
 ·rw[dec_t a,dec_f (show ¬0<=h.1 by omega)]; rfl
 ·rw[dec_f a,dec_t (show 0<=h.1 by omega),za,zF]
  by_cases b:(n.2.1.length:Int)<=h.1
  ·rw[dec_t b,dec_f (by omega)]; rfl
  ·rw[dec_f b,dec_t (by omega)]; rfl
theorem drop_cons{A:Type}{l:List A}{i:Nat}(d:A)(h:i<l.length):l.drop i=l.getD i d::l.drop (i+1):=by
 rw[zf1 h,gD_eq h]
def wres(o:Option Int):Int⊕Bool:=match o with
 | some a=>.inl a
 | none=>.inr false
theorem qBv(x:Pth)(hx:x.2.2.1.length<=1000):∀(m i:Nat) (a:Int) (ps:List Int),i+m=x.2.2.1.length->ps.length<=i+1->
  iter (fun y=>qcM n x y.1 y.2.1 y.2.2) (a,(i:Int),ps)=some (wres (walk n (x.2.2.1.drop i) a ps)):=by
 intro m;induction m with
 | zero=>
  intro i a ps hi hp;rw[qb0 (e:=.inl a) (by show qcM n x a (i:Int) ps=_; unfold qcM; rw[dec_f (by omega)]; rfl),z21 (by omega)]; rfl
 | succ m ih=>
  intro i a ps hi hp;have hi':i<x.2.2.1.length:=by omega
  have hstep:qcM n x a (i:Int) ps=(bif hopOk n (x.2.2.1.getD i (0,false))&&(decide (hopF n (x.2.2.1.getD i (0,false))=a)&&!decide (hopT n (x.2.2.1.getD i (0,false))∈ps)) then some (.inl (hopT n (x.2.2.1.getD i (0,false)),((i+1:Nat):Int),ps++[hopT n (x.2.2.1.getD i (0,false))])) else some (.inr (.inr false))):=by
   unfold qcM;rw[dec_t (show(i:Int)<(x.2.2.1.length:Int) by omega),zb,gd_t (inB_t hi'),z8]
   generalize x.2.2.1.getD i (0,false)=h;rw[hopD h ps,z7];cases ho:hopOk n h with
   | false=>rfl
   | true=>
    simp only[ze,za,zF];rw[show((h.1,h.2):Hop)=h from rfl,qxt ho,z7]
    cases hf:decide (hopF n h=a) with
    | false=>rfl
    | true=>
     simp only[ze,za,zF];rw[qDe ps _ (by omega),z7,z7]
     cases hm:decide (hopT n h∈ps) with
     | true=>rfl
     | false=>
      simp only[za,zl1,zb];rw[gd_t (qaj (by omega)),w1 hi' (by omega)]
  rw[drop_cons (0,false) hi'];unfold walk;cases hc:(hopOk n (x.2.2.1.getD i (0,false))&&(decide (hopF n (x.2.2.1.getD i (0,false))=a)&&!decide (hopT n (x.2.2.1.getD i (0,false))∈ps))) with
  | false=>rw[hc] at hstep; rw[qb0 hstep]; rfl
  | true=>
   rw[hc] at hstep;rw[qcw hstep,ih (i+1) _ _ (by omega) (by rw[zd]; simp only[zt,zK]; omega)]; rfl
theorem qBw(r:Int×Int)(ps:List Int)(hp:ps.length<=2000):iter (fun y=>qbI r y.1 y.2) (0,ps)=some (bif decide (r.2∈ps) then .inr false else .inl ps):=by
 have:=qbn (step:=fun y:Int×List Int=>qbI r y.1 y.2) ps.length (fun i=>((i:Int),ps)) (fun i=>!decide (ps.getD i 0=r.2)) (fin:=.inl ps) (bad:=.inr false) (fun i hi _ hq=>?_) (fun i hi _ hq=>?_) (fun _=>?_)
 ·refine Eq.trans this ?_
  have e:(List.range ps.length).all (fun i=>!decide (ps.getD i 0=r.2))=!decide (r.2∈ps):=by
   rw[zZ,zx];simp only[zu,z02];constructor
   ·intro h hm;obtain⟨k,hk,e⟩:=qpq 0 hm;exact h k (zO.2 hk) e
   ·intro h k hk e;exact h (e ▸ qaU (zO.1 hk))
  rw[e];cases decide (r.2∈ps) <;> rfl
 ·show qbI r (i:Int) ps=_;unfold qbI;have hq:decide (ps.getD i 0=r.2)=false:=by simpa using hq
  rw[dec_t (show(i:Int)<(ps.length:Int) by omega),zb,gd_t (inB_t hi),z8,hq,w1 hi (by omega)]; rfl
 ·show qbI r (i:Int) ps=_;unfold qbI;have hq:decide (ps.getD i 0=r.2)=true:=by simpa using hq
  rw[dec_t (show(i:Int)<(ps.length:Int) by omega),zb,gd_t (inB_t hi),z8,hq]; rfl
 ·show qbI r ((ps.length:Nat):Int) ps=_;unfold qbI;rw[dec_f (by omega)]; rfl
theorem qzY(x:Pth)(hx:x.2.2.1.length<=1000):∀(m i:Nat) (a:Int) (ps:List Int),i+m=x.2.2.1.length->ps.length<=i+1->
  iter (fun y=>qcI n x y.1 y.2.1 y.2.2) (a,(i:Int),ps)=some (wres (walk n (x.2.2.1.drop i) a ps)):=by
 intro m;induction m with
 | zero=>
  intro i a ps hi hp;rw[qb0 (e:=.inl a) (by show qcI n x a (i:Int) ps=_; unfold qcI; rw[dec_f (by omega)]; rfl),z21 (by omega)]; rfl
 | succ m ih=>
  intro i a ps hi hp;have hi':i<x.2.2.1.length:=by omega
  have hstep:qcI n x a (i:Int) ps=(bif hopOk n (x.2.2.1.getD i (0,false))&&(decide (hopF n (x.2.2.1.getD i (0,false))=a)&&!decide (hopT n (x.2.2.1.getD i (0,false))∈ps)) then some (.inl (hopT n (x.2.2.1.getD i (0,false)),((i+1:Nat):Int),ps++[hopT n (x.2.2.1.getD i (0,false))])) else some (.inr (.inr false))):=by
   unfold qcI;have hB:inB (i:Int) x.2.2.1.length=true:=inB_t hi';rw[dec_t (show(i:Int)<(x.2.2.1.length:Int) by omega),zb]
   simp only[gd_t hB,z8];rw[hopD (x.2.2.1.getD i (0,false)) ps,z7];cases ho:hopOk n (x.2.2.1.getD i (0,false)) with
   | false=>rfl
   | true=>
    simp only[ze,za,zF];rw[qaR,qu5 ho,z7];cases hf:decide (hopF n (x.2.2.1.getD i (0,false))=a) with
    | false=>rfl
    | true=>
     simp only[ze,za,zF];rw[qBw _ _ (by omega),z7]
     simp only;cases hm:decide (hopT n (x.2.2.1.getD i (0,false))∈ps) with
     | true=>rfl
     | false=>
      simp only[za,zl1,zb,z51];rw[gd_t (qaj (by omega)),w1 hi' (by omega)]
  rw[drop_cons (0,false) hi'];unfold walk;cases hc:(hopOk n (x.2.2.1.getD i (0,false))&&(decide (hopF n (x.2.2.1.getD i (0,false))=a)&&!decide (hopT n (x.2.2.1.getD i (0,false))∈ps))) with
  | false=>rw[hc] at hstep; rw[qb0 hstep]; rfl
  | true=>
   rw[hc] at hstep;rw[qcw hstep,ih (i+1) _ _ (by omega) (by rw[zd]; simp only[zt,zK]; omega)]; rfl
theorem notlt(a b:Int):decide (a<b)=!decide (b<=a):=by
 by_cases h:a<b
 ·rw[dec_t h,dec_f (by omega)]; rfl
 ·rw[dec_f h,dec_t (by omega)]; rfl
theorem qBx(x:Pth):qj1 n x=some (pathB n x):=by
 unfold qj1 pathB qhb;have e0:∀i:Int,(bif decide (0<=i) then some (decide (i<(n.2.2.1.length:Int))) else some false)=some (isPt n i):=fun i=>by unfold isPt; cases decide (0<=i) <;> rfl
 rw[e0,z7,e0,z7,notlt x.2.2.2 1,notlt 1000 x.2.2.2,notlt 32 (x.2.2.1.length:Int),show decide ((x.2.2.1.length:Int)<=32)=decide (x.2.2.1.length<=32) by congr 1; rw[eq_iff_iff]; omega]
 cases h1:isPt n x.1 with
 | false=>rfl
 | true=>
 cases h2:isPt n x.2.1 with
 | false=>rfl
 | true=>
 cases h3:decide (x.1=x.2.1) with
 | true=>rfl
 | false=>
 cases h4:decide (1<=x.2.2.2) with
 | false=>rfl
 | true=>
 cases h5:decide (x.2.2.2<=1000) with
 | false=>rfl
 | true=>
 cases h6:decide (x.2.2.1.length<=32) with
 | false=>rfl
 | true=>
  have h6:=zm h6;have a1:=qqi.1 h1;have a2:=qqi.1 h2;simp only[ze,za,zF,zl1,z7];rw[gd_t (qan.2 (by omega))]
  have:=qBv (n:=n) x (by omega) x.2.2.1.length 0 (qdK n x.1) [qdK n x.1] (by omega) (by simp)
  rw[show((n.2.2.1.getD x.1.toNat ([],0,0)).2).1=qdK n x.1 from rfl,show((n.2.2.1.getD x.2.1.toNat ([],0,0)).2).1=qdK n x.2.1 from rfl]
  have this:iter (fun y=>qcM n x y.1 y.2.1 y.2.2) (qdK n x.1,(0:Int),[qdK n x.1])=some (wres (walk n x.2.2.1 (qdK n x.1) [qdK n x.1])):=this
  rw[this,z7];cases walk n x.2.2.1 (qdK n x.1) [qdK n x.1] with
  | none=>rfl
  | some a=>
   show gd _ _=_;rw[gd_t (qan.2 (by omega))]
theorem qzZ(x:Pth):qjJ n x=some (pathB n x):=by
 unfold qjJ pathB;have e0:∀i:Int,decide (i<0)=(decide (i<0)&&!isPt n i):=fun i=>by
  unfold isPt;by_cases a:i<0
  ·rw[dec_t a,dec_f (show ¬0<=i by omega)]; rfl
  ·rw[dec_f a]; rfl
 rw[notlt x.2.2.2 1,notlt 1000 x.2.2.2,notlt 32 (x.2.2.1.length:Int),show decide ((x.2.2.1.length:Int)<=32)=decide (x.2.2.1.length<=32) by congr 1; rw[eq_iff_iff]; omega,notlt x.1 0,notlt x.2.1 0,
  show decide ((n.2.2.1.length:Int)<=x.1)=!decide (x.1<(n.2.2.1.length:Int)) by rw[notlt,zd1],show decide ((n.2.2.1.length:Int)<=x.2.1)=!decide (x.2.1<(n.2.2.1.length:Int)) by rw[notlt,zd1]]
 have f1:isPt n x.1=(decide (0<=x.1)&&decide (x.1<(n.2.2.1.length:Int))):=rfl;have f2:isPt n x.2.1=(decide (0<=x.2.1)&&decide (x.2.1<(n.2.2.1.length:Int))):=rfl;rw[f1,f2];cases g1:decide (0<=x.1) with
 | false=>rfl
 | true=>
 cases h1:decide (x.1<(n.2.2.1.length:Int)) with
 | false=>rfl
 | true=>
 cases g2:decide (0<=x.2.1) with
 | false=>rfl
 | true=>
 cases h2:decide (x.2.1<(n.2.2.1.length:Int)) with
 | false=>rfl
 | true=>
 cases h3:decide (x.1=x.2.1) with
 | true=>rfl
 | false=>
 cases h4:decide (1<=x.2.2.2) with
 | false=>rfl
 | true=>
 cases h5:decide (x.2.2.2<=1000) with
 | false=>rfl
 | true=>
 cases h6:decide (x.2.2.1.length<=32) with
 | false=>rfl
 | true=>
  have h6:=zm h6;have a1:=zm g1;have a2:=zm g2;have a3:=zm h1;have a4:=zm h2;simp only[ze,za,zF,zl1,z7];rw[gd_t (qan.2 (by omega))]
  have:=qzY (n:=n) x (by omega) x.2.2.1.length 0 (qdK n x.1) [qdK n x.1] (by omega) (by simp)
  rw[show((n.2.2.1.getD x.1.toNat ([],0,0)).2).1=qdK n x.1 from rfl,show((n.2.2.1.getD x.2.1.toNat ([],0,0)).2).1=qdK n x.2.1 from rfl]
  have this:iter (fun y=>qcI n x y.1 y.2.1 y.2.2) (qdK n x.1,(0:Int),[qdK n x.1])=some (wres (walk n x.2.2.1 (qdK n x.1) [qdK n x.1])):=this
  rw[this,z7];cases walk n x.2.2.1 (qdK n x.1) [qdK n x.1] with
  | none=>rfl
  | some a=>
   show gd _ _=_;rw[gd_t (qan.2 (by omega))]
theorem qBy(h0:qcc n=0)(x:Pth):qj2 n x=some (pathB n x):=by
 unfold qj2;rw[qaR,qhU,z7,dec_t h0,zb,show((x.1,x.2.1,x.2.2.1,x.2.2.2):Pth)=x from rfl,qBx]; rfl
theorem qz0(h0:qcc n=0)(x:Pth):qjK n x=some (pathB n x):=by
 unfold qjK;rw[qaR,qka,z7,dec_t h0,zb,show((x.1,x.2.1,x.2.2.1,x.2.2.2):Pth)=x from rfl,qzZ]; rfl
end
end Go.Proofs.YtfdgemafaphpaaaGreat
namespace Go.Proofs.YtfdgemafaphpaaaGreat
open Go Go.Sq
set_option linter.unusedVariables false
structure VDk(n:Net)(d:Dk):Prop where
 net:qcc n=0
 len:d.1.length=n.2.1.length+n.2.2.1.length
 val:d.1.all qcp=true
 pl:qa4 n d.2=0
 rdy:rdyB d=true
 idl:idleB n d.2=false
def along(p:Pl)(h:Hop):Int:=if h.2=true then 0-p.1.getD h.1.toNat 0 else p.1.getD h.1.toNat 0
def sgn(h:Hop)(v:Int):Int:=if h.2=true then 0-v else v
def qpJ(n:Net)(d:Dk)(x:Pth):Bool:=qce (d.1.getD (n.2.1.length+x.1.toNat) v0)&&(qce (d.1.getD (n.2.1.length+x.2.1.toNat) v0)&&x.2.2.1.all fun h=>qce (d.1.getD h.1.toNat v0))
def ptOk(p:Pl)(x:Pth)(v:Int):Bool:=decide (0<=p.2.1.getD x.1.toNat 0)&&(decide (0<=0-p.2.1.getD x.2.1.toNat 0)&&(decide (0<=p.2.1.getD x.1.toNat 0+v)&&decide (0<=0-p.2.1.getD x.2.1.toNat 0+v)))
def hpOk(p:Pl)(v:Int)(h:Hop):Bool:=decide (0<=along p h)&&decide (0<=along p h+v)
def growB(n:Net)(d:Dk)(x:Pth)(v:Int):Bool:=qpJ n d x&&(ptOk d.2 x v&&x.2.2.1.all (hpOk d.2 v))
def growR(l:List Hop)(v:Int)(r:List Int):List Int:=l.foldl (fun r h=>r.set h.1.toNat (r.getD h.1.toNat 0+sgn h v)) r
def growQ(x:Pth)(v:Int)(q:List Int):List Int:=(q.set x.1.toNat (q.getD x.1.toNat 0+v)).set x.2.1.toNat ((q.set x.1.toNat (q.getD x.1.toNat 0+v)).getD x.2.1.toNat 0-v)
def growP(x:Pth)(v:Int)(p:Pl):Pl:=(growR x.2.2.1 v p.1,growQ x v p.2.1,p.2.2)
theorem qrK(l:List Hop)(v:Int):∀r,(growR l v r).length=r.length:=by
 induction l with
 | nil=>intro r; rfl
 | cons h l ih=>intro r; exact(ih _).trans (zJ ..)
theorem qsJ{l:List Hop}{i:Nat}(hi:i<l.length)(v:Int)(r:List Int):growR (l.take (i+1)) v r=(growR (l.take i) v r).set (l.getD i (0,false)).1.toNat ((growR (l.take i) v r).getD (l.getD i (0,false)).1.toNat 0+sgn (l.getD i (0,false)) v):=by
 unfold growR;rw[qdu (0,false) hi,List.foldl_append]; rfl
theorem qnm{k:Nat}(v:Int):∀(l:List Hop) (r:List Int),(∀h∈l,h.1.toNat≠k)->(growR l v r).getD k 0=r.getD k 0
 | [],_,_=>rfl
 | h::l,r,hl=>by
  show(growR l v _).getD k 0=_;rw[qnm v l _ fun h' hh=>hl h' (by simp[hh]),qgq,if_neg (fun e=>hl h (by simp) e.1)]
theorem qBz(v:Int)(hv : -1000<=v/\v<=1000){b:Int}:∀(l:List Hop) (r:List Int),(∀k,-b<=r.getD k 0/\r.getD k 0<=b)->∀k,-b-1000*l.length<=(growR l v r).getD k 0/\(growR l v r).getD k 0<=b+1000*l.length:=by
 intro l;induction l generalizing b with
 | nil=>intro r h k; have:=h k; simpa[growR] using this
 | cons h l ih=>
  intro r hr k;have:=ih (b:=b+1000) (r.set h.1.toNat (r.getD h.1.toNat 0+sgn h v)) (fun j=>by
   rw[qgq];have h1:=hr h.1.toNat;have h2:=hr j;split
   ·unfold sgn; split <;> omega
   ·omega) k
  rw[show growR (h::l) v r=growR l v (r.set h.1.toNat (r.getD h.1.toNat 0+sgn h v)) from rfl,zt]
  omega
theorem qrL{A:Type}(f g:A->Bool):∀l:List A,(l.any fun h=>!(f h&&g h))=!(l.all f&&l.all g)
 | []=>rfl
 | a::l=>by
  rw[List.any_cons,zF1,zF1,qrL f g l];cases f a <;> cases g a <;> cases l.all f <;> cases l.all g <;> rfl
theorem qz1(x:Pth)(v:Int)(q:List Int):(growQ x v q).length=q.length:=by unfold growQ; rw[zJ,zJ]
section
variable {n:Net}
theorem VDk.of{d:Dk}(h:qc7 n d=0):VDk n d:=by
 unfold qc7 at h;by_cases h0:qcc n=0
 ·rw[if_neg (fun e=>e h0)] at h
  obtain⟨h1,h⟩:=qpH (by decide) h
  unfold vlB at h1;rw[z9,zA] at h1;by_cases hp:qa4 n d.2=0
  ·rw[if_neg (fun e=>e hp)] at h
   obtain⟨h2,h⟩:=qpH (by decide) h
   cases hi:idleB n d.2 with
   | true=>rw[hi] at h; cases h
   | false=>exact⟨h0,h1.1,h1.2,hp,h2,hi⟩
  ·rw[if_pos hp] at h; exact absurd h hp
 ·rw[if_pos h0] at h; exact absurd h h0
theorem VDk.to{d:Dk}(h:VDk n d):qc7 n d=0:=by
 unfold qc7 vlB;rw[if_neg (fun e=>e h.net),dec_t h.len,h.val,if_neg (fun e=>e h.pl),h.rdy,h.idl]; rfl
theorem VDk.sz{d:Dk}(h:VDk n d):d.2.1.length=n.2.1.length/\d.2.2.1.length=n.2.2.1.length/\d.2.2.2.length=n.2.2.2.1.length:=(VPl.of h.pl).len
theorem VDk.small{d:Dk}(h:VDk n d):DkS d:=by
 have hn:=(VNet.of h.net).small;have:=h.len; have:=h.sz; have:=hn.sg; have:=hn.po; have:=hn.st;exact⟨by omega,by omega,by omega,by omega⟩
structure VPa(n:Net)(x:Pth):Prop where
 i:0<=x.1/\x.1<(n.2.2.1.length:Int)
 o:0<=x.2.1/\x.2.1<(n.2.2.1.length:Int)
 ne:x.1≠x.2.1
 hl:x.2.2.1.length<=32
 h:∀h∈x.2.2.1,0<=h.1/\h.1<(n.2.1.length:Int)
 d:∀i j,i<j->j<x.2.2.1.length->(x.2.2.1.getD i (0,false)).1≠(x.2.2.1.getD j (0,false)).1
theorem qws:∀ {l:List Hop} {a:Int} {ps:List Int} {b:Int},walk n l a ps=some b->∀h∈l,(0<=h.1/\h.1<(n.2.1.length:Int))/\hopT n h∉ps
 | [],_,_,_,_=>fun h hh=>by cases hh
 | h::l,a,ps,b,hw=>by
  unfold walk at hw;cases hc:(hopOk n h&&(decide (hopF n h=a)&&!decide (hopT n h∈ps))) with
  | false=>rw[hc] at hw; cases hw
  | true=>
   rw[hc,zb] at hw;rw[z9,z9] at hc;intro h' hh;rcases zE.1 hh with rfl | hh
   ·exact⟨qrJ.1 hc.1,by simpa using hc.2.2⟩
   ·have:=qws hw h' hh;exact⟨this.1,fun hm=>this.2 (List.mem_append_left _ hm)⟩
theorem qz2:∀ {l:List Hop} {a:Int} {ps:List Int} {b:Int},a∈ps->walk n l a ps=some b->∀i j,i<j->j<l.length->(l.getD i (0,false)).1≠(l.getD j (0,false)).1
 | [],_,_,_,_,_=>fun i j _ hj=>by cases hj
 | h::l,a,ps,b,ha,hw=>by
  unfold walk at hw;cases hc:(hopOk n h&&(decide (hopF n h=a)&&!decide (hopT n h∈ps))) with
  | false=>rw[hc] at hw; cases hw
  | true=>
   rw[hc,zb] at hw;rw[z9,z9,zA] at hc;have hrec:=qz2 (List.mem_append_right ps (zI.2 rfl)) hw;have all:=qws hw;intro i j hij hj;cases j with
   | zero=>omega
   | succ j=>
    cases i with
    | succ i=>exact hrec i j (by omega) (by simpa using hj)
    | zero=>
     show h.1≠(l.getD j (0,false)).1;intro e;have hm:l.getD j (0,false)∈l:=qaU (by simpa using hj)
     refine(all _ hm).2 ?_
     have es:sgH n (l.getD j (0,false))=sgH n h:=by unfold sgH; rw[e]
     have:hopT n (l.getD j (0,false))=hopT n h\/hopT n (l.getD j (0,false))=hopF n h:=by
      unfold hopT hopF;rw[es];cases(l.getD j (0,false)).2 <;> cases h.2 <;> simp
     rcases this with h1 | h1
     ·rw[h1]; exact List.mem_append_right _ (zI.2 rfl)
     ·rw[h1,hc.2.1]; exact List.mem_append_left _ ha
theorem VPa.of{x:Pth}(h:pathB n x=true):VPa n x:=by
 unfold pathB at h;simp only[z9,zu,zA,z02] at h;obtain⟨⟨h1,h2,h3,h4,h5,h6⟩,hw⟩:=h;split at hw
 ·rename_i a ha;exact⟨qqi.1 h1,qqi.1 h2,h3,h6,fun h hh=>(qws ha h hh).1,qz2 (zI.2 rfl) ha⟩
 ·cases hw
theorem qtW{d:Dk}{i:Int}(h0:0<=i)(h1:i<(d.1.length:Int)):qe6 i d=some (qce (d.1.getD i.toNat v0)):=by
 unfold qe6;rw[gd_t (qan.2 ⟨h0,h1⟩),show(d.1.getD i.toNat (0,0,false,false))=d.1.getD i.toNat v0 from rfl,qtU]; rfl
theorem VDk.rate{d:Dk}(h:VDk n d)(k:Nat) : -1000<=d.2.1.getD k 0/\d.2.1.getD k 0<=1000:=(VPl.of h.pl).rb.s k
theorem VDk.prate{d:Dk}(h:VDk n d)(k:Nat) : -1000<=d.2.2.1.getD k 0/\d.2.2.1.getD k 0<=1000:=(VPl.of h.pl).rb.q k
theorem qBA{d:Dk}(hd:VDk n d){h:Hop}(hh:0<=h.1/\h.1<(n.2.1.length:Int)):ql9 d.2 h=some (along d.2 h):=by
 have:=hd.sz;have hr:=hd.rate h.1.toNat;unfold ql9 along;rw[gd_t (qan.2 (by omega)),gd_t (qan.2 (by omega)),wi (by omega)]
 cases h.2 <;> rfl
theorem qBB{d:Dk}(hd:VDk n d){v:Int}(hv : -1000<=v/\v<=1000){h:Hop}(hh:0<=h.1/\h.1<(n.2.1.length:Int)):qe7 h d d v=some (!(qce (d.1.getD h.1.toNat v0)&&hpOk d.2 v h)):=by
 have hr:=hd.rate h.1.toNat;have hb : -1000<=along d.2 h/\along d.2 h<=1000:=by unfold along; split <;> omega
 have hl:=hd.len;unfold qe7;rw[show((h.1,h.2):Hop)=h from rfl,qBA hd hh,z7,qtW hh.1 (by omega),z7,wi (by omega)]
 unfold hpOk;rw[notlt (along d.2 h) 0,notlt (along d.2 h+v) 0];cases qce (d.1.getD h.1.toNat v0) <;> cases decide (0<=along d.2 h) <;> cases decide (0<=along d.2 h+v) <;> rfl
theorem qBC{d:Dk}(hd:VDk n d){x:Pth}(hx:VPa n x){v:Int}(hv : -1000<=v/\v<=1000):qma n d x v=some (growB n d x v):=by
 have hz:=hd.sz;have hl:=hd.len;have hi:=hx.i;have ho:=hx.o;have b1:=hd.prate x.1.toNat;have b2:=hd.prate x.2.1.toNat;have hn:=(VNet.of hd.net).small;have m1:=hn.sg;have m2:=hn.po;unfold qma;rw[gd_t (qan.2 (by omega)),gd_t (qan.2 (by omega)),wi (by omega),wi (by omega),show((d.1,d.2.1,d.2.2.1,d.2.2.2):Dk)=d from rfl,
  qtW (by omega) (by omega),qtW (by omega) (by omega),z7,z7,show(((n.2.1.length:Int)+x.1).toNat)=n.2.1.length+x.1.toNat by omega,show(((n.2.1.length:Int)+x.2.1).toNat)=n.2.1.length+x.2.1.toNat by omega,
  wi (show -9223372036854775808<=0-d.2.2.1.getD x.2.1.toNat 0/\0-d.2.2.1.getD x.2.1.toNat 0<=9223372036854775807 by omega),wi (by omega),wi (by omega)]
 have eh:=qnl x.2.2.1 (fun h=>!(qce (d.1.getD h.1.toNat v0)&&hpOk d.2 v h)) (fun h=>(qe7 h.1 d d v).bind fun y=>some y) (fun h hh=>by
  show(qe7 h d d v).bind _=_;rw[qBB hd hv (hx.h h hh)]; rfl) (by have:=hx.hl; omega)
 unfold growB qpJ ptOk;have el:(x.2.2.1.any fun h=>!(qce (d.1.getD h.1.toNat v0)&&hpOk d.2 v h))=!((x.2.2.1.all fun h=>qce (d.1.getD h.1.toNat v0))&&x.2.2.1.all (hpOk d.2 v)):=by
  exact qrL _ _ _
 rw[notlt (d.2.2.1.getD x.1.toNat 0) 0,notlt (0-d.2.2.1.getD x.2.1.toNat 0) 0,notlt (d.2.2.1.getD x.1.toNat 0+v) 0,notlt (0-d.2.2.1.getD x.2.1.toNat 0+v) 0];cases qce (d.1.getD (n.2.1.length+x.1.toNat) v0) with
 | false=>rfl
 | true=>
 cases qce (d.1.getD (n.2.1.length+x.2.1.toNat) v0) with
 | false=>rfl
 | true=>
 cases decide (0<=d.2.2.1.getD x.1.toNat 0) with
 | false=>simp
 | true=>
 cases decide (0<=0-d.2.2.1.getD x.2.1.toNat 0) with
 | false=>simp
 | true=>
 cases decide (0<=d.2.2.1.getD x.1.toNat 0+v) with
 | false=>simp
 | true=>
 cases decide (0<=0-d.2.2.1.getD x.2.1.toNat 0+v) with
 | false=>simp
 | true=>
  simp only[ze,za,z7,zF];rw[eh,z7,el,zd1]
theorem qDf{x:Pth}{v:Int}(hv : -1000<=v/\v<=1000){p:Pl}(hr:∀k,-1000<=p.1.getD k 0/\p.1.getD k 0<=1000)(hq:∀k,-1000<=p.2.1.getD k 0/\p.2.1.getD k 0<=1000)(hx:VPa n x)(l1:p.1.length=n.2.1.length)(l2:p.2.1.length=n.2.2.1.length)(d:List Vl):
  qmb x v d p.1 p.2.1 p.2.2=some (d,growP x v p):=by
 have hi:=hx.i;have ho:=hx.o;have b1:=hq x.1.toNat;unfold qmb;have hB:inB x.1 p.2.1.length=true:=qan.2 (by omega)
 have hC:inB x.2.1 (p.2.1.set x.1.toNat (wi64 ((p.2.1.getD x.1.toNat 0)+v))).length=true:=qan.2 (by rw[zJ]; omega)
 rw[gd_t hB,gd_t hB,gd_t hC,gd_t hC,wi (by omega)]
 have b2 : -2000<=(p.2.1.set x.1.toNat (p.2.1.getD x.1.toNat 0+v)).getD x.2.1.toNat 0/\(p.2.1.set x.1.toNat (p.2.1.getD x.1.toNat 0+v)).getD x.2.1.toNat 0<=2000:=by
  rw[qgq]; have:=hq x.2.1.toNat; split <;> omega
 rw[wi (by omega),show((p.2.1.set x.1.toNat (p.2.1.getD x.1.toNat 0+v)).set x.2.1.toNat ((p.2.1.set x.1.toNat (p.2.1.getD x.1.toNat 0+v)).getD x.2.1.toNat 0-v))=growQ x v p.2.1 from rfl]
 have:=qaG (step:=fun x2:Int×List Vl×List Int×List Int×List Bool=>qc4 x v x2.1 x2.2.1 x2.2.2.1 x2.2.2.2.1 x2.2.2.2.2) (e:=(d,growP x v p)) x.2.2.1.length (fun i=>((i:Int),d,growR (x.2.2.1.take i) v p.1,growQ x v p.2.1,p.2.2)) (fun i hi'=>?_) ?_
 ·have this:iter (fun x2=>qc4 x v x2.1 x2.2.1 x2.2.2.1 x2.2.2.2.1 x2.2.2.2.2) ((0:Int),d,p.1,growQ x v p.2.1,p.2.2)=some (d,growP x v p):=this
  rw[this]; rfl
 ·show qc4 x v (i:Int) d (growR (x.2.2.1.take i) v p.1) (growQ x v p.2.1) p.2.2=some (.inl (((i+1:Nat):Int),d,growR (x.2.2.1.take (i+1)) v p.1,growQ x v p.2.1,p.2.2));unfold qc4;have hl:=hx.hl;have hh:=hx.h _ (qaU (d:=(0,false)) hi');have hb:=qBz v hv (b:=1000) (x.2.2.1.take i) p.1 hr (x.2.2.1.getD i (0,false)).1.toNat;rw[zk] at hb;have hD:inB (x.2.2.1.getD i (0,false)).1 (growR (x.2.2.1.take i) v p.1).length=true:=qan.2 (by rw[qrK]; omega)
  have es:qin ((x.2.2.1.getD i (0,false)).1,(x.2.2.1.getD i (0,false)).2) v=some (sgn (x.2.2.1.getD i (0,false)) v):=by
   unfold qin sgn; rw[wi (by omega)]; simp only; cases(x.2.2.1.getD i (0,false)).2 <;> rfl
  have hs : -1000<=sgn (x.2.2.1.getD i (0,false)) v/\sgn (x.2.2.1.getD i (0,false)) v<=1000:=by unfold sgn; split <;> omega
  rw[dec_t (show(i:Int)<(x.2.2.1.length:Int) by omega),zb,gd_t (inB_t hi'),z8,gd_t hD,es,z7,gd_t hD,w1 hi' (by omega),wi (by omega),qsJ hi']
 ·show qc4 x v ((x.2.2.1.length:Nat):Int) d (growR (x.2.2.1.take x.2.2.1.length) v p.1) (growQ x v p.2.1) p.2.2=_;unfold qc4;rw[dec_f (by omega),zk1]; rfl
end
end Go.Proofs.YtfdgemafaphpaaaGreat
namespace Go.Proofs.YtfdgemafaphpaaaGreat
open Go Go.Sq
set_option linter.unusedVariables false
def cmdV(v:Vl)(w:Bool):Vl:=(v.1,v.2.1,w,v.2.2.2)
def movO(v:Vl)(t:Int):Int:=bif v.2.2.2 then v.2.1 else(if v.2.1<(bif v.2.2.1 then v.1 else 0) then min (bif v.2.2.1 then v.1 else 0) (v.2.1+t) else max (bif v.2.2.1 then v.1 else 0) (v.2.1-t))
def movV(v:Vl)(t:Int):Vl:=(v.1,movO v t,v.2.2.1,v.2.2.2)
def absP(s:Stp):Pth:=(s.2.2.2.1,s.2.2.2.2.1,s.2.2.2.2.2.1,max s.2.2.1 (0-s.2.2.1))
def turnS(n:Net)(d:Dk)(s:Stp):Dk×Int:=bif !(decide (0<=s.2.1)&&decide (s.2.1<(d.1.length:Int))) then(d,8) else
 bif decide (s.1=2)&&(need d.2).getD s.2.1.toNat false then(d,22) else((d.1.set s.2.1.toNat (cmdV (d.1.getD s.2.1.toNat v0) (decide (s.1=1))),d.2),0)
def setP(p:Pl)(i:Nat)(b:Bool):Pl:=(p.1,p.2.1,p.2.2.set i b)
def runS(n:Net)(d:Dk)(s:Stp):Dk×Int:=bif !(decide (0<=s.2.1)&&decide (s.2.1<(n.2.2.2.1.length:Int))) then(d,8) else
 bif decide (s.1=3)&&decide (comeF n d.2 (n.2.2.2.1.getD s.2.1.toNat sta0).2.1=0) then(d,22) else((d.1,setP d.2 s.2.1.toNat (decide (s.1=3))),0)
def chgS(n:Net)(d:Dk)(s:Stp):Dk×Int:=bif !rg (-1000) 1000 s.2.2.1 then(d,23) else
 bif !pathB n (absP s) then(d,23) else bif !growB n d (absP s) s.2.2.1 then(d,22) else
 (if qa4 n (growP (absP s) s.2.2.1 d.2)≠0 then(d,qa4 n (growP (absP s) s.2.2.1 d.2)) else bif idleB n (growP (absP s) s.2.2.1 d.2) then(d,22) else((d.1,growP (absP s) s.2.2.1 d.2),0))
def waitS(d:Dk)(s:Stp):Dk×Int:=bif !rg 1 100 s.2.2.1 then(d,1) else((d.1.map fun v=>movV v s.2.2.1,d.2),0)
def stepS(n:Net)(d:Dk)(s:Stp):Dk×Int:=bif !qjm s then(d,22) else
 bif decide (s.1=1) || decide (s.1=2) then turnS n d s else bif decide (s.1=3) || decide (s.1=4) then runS n d s else bif decide (s.1=5) then chgS n d s else waitS d s
def appS(n:Net)(d:Dk)(s:Stp):Dk×Int:=if qc7 n d≠0 then(d,qc7 n d) else stepS n d s
section
variable {n:Net}
theorem oob(a b:Int):(bif decide (a<0) then some true else some (decide (b<=a)))=some (!(decide (0<=a)&&decide (a<b))):=by
 rw[notlt a 0,notlt a b];cases decide (0<=a) <;> cases decide (b<=a) <;> rfl
theorem oob4{A:Type}(a b:Int)(x:A):(bif decide (a<0) then some (true,x) else some (decide (b<=a),x))=some (!(decide (0<=a)&&decide (a<b)),x):=by
 rw[notlt a 0,notlt a b];cases decide (0<=a) <;> cases decide (b<=a) <;> rfl
theorem qpe{a b:Int}:(decide (0<=a)&&decide (a<b))=true↔0<=a/\a<b:=by rw[z9,zA,zA]
theorem qCy{v:Vl}(h:qcp v=true)(w:Bool):qha v w=some (cmdV v w,0):=by
 unfold qha;rw[show((v.1,v.2.1,v.2.2.1,v.2.2.2):Vl)=v from rfl,valid_eq,z7,h]; rfl
theorem qDg{v:Vl}(h:qcp v=true)(w:Bool):qjI v w=some (cmdV v w,0):=qCy h w
theorem VDk.val1{d:Dk}(hd:VDk n d){i:Nat}(hi:i<d.1.length):qcp (d.1.getD i v0)=true:=zx.1 hd.val _ (qaU hi)
theorem VDk.needl{d:Dk}(hd:VDk n d):(need d.2).length=d.1.length:=by rw[qoI (VPl.of hd.pl).sz,hd.len]
def inner(r:Dk×Int)(o:Option (Int×List Vl×List Int×List Int×List Bool)):Prop:=∃y,o=some y/\y.1=r.2/\(r.2=0->y.2=r.1)
theorem qz3{d:Dk}(hd:VDk n d)(s:Stp):inner (turnS n d s) (qlv n s d.1 d.2.1 d.2.2.1 d.2.2.2):=by
 unfold turnS qlv;rw[oob4,z7];simp only;cases hb:(decide (0<=s.2.1)&&decide (s.2.1<(d.1.length:Int))) with
 | false=>exact⟨_,rfl,rfl,fun e=>by cases e⟩
 | true=>
  have hb:=qpe.1 hb;have hz:=hd.sz;have hs:=(VNet.of hd.net).small;have m1:=hs.sg;have m2:=hs.po;have hl:=hd.len;simp only[ze,za];have e1:∀(q:Bool),(bif decide (s.1=2) then
    (qfU (n.1,n.2.1,n.2.2.1,n.2.2.2.1,n.2.2.2.2.1,n.2.2.2.2.2) (d.2.1,d.2.2.1,d.2.2.2)).bind fun r=>
     bif !decide (r.1=0) then some (.inr (r.1,d.1,d.2.1,d.2.2.1,d.2.2.2))
     else(qep (r.2.1,r.2.2)).bind fun r2=>
      gd (inB s.2.1 r2.length) (bif r2.getD s.2.1.toNat false then some (.inr (22,d.1,d.2.1,d.2.2.1,d.2.2.2)) else some (.inl (d.1,d.2.1,d.2.2.1,d.2.2.2)))
    else(some (.inl (d.1,d.2.1,d.2.2.1,d.2.2.2)):Option (Dk⊕(Int×Dk))))=some (bif decide (s.1=2)&&(need d.2).getD s.2.1.toNat false then .inr (22,d) else .inl d):=by
   intro q;cases decide (s.1=2) with
   | false=>rfl
   | true=>
    rw[zb,qaR,show((d.2.1,d.2.2.1,d.2.2.2):Pl)=d.2 from rfl,qzR,z7,if_neg (fun e=>e hd.pl)]
    simp only[ze1,ze,za,zF];rw[qsI _ _ (by rw[qgU]; omega) (by rw[qgU]; omega),z7,show nz d.2.1++nz d.2.2.1=need d.2 from rfl,gd_t (qan.2 (by rw[hd.needl]; omega))]
    cases(need d.2).getD s.2.1.toNat false <;> rfl
  rw[e1 true,z7];cases(decide (s.1=2)&&(need d.2).getD s.2.1.toNat false) with
  | true=>exact⟨_,rfl,rfl,fun e=>by cases e⟩
  | false=>
   simp only[za,z51];rw[gd_t (qan.2 (by omega)),show(d.1.getD s.2.1.toNat (0,0,false,false))=d.1.getD s.2.1.toNat v0 from rfl,qCy (hd.val1 (by omega)),z7,gd_t (qan.2 (by omega))]
   exact⟨_,rfl,rfl,fun _=>rfl⟩
theorem qBD{d:Dk}(hd:VDk n d)(s:Stp):qlX d s=some (turnS n d s):=by
 unfold turnS qlX;rw[oob,z7];cases hb:(decide (0<=s.2.1)&&decide (s.2.1<(d.1.length:Int))) with
 | false=>rfl
 | true=>
  have hb:=qpe.1 hb;have hz:=hd.sz;have hs:=(VNet.of hd.net).small;have m1:=hs.sg;have m2:=hs.po;have hl:=hd.len;simp only[ze,za];have e1:(bif decide (s.1=2) then
    (qfO (d.2.1,d.2.2.1,d.2.2.2)).bind fun r=>(qiX (r.1,r.2)).bind fun r2=>gd (inB s.2.1 r2.length) (some (r2.getD s.2.1.toNat false))
    else some false)=some (decide (s.1=2)&&(need d.2).getD s.2.1.toNat false):=by
   cases decide (s.1=2) with
   | false=>rfl
   | true=>
    rw[zb,show((d.2.1,d.2.2.1,d.2.2.2):Pl)=d.2 from rfl,qxq _ (by omega) (by omega),z7,qzQ _ _ (by rw[qgU]; omega) (by rw[qgU]; omega),z7,show nz d.2.1++nz d.2.2.1=need d.2 from rfl,gd_t (qan.2 (by rw[hd.needl]; omega))]; rfl
  rw[e1,z7];cases(decide (s.1=2)&&(need d.2).getD s.2.1.toNat false) with
  | true=>rfl
  | false=>
   simp only[za];rw[show((d.1,d.2.1,d.2.2.1,d.2.2.2):Dk)=d from rfl,qoJ hd.small,z7,gd_t (qan.2 (by omega)),show(d.1.getD s.2.1.toNat (0,0,false,false))=d.1.getD s.2.1.toNat v0 from rfl,qDg (hd.val1 (by omega)),z7,gd_t (qan.2 (by omega))]
theorem qxu(p:Pl)(i:Nat)(b:Bool):qa4 n (setP p i b)=qa4 n p:=by
 have e1:szB n (setP p i b)=szB n p:=by unfold szB setP; rw[zJ]
 have e2:∀f th,topo n (setP p i b) f th=topo n p f th:=by
  intro f;induction f with
  | zero=>intro _; rfl
  | succ f ih=>
   intro th;unfold topo;rw[show nextF n (setP p i b) th=nextF n p th from rfl]
   cases nextF n p th with
   | none=>rfl
   | some k=>exact congrArg _ (ih _)
 unfold qa4;rw[e1,show ordL n (setP p i b)=ordL n p from e2 _ _]; rfl
theorem qu6{d:Dk}(hd:VDk n d){i:Nat}(hi:i<n.2.2.2.1.length)(b:Bool):idleB n (setP d.2 i b)=(b&&decide (comeF n d.2 (n.2.2.2.1.getD i sta0).2.1=0)):=by
 have hn:=hd.idl;unfold idleB at hn ⊢;have hz:=hd.sz;rw[zc2] at hn;have key:∀j,j<n.2.2.2.1.length->qkA n (setP d.2 i b) j=(decide (j=i)&&(b&&decide (comeF n d.2 (n.2.2.2.1.getD i sta0).2.1=0))):=by
  intro j hj;have h1:=hn j (zO.2 hj);unfold qkA at h1 ⊢;have e:comeF n (setP d.2 i b) (n.2.2.2.1.getD j sta0).2.1=comeF n d.2 (n.2.2.2.1.getD j sta0).2.1:=rfl;rw[e,show(setP d.2 i b).2.2=d.2.2.2.set i b from rfl,qgq]
  by_cases hji:i=j
  ·subst hji; rw[if_pos ⟨rfl,by omega⟩,dec_t rfl]; rfl
  ·rw[if_neg (fun h=>hji h.1),dec_f (show ¬j=i from fun h=>hji h.symm)]
   revert h1; cases(d.2.2.2.getD j false&&decide (comeF n d.2 (n.2.2.2.1.getD j sta0).2.1=0)) <;> simp
 rw[zZ,List.any_eq_true];constructor
 ·rintro⟨j,hj,h⟩
  rw[key j (zO.1 hj),z9] at h;exact h.2
 ·intro h;exact⟨i,zO.2 hi,by rw[key i hi,h,dec_t rfl]; rfl⟩
theorem qCz{d:Dk}(hd:VDk n d)(s:Stp):inner (runS n d s) (qop n s d.1 d.2.1 d.2.2.1 d.2.2.2):=by
 unfold runS qop;rw[oob4,z7];simp only;cases hb:(decide (0<=s.2.1)&&decide (s.2.1<(n.2.2.2.1.length:Int))) with
 | false=>exact⟨_,rfl,rfl,fun e=>by cases e⟩
 | true=>
  have hb:=qpe.1 hb;have hz:=hd.sz;obtain⟨i,hi⟩:∃i:Nat,s.2.1=(i:Int):=⟨s.2.1.toNat,by omega⟩
  simp only[ze,za];rw[hi,z8,qaR,show((d.2.1,d.2.2.1,d.2.2.2):Pl)=d.2 from rfl,qrI hd.pl (by omega),z7,zd1]
  cases hk:decide (s.1=3) with
  | false=>
   simp only[za,z7,Bool.false_and];rw[gd_t (inB_t (by omega))]
   exact⟨_,rfl,rfl,fun _=>rfl⟩
  | true=>
   simp only[zb,z7,zF];cases decide (comeF n d.2 (n.2.2.2.1.getD i sta0).2.1=0) with
   | true=>exact⟨_,rfl,rfl,fun e=>by cases e⟩
   | false=>
    simp only[za];rw[gd_t (inB_t (by omega))]
    exact⟨_,rfl,rfl,fun _=>rfl⟩
theorem qBE{d:Dk}(hd:VDk n d)(s:Stp):qlY n d s=some (runS n d s):=by
 unfold runS qlY;rw[oob,z7];cases hb:(decide (0<=s.2.1)&&decide (s.2.1<(n.2.2.2.1.length:Int))) with
 | false=>rfl
 | true=>
  have hb:=qpe.1 hb;have hz:=hd.sz;obtain⟨i,hi⟩:∃i:Nat,s.2.1=(i:Int):=⟨s.2.1.toNat,by omega⟩
  simp only[ze,za];rw[hi,z8,show((d.1,d.2.1,d.2.2.1,d.2.2.2):Dk)=d from rfl,qoJ hd.small,z7,gd_t (inB_t (by omega)),qaR,
   show((d.2.1,(d.2.2.1,d.2.2.2.set i (decide (s.1=3)))):Pl)=setP d.2 i (decide (s.1=3)) from rfl,qwr (by rw[qxu]; exact hd.pl),z7,zd1,qu6 hd (by omega)]
  cases(decide (s.1=3)&&decide (comeF n d.2 (n.2.2.2.1.getD i sta0).2.1=0)) <;> rfl
/-! ### Waiting -/
theorem valid_iff{v:Vl}:qcp v=true↔1<=v.1/\v.1<=60/\0<=v.2.1/\v.2.1<=v.1:=by
 unfold qcp; rw[z9,qkz,qkz,and_assoc]
theorem qBF{A:Type}(c:Bool)(x:A):(bif c then x else x)=x:=by cases c <;> rfl
theorem qDh{v:Vl}(h:qcp v=true){t:Int}(ht:1<=t/\t<=100):qmc v t=some (movV v t,0):=by
 have hv:=valid_iff.1 h;unfold qmc;rw[show((v.1,v.2.1,v.2.2.1,v.2.2.2):Vl)=v from rfl,valid_eq,z7,h,dec_f (show ¬t<0 by omega),dec_f (show ¬400<t by omega)]
 simp only[ze,za,z7];have e:qj4 v t=some (movV v t):=by
  unfold qj4 qo3;rw[wi (by omega),wi (by omega)]
  have eg:(bif v.2.2.1 then some v.1 else some 0)=some (bif v.2.2.1 then v.1 else 0):=by cases v.2.2.1 <;> rfl
  simp only;rw[eg,z7];have em:(bif v.2.2.2 then some v.2.1 else Option.bind (α:=Int) (bif decide (v.2.1<(bif v.2.2.1 then v.1 else 0)) then some (min (bif v.2.2.1 then v.1 else 0) (v.2.1+t)) else some (max (bif v.2.2.1 then v.1 else 0) (v.2.1-t))) fun s=>some s)=some (movO v t):=by
   unfold movO;cases v.2.2.2 with
   | true=>rfl
   | false=>
    simp only[za];by_cases hc:v.2.1<(bif v.2.2.1 then v.1 else 0)
    ·rw[dec_t hc,if_pos hc]; rfl
    ·rw[dec_f hc,if_neg hc]; rfl
  rw[em,z7];by_cases hc:movO v t=v.2.1
  ·rw[show movV v t=v by unfold movV; rw[hc],hc]; exact qBF _ _
  ·rw[dec_f hc,Bool.false_and,Bool.and_false]; rfl
 rw[e]; rfl
theorem qu7{v:Vl}(h:qcp v=true){t:Int}(ht:0<=t):qcp (movV v t)=true:=by
 rw[valid_iff] at h ⊢;unfold movV movO;simp only;cases v.2.2.2 <;> cases v.2.2.1 <;> simp only[zb,za] <;> (try split) <;> omega
theorem qBG{v:Vl}(h:qcp v=true):movV v 0=v:=by
 rw[valid_iff] at h;have:movO v 0=v.2.1:=by
  unfold movO;cases v.2.2.2 <;> cases v.2.2.1 <;> simp only[zb,za] <;> (try split) <;> omega
 unfold movV; rw[this]
theorem qBH{v:Vl}(h:qcp v=true)(i:Nat):ql0 (movV v (i:Int))=some (movV v ((i+1:Nat):Int),0):=by
 have hm:=qu7 h (t:=(i:Int)) (by omega)
 have hm2:=valid_iff.1 hm;rw[valid_iff] at h;unfold ql0;rw[show(((movV v (i:Int)).1,(movV v (i:Int)).2.1,(movV v (i:Int)).2.2.1,(movV v (i:Int)).2.2.2):Vl)=movV v (i:Int) from rfl,rvalid_eq,z7,hm,wi (by omega),wi (by omega)]
 unfold movV movO at hm2 ⊢;simp only at hm2 ⊢;cases h1:v.2.2.2 <;> cases h2:v.2.2.1 <;> simp only[h1,h2,zb,za,ze,zl1,z7] at hm2 ⊢
 ·by_cases hz:v.2.1<0
  ·omega
  ·rw[if_neg hz] at hm2;rw[if_neg hz,if_neg hz];by_cases hc:0<max 0 (v.2.1-(i:Int))
   ·rw[dec_t hc,zb,z7,z7,show max 0 (v.2.1-(i:Int))-1=max 0 (v.2.1-((i+1:Nat):Int)) by omega]
   ·rw[dec_f hc,za,z7,z7,show max 0 (v.2.1-(i:Int))=max 0 (v.2.1-((i+1:Nat):Int)) by omega]
 ·by_cases hz:v.2.1<v.1
  ·rw[if_pos hz] at hm2;rw[if_pos hz,if_pos hz];by_cases hc:min v.1 (v.2.1+(i:Int))<v.1
   ·rw[dec_t hc,zb,z7,show min v.1 (v.2.1+(i:Int))+1=min v.1 (v.2.1+((i+1:Nat):Int)) by omega]
   ·rw[dec_f hc,za,z7,show min v.1 (v.2.1+(i:Int))=min v.1 (v.2.1+((i+1:Nat):Int)) by omega]
  ·rw[if_neg hz] at hm2;rw[if_neg hz,if_neg hz,dec_f (show ¬max v.1 (v.2.1-(i:Int))<v.1 by omega),za,z7,show max v.1 (v.2.1-(i:Int))=max v.1 (v.2.1-((i+1:Nat):Int)) by omega]
theorem qBI{v:Vl}(h:qcp v=true){t:Int}(ht:1<=t/\t<=100):ql1 v t=some (movV v t,0):=by
 obtain⟨m,rfl⟩:∃m:Nat,t=(m:Int):=⟨t.toNat,by omega⟩
 unfold ql1;rw[show((v.1,v.2.1,v.2.2.1,v.2.2.2):Vl)=v from rfl,rvalid_eq,z7,h,dec_f (show ¬(m:Int)<0 by omega),dec_f (show ¬400<(m:Int) by omega)]
 simp only[ze,za,z7];have:=qaG (step:=fun x:Int×Int×Int×Bool×Bool=>qcY (m:Int) x.1 x.2.1 x.2.2.1 x.2.2.2.1 x.2.2.2.2) (e:=movV v (m:Int)) m (fun i=>((i:Int),movV v (i:Int))) (fun i hi=>?_) ?_
 ·have this:iter (fun x=>qcY (m:Int) x.1 x.2.1 x.2.2.1 x.2.2.2.1 x.2.2.2.2) ((0:Int),movV v 0)=some (movV v (m:Int)):=this
  rw[qBG h] at this;rw[show((0,v.1,v.2.1,v.2.2.1,v.2.2.2):Int×Vl)=(0,v) from rfl,this]; rfl
 ·show qcY (m:Int) (i:Int) (movV v (i:Int)).1 (movV v (i:Int)).2.1 (movV v (i:Int)).2.2.1 (movV v (i:Int)).2.2.2=_;unfold qcY;rw[dec_t (show(i:Int)<(m:Int) by omega),zb,show(((movV v (i:Int)).1,(movV v (i:Int)).2.1,(movV v (i:Int)).2.2.1,(movV v (i:Int)).2.2.2):Vl)=movV v (i:Int) from rfl,qBH h,z7,w1 hi (by omega)]
 ·show qcY (m:Int) (m:Int) (movV v (m:Int)).1 (movV v (m:Int)).2.1 (movV v (m:Int)).2.2.1 (movV v (m:Int)).2.2.2=_;unfold qcY;rw[dec_f (by omega)]; rfl
theorem rg1(v:Int):(bif decide (v<1) then some true else some (decide (100<v)))=some (!rg 1 100 v):=by
 unfold rg; rw[notlt v 1,notlt 100 v];cases decide (1<=v) <;> cases decide (v<=100) <;> rfl
theorem rg14{A:Type}(v:Int)(x:A):(bif decide (v<1) then some (true,x) else some (decide (100<v),x))=some (!rg 1 100 v,x):=by
 unfold rg; rw[notlt v 1,notlt 100 v];cases decide (1<=v) <;> cases decide (v<=100) <;> rfl
theorem qDi{d:Dk}(hd:VDk n d)(s:Stp)(m:Net):inner (waitS d s) (qow m s d.1 d.2.1 d.2.2.1 d.2.2.2):=by
 unfold waitS qow;rw[rg14,z7];simp only;cases hr:rg 1 100 s.2.2.1 with
 | false=>exact⟨_,rfl,rfl,fun e=>by cases e⟩
 | true=>
  have ht:=qkz.1 hr;have hl:=hd.small.v;simp only[ze,za];have:=qaG (step:=fun x:Int×List Vl×List Int×List Int×List Bool=>qdD s (false,d) x.1 x.2.1 x.2.2.1 x.2.2.2.1 x.2.2.2.2) (e:=.inl (d.1.map fun v=>movV v s.2.2.1,d.2)) d.1.length (fun i=>((i:Int),mix (d.1.map fun v=>movV v s.2.2.1) d.1 i,d.2)) (fun i hi=>?_) ?_
  ·have this:iter (fun x=>qdD s (false,d.1,d.2.1,d.2.2.1,d.2.2.2) x.1 x.2.1 x.2.2.1 x.2.2.2.1 x.2.2.2.2) ((0:Int),mix (d.1.map fun v=>movV v s.2.2.1) d.1 0,d.2)=some (.inl (d.1.map fun v=>movV v s.2.2.1,d.2)):=this
   rw[mix_0] at this;rw[show((0,d.1,d.2.1,d.2.2.1,d.2.2.2):Int×Dk)=(0,d.1,d.2) from rfl,this]
   exact⟨_,rfl,rfl,fun _=>rfl⟩
  ·show qdD s (false,d) (i:Int) (mix (d.1.map fun v=>movV v s.2.2.1) d.1 i) d.2.1 d.2.2.1 d.2.2.2=_
   unfold qdD;have hm:(d.1.map fun v=>movV v s.2.2.1).length=d.1.length:=z91 ..
   have hg:(mix (d.1.map fun v=>movV v s.2.2.1) d.1 i).getD i (0,0,false,false)=d.1.getD i v0:=by rw[qsE hm rfl,if_neg (by omega)]
   have hB:inB (i:Int) (mix (d.1.map fun v=>movV v s.2.2.1) d.1 i).length=true:=inB_t (by rw[qiw hm rfl]; exact hi)
   rw[dec_t (show(i:Int)<(d.1.length:Int) by omega),zb,gd_t hB,z8,hg,
    show(((d.1.getD i v0).1,(((d.1.getD i v0).2).1,((((d.1.getD i v0).2).2).1,(((d.1.getD i v0).2).2).2))):Vl)=d.1.getD i v0 from rfl,qDh (hd.val1 hi) ht,z7,gd_t hB]
   simp only[ze1,ze,za];rw[w1 hi (by omega),show(((movV (d.1.getD i v0) s.2.2.1).1,(movV (d.1.getD i v0) s.2.2.1).2.1,(movV (d.1.getD i v0) s.2.2.1).2.2.1,(movV (d.1.getD i v0) s.2.2.1).2.2.2):Vl)=movV (d.1.getD i v0) s.2.2.1 from rfl,
    qqY hm rfl v0 hi (by rw[qgR _ _ _ v0 _ hi])]
  ·show qdD s (false,d) ((d.1.length:Nat):Int) (mix (d.1.map fun v=>movV v s.2.2.1) d.1 d.1.length) d.2.1 d.2.2.1 d.2.2.2=_
   unfold qdD;have hm:(d.1.map fun v=>movV v s.2.2.1).length=d.1.length:=z91 ..
   rw[dec_f (show ¬((d.1.length:Nat):Int)<(d.1.length:Int) by omega),mix_n hm rfl]; rfl
end
end Go.Proofs.YtfdgemafaphpaaaGreat
