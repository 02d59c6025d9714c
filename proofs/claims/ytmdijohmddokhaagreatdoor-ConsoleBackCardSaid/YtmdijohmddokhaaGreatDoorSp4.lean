/- Steps: desks, and what is checked of them. No condition. -/
import Derived.Test.YtmdijohmddokhaaGreatDoorFl4
namespace Go.Proofs.YtmdijohmddokhaaGreatDoor
open Go Go.Sq
set_option linter.unusedVariables false
abbrev Vl:=Int×Int×Bool×Bool
abbrev Dk:=List Vl×Pl
abbrev v0:Vl:=(0,0,false,false)
def qcv(v:Vl):Bool:=rg 1 60 v.1&&rg 0 v.1 v.2.1
def qck(v:Vl):Bool:=qcv v&&(decide (v.2.1=v.1)&&v.2.2.1)
def vlB(n:Net)(l:List Vl):Bool:=decide (l.length=n.2.1.length+n.2.2.1.length)&&l.all qcv
def rdyB(d:Dk):Bool:=(List.range (need d.2).length).all fun i=>!(need d.2).getD i false || qck (d.1.getD i v0)
def qlj(n:Net)(p:Pl)(i:Nat):Bool:=p.2.2.getD i false&&decide (comeF n p (n.2.2.2.1.getD i sta0).2.1=0)
def idleB(n:Net)(p:Pl):Bool:=(List.range n.2.2.2.1.length).any (qlj n p)
def qdn(n:Net)(d:Dk):Int:=if qbb n≠0 then qbb n else
 bif vlB n d.1 then(if qaY n d.2≠0 then qaY n d.2 else bif rdyB d then(bif idleB n d.2 then 21 else 0) else 21) else 20
section
variable {n:Net} {p:Pl}
theorem valid_eq(v:Vl):qdS v=some (qcv v):=by
 unfold qdS qcv rg;cases decide (1<=v.1) <;> cases decide (v.1<=60) <;> cases decide (0<=v.2.1) <;> rfl
theorem rvalid_eq(v:Vl):qfj v=some (qcv v):=valid_eq v
theorem qAz(v:Vl):qmJ v=some (qcv v&&decide (v.2.1=v.1)):=by
 unfold qmJ;rw[show((v.1,v.2.1,v.2.2.1,v.2.2.2):Vl)=v from rfl,valid_eq,z7]
 cases qcv v <;> rfl
theorem quL(v:Vl):qjT v=some (qcv v&&decide (v.2.1=v.1)):=qAz v
theorem quM(v:Vl):qjI v=some (qck v):=by
 unfold qjI qck;rw[show((v.1,v.2.1,v.2.2.1,v.2.2.2):Vl)=v from rfl,qAz,z7]
 cases qcv v <;> cases decide (v.2.1=v.1) <;> rfl
theorem qAA(h:qaY n p=0){i:Nat}(hi:i<n.2.2.2.1.length):thr n p (n.2.2.2.1.getD i sta0).2.1=(comeF n p (n.2.2.2.1.getD i sta0).2.1,0):=by
 unfold thr;have hn:=VNet.of (VPl.of h).net;rw[if_neg (fun e=>e h),qtt.2 (hn.kn.t i hi)]; rfl
theorem qsx(h:qaY n p=0){i:Nat}(hi:i<n.2.2.2.1.length):qij n p (i:Int)=some (!decide (comeF n p (n.2.2.2.1.getD i sta0).2.1=0)):=by
 unfold qij;rw[gd_t (inB_t hi),z9,qa9,qEP,z7,show((n.2.2.2.1.getD i ([],0,0,0,0)).2).1=(n.2.2.2.1.getD i sta0).2.1 from rfl,show((p.1,p.2.1,p.2.2):Pl)=p from rfl,qAA h hi]; rfl
theorem qx0(h:qaY n p=0):qjJ n p=some (idleB n p):=by
 have hv:=VPl.of h;have hn:=VNet.of hv.net;have hl:=hv.len.2.2;have hs:=hn.small.st;unfold qjJ;have:=scanN (ε:=Unit⊕Bool) (step:=fun x=>qkn n p x) n.2.2.2.1.length (qlj n p) (fin:=.inl ()) (bad:=.inr true) (fun i hi hq=>?_) (fun i hi hq=>?_) ?_
 ·rw[this,z7]; unfold idleB;cases(List.range n.2.2.2.1.length).any (qlj n p) <;> rfl
 all_goals unfold qkn
 ·rw[dec_t (show(i:Int)<(p.2.2.length:Int) by omega),za,gd_t (inB_t (by omega)),z9,dec_t (show(i:Int)<(n.2.2.2.1.length:Int) by omega),qa9,show((p.1,p.2.1,p.2.2):Pl)=p from rfl,qsx h hi,w1 hi (by omega)]
  unfold qlj at hq;cases hp:p.2.2.getD i false with
  | false=>rfl
  | true=>
   rw[hp,zE] at hq;simp only[za,z7,hq,zk1,zf,zb]
 ·rw[dec_t (show(i:Int)<(p.2.2.length:Int) by omega),za,gd_t (inB_t (by omega)),z9,dec_t (show(i:Int)<(n.2.2.2.1.length:Int) by omega),qa9,show((p.1,p.2.1,p.2.2):Pl)=p from rfl,qsx h hi]
  unfold qlj at hq;rw[z8] at hq;rw[hq.1];simp only[za,z7,hq.2,zf,zk1]
 ·rw[dec_f (by omega)]; rfl
theorem qw4(h:qaY n p=0):qjU n p=some (!idleB n p):=by
 have hv:=VPl.of h;have hn:=VNet.of hv.net;have hl:=hv.len.2.2;have hs:=hn.small.st;unfold qjU;have:=scanN (ε:=Unit⊕Bool) (step:=fun x=>qmq n p x) n.2.2.2.1.length (qlj n p) (fin:=.inl ()) (bad:=.inr false) (fun i hi hq=>?_) (fun i hi hq=>?_) ?_
 ·rw[this,z7]; unfold idleB;cases(List.range n.2.2.2.1.length).any (qlj n p) <;> rfl
 all_goals unfold qmq
 ·rw[dec_t (show(i:Int)<(n.2.2.2.1.length:Int) by omega),za,gd_t (inB_t (by omega)),z9,gd_t (inB_t hi),qa9,show((p.1,p.2.1,p.2.2):Pl)=p from rfl,show((n.2.2.2.1.getD i ([],0,0,0,0)).2).1=(n.2.2.2.1.getD i sta0).2.1 from rfl,qAw,qAA h hi,w1 hi (by omega)]
  unfold qlj at hq;cases hp:p.2.2.getD i false with
  | false=>rfl
  | true=>
   rw[hp,zE] at hq;simp only[za,z7,hq,dec_t,zf,zb,z81]
 ·rw[dec_t (show(i:Int)<(n.2.2.2.1.length:Int) by omega),za,gd_t (inB_t (by omega)),z9,gd_t (inB_t hi),qa9,show((p.1,p.2.1,p.2.2):Pl)=p from rfl,show((n.2.2.2.1.getD i ([],0,0,0,0)).2).1=(n.2.2.2.1.getD i sta0).2.1 from rfl,qAw,qAA h hi]
  unfold qlj at hq;rw[z8] at hq;rw[hq.1];simp only[za,z7,hq.2,dec_t,zf,zb,Sum.elim_inr]
 ·rw[dec_f (by omega)]; rfl
theorem qpI(h:szB n p=true):(need p).length=n.2.1.length+n.2.2.1.length:=by
 have:=qqh.1 h;unfold need; rw[zd,qhE,qhE]; omega
theorem qEQ(d:Dk)(hl:(need d.2).length<=d.1.length)(hs:d.1.length<=1000):iter (fun x=>qca d (need d.2) x.1 x.2) (0,need d.2)=some (bif rdyB d then .inl () else .inr 21):=by
 refine qa1 (step:=fun x:Int×List Bool=>qca d (need d.2) x.1 x.2) (need d.2).length (fun i=>((i:Int),need d.2)) (fun i=>!(need d.2).getD i false || qck (d.1.getD i v0)) (fin:=.inl ()) (bad:=.inr 21) (fun i hi _ hq=>?_) (fun i hi _ hq=>?_) (fun _=>?_)
 ·show qca d (need d.2) (i:Int) (need d.2)=_;unfold qca;rw[dec_t (show(i:Int)<((need d.2).length:Int) by omega),za,gd_t (inB_t hi),gd_t (inB_t (by omega)),z9,show(d.1.getD i (0,0,false,false))=d.1.getD i v0 from rfl,quM,w1 hi (by omega)]
  cases hp:(need d.2).getD i false with
  | false=>rfl
  | true=>
   rw[hp] at hq;simp only[zf,zi2] at hq;rw[hq]; rfl
 ·show qca d (need d.2) (i:Int) (need d.2)=_;unfold qca;rw[dec_t (show(i:Int)<((need d.2).length:Int) by omega),za,gd_t (inB_t hi),gd_t (inB_t (by omega)),z9,show(d.1.getD i (0,0,false,false))=d.1.getD i v0 from rfl,quM]
  rw[zZ1] at hq;have h1:(need d.2).getD i false=true:=by simpa using hq.1
  rw[h1,hq.2]; rfl
 ·show qca d (need d.2) (((need d.2).length:Nat):Int) (need d.2)=_;unfold qca;rw[dec_f (by omega)]; rfl
theorem qDS(d:Dk)(hl:(need d.2).length<=d.1.length)(hs:d.1.length<=1000):iter (fun x=>qbF d x.1 x.2) (0,need d.2)=some (bif rdyB d then .inl () else .inr 21):=by
 refine qa1 (step:=fun x:Int×List Bool=>qbF d x.1 x.2) (need d.2).length (fun i=>((i:Int),need d.2)) (fun i=>!(need d.2).getD i false || qck (d.1.getD i v0)) (fin:=.inl ()) (bad:=.inr 21) (fun i hi _ hq=>?_) (fun i hi _ hq=>?_) (fun _=>?_)
 ·show qbF d (i:Int) (need d.2)=_;unfold qbF;have hB:inB (i:Int) d.1.length=true:=inB_t (by omega)
  rw[dec_t (show(i:Int)<((need d.2).length:Int) by omega),za,gd_t (inB_t hi)]
  simp only[gd_t hB,z9];rw[show(d.1.getD i (0,0,false,false))=d.1.getD i v0 from rfl,quL,w1 hi (by omega)]
  cases hp:(need d.2).getD i false with
  | false=>rfl
  | true=>
   rw[hp] at hq;simp only[zf,zi2] at hq;unfold qck at hq;rw[z8,z8] at hq;rw[hq.1,hq.2.1,hq.2.2]; rfl
 ·show qbF d (i:Int) (need d.2)=_;unfold qbF;have hB:inB (i:Int) d.1.length=true:=inB_t (by omega)
  rw[dec_t (show(i:Int)<((need d.2).length:Int) by omega),za,gd_t (inB_t hi)]
  simp only[gd_t hB,z9];rw[show(d.1.getD i (0,0,false,false))=d.1.getD i v0 from rfl,quL]
  rw[zZ1] at hq;have h1:(need d.2).getD i false=true:=by simpa using hq.1
  have h2:=hq.2;unfold qck at h2;rw[h1];revert h2;cases qcv (d.1.getD i v0) <;> cases decide ((d.1.getD i v0).2.1=(d.1.getD i v0).1) <;> cases(d.1.getD i v0).2.2.1 <;> intro h2 <;> first | rfl | cases h2
 ·show qbF d (((need d.2).length:Nat):Int) (need d.2)=_;unfold qbF;rw[dec_f (by omega)]; rfl
theorem quN(hn:VNet n):qg4 n=some ((n.2.1.length+n.2.2.1.length:Nat):Int):=by
 have:=hn.small.sg;have:=hn.small.po;unfold qg4;rw[wi (by omega)]; rfl
theorem qAB(hn:VNet n):qdj n=some ((n.2.1.length+n.2.2.1.length:Nat):Int):=quN hn
theorem qvT(n:Net)(d:Dk):qmK n d=some (qdn n d):=by
 unfold qmK qdn;rw[qa9,qfl,z7];by_cases h0:qbb n=0
 ·have hn:=VNet.of h0;have m1:=hn.small.sg;have m2:=hn.small.po;rw[dec_t h0,if_neg (fun e=>e h0),zf,zb,quN hn,z7,natdec]
  have e1:(bif !decide (d.1.length=n.2.1.length+n.2.2.1.length) then some true
    else(qas d.1 (fun h=>(qg6 h.1).bind fun y=>some y)).bind fun r3=>some r3)=some (!vlB n d.1):=by
   unfold vlB;by_cases hl:d.1.length=n.2.1.length+n.2.2.1.length
   ·rw[dec_t hl,zf,zb,qkM d.1 (fun v=>!qcv v) _ (fun v _=>by
     show(qg6 v).bind _=_;unfold qg6;rw[show((v.1,(v.2.1,(v.2.2.1,v.2.2.2))):Vl)=v from rfl,valid_eq]; rfl) (by omega),z7,zE]
    congr 1;simp[z51]
   ·rw[dec_f hl]; rfl
  rw[e1,z7];cases hv:vlB n d.1 with
  | false=>rfl
  | true=>
   have hl:d.1.length=n.2.1.length+n.2.2.1.length:=by
    unfold vlB at hv; rw[z8,zy] at hv; exact hv.1
   simp only[zf,zb,za];rw[show((d.2.1,d.2.2.1,d.2.2.2):Pl)=d.2 from rfl,qjd,z7,qAy,z7]
   by_cases hp:qaY n d.2=0
   ·have hz:=(VPl.of hp).sz;have hnl:=qpI hz;have hzl:=(VPl.of hp).len;rw[dec_t hp,if_neg (fun e=>e hp),if_neg (fun e=>e hp)]
    simp only[zf,zb,z82];rw[qtu _ _ (by rw[qhE]; omega) (by rw[qhE]; omega),z7,show nz d.2.1++nz d.2.2.1=need d.2 from rfl,qEQ d (by omega) (by omega),z7]
    cases rdyB d with
    | false=>rfl
    | true=>
     simp only[za,z81];rw[qx0 hp,z7];cases idleB n d.2 <;> rfl
   ·rw[dec_f hp,if_pos hp,if_pos hp]; rfl
 ·rw[dec_f h0,if_pos h0]; rfl
theorem qtv(n:Net)(d:Dk):qiE n d=some (qdn n d):=by
 unfold qiE qdn;rw[qa9,qiI,z7];by_cases h0:qbb n=0
 ·have hn:=VNet.of h0;have m1:=hn.small.sg;have m2:=hn.small.po;rw[dec_t h0,if_neg (fun e=>e h0),zf,zb]
  have e1:qi8 n d.1=some (bif vlB n d.1 then 0 else 20):=by
   unfold qi8 vlB;rw[qa9,qAB hn,z7,natdec];by_cases hl:d.1.length=n.2.1.length+n.2.2.1.length
   ·rw[dec_t hl,zf,zb,zE];have:=scanL (step:=fun x=>qiD d.1 x) d.1 v0 qcv (bad:=(20:Int)) (fun i hi hq=>?_) (fun i hi hq=>?_) ?_
    ·rw[this,z7];cases d.1.all qcv <;> rfl
    all_goals unfold qiD
    ·rw[dec_t (show(i:Int)<(d.1.length:Int) by omega),za,gd_t (inB_t hi),z9,rvalid_eq,z7,hq,w1 hi (by omega)]; rfl
    ·rw[dec_t (show(i:Int)<(d.1.length:Int) by omega),za,gd_t (inB_t hi),z9,rvalid_eq,z7,hq]; rfl
    ·rw[dec_f (by omega)]; rfl
   ·rw[dec_f hl]; rfl
  rw[e1,z7];cases hv:vlB n d.1 with
  | false=>rfl
  | true=>
   have hl:d.1.length=n.2.1.length+n.2.2.1.length:=by
    unfold vlB at hv; rw[z8,zy] at hv; exact hv.1
   simp only[za,z82,zf,zb];rw[show((d.2.1,d.2.2.1,d.2.2.2):Pl)=d.2 from rfl,qm9,z7]
   by_cases hp:qaY n d.2=0
   ·have hz:=(VPl.of hp).sz;have hnl:=qpI hz;have hzl:=(VPl.of hp).len;rw[dec_t hp,if_neg (fun e=>e hp)]
    simp only[zf,zb];rw[qxZ _ (by omega) (by omega),z7,qAx _ _ (by rw[qhE]; omega) (by rw[qhE]; omega),z7,show nz d.2.1++nz d.2.2.1=need d.2 from rfl,qDS d (by omega) (by omega),z7]
    cases rdyB d with
    | false=>rfl
    | true=>
     simp only[za,z81];rw[qw4 hp,z7];cases idleB n d.2 <;> rfl
   ·rw[dec_f hp,if_pos hp]; rfl
 ·rw[dec_f h0,if_pos h0]; rfl
end
end Go.Proofs.YtmdijohmddokhaaGreatDoor
namespace Go.Proofs.YtmdijohmddokhaaGreatDoor
open Go Go.Sq
set_option linter.unusedVariables false
abbrev Hop:=Int×Bool
abbrev Pth:=Int×Int×List Hop×Int
abbrev Stp:=Int×Int×Int×Pth
structure DkS(d:Dk):Prop where
 v:d.1.length<=100000
 r:d.2.1.length<=100000
 p:d.2.2.1.length<=100000
 b:d.2.2.2.length<=100000
theorem qER(l:List Vl)(h:l.length<=100000):qa2 l=some l:=by
 unfold qa2;rw[gd_t (qaw (by omega)),zC]
theorem qDd(l:List Int)(h:l.length<=100000):qb5 l=some l:=by
 unfold qb5;rw[gd_t (qaw (by omega)),zC]
theorem qES(l:List Bool)(h:l.length<=100000):qcy l=some l:=by
 unfold qcy;rw[gd_t (qaw (by omega)),zC]
theorem qAC{d:Dk}(h:DkS d):qid d=some d:=by
 unfold qid;rw[qER _ h.v,z7,qDd _ h.r,z7,qDd _ h.p,z7,qES _ h.b]; rfl
theorem qB6{p:Pl}(h1:p.1.length<=100000)(h2:p.2.1.length<=100000)(h3:p.2.2.length<=100000):qgH p=some p:=by
 unfold qgH;rw[gd_t (qaw (by omega)),gd_t (qaw (by omega)),gd_t (qaw (by omega))]; rfl
theorem qpJ{d:Dk}(h:DkS d):qeh d=some d:=by
 unfold qeh;have:=h.v;rw[gd_t (qaw (by omega)),show((d.2.1,d.2.2.1,d.2.2.2):Pl)=d.2 from rfl,qB6 h.r h.p h.b]; rfl
/-! ### Kinds -/
def bareP(x:Pth):Bool:=decide (x.1=0)&&(decide (x.2.1=0)&&(decide ((x.2.2.1.length:Int)=0)&&decide (x.2.2.2=0)))
def qlk(s:Stp):Bool:=bif decide (s.1=1) || (decide (s.1=2) || (decide (s.1=3) || decide (s.1=4))) then decide (s.2.2.1=0)&&bareP s.2.2.2
 else bif decide (s.1=5) then decide (s.2.1=0)&&decide (s.2.2.2.2.2.2=0) else bif decide (s.1=6) then decide (s.2.1=0)&&bareP s.2.2.2 else false
theorem qx1(k:Int):Option.bind (α:=Bool) (bif decide (k=1) then some (decide (k=1)) else(
  Option.bind (α:=Bool) (bif decide (k=2) then some (decide (k=2)) else(
  Option.bind (α:=Bool) (bif decide (k=3) then some (decide (k=3)) else some (decide (k=4))) fun s2=>some s2)) fun s3=>some s3)) some=some (decide (k=1) || (decide (k=2) || (decide (k=3) || decide (k=4)))):=by
 cases decide (k=1) <;> cases decide (k=2) <;> cases decide (k=3) <;> cases decide (k=4) <;> rfl
theorem bareX(x:Pth):(bif decide (x.1=0) then bif decide (x.2.1=0) then bif decide ((x.2.2.1.length:Int)=0) then some (decide (x.2.2.2=0)) else some false else some false else some false)=some (bareP x):=by
 unfold bareP;cases decide (x.1=0) <;> cases decide (x.2.1=0) <;> cases decide ((x.2.2.1.length:Int)=0) <;> rfl
theorem qDT(x:Pth):qmX x=some (bareP x):=bareX x
theorem qAD{A B:Type}{x:Option A}{a:A}{f:A->Option B}(h:Option.bind x some=some a):Option.bind x f=f a:=by
 rw[show x=some a by rw[<-h]; cases x <;> rfl]; rfl
theorem qB7(s:Stp):qmL s=some (qlk s):=by
 unfold qmL qlk;have eb:(bif decide (s.2.2.2.1=0) then bif decide (s.2.2.2.2.1=0) then bif decide ((s.2.2.2.2.2.1.length:Int)=0) then some (decide (s.2.2.2.2.2.2=0)) else some false else some false else some false)=some (bareP s.2.2.2):=bareX s.2.2.2;rw[eb,z7];refine(qAD (qx1 s.1)).trans ?_
 cases decide (s.1=1) || (decide (s.1=2) || (decide (s.1=3) || decide (s.1=4))) <;> cases decide (s.2.2.1=0) <;> cases decide (s.1=5) <;> cases decide (s.2.1=0) <;> cases decide (s.1=6) <;> rfl
theorem qAE(s:Stp):qja s=some (qlk s):=by
 unfold qja qlk;refine(qAD (qx1 s.1)).trans ?_
 rw[show((s.2.2.2.1,s.2.2.2.2.1,s.2.2.2.2.2.1,s.2.2.2.2.2.2):Pth)=s.2.2.2 from rfl,qDT,z7]
 cases decide (s.1=1) || (decide (s.1=2) || (decide (s.1=3) || decide (s.1=4))) <;> cases decide (s.2.2.1=0) <;> cases decide (s.1=5) <;> cases decide (s.2.1=0) <;> cases decide (s.1=6) <;> rfl
/-! ### Paths -/
def sgH(n:Net)(h:Hop):Seg:=n.2.1.getD h.1.toNat sg0
def hopF(n:Net)(h:Hop):Int:=if h.2=true then(sgH n h).2.2.1 else(sgH n h).2.1
def hopT(n:Net)(h:Hop):Int:=if h.2=true then(sgH n h).2.1 else(sgH n h).2.2.1
def hopOk(n:Net)(h:Hop):Bool:=decide (0<=h.1)&&decide (h.1<(n.2.1.length:Int))
def walk(n:Net):List Hop->Int->List Int->Option Int
 | [],at',_=>some at'
 | h::r,at',ps=>bif hopOk n h&&(decide (hopF n h=at')&&!decide (hopT n h∈ps)) then walk n r (hopT n h) (ps++[hopT n h]) else none
def qd5(n:Net)(i:Int):Int:=(n.2.2.1.getD i.toNat po0).2.1
def isPt(n:Net)(i:Int):Bool:=decide (0<=i)&&decide (i<(n.2.2.1.length:Int))
def pathB(n:Net)(x:Pth):Bool:=(isPt n x.1&&(isPt n x.2.1&&(!decide (x.1=x.2.1)&&(decide (1<=x.2.2.2)&&(decide (x.2.2.2<=1000)&&decide (x.2.2.1.length<=32))))))&&
 (match walk n x.2.2.1 (qd5 n x.1) [qd5 n x.1] with
  | some a=>decide (a=qd5 n x.2.1)
  | none=>false)
section
variable {n:Net}
theorem qsy{h:Hop}:hopOk n h=true↔0<=h.1/\h.1<(n.2.1.length:Int):=by unfold hopOk; rw[z8,zy,zy]
theorem qra{i:Int}:isPt n i=true↔0<=i/\i<(n.2.2.1.length:Int):=by unfold isPt; rw[z8,zy,zy]
theorem qx2{h:Hop}(ho:hopOk n h=true):qmM n h=some (hopF n h,hopT n h):=by
 have:=qsy.1 ho;unfold qmM;rw[gd_t (qae.2 (by omega))]
 unfold hopF hopT sgH;cases h.2 <;> rfl
theorem qvU{h:Hop}(ho:hopOk n h=true):qmV n h=some (hopF n h,hopT n h):=qx2 ho
theorem qDU(l:List Int)(v:Int)(hl:l.length<=1000000):qcb l v=some (decide (v∈l)):=by
 unfold qcb qeo;have h:iter (fun x=>qa7 l v x) 0=some (if l.findIdx (fun x=>decide (v=x))<l.length then .inr ((l.findIdx (fun x=>decide (v=x)):Nat):Int) else .inl ()):=by
  refine qf4 (step:=fun y=>qa7 l v y) (ε:=Unit⊕Int) l 0 (fun x=>decide (v=x)) (fin:=.inl ()) (fun i=>.inr (i:Int)) (fun i hi hq=>?_) (fun i hi hq=>?_) ?_
  ·unfold qa7;rw[dec_t (show(i:Int)<(l.length:Int) by omega),za,gd_t (inB_t hi),z9,hq,zb,w1 hi (by omega)]
  ·unfold qa7;rw[dec_t (show(i:Int)<(l.length:Int) by omega),za,gd_t (inB_t hi),z9,hq,za]
  ·unfold qa7;rw[dec_f (by omega)]; rfl
 rw[h,z7];by_cases hf:l.findIdx (fun x=>decide (v=x))<l.length
 ·have hm:v∈l:=by
   obtain⟨x,hx,he⟩:=za2.1 hf;rw[zi he]; exact hx
  rw[if_pos hf,dec_t hm];show some (decide ((0:Int)<=_))=_;rw[dec_t (by omega)]
 ·have hm:¬v∈l:=fun hm=>hf (za2.2 ⟨v,hm,by simp⟩)
  rw[if_neg hf,dec_f hm]; rfl
theorem hopD(h:Hop)(ps:List Int):(bif decide (h.1<0) then some (true,ps) else some (decide ((n.2.1.length:Int)<=h.1),ps))=some (!hopOk n h,ps):=by
 unfold hopOk;by_cases a:h.1<0
 ·rw[dec_t a,dec_f (show ¬0<=h.1 by omega)]; rfl
 ·rw[dec_f a,dec_t (show 0<=h.1 by omega),zb,zE]
  by_cases b:(n.2.1.length:Int)<=h.1
  ·rw[dec_t b,dec_f (by omega)]; rfl
  ·rw[dec_f b,dec_t (by omega)]; rfl
theorem drop_cons{A:Type}{l:List A}{i:Nat}(d:A)(h:i<l.length):l.drop i=l.getD i d::l.drop (i+1):=by
 rw[ze1 h,gD_eq h]
def wres(o:Option Int):Int⊕Bool:=match o with
 | some a=>.inl a
 | none=>.inr false
theorem qB8(x:Pth)(hx:x.2.2.1.length<=1000):∀(m i:Nat) (a:Int) (ps:List Int),i+m=x.2.2.1.length->ps.length<=i+1->
  iter (fun y=>qcS n x y.1 y.2.1 y.2.2) (a,(i:Int),ps)=some (wres (walk n (x.2.2.1.drop i) a ps)):=by
 intro m;induction m with
 | zero=>
  intro i a ps hi hp;rw[qaV (e:=.inl a) (by show qcS n x a (i:Int) ps=_; unfold qcS; rw[dec_f (by omega)]; rfl),zZ (by omega)]; rfl
 | succ m ih=>
  intro i a ps hi hp;have hi':i<x.2.2.1.length:=by omega
  have hstep:qcS n x a (i:Int) ps=(bif hopOk n (x.2.2.1.getD i (0,false))&&(decide (hopF n (x.2.2.1.getD i (0,false))=a)&&!decide (hopT n (x.2.2.1.getD i (0,false))∈ps)) then some (.inl (hopT n (x.2.2.1.getD i (0,false)),((i+1:Nat):Int),ps++[hopT n (x.2.2.1.getD i (0,false))])) else some (.inr (.inr false))):=by
   unfold qcS;rw[dec_t (show(i:Int)<(x.2.2.1.length:Int) by omega),za,gd_t (inB_t hi'),z9]
   generalize x.2.2.1.getD i (0,false)=h;rw[hopD h ps,z7];cases ho:hopOk n h with
   | false=>rfl
   | true=>
    simp only[zf,zb,zE];rw[show((h.1,h.2):Hop)=h from rfl,qx2 ho,z7]
    cases hf:decide (hopF n h=a) with
    | false=>rfl
    | true=>
     simp only[zf,zb,zE];rw[qDU ps _ (by omega),z7,z7]
     cases hm:decide (hopT n h∈ps) with
     | true=>rfl
     | false=>
      simp only[zb,zk1,za];rw[gd_t (qaw (by omega)),w1 hi' (by omega)]
  rw[drop_cons (0,false) hi'];unfold walk;cases hc:(hopOk n (x.2.2.1.getD i (0,false))&&(decide (hopF n (x.2.2.1.getD i (0,false))=a)&&!decide (hopT n (x.2.2.1.getD i (0,false))∈ps))) with
  | false=>rw[hc] at hstep; rw[qaV hstep]; rfl
  | true=>
   rw[hc] at hstep;rw[qbp hstep,ih (i+1) _ _ (by omega) (by rw[zd]; simp only[zg,zx]; omega)]; rfl
theorem qB9(r:Int×Int)(ps:List Int)(hp:ps.length<=2000):iter (fun y=>qbG r y.1 y.2) (0,ps)=some (bif decide (r.2∈ps) then .inr false else .inl ps):=by
 have:=qa1 (step:=fun y:Int×List Int=>qbG r y.1 y.2) ps.length (fun i=>((i:Int),ps)) (fun i=>!decide (ps.getD i 0=r.2)) (fin:=.inl ps) (bad:=.inr false) (fun i hi _ hq=>?_) (fun i hi _ hq=>?_) (fun _=>?_)
 ·refine Eq.trans this ?_
  have e:(List.range ps.length).all (fun i=>!decide (ps.getD i 0=r.2))=!decide (r.2∈ps):=by
   rw[zU,zm];simp only[zq,z22];constructor
   ·intro h hm;obtain⟨k,hk,e⟩:=qvI 0 hm;exact h k (zK.2 hk) e
   ·intro h k hk e;exact h (e ▸ qbe (zK.1 hk))
  rw[e];cases decide (r.2∈ps) <;> rfl
 ·show qbG r (i:Int) ps=_;unfold qbG;have hq:decide (ps.getD i 0=r.2)=false:=by simpa using hq
  rw[dec_t (show(i:Int)<(ps.length:Int) by omega),za,gd_t (inB_t hi),z9,hq,w1 hi (by omega)]; rfl
 ·show qbG r (i:Int) ps=_;unfold qbG;have hq:decide (ps.getD i 0=r.2)=true:=by simpa using hq
  rw[dec_t (show(i:Int)<(ps.length:Int) by omega),za,gd_t (inB_t hi),z9,hq]; rfl
 ·show qbG r ((ps.length:Nat):Int) ps=_;unfold qbG;rw[dec_f (by omega)]; rfl
theorem qAF(x:Pth)(hx:x.2.2.1.length<=1000):∀(m i:Nat) (a:Int) (ps:List Int),i+m=x.2.2.1.length->ps.length<=i+1->
  iter (fun y=>qcX n x y.1 y.2.1 y.2.2) (a,(i:Int),ps)=some (wres (walk n (x.2.2.1.drop i) a ps)):=by
 intro m;induction m with
 | zero=>
  intro i a ps hi hp;rw[qaV (e:=.inl a) (by show qcX n x a (i:Int) ps=_; unfold qcX; rw[dec_f (by omega)]; rfl),zZ (by omega)]; rfl
 | succ m ih=>
  intro i a ps hi hp;have hi':i<x.2.2.1.length:=by omega
  have hstep:qcX n x a (i:Int) ps=(bif hopOk n (x.2.2.1.getD i (0,false))&&(decide (hopF n (x.2.2.1.getD i (0,false))=a)&&!decide (hopT n (x.2.2.1.getD i (0,false))∈ps)) then some (.inl (hopT n (x.2.2.1.getD i (0,false)),((i+1:Nat):Int),ps++[hopT n (x.2.2.1.getD i (0,false))])) else some (.inr (.inr false))):=by
   unfold qcX;have hB:inB (i:Int) x.2.2.1.length=true:=inB_t hi';rw[dec_t (show(i:Int)<(x.2.2.1.length:Int) by omega),za]
   simp only[gd_t hB,z9];rw[hopD (x.2.2.1.getD i (0,false)) ps,z7];cases ho:hopOk n (x.2.2.1.getD i (0,false)) with
   | false=>rfl
   | true=>
    simp only[zf,zb,zE];rw[qa9,qvU ho,z7];cases hf:decide (hopF n (x.2.2.1.getD i (0,false))=a) with
    | false=>rfl
    | true=>
     simp only[zf,zb,zE];rw[qB9 _ _ (by omega),z7]
     simp only;cases hm:decide (hopT n (x.2.2.1.getD i (0,false))∈ps) with
     | true=>rfl
     | false=>
      simp only[zb,zk1,za,z81];rw[gd_t (qaw (by omega)),w1 hi' (by omega)]
  rw[drop_cons (0,false) hi'];unfold walk;cases hc:(hopOk n (x.2.2.1.getD i (0,false))&&(decide (hopF n (x.2.2.1.getD i (0,false))=a)&&!decide (hopT n (x.2.2.1.getD i (0,false))∈ps))) with
  | false=>rw[hc] at hstep; rw[qaV hstep]; rfl
  | true=>
   rw[hc] at hstep;rw[qbp hstep,ih (i+1) _ _ (by omega) (by rw[zd]; simp only[zg,zx]; omega)]; rfl
theorem notlt(a b:Int):decide (a<b)=!decide (b<=a):=by
 by_cases h:a<b
 ·rw[dec_t h,dec_f (by omega)]; rfl
 ·rw[dec_f h,dec_t (by omega)]; rfl
theorem qCa(x:Pth):qkq n x=some (pathB n x):=by
 unfold qkq pathB qhR;have e0:∀i:Int,(bif decide (0<=i) then some (decide (i<(n.2.2.1.length:Int))) else some false)=some (isPt n i):=fun i=>by unfold isPt; cases decide (0<=i) <;> rfl
 rw[e0,z7,e0,z7,notlt x.2.2.2 1,notlt 1000 x.2.2.2,notlt 32 (x.2.2.1.length:Int),show decide ((x.2.2.1.length:Int)<=32)=decide (x.2.2.1.length<=32) by congr 1; rw[eq_iff_iff]; omega]
 cases h1:isPt n x.1 with
 | false=>rfl
 | true=>
 cases h2:isPt n x.2.1 with
 | false=>rfl
 | true=>
 cases h3:decide (x.1=x.2.1) with
 | true=>rfl
 | false=>
 cases h4:decide (1<=x.2.2.2) with
 | false=>rfl
 | true=>
 cases h5:decide (x.2.2.2<=1000) with
 | false=>rfl
 | true=>
 cases h6:decide (x.2.2.1.length<=32) with
 | false=>rfl
 | true=>
  have h6:=zi h6;have a1:=qra.1 h1;have a2:=qra.1 h2;simp only[zf,zb,zE,zk1,z7];rw[gd_t (qae.2 (by omega))]
  have:=qB8 (n:=n) x (by omega) x.2.2.1.length 0 (qd5 n x.1) [qd5 n x.1] (by omega) (by simp)
  rw[show((n.2.2.1.getD x.1.toNat ([],0,0)).2).1=qd5 n x.1 from rfl,show((n.2.2.1.getD x.2.1.toNat ([],0,0)).2).1=qd5 n x.2.1 from rfl]
  have this:iter (fun y=>qcS n x y.1 y.2.1 y.2.2) (qd5 n x.1,(0:Int),[qd5 n x.1])=some (wres (walk n x.2.2.1 (qd5 n x.1) [qd5 n x.1])):=this
  rw[this,z7];cases walk n x.2.2.1 (qd5 n x.1) [qd5 n x.1] with
  | none=>rfl
  | some a=>
   show gd _ _=_;rw[gd_t (qae.2 (by omega))]
theorem qAG(x:Pth):qkF n x=some (pathB n x):=by
 unfold qkF pathB;have e0:∀i:Int,decide (i<0)=(decide (i<0)&&!isPt n i):=fun i=>by
  unfold isPt;by_cases a:i<0
  ·rw[dec_t a,dec_f (show ¬0<=i by omega)]; rfl
  ·rw[dec_f a]; rfl
 rw[notlt x.2.2.2 1,notlt 1000 x.2.2.2,notlt 32 (x.2.2.1.length:Int),show decide ((x.2.2.1.length:Int)<=32)=decide (x.2.2.1.length<=32) by congr 1; rw[eq_iff_iff]; omega,notlt x.1 0,notlt x.2.1 0,
  show decide ((n.2.2.1.length:Int)<=x.1)=!decide (x.1<(n.2.2.1.length:Int)) by rw[notlt,ze2],show decide ((n.2.2.1.length:Int)<=x.2.1)=!decide (x.2.1<(n.2.2.1.length:Int)) by rw[notlt,ze2]]
 have f1:isPt n x.1=(decide (0<=x.1)&&decide (x.1<(n.2.2.1.length:Int))):=rfl;have f2:isPt n x.2.1=(decide (0<=x.2.1)&&decide (x.2.1<(n.2.2.1.length:Int))):=rfl;rw[f1,f2];cases g1:decide (0<=x.1) with
 | false=>rfl
 | true=>
 cases h1:decide (x.1<(n.2.2.1.length:Int)) with
 | false=>rfl
 | true=>
 cases g2:decide (0<=x.2.1) with
 | false=>rfl
 | true=>
 cases h2:decide (x.2.1<(n.2.2.1.length:Int)) with
 | false=>rfl
 | true=>
 cases h3:decide (x.1=x.2.1) with
 | true=>rfl
 | false=>
 cases h4:decide (1<=x.2.2.2) with
 | false=>rfl
 | true=>
 cases h5:decide (x.2.2.2<=1000) with
 | false=>rfl
 | true=>
 cases h6:decide (x.2.2.1.length<=32) with
 | false=>rfl
 | true=>
  have h6:=zi h6;have a1:=zi g1;have a2:=zi g2;have a3:=zi h1;have a4:=zi h2;simp only[zf,zb,zE,zk1,z7];rw[gd_t (qae.2 (by omega))]
  have:=qAF (n:=n) x (by omega) x.2.2.1.length 0 (qd5 n x.1) [qd5 n x.1] (by omega) (by simp)
  rw[show((n.2.2.1.getD x.1.toNat ([],0,0)).2).1=qd5 n x.1 from rfl,show((n.2.2.1.getD x.2.1.toNat ([],0,0)).2).1=qd5 n x.2.1 from rfl]
  have this:iter (fun y=>qcX n x y.1 y.2.1 y.2.2) (qd5 n x.1,(0:Int),[qd5 n x.1])=some (wres (walk n x.2.2.1 (qd5 n x.1) [qd5 n x.1])):=this
  rw[this,z7];cases walk n x.2.2.1 (qd5 n x.1) [qd5 n x.1] with
  | none=>rfl
  | some a=>
   show gd _ _=_;rw[gd_t (qae.2 (by omega))]
theorem qCb(h0:qbb n=0)(x:Pth):qkr n x=some (pathB n x):=by
 unfold qkr;rw[qa9,qfl,z7,dec_t h0,za,show((x.1,x.2.1,x.2.2.1,x.2.2.2):Pth)=x from rfl,qCa]; rfl
theorem qAH(h0:qbb n=0)(x:Pth):qkG n x=some (pathB n x):=by
 unfold qkG;rw[qa9,qiI,z7,dec_t h0,za,show((x.1,x.2.1,x.2.2.1,x.2.2.2):Pth)=x from rfl,qAG]; rfl
end
end Go.Proofs.YtmdijohmddokhaaGreatDoor
namespace Go.Proofs.YtmdijohmddokhaaGreatDoor
open Go Go.Sq
set_option linter.unusedVariables false
structure VDk(n:Net)(d:Dk):Prop where
 net:qbb n=0
 len:d.1.length=n.2.1.length+n.2.2.1.length
 val:d.1.all qcv=true
 pl:qaY n d.2=0
 rdy:rdyB d=true
 idl:idleB n d.2=false
def along(p:Pl)(h:Hop):Int:=if h.2=true then 0-p.1.getD h.1.toNat 0 else p.1.getD h.1.toNat 0
def sgn(h:Hop)(v:Int):Int:=if h.2=true then 0-v else v
def qqE(n:Net)(d:Dk)(x:Pth):Bool:=qck (d.1.getD (n.2.1.length+x.1.toNat) v0)&&(qck (d.1.getD (n.2.1.length+x.2.1.toNat) v0)&&x.2.2.1.all fun h=>qck (d.1.getD h.1.toNat v0))
def ptOk(p:Pl)(x:Pth)(v:Int):Bool:=decide (0<=p.2.1.getD x.1.toNat 0)&&(decide (0<=0-p.2.1.getD x.2.1.toNat 0)&&(decide (0<=p.2.1.getD x.1.toNat 0+v)&&decide (0<=0-p.2.1.getD x.2.1.toNat 0+v)))
def hpOk(p:Pl)(v:Int)(h:Hop):Bool:=decide (0<=along p h)&&decide (0<=along p h+v)
def growB(n:Net)(d:Dk)(x:Pth)(v:Int):Bool:=qqE n d x&&(ptOk d.2 x v&&x.2.2.1.all (hpOk d.2 v))
def growR(l:List Hop)(v:Int)(r:List Int):List Int:=l.foldl (fun r h=>r.set h.1.toNat (r.getD h.1.toNat 0+sgn h v)) r
def growQ(x:Pth)(v:Int)(q:List Int):List Int:=(q.set x.1.toNat (q.getD x.1.toNat 0+v)).set x.2.1.toNat ((q.set x.1.toNat (q.getD x.1.toNat 0+v)).getD x.2.1.toNat 0-v)
def growP(x:Pth)(v:Int)(p:Pl):Pl:=(growR x.2.2.1 v p.1,growQ x v p.2.1,p.2.2)
theorem qsz(l:List Hop)(v:Int):∀r,(growR l v r).length=r.length:=by
 induction l with
 | nil=>intro r; rfl
 | cons h l ih=>intro r; exact(ih _).trans (zQ ..)
theorem qtw{l:List Hop}{i:Nat}(hi:i<l.length)(v:Int)(r:List Int):growR (l.take (i+1)) v r=(growR (l.take i) v r).set (l.getD i (0,false)).1.toNat ((growR (l.take i) v r).getD (l.getD i (0,false)).1.toNat 0+sgn (l.getD i (0,false)) v):=by
 unfold growR;rw[qer (0,false) hi,List.foldl_append]; rfl
theorem qop{k:Nat}(v:Int):∀(l:List Hop) (r:List Int),(∀h∈l,h.1.toNat≠k)->(growR l v r).getD k 0=r.getD k 0
 | [],_,_=>rfl
 | h::l,r,hl=>by
  show(growR l v _).getD k 0=_;rw[qop v l _ fun h' hh=>hl h' (by simp[hh]),qhv,if_neg (fun e=>hl h (by simp) e.1)]
theorem qCc(v:Int)(hv : -1000<=v/\v<=1000){b:Int}:∀(l:List Hop) (r:List Int),(∀k,-b<=r.getD k 0/\r.getD k 0<=b)->∀k,-b-1000*l.length<=(growR l v r).getD k 0/\(growR l v r).getD k 0<=b+1000*l.length:=by
 intro l;induction l generalizing b with
 | nil=>intro r h k; have:=h k; simpa[growR] using this
 | cons h l ih=>
  intro r hr k;have:=ih (b:=b+1000) (r.set h.1.toNat (r.getD h.1.toNat 0+sgn h v)) (fun j=>by
   rw[qhv];have h1:=hr h.1.toNat;have h2:=hr j;split
   ·unfold sgn; split <;> omega
   ·omega) k
  rw[show growR (h::l) v r=growR l v (r.set h.1.toNat (r.getD h.1.toNat 0+sgn h v)) from rfl,zg]
  omega
theorem qsA{A:Type}(f g:A->Bool):∀l:List A,(l.any fun h=>!(f h&&g h))=!(l.all f&&l.all g)
 | []=>rfl
 | a::l=>by
  rw[List.any_cons,z11,z11,qsA f g l];cases f a <;> cases g a <;> cases l.all f <;> cases l.all g <;> rfl
theorem qAI(x:Pth)(v:Int)(q:List Int):(growQ x v q).length=q.length:=by unfold growQ; rw[zQ,zQ]
section
variable {n:Net}
theorem VDk.of{d:Dk}(h:qdn n d=0):VDk n d:=by
 unfold qdn at h;by_cases h0:qbb n=0
 ·rw[if_neg (fun e=>e h0)] at h
  obtain⟨h1,h⟩:=qn0 (by decide) h
  unfold vlB at h1;rw[z8,zy] at h1;by_cases hp:qaY n d.2=0
  ·rw[if_neg (fun e=>e hp)] at h
   obtain⟨h2,h⟩:=qn0 (by decide) h
   cases hi:idleB n d.2 with
   | true=>rw[hi] at h; cases h
   | false=>exact⟨h0,h1.1,h1.2,hp,h2,hi⟩
  ·rw[if_pos hp] at h; exact absurd h hp
 ·rw[if_pos h0] at h; exact absurd h h0
theorem VDk.to{d:Dk}(h:VDk n d):qdn n d=0:=by
 unfold qdn vlB;rw[if_neg (fun e=>e h.net),dec_t h.len,h.val,if_neg (fun e=>e h.pl),h.rdy,h.idl]; rfl
theorem VDk.sz{d:Dk}(h:VDk n d):d.2.1.length=n.2.1.length/\d.2.2.1.length=n.2.2.1.length/\d.2.2.2.length=n.2.2.2.1.length:=(VPl.of h.pl).len
theorem VDk.small{d:Dk}(h:VDk n d):DkS d:=by
 have hn:=(VNet.of h.net).small;have:=h.len; have:=h.sz; have:=hn.sg; have:=hn.po; have:=hn.st;exact⟨by omega,by omega,by omega,by omega⟩
structure VPa(n:Net)(x:Pth):Prop where
 i:0<=x.1/\x.1<(n.2.2.1.length:Int)
 o:0<=x.2.1/\x.2.1<(n.2.2.1.length:Int)
 ne:x.1≠x.2.1
 hl:x.2.2.1.length<=32
 h:∀h∈x.2.2.1,0<=h.1/\h.1<(n.2.1.length:Int)
 d:∀i j,i<j->j<x.2.2.1.length->(x.2.2.1.getD i (0,false)).1≠(x.2.2.1.getD j (0,false)).1
theorem qw5:∀ {l:List Hop} {a:Int} {ps:List Int} {b:Int},walk n l a ps=some b->∀h∈l,(0<=h.1/\h.1<(n.2.1.length:Int))/\hopT n h∉ps
 | [],_,_,_,_=>fun h hh=>by cases hh
 | h::l,a,ps,b,hw=>by
  unfold walk at hw;cases hc:(hopOk n h&&(decide (hopF n h=a)&&!decide (hopT n h∈ps))) with
  | false=>rw[hc] at hw; cases hw
  | true=>
   rw[hc,za] at hw;rw[z8,z8] at hc;intro h' hh;rcases zw.1 hh with rfl | hh
   ·exact⟨qsy.1 hc.1,by simpa using hc.2.2⟩
   ·have:=qw5 hw h' hh;exact⟨this.1,fun hm=>this.2 (List.mem_append_left _ hm)⟩
theorem qAJ:∀ {l:List Hop} {a:Int} {ps:List Int} {b:Int},a∈ps->walk n l a ps=some b->∀i j,i<j->j<l.length->(l.getD i (0,false)).1≠(l.getD j (0,false)).1
 | [],_,_,_,_,_=>fun i j _ hj=>by cases hj
 | h::l,a,ps,b,ha,hw=>by
  unfold walk at hw;cases hc:(hopOk n h&&(decide (hopF n h=a)&&!decide (hopT n h∈ps))) with
  | false=>rw[hc] at hw; cases hw
  | true=>
   rw[hc,za] at hw;rw[z8,z8,zy] at hc;have hrec:=qAJ (List.mem_append_right ps (zW.2 rfl)) hw;have all:=qw5 hw;intro i j hij hj;cases j with
   | zero=>omega
   | succ j=>
    cases i with
    | succ i=>exact hrec i j (by omega) (by simpa using hj)
    | zero=>
     show h.1≠(l.getD j (0,false)).1;intro e;have hm:l.getD j (0,false)∈l:=qbe (by simpa using hj)
     refine(all _ hm).2 ?_
     have es:sgH n (l.getD j (0,false))=sgH n h:=by unfold sgH; rw[e]
     have:hopT n (l.getD j (0,false))=hopT n h\/hopT n (l.getD j (0,false))=hopF n h:=by
      unfold hopT hopF;rw[es];cases(l.getD j (0,false)).2 <;> cases h.2 <;> simp
     rcases this with h1 | h1
     ·rw[h1]; exact List.mem_append_right _ (zW.2 rfl)
     ·rw[h1,hc.2.1]; exact List.mem_append_left _ ha
theorem VPa.of{x:Pth}(h:pathB n x=true):VPa n x:=by
 unfold pathB at h;simp only[z8,zq,zy,z22] at h;obtain⟨⟨h1,h2,h3,h4,h5,h6⟩,hw⟩:=h;split at hw
 ·rename_i a ha;exact⟨qra.1 h1,qra.1 h2,h3,h6,fun h hh=>(qw5 ha h hh).1,qAJ (zW.2 rfl) ha⟩
 ·cases hw
theorem quO{d:Dk}{i:Int}(h0:0<=i)(h1:i<(d.1.length:Int)):qfn i d=some (qck (d.1.getD i.toNat v0)):=by
 unfold qfn;rw[gd_t (qae.2 ⟨h0,h1⟩),show(d.1.getD i.toNat (0,0,false,false))=d.1.getD i.toNat v0 from rfl,quM]; rfl
theorem VDk.rate{d:Dk}(h:VDk n d)(k:Nat) : -1000<=d.2.1.getD k 0/\d.2.1.getD k 0<=1000:=(VPl.of h.pl).rb.s k
theorem VDk.prate{d:Dk}(h:VDk n d)(k:Nat) : -1000<=d.2.2.1.getD k 0/\d.2.2.1.getD k 0<=1000:=(VPl.of h.pl).rb.q k
theorem qCd{d:Dk}(hd:VDk n d){h:Hop}(hh:0<=h.1/\h.1<(n.2.1.length:Int)):qmN d.2 h=some (along d.2 h):=by
 have:=hd.sz;have hr:=hd.rate h.1.toNat;unfold qmN along;rw[gd_t (qae.2 (by omega)),gd_t (qae.2 (by omega)),wi (by omega)]
 cases h.2 <;> rfl
theorem qCe{d:Dk}(hd:VDk n d){v:Int}(hv : -1000<=v/\v<=1000){h:Hop}(hh:0<=h.1/\h.1<(n.2.1.length:Int)):qfo h d d v=some (!(qck (d.1.getD h.1.toNat v0)&&hpOk d.2 v h)):=by
 have hr:=hd.rate h.1.toNat;have hb : -1000<=along d.2 h/\along d.2 h<=1000:=by unfold along; split <;> omega
 have hl:=hd.len;unfold qfo;rw[show((h.1,h.2):Hop)=h from rfl,qCd hd hh,z7,quO hh.1 (by omega),z7,wi (by omega)]
 unfold hpOk;rw[notlt (along d.2 h) 0,notlt (along d.2 h+v) 0];cases qck (d.1.getD h.1.toNat v0) <;> cases decide (0<=along d.2 h) <;> cases decide (0<=along d.2 h+v) <;> rfl
theorem qCf{d:Dk}(hd:VDk n d){x:Pth}(hx:VPa n x){v:Int}(hv : -1000<=v/\v<=1000):qmO n d x v=some (growB n d x v):=by
 have hz:=hd.sz;have hl:=hd.len;have hi:=hx.i;have ho:=hx.o;have b1:=hd.prate x.1.toNat;have b2:=hd.prate x.2.1.toNat;have hn:=(VNet.of hd.net).small;have m1:=hn.sg;have m2:=hn.po;unfold qmO;rw[gd_t (qae.2 (by omega)),gd_t (qae.2 (by omega)),wi (by omega),wi (by omega),show((d.1,d.2.1,d.2.2.1,d.2.2.2):Dk)=d from rfl,
  quO (by omega) (by omega),quO (by omega) (by omega),z7,z7,show(((n.2.1.length:Int)+x.1).toNat)=n.2.1.length+x.1.toNat by omega,show(((n.2.1.length:Int)+x.2.1).toNat)=n.2.1.length+x.2.1.toNat by omega,
  wi (show -9223372036854775808<=0-d.2.2.1.getD x.2.1.toNat 0/\0-d.2.2.1.getD x.2.1.toNat 0<=9223372036854775807 by omega),wi (by omega),wi (by omega)]
 have eh:=qoo x.2.2.1 (fun h=>!(qck (d.1.getD h.1.toNat v0)&&hpOk d.2 v h)) (fun h=>(qfo h.1 d d v).bind fun y=>some y) (fun h hh=>by
  show(qfo h d d v).bind _=_;rw[qCe hd hv (hx.h h hh)]; rfl) (by have:=hx.hl; omega)
 unfold growB qqE ptOk;have el:(x.2.2.1.any fun h=>!(qck (d.1.getD h.1.toNat v0)&&hpOk d.2 v h))=!((x.2.2.1.all fun h=>qck (d.1.getD h.1.toNat v0))&&x.2.2.1.all (hpOk d.2 v)):=by
  exact qsA _ _ _
 rw[notlt (d.2.2.1.getD x.1.toNat 0) 0,notlt (0-d.2.2.1.getD x.2.1.toNat 0) 0,notlt (d.2.2.1.getD x.1.toNat 0+v) 0,notlt (0-d.2.2.1.getD x.2.1.toNat 0+v) 0];cases qck (d.1.getD (n.2.1.length+x.1.toNat) v0) with
 | false=>rfl
 | true=>
 cases qck (d.1.getD (n.2.1.length+x.2.1.toNat) v0) with
 | false=>rfl
 | true=>
 cases decide (0<=d.2.2.1.getD x.1.toNat 0) with
 | false=>simp
 | true=>
 cases decide (0<=0-d.2.2.1.getD x.2.1.toNat 0) with
 | false=>simp
 | true=>
 cases decide (0<=d.2.2.1.getD x.1.toNat 0+v) with
 | false=>simp
 | true=>
 cases decide (0<=0-d.2.2.1.getD x.2.1.toNat 0+v) with
 | false=>simp
 | true=>
  simp only[zf,zb,z7,zE];rw[eh,z7,el,ze2]
theorem qDV{x:Pth}{v:Int}(hv : -1000<=v/\v<=1000){p:Pl}(hr:∀k,-1000<=p.1.getD k 0/\p.1.getD k 0<=1000)(hq:∀k,-1000<=p.2.1.getD k 0/\p.2.1.getD k 0<=1000)(hx:VPa n x)(l1:p.1.length=n.2.1.length)(l2:p.2.1.length=n.2.2.1.length)(d:List Vl):
  qmP x v d p.1 p.2.1 p.2.2=some (d,growP x v p):=by
 have hi:=hx.i;have ho:=hx.o;have b1:=hq x.1.toNat;unfold qmP;have hB:inB x.1 p.2.1.length=true:=qae.2 (by omega)
 have hC:inB x.2.1 (p.2.1.set x.1.toNat (wi64 ((p.2.1.getD x.1.toNat 0)+v))).length=true:=qae.2 (by rw[zQ]; omega)
 rw[gd_t hB,gd_t hB,gd_t hC,gd_t hC,wi (by omega)]
 have b2 : -2000<=(p.2.1.set x.1.toNat (p.2.1.getD x.1.toNat 0+v)).getD x.2.1.toNat 0/\(p.2.1.set x.1.toNat (p.2.1.getD x.1.toNat 0+v)).getD x.2.1.toNat 0<=2000:=by
  rw[qhv]; have:=hq x.2.1.toNat; split <;> omega
 rw[wi (by omega),show((p.2.1.set x.1.toNat (p.2.1.getD x.1.toNat 0+v)).set x.2.1.toNat ((p.2.1.set x.1.toNat (p.2.1.getD x.1.toNat 0+v)).getD x.2.1.toNat 0-v))=growQ x v p.2.1 from rfl]
 have:=qbj (step:=fun x2:Int×List Vl×List Int×List Int×List Bool=>qdi x v x2.1 x2.2.1 x2.2.2.1 x2.2.2.2.1 x2.2.2.2.2) (e:=(d,growP x v p)) x.2.2.1.length (fun i=>((i:Int),d,growR (x.2.2.1.take i) v p.1,growQ x v p.2.1,p.2.2)) (fun i hi'=>?_) ?_
 ·have this:iter (fun x2=>qdi x v x2.1 x2.2.1 x2.2.2.1 x2.2.2.2.1 x2.2.2.2.2) ((0:Int),d,p.1,growQ x v p.2.1,p.2.2)=some (d,growP x v p):=this
  rw[this]; rfl
 ·show qdi x v (i:Int) d (growR (x.2.2.1.take i) v p.1) (growQ x v p.2.1) p.2.2=some (.inl (((i+1:Nat):Int),d,growR (x.2.2.1.take (i+1)) v p.1,growQ x v p.2.1,p.2.2));unfold qdi;have hl:=hx.hl;have hh:=hx.h _ (qbe (d:=(0,false)) hi');have hb:=qCc v hv (b:=1000) (x.2.2.1.take i) p.1 hr (x.2.2.1.getD i (0,false)).1.toNat;rw[zn] at hb;have hD:inB (x.2.2.1.getD i (0,false)).1 (growR (x.2.2.1.take i) v p.1).length=true:=qae.2 (by rw[qsz]; omega)
  have es:qiX ((x.2.2.1.getD i (0,false)).1,(x.2.2.1.getD i (0,false)).2) v=some (sgn (x.2.2.1.getD i (0,false)) v):=by
   unfold qiX sgn; rw[wi (by omega)]; simp only; cases(x.2.2.1.getD i (0,false)).2 <;> rfl
  have hs : -1000<=sgn (x.2.2.1.getD i (0,false)) v/\sgn (x.2.2.1.getD i (0,false)) v<=1000:=by unfold sgn; split <;> omega
  rw[dec_t (show(i:Int)<(x.2.2.1.length:Int) by omega),za,gd_t (inB_t hi'),z9,gd_t hD,es,z7,gd_t hD,w1 hi' (by omega),wi (by omega),qtw hi']
 ·show qdi x v ((x.2.2.1.length:Nat):Int) d (growR (x.2.2.1.take x.2.2.1.length) v p.1) (growQ x v p.2.1) p.2.2=_;unfold qdi;rw[dec_f (by omega),zV1]; rfl
end
end Go.Proofs.YtmdijohmddokhaaGreatDoor
namespace Go.Proofs.YtmdijohmddokhaaGreatDoor
open Go Go.Sq
set_option linter.unusedVariables false
def cmdV(v:Vl)(w:Bool):Vl:=(v.1,v.2.1,w,v.2.2.2)
def movO(v:Vl)(t:Int):Int:=bif v.2.2.2 then v.2.1 else(if v.2.1<(bif v.2.2.1 then v.1 else 0) then min (bif v.2.2.1 then v.1 else 0) (v.2.1+t) else max (bif v.2.2.1 then v.1 else 0) (v.2.1-t))
def movV(v:Vl)(t:Int):Vl:=(v.1,movO v t,v.2.2.1,v.2.2.2)
def absP(s:Stp):Pth:=(s.2.2.2.1,s.2.2.2.2.1,s.2.2.2.2.2.1,max s.2.2.1 (0-s.2.2.1))
def turnS(n:Net)(d:Dk)(s:Stp):Dk×Int:=bif !(decide (0<=s.2.1)&&decide (s.2.1<(d.1.length:Int))) then(d,8) else
 bif decide (s.1=2)&&(need d.2).getD s.2.1.toNat false then(d,22) else((d.1.set s.2.1.toNat (cmdV (d.1.getD s.2.1.toNat v0) (decide (s.1=1))),d.2),0)
def setP(p:Pl)(i:Nat)(b:Bool):Pl:=(p.1,p.2.1,p.2.2.set i b)
def runS(n:Net)(d:Dk)(s:Stp):Dk×Int:=bif !(decide (0<=s.2.1)&&decide (s.2.1<(n.2.2.2.1.length:Int))) then(d,8) else
 bif decide (s.1=3)&&decide (comeF n d.2 (n.2.2.2.1.getD s.2.1.toNat sta0).2.1=0) then(d,22) else((d.1,setP d.2 s.2.1.toNat (decide (s.1=3))),0)
def chgS(n:Net)(d:Dk)(s:Stp):Dk×Int:=bif !rg (-1000) 1000 s.2.2.1 then(d,23) else
 bif !pathB n (absP s) then(d,23) else bif !growB n d (absP s) s.2.2.1 then(d,22) else
 (if qaY n (growP (absP s) s.2.2.1 d.2)≠0 then(d,qaY n (growP (absP s) s.2.2.1 d.2)) else bif idleB n (growP (absP s) s.2.2.1 d.2) then(d,22) else((d.1,growP (absP s) s.2.2.1 d.2),0))
def waitS(d:Dk)(s:Stp):Dk×Int:=bif !rg 1 100 s.2.2.1 then(d,1) else((d.1.map fun v=>movV v s.2.2.1,d.2),0)
def stepS(n:Net)(d:Dk)(s:Stp):Dk×Int:=bif !qlk s then(d,22) else
 bif decide (s.1=1) || decide (s.1=2) then turnS n d s else bif decide (s.1=3) || decide (s.1=4) then runS n d s else bif decide (s.1=5) then chgS n d s else waitS d s
def appS(n:Net)(d:Dk)(s:Stp):Dk×Int:=if qdn n d≠0 then(d,qdn n d) else stepS n d s
section
variable {n:Net}
theorem oob(a b:Int):(bif decide (a<0) then some true else some (decide (b<=a)))=some (!(decide (0<=a)&&decide (a<b))):=by
 rw[notlt a 0,notlt a b];cases decide (0<=a) <;> cases decide (b<=a) <;> rfl
theorem oob4{A:Type}(a b:Int)(x:A):(bif decide (a<0) then some (true,x) else some (decide (b<=a),x))=some (!(decide (0<=a)&&decide (a<b)),x):=by
 rw[notlt a 0,notlt a b];cases decide (0<=a) <;> cases decide (b<=a) <;> rfl
theorem qqi{a b:Int}:(decide (0<=a)&&decide (a<b))=true↔0<=a/\a<b:=by rw[z8,zy,zy]
theorem qDe{v:Vl}(h:qcv v=true)(w:Bool):qhQ v w=some (cmdV v w,0):=by
 unfold qhQ;rw[show((v.1,v.2.1,v.2.2.1,v.2.2.2):Vl)=v from rfl,valid_eq,z7,h]; rfl
theorem qDW{v:Vl}(h:qcv v=true)(w:Bool):qkE v w=some (cmdV v w,0):=qDe h w
theorem VDk.val1{d:Dk}(hd:VDk n d){i:Nat}(hi:i<d.1.length):qcv (d.1.getD i v0)=true:=zm.1 hd.val _ (qbe hi)
theorem VDk.needl{d:Dk}(hd:VDk n d):(need d.2).length=d.1.length:=by rw[qpI (VPl.of hd.pl).sz,hd.len]
def inner(r:Dk×Int)(o:Option (Int×List Vl×List Int×List Int×List Bool)):Prop:=∃y,o=some y/\y.1=r.2/\(r.2=0->y.2=r.1)
theorem qAK{d:Dk}(hd:VDk n d)(s:Stp):inner (turnS n d s) (qlY n s d.1 d.2.1 d.2.2.1 d.2.2.2):=by
 unfold turnS qlY;rw[oob4,z7];simp only;cases hb:(decide (0<=s.2.1)&&decide (s.2.1<(d.1.length:Int))) with
 | false=>exact⟨_,rfl,rfl,fun e=>by cases e⟩
 | true=>
  have hb:=qqi.1 hb;have hz:=hd.sz;have hs:=(VNet.of hd.net).small;have m1:=hs.sg;have m2:=hs.po;have hl:=hd.len;simp only[zf,zb];have e1:∀(q:Bool),(bif decide (s.1=2) then
    (qgg (n.1,n.2.1,n.2.2.1,n.2.2.2.1,n.2.2.2.2.1,n.2.2.2.2.2) (d.2.1,d.2.2.1,d.2.2.2)).bind fun r=>
     bif !decide (r.1=0) then some (.inr (r.1,d.1,d.2.1,d.2.2.1,d.2.2.2))
     else(qez (r.2.1,r.2.2)).bind fun r2=>
      gd (inB s.2.1 r2.length) (bif r2.getD s.2.1.toNat false then some (.inr (22,d.1,d.2.1,d.2.2.1,d.2.2.2)) else some (.inl (d.1,d.2.1,d.2.2.1,d.2.2.2)))
    else(some (.inl (d.1,d.2.1,d.2.2.1,d.2.2.2)):Option (Dk⊕(Int×Dk))))=some (bif decide (s.1=2)&&(need d.2).getD s.2.1.toNat false then .inr (22,d) else .inl d):=by
   intro q;cases decide (s.1=2) with
   | false=>rfl
   | true=>
    rw[za,qa9,show((d.2.1,d.2.2.1,d.2.2.2):Pl)=d.2 from rfl,qAy,z7,if_neg (fun e=>e hd.pl)]
    simp only[z82,zf,zb,zE];rw[qtu _ _ (by rw[qhE]; omega) (by rw[qhE]; omega),z7,show nz d.2.1++nz d.2.2.1=need d.2 from rfl,gd_t (qae.2 (by rw[hd.needl]; omega))]
    cases(need d.2).getD s.2.1.toNat false <;> rfl
  rw[e1 true,z7];cases(decide (s.1=2)&&(need d.2).getD s.2.1.toNat false) with
  | true=>exact⟨_,rfl,rfl,fun e=>by cases e⟩
  | false=>
   simp only[zb,z81];rw[gd_t (qae.2 (by omega)),show(d.1.getD s.2.1.toNat (0,0,false,false))=d.1.getD s.2.1.toNat v0 from rfl,qDe (hd.val1 (by omega)),z7,gd_t (qae.2 (by omega))]
   exact⟨_,rfl,rfl,fun _=>rfl⟩
theorem qCg{d:Dk}(hd:VDk n d)(s:Stp):qmY d s=some (turnS n d s):=by
 unfold turnS qmY;rw[oob,z7];cases hb:(decide (0<=s.2.1)&&decide (s.2.1<(d.1.length:Int))) with
 | false=>rfl
 | true=>
  have hb:=qqi.1 hb;have hz:=hd.sz;have hs:=(VNet.of hd.net).small;have m1:=hs.sg;have m2:=hs.po;have hl:=hd.len;simp only[zf,zb];have e1:(bif decide (s.1=2) then
    (qgk (d.2.1,d.2.2.1,d.2.2.2)).bind fun r=>(qjS (r.1,r.2)).bind fun r2=>gd (inB s.2.1 r2.length) (some (r2.getD s.2.1.toNat false))
    else some false)=some (decide (s.1=2)&&(need d.2).getD s.2.1.toNat false):=by
   cases decide (s.1=2) with
   | false=>rfl
   | true=>
    rw[za,show((d.2.1,d.2.2.1,d.2.2.2):Pl)=d.2 from rfl,qxZ _ (by omega) (by omega),z7,qAx _ _ (by rw[qhE]; omega) (by rw[qhE]; omega),z7,show nz d.2.1++nz d.2.2.1=need d.2 from rfl,gd_t (qae.2 (by rw[hd.needl]; omega))]; rfl
  rw[e1,z7];cases(decide (s.1=2)&&(need d.2).getD s.2.1.toNat false) with
  | true=>rfl
  | false=>
   simp only[zb];rw[show((d.1,d.2.1,d.2.2.1,d.2.2.2):Dk)=d from rfl,qpJ hd.small,z7,gd_t (qae.2 (by omega)),show(d.1.getD s.2.1.toNat (0,0,false,false))=d.1.getD s.2.1.toNat v0 from rfl,qDW (hd.val1 (by omega)),z7,gd_t (qae.2 (by omega))]
theorem qx3(p:Pl)(i:Nat)(b:Bool):qaY n (setP p i b)=qaY n p:=by
 have e1:szB n (setP p i b)=szB n p:=by unfold szB setP; rw[zQ]
 have e2:∀f th,topo n (setP p i b) f th=topo n p f th:=by
  intro f;induction f with
  | zero=>intro _; rfl
  | succ f ih=>
   intro th;unfold topo;rw[show nextF n (setP p i b) th=nextF n p th from rfl]
   cases nextF n p th with
   | none=>rfl
   | some k=>exact congrArg _ (ih _)
 unfold qaY;rw[e1,show ordL n (setP p i b)=ordL n p from e2 _ _]; rfl
theorem qvV{d:Dk}(hd:VDk n d){i:Nat}(hi:i<n.2.2.2.1.length)(b:Bool):idleB n (setP d.2 i b)=(b&&decide (comeF n d.2 (n.2.2.2.1.getD i sta0).2.1=0)):=by
 have hn:=hd.idl;unfold idleB at hn ⊢;have hz:=hd.sz;rw[zL1] at hn;have key:∀j,j<n.2.2.2.1.length->qlj n (setP d.2 i b) j=(decide (j=i)&&(b&&decide (comeF n d.2 (n.2.2.2.1.getD i sta0).2.1=0))):=by
  intro j hj;have h1:=hn j (zK.2 hj);unfold qlj at h1 ⊢;have e:comeF n (setP d.2 i b) (n.2.2.2.1.getD j sta0).2.1=comeF n d.2 (n.2.2.2.1.getD j sta0).2.1:=rfl;rw[e,show(setP d.2 i b).2.2=d.2.2.2.set i b from rfl,qhv]
  by_cases hji:i=j
  ·subst hji; rw[if_pos ⟨rfl,by omega⟩,dec_t rfl]; rfl
  ·rw[if_neg (fun h=>hji h.1),dec_f (show ¬j=i from fun h=>hji h.symm)]
   revert h1; cases(d.2.2.2.getD j false&&decide (comeF n d.2 (n.2.2.2.1.getD j sta0).2.1=0)) <;> simp
 rw[zU,zp2];constructor
 ·rintro⟨j,hj,h⟩
  rw[key j (zK.1 hj),z8] at h;exact h.2
 ·intro h;exact⟨i,zK.2 hi,by rw[key i hi,h,dec_t rfl]; rfl⟩
theorem qDf{d:Dk}(hd:VDk n d)(s:Stp):inner (runS n d s) (qo7 n s d.1 d.2.1 d.2.2.1 d.2.2.2):=by
 unfold runS qo7;rw[oob4,z7];simp only;cases hb:(decide (0<=s.2.1)&&decide (s.2.1<(n.2.2.2.1.length:Int))) with
 | false=>exact⟨_,rfl,rfl,fun e=>by cases e⟩
 | true=>
  have hb:=qqi.1 hb;have hz:=hd.sz;obtain⟨i,hi⟩:∃i:Nat,s.2.1=(i:Int):=⟨s.2.1.toNat,by omega⟩
  simp only[zf,zb];rw[hi,z9,qa9,show((d.2.1,d.2.2.1,d.2.2.2):Pl)=d.2 from rfl,qsx hd.pl (by omega),z7,ze2]
  cases hk:decide (s.1=3) with
  | false=>
   simp only[zb,z7,zU2];rw[gd_t (inB_t (by omega))]
   exact⟨_,rfl,rfl,fun _=>rfl⟩
  | true=>
   simp only[za,z7,zE];cases decide (comeF n d.2 (n.2.2.2.1.getD i sta0).2.1=0) with
   | true=>exact⟨_,rfl,rfl,fun e=>by cases e⟩
   | false=>
    simp only[zb];rw[gd_t (inB_t (by omega))]
    exact⟨_,rfl,rfl,fun _=>rfl⟩
theorem qCh{d:Dk}(hd:VDk n d)(s:Stp):qmZ n d s=some (runS n d s):=by
 unfold runS qmZ;rw[oob,z7];cases hb:(decide (0<=s.2.1)&&decide (s.2.1<(n.2.2.2.1.length:Int))) with
 | false=>rfl
 | true=>
  have hb:=qqi.1 hb;have hz:=hd.sz;obtain⟨i,hi⟩:∃i:Nat,s.2.1=(i:Int):=⟨s.2.1.toNat,by omega⟩
  simp only[zf,zb];rw[hi,z9,show((d.1,d.2.1,d.2.2.1,d.2.2.2):Dk)=d from rfl,qpJ hd.small,z7,gd_t (inB_t (by omega)),qa9,
   show((d.2.1,(d.2.2.1,d.2.2.2.set i (decide (s.1=3)))):Pl)=setP d.2 i (decide (s.1=3)) from rfl,qw4 (by rw[qx3]; exact hd.pl),z7,ze2,qvV hd (by omega)]
  cases(decide (s.1=3)&&decide (comeF n d.2 (n.2.2.2.1.getD i sta0).2.1=0)) <;> rfl
/-! ### Waiting -/
theorem qj4{v:Vl}:qcv v=true↔1<=v.1/\v.1<=60/\0<=v.2.1/\v.2.1<=v.1:=by
 unfold qcv; rw[z8,qli,qli,and_assoc]
theorem qCi{A:Type}(c:Bool)(x:A):(bif c then x else x)=x:=by cases c <;> rfl
theorem qDX{v:Vl}(h:qcv v=true){t:Int}(ht:1<=t/\t<=100):qmQ v t=some (movV v t,0):=by
 have hv:=qj4.1 h;unfold qmQ;rw[show((v.1,v.2.1,v.2.2.1,v.2.2.2):Vl)=v from rfl,valid_eq,z7,h,dec_f (show ¬t<0 by omega),dec_f (show ¬400<t by omega)]
 simp only[zf,zb,z7];have e:qkt v t=some (movV v t):=by
  unfold qkt qp3;rw[wi (by omega),wi (by omega)]
  have eg:(bif v.2.2.1 then some v.1 else some 0)=some (bif v.2.2.1 then v.1 else 0):=by cases v.2.2.1 <;> rfl
  simp only;rw[eg,z7];have em:(bif v.2.2.2 then some v.2.1 else Option.bind (α:=Int) (bif decide (v.2.1<(bif v.2.2.1 then v.1 else 0)) then some (min (bif v.2.2.1 then v.1 else 0) (v.2.1+t)) else some (max (bif v.2.2.1 then v.1 else 0) (v.2.1-t))) fun s=>some s)=some (movO v t):=by
   unfold movO;cases v.2.2.2 with
   | true=>rfl
   | false=>
    simp only[zb];by_cases hc:v.2.1<(bif v.2.2.1 then v.1 else 0)
    ·rw[dec_t hc,if_pos hc]; rfl
    ·rw[dec_f hc,if_neg hc]; rfl
  rw[em,z7];by_cases hc:movO v t=v.2.1
  ·rw[show movV v t=v by unfold movV; rw[hc],hc]; exact qCi _ _
  ·rw[dec_f hc,zU2,z72]; rfl
 rw[e]; rfl
theorem qvW{v:Vl}(h:qcv v=true){t:Int}(ht:0<=t):qcv (movV v t)=true:=by
 rw[qj4] at h ⊢;unfold movV movO;simp only;cases v.2.2.2 <;> cases v.2.2.1 <;> simp only[za,zb] <;> (try split) <;> omega
theorem qCj{v:Vl}(h:qcv v=true):movV v 0=v:=by
 rw[qj4] at h;have:movO v 0=v.2.1:=by
  unfold movO;cases v.2.2.2 <;> cases v.2.2.1 <;> simp only[za,zb] <;> (try split) <;> omega
 unfold movV; rw[this]
theorem qCk{v:Vl}(h:qcv v=true)(i:Nat):qm1 (movV v (i:Int))=some (movV v ((i+1:Nat):Int),0):=by
 have hm:=qvW h (t:=(i:Int)) (by omega)
 have hm2:=qj4.1 hm;rw[qj4] at h;unfold qm1;rw[show(((movV v (i:Int)).1,(movV v (i:Int)).2.1,(movV v (i:Int)).2.2.1,(movV v (i:Int)).2.2.2):Vl)=movV v (i:Int) from rfl,rvalid_eq,z7,hm,wi (by omega),wi (by omega)]
 unfold movV movO at hm2 ⊢;simp only at hm2 ⊢;cases h1:v.2.2.2 <;> cases h2:v.2.2.1 <;> simp only[h1,h2,za,zb,zf,zk1,z7] at hm2 ⊢
 ·by_cases hz:v.2.1<0
  ·omega
  ·rw[if_neg hz] at hm2;rw[if_neg hz,if_neg hz];by_cases hc:0<max 0 (v.2.1-(i:Int))
   ·rw[dec_t hc,za,z7,z7,show max 0 (v.2.1-(i:Int))-1=max 0 (v.2.1-((i+1:Nat):Int)) by omega]
   ·rw[dec_f hc,zb,z7,z7,show max 0 (v.2.1-(i:Int))=max 0 (v.2.1-((i+1:Nat):Int)) by omega]
 ·by_cases hz:v.2.1<v.1
  ·rw[if_pos hz] at hm2;rw[if_pos hz,if_pos hz];by_cases hc:min v.1 (v.2.1+(i:Int))<v.1
   ·rw[dec_t hc,za,z7,show min v.1 (v.2.1+(i:Int))+1=min v.1 (v.2.1+((i+1:Nat):Int)) by omega]
   ·rw[dec_f hc,zb,z7,show min v.1 (v.2.1+(i:Int))=min v.1 (v.2.1+((i+1:Nat):Int)) by omega]
  ·rw[if_neg hz] at hm2;rw[if_neg hz,if_neg hz,dec_f (show ¬max v.1 (v.2.1-(i:Int))<v.1 by omega),zb,z7,show max v.1 (v.2.1-(i:Int))=max v.1 (v.2.1-((i+1:Nat):Int)) by omega]
theorem qCl{v:Vl}(h:qcv v=true){t:Int}(ht:1<=t/\t<=100):qm2 v t=some (movV v t,0):=by
 obtain⟨m,rfl⟩:∃m:Nat,t=(m:Int):=⟨t.toNat,by omega⟩
 unfold qm2;rw[show((v.1,v.2.1,v.2.2.1,v.2.2.2):Vl)=v from rfl,rvalid_eq,z7,h,dec_f (show ¬(m:Int)<0 by omega),dec_f (show ¬400<(m:Int) by omega)]
 simp only[zf,zb,z7];have:=qbj (step:=fun x:Int×Int×Int×Bool×Bool=>qdm (m:Int) x.1 x.2.1 x.2.2.1 x.2.2.2.1 x.2.2.2.2) (e:=movV v (m:Int)) m (fun i=>((i:Int),movV v (i:Int))) (fun i hi=>?_) ?_
 ·have this:iter (fun x=>qdm (m:Int) x.1 x.2.1 x.2.2.1 x.2.2.2.1 x.2.2.2.2) ((0:Int),movV v 0)=some (movV v (m:Int)):=this
  rw[qCj h] at this;rw[show((0,v.1,v.2.1,v.2.2.1,v.2.2.2):Int×Vl)=(0,v) from rfl,this]; rfl
 ·show qdm (m:Int) (i:Int) (movV v (i:Int)).1 (movV v (i:Int)).2.1 (movV v (i:Int)).2.2.1 (movV v (i:Int)).2.2.2=_;unfold qdm;rw[dec_t (show(i:Int)<(m:Int) by omega),za,show(((movV v (i:Int)).1,(movV v (i:Int)).2.1,(movV v (i:Int)).2.2.1,(movV v (i:Int)).2.2.2):Vl)=movV v (i:Int) from rfl,qCk h,z7,w1 hi (by omega)]
 ·show qdm (m:Int) (m:Int) (movV v (m:Int)).1 (movV v (m:Int)).2.1 (movV v (m:Int)).2.2.1 (movV v (m:Int)).2.2.2=_;unfold qdm;rw[dec_f (by omega)]; rfl
theorem rg1(v:Int):(bif decide (v<1) then some true else some (decide (100<v)))=some (!rg 1 100 v):=by
 unfold rg; rw[notlt v 1,notlt 100 v];cases decide (1<=v) <;> cases decide (v<=100) <;> rfl
theorem rg14{A:Type}(v:Int)(x:A):(bif decide (v<1) then some (true,x) else some (decide (100<v),x))=some (!rg 1 100 v,x):=by
 unfold rg; rw[notlt v 1,notlt 100 v];cases decide (1<=v) <;> cases decide (v<=100) <;> rfl
theorem qDY{d:Dk}(hd:VDk n d)(s:Stp)(m:Net):inner (waitS d s) (qpe m s d.1 d.2.1 d.2.2.1 d.2.2.2):=by
 unfold waitS qpe;rw[rg14,z7];simp only;cases hr:rg 1 100 s.2.2.1 with
 | false=>exact⟨_,rfl,rfl,fun e=>by cases e⟩
 | true=>
  have ht:=qli.1 hr;have hl:=hd.small.v;simp only[zf,zb];have:=qbj (step:=fun x:Int×List Vl×List Int×List Int×List Bool=>qdX s (false,d) x.1 x.2.1 x.2.2.1 x.2.2.2.1 x.2.2.2.2) (e:=.inl (d.1.map fun v=>movV v s.2.2.1,d.2)) d.1.length (fun i=>((i:Int),mix (d.1.map fun v=>movV v s.2.2.1) d.1 i,d.2)) (fun i hi=>?_) ?_
  ·have this:iter (fun x=>qdX s (false,d.1,d.2.1,d.2.2.1,d.2.2.2) x.1 x.2.1 x.2.2.1 x.2.2.2.1 x.2.2.2.2) ((0:Int),mix (d.1.map fun v=>movV v s.2.2.1) d.1 0,d.2)=some (.inl (d.1.map fun v=>movV v s.2.2.1,d.2)):=this
   rw[mix_0] at this;rw[show((0,d.1,d.2.1,d.2.2.1,d.2.2.2):Int×Dk)=(0,d.1,d.2) from rfl,this]
   exact⟨_,rfl,rfl,fun _=>rfl⟩
  ·show qdX s (false,d) (i:Int) (mix (d.1.map fun v=>movV v s.2.2.1) d.1 i) d.2.1 d.2.2.1 d.2.2.2=_
   unfold qdX;have hm:(d.1.map fun v=>movV v s.2.2.1).length=d.1.length:=z71 ..
   have hg:(mix (d.1.map fun v=>movV v s.2.2.1) d.1 i).getD i (0,0,false,false)=d.1.getD i v0:=by rw[qxL hm rfl,if_neg (by omega)]
   have hB:inB (i:Int) (mix (d.1.map fun v=>movV v s.2.2.1) d.1 i).length=true:=inB_t (by rw[qpW hm rfl]; exact hi)
   rw[dec_t (show(i:Int)<(d.1.length:Int) by omega),za,gd_t hB,z9,hg,
    show(((d.1.getD i v0).1,(((d.1.getD i v0).2).1,((((d.1.getD i v0).2).2).1,(((d.1.getD i v0).2).2).2))):Vl)=d.1.getD i v0 from rfl,qDX (hd.val1 hi) ht,z7,gd_t hB]
   simp only[z82,zf,zb];rw[w1 hi (by omega),show(((movV (d.1.getD i v0) s.2.2.1).1,(movV (d.1.getD i v0) s.2.2.1).2.1,(movV (d.1.getD i v0) s.2.2.1).2.2.1,(movV (d.1.getD i v0) s.2.2.1).2.2.2):Vl)=movV (d.1.getD i v0) s.2.2.1 from rfl,
    qAf hm rfl v0 hi (by rw[qlC _ _ _ v0 _ hi])]
  ·show qdX s (false,d) ((d.1.length:Nat):Int) (mix (d.1.map fun v=>movV v s.2.2.1) d.1 d.1.length) d.2.1 d.2.2.1 d.2.2.2=_
   unfold qdX;have hm:(d.1.map fun v=>movV v s.2.2.1).length=d.1.length:=z71 ..
   rw[dec_f (show ¬((d.1.length:Nat):Int)<(d.1.length:Int) by omega),mix_n hm rfl]; rfl
end
end Go.Proofs.YtmdijohmddokhaaGreatDoor
