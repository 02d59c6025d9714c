/- Steps: what is reached is valid; a change of a flow is taken back. No condition. -/
import Derived.Test.YtmdijohmddokhaaGreatDoorSa0
import Derived.Test.YtmdijohmddokhaaGreatDoorNk5
import Derived.Test.YtmdijohmddokhaaGreatDoorCm6
namespace Go.Proofs.YtmdijohmddokhaaGreatDoor
open Go Go.Sq
set_option linter.unusedVariables false
theorem bif_z{c:Bool}{d:Dk}{k:Int}{y:Dk×Int}(hx:k≠0)(h:(bif c then(d,k) else y).2=0):c=false/\(bif c then(d,k) else y)=y:=by
 cases c
 ·exact⟨rfl,rfl⟩
 ·exact absurd h hx
section
variable {n:Net}
theorem qqk{d:Dk}:rdyB d=true↔∀i,i<(need d.2).length->(need d.2).getD i false=true->qck (d.1.getD i v0)=true:=by
 unfold rdyB;rw[qoN];refine forall_congr' fun i=>forall_congr' fun _=>?_
 cases(need d.2).getD i false <;> simp
theorem qCA{p:Pl}{i:Nat}(h:i<p.1.length):(need p).getD i false=!decide (p.1.getD i 0=0):=by
 unfold need;rw[qxK,if_pos (by rw[qhE]; exact h)]
 exact qlC (fun r:Int=>!decide (r=0)) p.1 i 0 false h
theorem qv2{p:Pl}{i:Nat}(h:i<p.2.1.length):(need p).getD (p.1.length+i) false=!decide (p.2.1.getD i 0=0):=by
 unfold need;rw[qxK,if_neg (by rw[qhE]; omega),qhE,show p.1.length+i-p.1.length=i by omega]
 exact qlC (fun r:Int=>!decide (r=0)) p.2.1 i 0 false h
theorem qv3(v:Vl)(w:Bool):qcv (cmdV v w)=qcv v:=rfl
theorem qx8{l:List Vl}{p:Vl->Bool}:l.all p=true↔∀i,i<l.length->p (l.getD i v0)=true:=by
 rw[<-qst l v0 p,qoN]
theorem qyZ{d:Dk}(hd:VDk n d){s:Stp}(hk:(decide (s.1=1) || decide (s.1=2))=true)(h:(turnS n d s).2=0):VDk n (turnS n d s).1:=by
 unfold turnS at h ⊢;obtain⟨c1,e1⟩:=bif_z (by decide) h
 rw[e1] at h ⊢;obtain⟨c2,e2⟩:=bif_z (by decide) h
 rw[e2];have hb:(decide (0<=s.2.1)&&decide (s.2.1<(d.1.length:Int)))=true:=by simpa using c1
 have hb:=qqi.1 hb;refine⟨hd.net,(zQ ..).trans hd.len,?_,hd.pl,?_,hd.idl⟩
 ·have hv:=qx8.1 hd.val;refine qx8.2 fun i hi=>?_
  rw[zQ] at hi;rw[qhv];split
  ·rw[qv3]; exact hv _ (by omega)
  ·exact hv i hi
 ·have hr:=qqk.1 hd.rdy;refine qqk.2 fun i hi hn=>?_
  have h1:=hr i hi hn;show qck ((d.1.set s.2.1.toNat (cmdV (d.1.getD s.2.1.toNat v0) (decide (s.1=1)))).getD i v0)=true;rw[qhv];split
  ·rename_i hc;rw[Bool.and_eq_false_iff] at c2;rw[hc.1] at c2;have h2:decide (s.1=2)=false:=c2.resolve_right (by rw[hn]; simp)
   rw[h2,Bool.or_false] at hk;rw[hk,hc.1];unfold qck at h1 ⊢;rw[qv3];rw[z8,z8] at h1 ⊢;exact⟨h1.1,h1.2.1,rfl⟩
  ·exact h1
theorem qA1{d:Dk}(hd:VDk n d){s:Stp}(h:(runS n d s).2=0):VDk n (runS n d s).1:=by
 unfold runS at h ⊢;obtain⟨c1,e1⟩:=bif_z (by decide) h
 rw[e1] at h ⊢;obtain⟨c2,e2⟩:=bif_z (by decide) h
 rw[e2];have hb:(decide (0<=s.2.1)&&decide (s.2.1<(n.2.2.2.1.length:Int)))=true:=by simpa using c1
 have hb:=qqi.1 hb;exact⟨hd.net,hd.len,hd.val,by rw[qx3]; exact hd.pl,hd.rdy,by rw[qvV hd (by omega)]; exact c2⟩
structure Chg(n:Net)(d:Dk)(s:Stp):Prop where
 v : -1000<=s.2.2.1/\s.2.2.1<=1000
 pa:pathB n (absP s)=true
 gr:growB n d (absP s) s.2.2.1=true
 pl:qaY n (growP (absP s) s.2.2.1 d.2)=0
 id:idleB n (growP (absP s) s.2.2.1 d.2)=false
theorem qE4{d:Dk}{s:Stp}(h:(chgS n d s).2=0):Chg n d s/\chgS n d s=((d.1,growP (absP s) s.2.2.1 d.2),0):=by
 unfold chgS at h ⊢;obtain⟨c1,e1⟩:=bif_z (by decide) h
 rw[e1] at h ⊢;obtain⟨c2,e2⟩:=bif_z (by decide) h
 rw[e2] at h ⊢;obtain⟨c3,e3⟩:=bif_z (by decide) h
 rw[e3] at h ⊢;by_cases hp:qaY n (growP (absP s) s.2.2.1 d.2)=0
 ·rw[if_neg (fun e=>e hp)] at h ⊢
  obtain⟨c4,e4⟩:=bif_z (by decide) h
  rw[e4];exact⟨⟨qli.1 (by simpa using c1),by simpa using c2,by simpa using c3,hp,c4⟩,rfl⟩
 ·rw[if_pos hp] at h; exact absurd h hp
theorem qA2{d:Dk}(hd:VDk n d){s:Stp}(h:(chgS n d s).2=0):VDk n (chgS n d s).1:=by
 obtain⟨hc,e⟩:=qE4 h;rw[e];show VDk n (d.1,growP (absP s) s.2.2.1 d.2);have hx:=VPa.of hc.pa;have hz:=hd.sz;have hg:=hc.gr;unfold growB qqE at hg;simp only[z8,zm] at hg;obtain⟨⟨g1,g2,g3⟩,_⟩:=hg;have hr:=qqk.1 hd.rdy;have hs':=(VPl.of hc.pl).len;refine⟨hd.net,hd.len,hd.val,hc.pl,?_,hc.id⟩
 refine qqk.2 fun i hi hn=>?_
 replace hi:i<(need (growP (absP s) s.2.2.1 d.2)).length:=hi;replace hn:(need (growP (absP s) s.2.2.1 d.2)).getD i false=true:=hn;show qck (d.1.getD i v0)=true;rw[qpI (VPl.of hc.pl).sz] at hi;have hnl:=qpI (VPl.of hd.pl).sz;rcases zb2 i n.2.1.length with hlt | hge
 ·by_cases hin:∃h∈(absP s).2.2.1,h.1.toNat=i
  ·obtain⟨h,hm,rfl⟩:=hin; exact g3 h hm
  ·refine hr i (by omega) ?_
   rw[qCA (by omega)] at hn ⊢
   rw[show(growP (absP s) s.2.2.1 d.2).1=growR (absP s).2.2.1 s.2.2.1 d.2.1 from rfl,qop _ _ _ fun h hm e=>hin ⟨h,hm,e⟩] at hn
   exact hn
 ·obtain⟨j,rfl⟩:∃j,i=n.2.1.length+j:=⟨i-n.2.1.length,by omega⟩
  by_cases h1:(absP s).1.toNat=j
  ·rw[<-h1]; exact g1
  by_cases h2:(absP s).2.1.toNat=j
  ·rw[<-h2]; exact g2
  ·refine hr _ (by omega) ?_
   have hn':=hn;rw[show n.2.1.length+j=(growP (absP s) s.2.2.1 d.2).1.length+j by rw[hs'.1],qv2 (by omega)] at hn'
   rw[show n.2.1.length+j=d.2.1.length+j by rw[hz.1],qv2 (by omega)]
   rw[show(growP (absP s) s.2.2.1 d.2).2.1=growQ (absP s) s.2.2.1 d.2.2.1 from rfl] at hn'
   unfold growQ at hn';rw[qhv,if_neg (fun h=>h2 h.1),qhv,if_neg (fun h=>h1 h.1)] at hn'
   exact hn'
theorem qA3{v:Vl}(h:qck v=true){t:Int}(ht:0<=t):qck (movV v t)=true:=by
 unfold qck at h ⊢;rw[z8,z8,zy] at h;obtain⟨h1,h2,h3⟩:=h;have hv:=qj4.1 h1;have e:movO v t=v.2.1:=by
  unfold movO;rw[h3];cases v.2.2.2 <;> simp only[za,zb]
  rw[if_neg (by omega)]; omega
 rw[show movV v t=v by unfold movV; rw[e]]
 rw[h1,h3,dec_t h2]; rfl
theorem qy0{d:Dk}(hd:VDk n d){s:Stp}(h:(waitS d s).2=0):VDk n (waitS d s).1:=by
 unfold waitS at h ⊢;obtain⟨c1,e1⟩:=bif_z (by decide) h
 rw[e1];have ht:=qli.1 (show rg 1 100 s.2.2.1=true by simpa using c1)
 have hv:=qx8.1 hd.val;refine⟨hd.net,(z71 ..).trans hd.len,?_,hd.pl,?_,hd.idl⟩
 ·refine qx8.2 fun i hi=>?_
  rw[z71] at hi;rw[qlC _ _ _ v0 _ hi];exact qvW (hv i hi) (by omega)
 ·have hr:=qqk.1 hd.rdy;refine qqk.2 fun i hi hn=>?_
  have hl:i<d.1.length:=by rw[<-hd.needl]; exact hi
  show qck ((d.1.map fun v=>movV v s.2.2.1).getD i v0)=true
  rw[qlC _ _ _ v0 _ hl];exact qA3 (hr i hi hn) (by omega)
theorem blank6{s:Stp}(h:qlk s=true)(h1:(decide (s.1=1) || decide (s.1=2))=false)(h3:(decide (s.1=3) || decide (s.1=4))=false)(h5:decide (s.1=5)=false):s.1=6:=by
 unfold qlk at h;rw[zZ1] at h1 h3;rw[h1.1,h1.2,h3.1,h3.2,h5] at h;cases h6:decide (s.1=6) with
 | true=>exact zi h6
 | false=>rw[h6] at h; cases h
theorem qy1{d:Dk}{s:Stp}(h:(stepS n d s).2=0):qlk s=true/\(((s.1=1\/s.1=2)/\stepS n d s=turnS n d s)\/((s.1=3\/s.1=4)/\stepS n d s=runS n d s)\/(s.1=5/\stepS n d s=chgS n d s)\/(s.1=6/\stepS n d s=waitS d s)):=by
 unfold stepS at h ⊢;obtain⟨c1,e1⟩:=bif_z (by decide) h
 rw[e1];have c1:qlk s=true:=by simpa using c1
 refine⟨c1,?_⟩
 cases h1:(decide (s.1=1) || decide (s.1=2)) with
 | true=>left; exact⟨by simpa using h1,rfl⟩
 | false=>
  cases h3:(decide (s.1=3) || decide (s.1=4)) with
  | true=>right; left; exact⟨by simpa using h3,rfl⟩
  | false=>
   cases h5:decide (s.1=5) with
   | true=>right; right; left; exact⟨zi h5,rfl⟩
   | false=>right; right; right; exact⟨blank6 c1 h1 h3 h5,rfl⟩
theorem qE5{d:Dk}{s:Stp}(h:(appS n d s).2=0):VDk n d/\appS n d s=stepS n d s:=by
 unfold appS at h ⊢;by_cases hc:qdn n d=0
 ·rw[if_neg (fun e=>e hc)]; exact⟨VDk.of hc,rfl⟩
 ·rw[if_pos hc] at h; exact absurd h hc
theorem qA4{d:Dk}{s:Stp}(h:(appS n d s).2=0):VDk n (appS n d s).1:=by
 obtain⟨hd,e⟩:=qE5 h;rw[e] at h ⊢;obtain⟨_,⟨k,e⟩ | ⟨k,e⟩ | ⟨k,e⟩ | ⟨k,e⟩⟩:=qy1 h
 ·rw[e] at h ⊢; exact qyZ hd (by simpa using k) h
 ·rw[e] at h ⊢; exact qA1 hd h
 ·rw[e] at h ⊢; exact qA2 hd h
 ·rw[e] at h ⊢; exact qy0 hd h
end
end Go.Proofs.YtmdijohmddokhaaGreatDoor
namespace Go.Proofs.YtmdijohmddokhaaGreatDoor
open Go Go.Sq
set_option linter.unusedVariables false
/-! ### The idle desk -/
theorem rep0(k i:Nat):(List.replicate k (0:Int)).getD i 0=0:=by
 rw[zh,zu2]; split <;> rfl
theorem repF(k i:Nat):(List.replicate k false).getD i false=false:=by
 rw[zh,zu2]; split <;> rfl
section
variable {n:Net} {a b c:Nat}
abbrev zP(a b c:Nat):Pl:=(List.replicate a 0,List.replicate b 0,List.replicate c false)
theorem qv4:∀(f j:Nat),j+f=n.1.length->(topo n (zP a b c) f (List.replicate j true++List.replicate f false)).length=f
 | 0,_,_=>rfl
 | f+1,j,h=>by
  unfold topo;have hfree:∀k,freeB n (zP a b c) (List.replicate j true++List.replicate (f+1) false) k=!(List.replicate j true++List.replicate (f+1) false).getD k false:=fun k=>by
   unfold freeB;have:(List.range n.2.1.length).any (blk n (zP a b c) (List.replicate j true++List.replicate (f+1) false) k)=false:=by
    rw[zL1];intro i _;unfold blk rate;rw[rep0,z21 rfl]; simp
   rw[this]; simp
  have hnext:nextF n (zP a b c) (List.replicate j true++List.replicate (f+1) false)=some j:=by
   unfold nextF;rw[List.find?_range_eq_some]
   refine⟨?_,?_,fun i hi=>?_⟩
   ·rw[hfree,zh,zV (by simp)]; simp
   ·rw[zK]; omega
   ·rw[hfree,zh,zR (by simp; omega),zu2,if_pos hi]; rfl
  rw[hnext];have hset:(List.replicate j true++List.replicate (f+1) false).set j true=List.replicate (j+1) true++List.replicate f false:=by
   rw[List.set_append_right _ _ (by simp)]
   simp only[zf2,Nat.sub_self,List.replicate_succ,List.set_cons_zero];rw[<-List.replicate_succ,List.replicate_succ' (n:=j),zu]; rfl
  simp only[hset,zg];rw[qv4 f (j+1) (by omega)]
theorem qA5(h0:qbb n=0):qaY n (zP n.2.1.length n.2.2.1.length n.2.2.2.1.length)=0:=by
 have hn:=VNet.of h0;unfold qaY;rw[if_neg (fun e=>e h0)]
 have h1:szB n (zP n.2.1.length n.2.2.1.length n.2.2.2.1.length)=true:=qqh.2 ⟨by simp,by simp,by simp⟩
 have h2:qn1 n (zP n.2.1.length n.2.2.1.length n.2.2.2.1.length)=true:=by
  unfold qn1;rw[zm];intro i hi;have:=quK hn (zK.1 hi);unfold rtB rate;rw[rep0];exact qli.2 ⟨by omega,by omega⟩
 have h3:qjt (zP n.2.1.length n.2.2.1.length n.2.2.2.1.length)=true:=by
  unfold qjt;rw[zm];intro x hx;rw[List.eq_of_mem_replicate hx]; rfl
 have h4:balB n (zP n.2.1.length n.2.2.1.length n.2.2.2.1.length)=true:=by
  unfold balB;rw[zm];intro k _;refine z21 ?_
  have z1:comeF n (zP n.2.1.length n.2.2.1.length n.2.2.2.1.length) (k:Int)=0:=by
   unfold comeF;rw[qel _ fun i _=>?_,qel _ fun i _=>?_]; rfl
   ·unfold qhD prate; rw[rep0]; split <;> rfl
   ·unfold segIn rate amt; rw[rep0]; split <;> rfl
  have z2:qj3 n (zP n.2.1.length n.2.2.1.length n.2.2.2.1.length) (k:Int)=0:=by
   unfold qj3;rw[qel _ fun i _=>?_,qel _ fun i _=>?_]; rfl
   ·unfold qeq prate; rw[rep0]; split <;> rfl
   ·unfold qcj rate amt; rw[rep0]; split <;> rfl
  rw[z1,z2]
 have h5:(ordL n (zP n.2.1.length n.2.2.1.length n.2.2.2.1.length)).length=n.1.length:=by
  unfold ordL;exact qv4 n.1.length 0 (by omega)
 rw[h1,h2,h3,h4,h5];simp
theorem qA6(h0:qbb n=0){t:Int}(ht:1<=t/\t<=60):qdn n (List.replicate (n.2.1.length+n.2.2.1.length) (t,0,false,false),zP n.2.1.length n.2.2.1.length n.2.2.2.1.length)=0:=by
 unfold qdn;rw[if_neg (fun e=>e h0),if_neg (fun e=>e (qA5 h0))]
 have h1:vlB n (List.replicate (n.2.1.length+n.2.2.1.length) (t,0,false,false))=true:=by
  unfold vlB;rw[z21 (by simp),zE,zm]
  intro x hx;rw[List.eq_of_mem_replicate hx];unfold qcv;rw[rg_t ht,show rg 0 t 0=true from rg_t ⟨by omega,by omega⟩]; rfl
 have h2:rdyB (List.replicate (n.2.1.length+n.2.2.1.length) (t,0,false,false),zP n.2.1.length n.2.2.1.length n.2.2.2.1.length)=true:=by
  unfold rdyB need nz;simp only[List.map_replicate,z82,zf];rw[List.replicate_append_replicate,zm];intro i _;rw[repF]; rfl
 have h3:idleB n (zP n.2.1.length n.2.2.1.length n.2.2.2.1.length)=false:=by
  unfold idleB;rw[zL1];intro i _;unfold qlj;rw[repF]; simp
 rw[h1,h2,h3]; rfl
end
end Go.Proofs.YtmdijohmddokhaaGreatDoor
namespace Go.Proofs.YtmdijohmddokhaaGreatDoor
open Go Go.Sq
set_option linter.unusedVariables false
theorem qA7{n:Net}{c:Cn}{r:Rec}(hv:qdn n c.1=0)(h:(capp n c r).2=0):qdn n (capp n c r).1.1=0:=by
 unfold capp at h ⊢;by_cases k1:r.1=1
 ·rw[if_pos k1];unfold capp1;split
  ·exact hv
  ·split <;> exact hv
 rw[if_neg k1] at h ⊢;by_cases k2:r.1=2
 ·rw[if_pos k2] at h ⊢;unfold capp2 at h ⊢;by_cases h1:c.2.2.2=1000
  ·rw[if_pos h1] at h; cases h
  rw[if_neg h1] at h ⊢;by_cases h2:(cmdS n c.1 r).2=0
  ·rw[if_pos h2];unfold cmdS at h2 ⊢;by_cases h3:0<r.2.1.length\/noE r.2.2.2=false
   ·rw[if_pos h3] at h2; cases h2
   rw[if_neg h3] at h2 ⊢;exact(qA4 h2).to
  ·rw[if_neg h2] at h; exact absurd h h2
 rw[if_neg k2];by_cases k3:r.1=3
 ·rw[if_pos k3];unfold capp3;split
  ·exact hv
  ·split <;> exact hv
 ·rw[if_neg k3]; exact hv
end Go.Proofs.YtmdijohmddokhaaGreatDoor
