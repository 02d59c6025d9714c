/- Steps: what is reached is valid; a change of a flow is taken back. No condition. -/
import Derived.Test.YtfdgemafaphpaaaGreatSa0
namespace Go.Proofs.YtfdgemafaphpaaaGreat
open Go Go.Sq
set_option linter.unusedVariables false
theorem bif_z{c:Bool}{d:Dk}{k:Int}{y:Dk×Int}(hx:k≠0)(h:(bif c then(d,k) else y).2=0):c=false/\(bif c then(d,k) else y)=y:=by
 cases c
 ·exact⟨rfl,rfl⟩
 ·exact absurd h hx
section
variable {n:Net}
theorem qpf{d:Dk}:rdyB d=true↔∀i,i<(need d.2).length->(need d.2).getD i false=true->qce (d.1.getD i v0)=true:=by
 unfold rdyB;rw[qkR];refine forall_congr' fun i=>forall_congr' fun _=>?_
 cases(need d.2).getD i false <;> simp
theorem qBW{p:Pl}{i:Nat}(h:i<p.1.length):(need p).getD i false=!decide (p.1.getD i 0=0):=by
 unfold need;rw[qxa,if_pos (by rw[qgU]; exact h)]
 exact qgR (fun r:Int=>!decide (r=0)) p.1 i 0 false h
theorem qve{p:Pl}{i:Nat}(h:i<p.2.1.length):(need p).getD (p.1.length+i) false=!decide (p.2.1.getD i 0=0):=by
 unfold need;rw[qxa,if_neg (by rw[qgU]; omega),qgU,show p.1.length+i-p.1.length=i by omega]
 exact qgR (fun r:Int=>!decide (r=0)) p.2.1 i 0 false h
theorem qvf(v:Vl)(w:Bool):qcp (cmdV v w)=qcp v:=rfl
theorem qxz{l:List Vl}{p:Vl->Bool}:l.all p=true↔∀i,i<l.length->p (l.getD i v0)=true:=by
 rw[<-qrF l v0 p,qkR]
theorem qyj{d:Dk}(hd:VDk n d){s:Stp}(hk:(decide (s.1=1) || decide (s.1=2))=true)(h:(turnS n d s).2=0):VDk n (turnS n d s).1:=by
 unfold turnS at h ⊢;obtain⟨c1,e1⟩:=bif_z (by decide) h
 rw[e1] at h ⊢;obtain⟨c2,e2⟩:=bif_z (by decide) h
 rw[e2];have hb:(decide (0<=s.2.1)&&decide (s.2.1<(d.1.length:Int)))=true:=by simpa using c1
 have hb:=qpe.1 hb;refine⟨hd.net,(zJ ..).trans hd.len,?_,hd.pl,?_,hd.idl⟩
 ·have hv:=qxz.1 hd.val;refine qxz.2 fun i hi=>?_
  rw[zJ] at hi;rw[qgq];split
  ·rw[qvf]; exact hv _ (by omega)
  ·exact hv i hi
 ·have hr:=qpf.1 hd.rdy;refine qpf.2 fun i hi hn=>?_
  have h1:=hr i hi hn;show qce ((d.1.set s.2.1.toNat (cmdV (d.1.getD s.2.1.toNat v0) (decide (s.1=1)))).getD i v0)=true;rw[qgq];split
  ·rename_i hc;rw[Bool.and_eq_false_iff] at c2;rw[hc.1] at c2;have h2:decide (s.1=2)=false:=c2.resolve_right (by rw[hn]; simp)
   rw[h2,Bool.or_false] at hk;rw[hk,hc.1];unfold qce at h1 ⊢;rw[qvf];rw[z9,z9] at h1 ⊢;exact⟨h1.1,h1.2.1,rfl⟩
  ·exact h1
theorem qAj{d:Dk}(hd:VDk n d){s:Stp}(h:(runS n d s).2=0):VDk n (runS n d s).1:=by
 unfold runS at h ⊢;obtain⟨c1,e1⟩:=bif_z (by decide) h
 rw[e1] at h ⊢;obtain⟨c2,e2⟩:=bif_z (by decide) h
 rw[e2];have hb:(decide (0<=s.2.1)&&decide (s.2.1<(n.2.2.2.1.length:Int)))=true:=by simpa using c1
 have hb:=qpe.1 hb;exact⟨hd.net,hd.len,hd.val,by rw[qxu]; exact hd.pl,hd.rdy,by rw[qu6 hd (by omega)]; exact c2⟩
structure Chg(n:Net)(d:Dk)(s:Stp):Prop where
 v : -1000<=s.2.2.1/\s.2.2.1<=1000
 pa:pathB n (absP s)=true
 gr:growB n d (absP s) s.2.2.1=true
 pl:qa4 n (growP (absP s) s.2.2.1 d.2)=0
 id:idleB n (growP (absP s) s.2.2.1 d.2)=false
theorem qCC{d:Dk}{s:Stp}(h:(chgS n d s).2=0):Chg n d s/\chgS n d s=((d.1,growP (absP s) s.2.2.1 d.2),0):=by
 unfold chgS at h ⊢;obtain⟨c1,e1⟩:=bif_z (by decide) h
 rw[e1] at h ⊢;obtain⟨c2,e2⟩:=bif_z (by decide) h
 rw[e2] at h ⊢;obtain⟨c3,e3⟩:=bif_z (by decide) h
 rw[e3] at h ⊢;by_cases hp:qa4 n (growP (absP s) s.2.2.1 d.2)=0
 ·rw[if_neg (fun e=>e hp)] at h ⊢
  obtain⟨c4,e4⟩:=bif_z (by decide) h
  rw[e4];exact⟨⟨qkz.1 (by simpa using c1),by simpa using c2,by simpa using c3,hp,c4⟩,rfl⟩
 ·rw[if_pos hp] at h; exact absurd h hp
theorem qAk{d:Dk}(hd:VDk n d){s:Stp}(h:(chgS n d s).2=0):VDk n (chgS n d s).1:=by
 obtain⟨hc,e⟩:=qCC h;rw[e];show VDk n (d.1,growP (absP s) s.2.2.1 d.2);have hx:=VPa.of hc.pa;have hz:=hd.sz;have hg:=hc.gr;unfold growB qpJ at hg;simp only[z9,zx] at hg;obtain⟨⟨g1,g2,g3⟩,_⟩:=hg;have hr:=qpf.1 hd.rdy;have hs':=(VPl.of hc.pl).len;refine⟨hd.net,hd.len,hd.val,hc.pl,?_,hc.id⟩
 refine qpf.2 fun i hi hn=>?_
 replace hi:i<(need (growP (absP s) s.2.2.1 d.2)).length:=hi;replace hn:(need (growP (absP s) s.2.2.1 d.2)).getD i false=true:=hn;show qce (d.1.getD i v0)=true;rw[qoI (VPl.of hc.pl).sz] at hi;have hnl:=qoI (VPl.of hd.pl).sz;rcases zm2 i n.2.1.length with hlt | hge
 ·by_cases hin:∃h∈(absP s).2.2.1,h.1.toNat=i
  ·obtain⟨h,hm,rfl⟩:=hin; exact g3 h hm
  ·refine hr i (by omega) ?_
   rw[qBW (by omega)] at hn ⊢
   rw[show(growP (absP s) s.2.2.1 d.2).1=growR (absP s).2.2.1 s.2.2.1 d.2.1 from rfl,qnm _ _ _ fun h hm e=>hin ⟨h,hm,e⟩] at hn
   exact hn
 ·obtain⟨j,rfl⟩:∃j,i=n.2.1.length+j:=⟨i-n.2.1.length,by omega⟩
  by_cases h1:(absP s).1.toNat=j
  ·rw[<-h1]; exact g1
  by_cases h2:(absP s).2.1.toNat=j
  ·rw[<-h2]; exact g2
  ·refine hr _ (by omega) ?_
   have hn':=hn;rw[show n.2.1.length+j=(growP (absP s) s.2.2.1 d.2).1.length+j by rw[hs'.1],qve (by omega)] at hn'
   rw[show n.2.1.length+j=d.2.1.length+j by rw[hz.1],qve (by omega)]
   rw[show(growP (absP s) s.2.2.1 d.2).2.1=growQ (absP s) s.2.2.1 d.2.2.1 from rfl] at hn'
   unfold growQ at hn';rw[qgq,if_neg (fun h=>h2 h.1),qgq,if_neg (fun h=>h1 h.1)] at hn'
   exact hn'
theorem qAl{v:Vl}(h:qce v=true){t:Int}(ht:0<=t):qce (movV v t)=true:=by
 unfold qce at h ⊢;rw[z9,z9,zA] at h;obtain⟨h1,h2,h3⟩:=h;have hv:=valid_iff.1 h1;have e:movO v t=v.2.1:=by
  unfold movO;rw[h3];cases v.2.2.2 <;> simp only[zb,za]
  rw[if_neg (by omega)]; omega
 rw[show movV v t=v by unfold movV; rw[e]]
 rw[h1,h3,dec_t h2]; rfl
theorem qyk{d:Dk}(hd:VDk n d){s:Stp}(h:(waitS d s).2=0):VDk n (waitS d s).1:=by
 unfold waitS at h ⊢;obtain⟨c1,e1⟩:=bif_z (by decide) h
 rw[e1];have ht:=qkz.1 (show rg 1 100 s.2.2.1=true by simpa using c1)
 have hv:=qxz.1 hd.val;refine⟨hd.net,(z91 ..).trans hd.len,?_,hd.pl,?_,hd.idl⟩
 ·refine qxz.2 fun i hi=>?_
  rw[z91] at hi;rw[qgR _ _ _ v0 _ hi];exact qu7 (hv i hi) (by omega)
 ·have hr:=qpf.1 hd.rdy;refine qpf.2 fun i hi hn=>?_
  have hl:i<d.1.length:=by rw[<-hd.needl]; exact hi
  show qce ((d.1.map fun v=>movV v s.2.2.1).getD i v0)=true
  rw[qgR _ _ _ v0 _ hl];exact qAl (hr i hi hn) (by omega)
theorem blank6{s:Stp}(h:qjm s=true)(h1:(decide (s.1=1) || decide (s.1=2))=false)(h3:(decide (s.1=3) || decide (s.1=4))=false)(h5:decide (s.1=5)=false):s.1=6:=by
 unfold qjm at h;rw[zs2] at h1 h3;rw[h1.1,h1.2,h3.1,h3.2,h5] at h;cases h6:decide (s.1=6) with
 | true=>exact zm h6
 | false=>rw[h6] at h; cases h
theorem qsM{d:Dk}{s:Stp}(h:(stepS n d s).2=0):qjm s=true/\(((s.1=1\/s.1=2)/\stepS n d s=turnS n d s)\/((s.1=3\/s.1=4)/\stepS n d s=runS n d s)\/(s.1=5/\stepS n d s=chgS n d s)\/(s.1=6/\stepS n d s=waitS d s)):=by
 unfold stepS at h ⊢;obtain⟨c1,e1⟩:=bif_z (by decide) h
 rw[e1];have c1:qjm s=true:=by simpa using c1
 refine⟨c1,?_⟩
 cases h1:(decide (s.1=1) || decide (s.1=2)) with
 | true=>left; exact⟨by simpa using h1,rfl⟩
 | false=>
  cases h3:(decide (s.1=3) || decide (s.1=4)) with
  | true=>right; left; exact⟨by simpa using h3,rfl⟩
  | false=>
   cases h5:decide (s.1=5) with
   | true=>right; right; left; exact⟨zm h5,rfl⟩
   | false=>right; right; right; exact⟨blank6 c1 h1 h3 h5,rfl⟩
theorem qCD{d:Dk}{s:Stp}(h:(appS n d s).2=0):VDk n d/\appS n d s=stepS n d s:=by
 unfold appS at h ⊢;by_cases hc:qc7 n d=0
 ·rw[if_neg (fun e=>e hc)]; exact⟨VDk.of hc,rfl⟩
 ·rw[if_pos hc] at h; exact absurd h hc
theorem qAm{d:Dk}{s:Stp}(h:(appS n d s).2=0):VDk n (appS n d s).1:=by
 obtain⟨hd,e⟩:=qCD h;rw[e] at h ⊢;obtain⟨_,⟨k,e⟩ | ⟨k,e⟩ | ⟨k,e⟩ | ⟨k,e⟩⟩:=qsM h
 ·rw[e] at h ⊢; exact qyj hd (by simpa using k) h
 ·rw[e] at h ⊢; exact qAj hd h
 ·rw[e] at h ⊢; exact qAk hd h
 ·rw[e] at h ⊢; exact qyk hd h
end
end Go.Proofs.YtfdgemafaphpaaaGreat
