/- Writing, storing, encoding: the program and its reference do the same. No condition. -/
import Derived.Test.YtgmjmgihjjddmaaGreatCm7
import Derived.Test.YtgmjmgihjjddmaaGreatCr2
import Derived.Test.YtgmjmgihjjddmaaGreatSa0
import Derived.Test.YtgmjmgihjjddmaaGreatAw
namespace Go.Proofs.YtgmjmgihjjddmaaGreat
open Go Go.Sq Wi
theorem RecI.enc{r:Rec}(h:RecI r)(hp:RecP r):i64A (recL r)/\∀x∈hps r,-9223372036854775808<=x.1/\x.1<=9223372036854775807:=by
 have n1:=hp.v; have n2:=hp.h; have n3:=h.n;refine⟨?_,h.s.h⟩
 unfold recL;refine qiK.2 ⟨?_,qiK.2 ⟨h.v,qiK.2 ⟨?_,qiK.2 ⟨qA8 h.s.h,?_⟩⟩⟩⟩
 ·intro x hx;simp only[recA,zE,zP1,or_false] at hx;rcases hx with rfl | rfl
  ·exact h.k
  ·omega
 ·intro x hx;simp only[recB,zE,zP1,or_false] at hx;rcases hx with rfl | rfl | rfl | rfl | rfl | rfl
  ·exact h.s.a
  ·exact h.s.b
  ·exact h.s.c
  ·exact h.s.d
  ·exact h.s.e
  ·unfold hps; omega
 ·intro x hx;simp only[recC,zE,zP1,or_false] at hx;rcases hx with rfl | rfl | rfl | rfl
  ·exact h.s.f
  ·exact h.e
  ·exact h.f
  ·unfold shp; omega
theorem qtS{r:Rec}(h:RecI r)(hp:RecP r):∃e b,qdN r=some (e,b)/\qdG r=some (e,b)/\b.length<=1500/\qbz b:=by
 obtain⟨h1,h2⟩:=h.enc hp;refine⟨(encR r).1,(encR r).2,wenc h1 h2,renc h1,?_⟩
 unfold encR;by_cases hb:big r
 ·rw[if_pos hb]; exact⟨by simp,fun x hx=>(by cases hx)⟩
 ·rw[if_neg hb]; exact qCz ⟨h1,h2,hb⟩
theorem qw6{n:Net}{c:Cn}(hc:CnG c 1000){r:Rec}(hp:RecP r):CnS (capp n c r).1:=by
 by_cases hz:(capp n c r).2=0
 ·exact(qo2 hc (by omega) hp hz).1.cns (by omega)
 ·rw[qA7 hz]; exact hc.cns (by omega)
theorem qxI(n:Net){c:Cn}(hc:CnG c 1000){r:Rec}(h:RecI r)(hp:RecP r){F:List Int}(hF:qbz F)(hN:F.length<=100000):
  ∃f d e,qgl n (F,[]) c r=some (f,d,e)/\qkk n (F,[]) c r=some (f,d,e)/\CnS d:=by
 have hcs:=hc.cns (by omega)
 have n0:=hc.n0; have n1:=hc.n1;obtain⟨e,b,w1',w2',hb,hbb⟩:=qtS h hp;have a1:=apply_eq' n hcs hc.srt (by omega) r (by have:=hp.v; omega)
 have a2:=qmz n hcs hc.srt (by omega) r (by have:=hp.v; omega) (by have:=hp.h; omega)
 have c1:=qtN hcs;have e1:(((c.1.1,(c.1.2.1,(c.1.2.2.1,c.1.2.2.2))),(c.2.1,(c.2.2.1,c.2.2.2))):Cn)=c:=rfl;have e2:((r.1,(r.2.1,((r.2.2.1.1,(r.2.2.1.2.1,(r.2.2.1.2.2.1,(r.2.2.1.2.2.2.1,(r.2.2.1.2.2.2.2.1,(r.2.2.1.2.2.2.2.2.1,r.2.2.1.2.2.2.2.2.2)))))),(r.2.2.2.1,(r.2.2.2.2.1,r.2.2.2.2.2))))):Rec)=r:=rfl;unfold qgl qkk;simp only;rw[qrO _ (by omega),z7,qrO _ (by simp),z7,qaL,e1,e2,a1,a2,c1]
 simp only[z7];by_cases hz:(capp n c r).2=0
 ·rw[dec_t hz,w1',w2'];simp only[zd,za,z7];by_cases he:e=0
  ·rw[dec_t he];simp only[zd,za];obtain⟨f,e3,p1,p2,hq⟩:=qrR (b:=b) hF hN (by omega)
   rw[p1,p2];simp only[z7];rcases hq with⟨rfl,rfl⟩ | ⟨h3,rfl⟩
   ·have hf:=qv0 (b:=b) (by omega)
    simp only[zU1,zd,za];rw[qCx (by omega),qtQ (by omega)]
    exact⟨(F++frmB b,[]),(capp n c r).1,0,rfl,rfl,qw6 hc hp⟩
   ·rw[dec_f h3];exact⟨(F,[]),c,e3,rfl,rfl,hcs⟩
  ·rw[dec_f he];exact⟨(F,[]),c,e,rfl,rfl,hcs⟩
 ·rw[dec_f hz];exact⟨(F,[]),c,(capp n c r).2,rfl,rfl,hcs⟩
theorem qv1{c:Cn}(h:CnS c)(s:Int):∃t b,qg7 c s=some (t,b)/\qiG c s=some (t,b)/\t.2.2.2.2.2.length<=100000:=by
 have hl:=h.t;obtain⟨K,hK⟩:∃K,K=c.2.1.findIdx (fun x=>decide (x.1=s)):=⟨_,rfl⟩
 have k1:∃e,iter (fun x:Int×Int×Int×Int×Int×Int×List Int=>qhY c s x.1 x.2.1 x.2.2.1 x.2.2.2.1 x.2.2.2.2.1 x.2.2.2.2.2.1 x.2.2.2.2.2.2) (0,0,0,0,0,0,[])=some e∧
   e=if K<c.2.1.length then .inr (true,c.2.1.getD K t0) else .inl (0,0,0,0,0,[]):=by
  refine qnZ (fun x=>∃i:Nat,x=((i:Int),0,0,0,0,0,[])/\i<=c.2.1.length/\i<=K) (fun x=>((c.2.1.length:Int)-x.1).toNat) _ ?_ ⟨0,rfl,by omega,by omega⟩
  rintro _ ⟨i,rfl,hi,hj⟩
  unfold qhY;simp only[z8];by_cases hc:i<c.2.1.length
  ·rw[dec_t (show(i:Int)<(c.2.1.length:Int) by omega),z9,gd_t (inB_t hc)]
   have hg:c.2.1.getD i t0=c.2.1[i]:=by rw[zj,zk hc]; rfl
   by_cases he:(c.2.1.getD i t0).1=s
   ·left;have hk:K=i:=by
     have h2:K<=i:=by
      rw[hK];apply Nat.le_of_not_lt;intro hlt;have:=zV2 hlt;rw[<-hg] at this;exact absurd he (z41 this)
     omega
    rw[dec_t (show(c.2.1.getD i (0,(0,(0,(0,(0,[])))))).1=s from he),z9,gd_t (inB_t hc),show((c.2.1.getD i (0,(0,(0,(0,(0,[])))))):Tel)=c.2.1.getD i t0 from rfl,qw3 _ (h.tv _ (gmem hc)),z7,hk,if_pos hc]
    exact⟨_,rfl,rfl⟩
   ·right;rw[dec_f (show ¬(c.2.1.getD i (0,(0,(0,(0,(0,[])))))).1=s from he),za,w1 hc (by omega)]
    refine⟨_,rfl,⟨i+1,rfl,by omega,?_⟩,by simp only; omega⟩
    apply Nat.succ_le_of_lt;apply Nat.lt_of_le_of_ne hj;intro hik;have hw:c.2.1.findIdx (fun x=>decide (x.1=s))<c.2.1.length:=by omega
    have:=List.findIdx_getElem (w:=hw);rw[zw] at this;apply he;rw[hg];subst hik;subst hK;exact this
  ·left;rw[dec_f (show ¬(i:Int)<(c.2.1.length:Int) by omega),za,if_neg (by omega)]
   exact⟨_,rfl,rfl⟩
 obtain⟨_,k1,rfl⟩:=k1;unfold qg7 qiG;rw[qgH c.2.1 (fun x=>decide (x.1=s)) _ (fun x _=>rfl) (by omega),z7,<-hK]
 rw[k1,z7];by_cases hc:K<c.2.1.length
 ·rw[if_pos hc,if_pos hc,dec_f (show ¬((K:Nat):Int)<0 by omega),za,gd_t (inB_t hc),z8]
  have ht:=h.tv _ (gmem (d:=t0) hc);rw[show((c.2.1.getD K (0,(0,(0,(0,(0,[])))))):Tel)=c.2.1.getD K t0 from rfl,qzr _ ht]
  exact⟨c.2.1.getD K t0,true,rfl,rfl,ht⟩
 ·rw[if_neg hc,if_neg hc];exact⟨t0,false,rfl,rfl,by simp⟩
theorem qxJ(n:Net)(t:Int)(hn:1<=n.2.1.length+n.2.2.1.length){F:List Int}(hF:qbz F)(hN:F.length<=100000){c:Cn}(hc:CnG c 1000){r:Rec}(h:RecI r)(hp:RecP r):qkl n t (F,[]) c r=some true:=by
 have hcs:=hc.cns (by omega)
 have n0:=hc.n0; have n1:=hc.n1;obtain⟨e,b,w1',w2',hb,hbb⟩:=qtS h hp;have a1:=apply_eq' n hcs hc.srt (by omega) r (by have:=hp.v; omega)
 have a2:=qmz n hcs hc.srt (by omega) r (by have:=hp.v; omega) (by have:=hp.h; omega)
 obtain⟨f,d,e3,p1,p2,hd⟩:=qxI n hc h hp hF hN;obtain⟨g,x,e4,q1,q2,hx⟩:=qu2 n t hn hF hN;have e1:(((c.1.1,(c.1.2.1,(c.1.2.2.1,c.1.2.2.2))),(c.2.1,(c.2.2.1,c.2.2.2))):Cn)=c:=rfl;have e2:((r.1,(r.2.1,((r.2.2.1.1,(r.2.2.1.2.1,(r.2.2.1.2.2.1,(r.2.2.1.2.2.2.1,(r.2.2.1.2.2.2.2.1,(r.2.2.1.2.2.2.2.2.1,r.2.2.1.2.2.2.2.2.2)))))),(r.2.2.2.1,(r.2.2.2.2.1,r.2.2.2.2.2))))):Rec)=r:=rfl;have eC:∀c:Cn,(((c.1.1,(c.1.2.1,(c.1.2.2.1,c.1.2.2.2))),(c.2.1,(c.2.2.1,c.2.2.2))):Cn)=c:=fun c=>rfl
 unfold qkl;simp only;rw[qaL,e1,e2,a1,a2,p1,p2,q1,q2,w1',w2'];simp only[z7,zU1,zd,za,eC];rw[sameC (qw6 hc hp),sameC hd,sameC hx];simp only[z7,zd,za];rw[show qfJ (f.1,f.2) (f.1,f.2)=some true from fsame f,show qfJ (g.1,g.2) (g.1,g.2)=some true from fsame g]
 simp only[z7,zd,za];have k:=qa2 (step:=fun x=>qem c x) 5 (fun i=>(i:Int)) (fun _=>true) (fin:=.inl ()) (bad:=.inr false) (fun i hi _ hq=>?_) (fun i hi _ hq=>by cases hq) (fun _=>?_)
 ·have e:(List.range 5).all (fun _=>true)=true:=by simp
  rw[e] at k;have k:iter (fun x=>qem c x) 0=some (.inl ()):=k
  rw[k]; rfl
 ·unfold qem;obtain⟨t,b,s1,s2,ht⟩:=qv1 hcs (i:Int);rw[dec_t (show(i:Int)<5 by omega),z9,e1,s1,s2]
  simp only[z7,zY2,zd,za];rw[show qbT (t.1,(t.2.1,(t.2.2.1,(t.2.2.2.1,(t.2.2.2.2.1,t.2.2.2.2.2))))) (t.1,(t.2.1,(t.2.2.1,(t.2.2.2.1,(t.2.2.2.2.1,t.2.2.2.2.2)))))=some true from qzu t ht]
  simp only[z7,zd,za];rw[w1 (n:=5) hi (by omega)]
 ·unfold qem;rw[dec_f (by omega)]; rfl
end Go.Proofs.YtgmjmgihjjddmaaGreat
namespace Go.Proofs.YtgmjmgihjjddmaaGreat
open Go Go.Sq
set_option linter.unusedVariables false
theorem sNn{n:Nat}{s:List Int}{p:Int}(h:SrcOk s p)(h1:1<=n)(h2:n<=1000000):Ok (qab (n:Int) s p) fun q=>SrcOk q.2.1 q.2.2/\∃k:Nat,q.1=(k:Int)/\k<n:=
 (sN h (n:=(n:Int)) (by omega) (by omega)).mono fun q ⟨hq,a,b⟩=>⟨hq,q.1.toNat,by omega,by omega⟩
theorem sT{l:List (List UInt8)}{s:List Int}{p:Int}(h:SrcOk s p)(h1:l≠[])(h2:l.length<=1000000):Ok (qb7 l s p) fun q=>SrcOk q.2.1 q.2.2/\q.1∈l:=by
 have hp:=List.length_pos_iff.2 h1;unfold qb7;refine Ok.bind (sNn h (by omega) h2) ?_
 rintro⟨r,s1,p1⟩ ⟨h,i,e,hi⟩
 simp only at h e;subst e;refine Ok.gd (inB_t hi) (.ret ⟨h,?_⟩)
 rw[z8]; exact qaY hi
theorem name6(f:List UInt8)(n:Int)(hf:f.length<=100):Ok (qdC f n) fun r=>r.length<=101:=by
 unfold qdC;have hl:∀x:Int,(qcV [x]).length=1:=fun x=>rfl
 refine Ok.gd (zD2 (by rw[hl]; omega)) (.ret ?_)
 rw[ze,hl]; omega
theorem wrong6{k:Nat}{n:Net}(hn:NetP k n){s:List Int}{p:Int}(h:SrcOk s p):Ok (qf5 n s p) fun q=>SrcOk q.2.1 q.2.2/\q.1.2.2.1.length=n.2.2.1.length:=by
 have a2:=hn.k2; have a6:=hn.k6; have a4:=hn.ports.len; have a5:=hn.stats.len; have a7:=hn.segs.len; have a8:=hn.segk; have a9:=hn.some';have a1:n.1.length=k:=by rw[hn.nodes,qny]
 unfold qf5;simp only[zA];refine Ok.gd (qae (by omega)) (Ok.gd (qae (by omega)) (Ok.gd (qae (by omega)) (Ok.gd (qae (by omega)) ?_)))
 refine Ok.bind (sNn h (by omega) (by omega)) ?_
 rintro⟨_,s1,p1⟩ ⟨h,r,rfl,hr⟩
 simp only at h;refine Ok.gd (inB_t hr) ?_
 simp only[z8];have hsg:=(hn.segs.rng _ (qaY (d:=([],(0,(0,(0,(0,(0,[]))))))) hr)).pts;have hpl:=hsg.l8;refine Ok.gd (qae (by omega)) ?_
 refine Ok.bind (sN h (n:=12) (by omega) (by omega)) ?_
 rintro⟨c,s2,p2⟩ ⟨h,_,_⟩
 simp only at h;refine Ok.bind (Q:=fun q:Int×Int×Int×Int×Int×Int×List Pt×List Int×Int×List Str×List Seg×List Port×List Stat=>SrcOk q.2.2.2.2.2.2.2.1 q.2.2.2.2.2.2.2.2.1/\q.2.2.2.2.2.2.2.2.2.2.1.length=n.2.1.length/\q.2.2.2.2.2.2.2.2.2.2.2.1.length=n.2.2.1.length) ?_ ?_
 ·refine Ok.bif (fun _=>?_) fun _=>Ok.bif (fun _=>?_) fun _=>Ok.bif (fun _=>?_) fun _=>Ok.bif (fun _=>?_) fun _=>Ok.bif (fun _=>?_) fun _=>Ok.bif (fun _=>?_) fun _=>Ok.bif (fun _=>?_) fun _=>Ok.bif (fun _=>?_) fun _=>Ok.bif (fun _=>?_) fun _=>Ok.bif (fun _=>?_) fun _=>Ok.bif (fun _=>?_) fun _=>?_
  ·refine Ok.bind (sNn h (by omega) (by omega)) ?_
   rintro⟨_,s3,p3⟩ ⟨h,i,rfl,hi⟩
   simp only at h;refine Ok.bind (sT h (by simp) (by simp)) ?_
   rintro⟨x,s4,p4⟩ ⟨h,_⟩
   exact Ok.gd (inB_t hi) (.ret ⟨h,rfl,rfl⟩)
  ·exact Ok.bind (sP h (by simp) (by simp)) fun q hq=>.ret ⟨hq.1,rfl,rfl⟩
  ·exact Ok.bind (sP h (by simp) (by simp)) fun q hq=>.ret ⟨hq.1,rfl,rfl⟩
  ·exact Ok.bind (sP h (by simp) (by simp)) fun q hq=>.ret ⟨hq.1,rfl,rfl⟩
  ·exact Ok.bind (sP h (by simp) (by simp)) fun q hq=>.ret ⟨hq.1,rfl,rfl⟩
  ·refine Ok.bif (fun hc=>?_) fun _=>.ret ⟨h,rfl,rfl⟩
   have hc:=zi hc;refine Ok.bind (sNn h (by omega) (by omega)) ?_
   rintro⟨_,s3,p3⟩ ⟨h,i,rfl,hi⟩
   simp only at h;refine Ok.bind (sP h (by simp) (by simp)) ?_
   rintro⟨x,s4,p4⟩ ⟨h,_⟩
   exact Ok.gd (inB_t hi) (.ret ⟨h,rfl,rfl⟩)
  ·have hm:min (3:Int) (wi64 (((n.2.1.getD r ([],(0,(0,(0,(0,(0,[]))))))).2.2.2.2.2.2.length:Int)+1))=((min 3 ((n.2.1.getD r ([],(0,(0,(0,(0,(0,[]))))))).2.2.2.2.2.2.length+1):Nat):Int):=by rw[wi (by omega)]; omega
   rw[hm];refine Ok.bind (sNn h (by omega) (by omega)) ?_
   rintro⟨_,s3,p3⟩ ⟨h,i,rfl,hi⟩
   simp only at h;exact Ok.gd (inR_t (a:=0) (by omega) (by omega)) (.ret ⟨h,rfl,rfl⟩)
  ·refine Ok.bif (fun hc=>?_) fun _=>.ret ⟨h,rfl,rfl⟩
   have hc:=zi hc;refine Ok.bind (sNn h (by omega) (by omega)) ?_
   rintro⟨_,s3,p3⟩ ⟨h,i,rfl,hi⟩
   simp only at h;refine Ok.bind (sP h (by simp) (by simp)) ?_
   rintro⟨x,s4,p4⟩ ⟨h,_⟩
   exact Ok.gd (inB_t hi) (.ret ⟨h,rfl,rfl⟩)
  ·refine Ok.bif (fun hc=>?_) fun _=>.ret ⟨h,rfl,rfl⟩
   refine Ok.bind (sNn h (by omega) (by omega)) ?_
   rintro⟨_,s3,p3⟩ ⟨h,i,rfl,hi⟩
   simp only at h;refine Ok.bind (sT h (by simp) (by simp)) fun q1 h1=>Ok.bind (sP h1.1 (by simp) (by simp)) fun q2 h2=>Ok.bind (sP h2.1 (by simp) (by simp)) fun q3 h3=>?_
   exact Ok.gd (inB_t hi) (.ret ⟨h3.1,rfl,by simp⟩)
  ·exact Ok.bind (sT h (by simp) (by simp)) fun q1 h1=>Ok.bind (sP h1.1 (by simp) (by simp)) fun q2 h2=>Ok.bind (sP h2.1 (by simp) (by simp)) fun q3 h3=>Ok.bind (sP h3.1 (by simp) (by simp)) fun q4 h4=>Ok.bind (sP h4.1 (by simp) (by simp)) fun q5 h5=>Ok.gd (qae (by omega)) (.ret ⟨h5.1,rfl,rfl⟩)
  ·exact Ok.bind (sP h (by simp) (by simp)) fun q1 h1=>Ok.bind (sP h1.1 (by simp) (by simp)) fun q2 h2=>.ret ⟨h2.1,rfl,rfl⟩
  ·refine Ok.bind (Q:=fun q:List Int×Int×List Str×List Seg×List Port×List Stat×List Pt=>SrcOk q.1 q.2.1/\q.2.2.2.1.length=n.2.1.length/\q.2.2.2.2.1.length=n.2.2.1.length) ?_ fun q hq=>.ret hq
   refine Ok.loop (fun x:List Int×Int×List Str×List Seg×List Port×List Stat×List Pt=>SrcOk x.1 x.2.1/\x.2.2.1.length<=25/\x.2.2.2.1.length=n.2.1.length/\x.2.2.2.2.1.length=n.2.2.1.length) (fun x=>25-x.2.2.1.length) ⟨h,by(try simp only); omega,rfl,rfl⟩ ?_
   rintro⟨s3,p3,n2,n3,n4,n5,x⟩ ⟨h,hl,e1,e2⟩
   unfold qjw;simp only at h hl e1 e2 ⊢;refine Ok.bind (sN h (n:=2) (by omega) (by omega)) ?_
   rintro⟨c2,s4,p4⟩ ⟨h,_,_⟩
   simp only at h;rw[show wi64 (23+c2)=23+c2 from wi (by omega)]
   refine Ok.bif (fun hc=>?_) fun _=>.ret ⟨h,e1,e2⟩
   have hc:=zi hc;refine Ok.bind (name6 [121] (n2.length:Int) (by simp)) fun a ha=>?_
   refine Ok.bind (name6 [] _ (by simp)) fun b hb=>?_
   refine Ok.gd (zD2 (by omega)) (Ok.gd (qae (by omega)) (.ret ⟨⟨h,by simp; omega,e1,e2⟩,by simp; omega⟩))
 rintro⟨q1,q2,q3,q4,q5,q6,q7,s3,p3,q10,q11,q12,q13⟩ ⟨h,e1,e2⟩
 simp only at h e1 e2;exact Ok.gd (inB_t (by(try simp only); omega)) (.ret ⟨h,e2⟩)
theorem mod14{x:Int}(hx:i64P x){k:Int}(h1:1<=k)(h2:k<=1000000):qcr x k=some (x%k):=by
 unfold qcr; rw[qBv hx h1 (by omega)]; rfl
end Go.Proofs.YtgmjmgihjjddmaaGreat
namespace Go.Proofs.YtgmjmgihjjddmaaGreat
open Go Go.Sq Wi
theorem CnG.le{c:Cn}{k m:Nat}(h:CnG c k)(hk:k<=m):CnG c m:=⟨h.d,by have:=h.t; omega,h.tv,h.srt,by have:=h.a; omega,h.n0,by have:=h.n1; omega⟩
theorem qCA{n:Net}{c:Cn}{r:Rec}{k:Nat}(hi:CnG c k)(hk:k<=10000)(hr:RecP r)(h:(capp n c r).2=0):(capp n c r).1.1.1.length=c.1.1.length:=by
 have:=(qo2 hi hk hr h).2.2.1;by_cases k2:r.1=2
 ·rw[if_pos k2] at this;have hl:=(qzm (n:=n) c.1 r.2.2.1).v;rw[this] at hl;exact hl
 ·rw[if_neg k2] at this;rw[this]
theorem qzX{n:Net}(hn:GN n)(h0:qbZ n=0){t:Int}(ht:1<=t/\t<=60){s:List Int}{q:Int}(h:SrcOk s q):
  Ok (qg4 n t 8 s q) fun z=>CnG z.1 8/\1<=z.1.1.1.length/\SrcOk z.2.1 z.2.2.1/\z.2.2.2.length<=8/\∀r∈z.2.2.2,RecP r/\RecI r:=by
 have hp1:=hn.p1;obtain⟨c0,e,_,n2,g,_,gl⟩:=qtR n t (by omega)
 have gl:=gl h0 ht;unfold qg4;rw[qaL];refine Ok.eq n2 ?_
 rw[wi (by omega)]
 refine Ok.bind (sN h (n:=8+1) (by omega) (by omega)) fun r hr=>?_
 refine Ok.bind (Q:=fun z:List Vl×List Int×List Int×List Bool×List Tel×List Acc4×Int×List Int×Int×List Rec=>CnG ((z.1,z.2.1,z.2.2.1,z.2.2.2.1),z.2.2.2.2.1,z.2.2.2.2.2.1,z.2.2.2.2.2.2.1) 8/\1<=z.1.length/\SrcOk z.2.2.2.2.2.2.2.1 z.2.2.2.2.2.2.2.2.1/\z.2.2.2.2.2.2.2.2.2.length<=8/\∀r∈z.2.2.2.2.2.2.2.2.2,RecP r/\RecI r) ?_ fun z hz=>.ret hz
 refine Ok.loop (fun x:Int×List Int×Int×List Vl×List Int×List Int×List Bool×List Tel×List Acc4×Int×List Rec=>∃k:Nat,0<=x.1/\x.1+k<=8/\SrcOk x.2.1 x.2.2.1/\CnG ((x.2.2.2.1,x.2.2.2.2.1,x.2.2.2.2.2.1,x.2.2.2.2.2.2.1),x.2.2.2.2.2.2.2.1,x.2.2.2.2.2.2.2.2.1,x.2.2.2.2.2.2.2.2.2.1) k/\1<=x.2.2.2.1.length/\x.2.2.2.2.2.2.2.2.2.2.length<=k/\∀r∈x.2.2.2.2.2.2.2.2.2.2,RecP r/\RecI r) (fun x=>x.1.toNat)
  ⟨0,hr.2.1,by simp only; omega,hr.1,g,by simp only; omega,by simp,fun x hx=>(by cases hx)⟩ ?_
 rintro⟨i,s',q',d1,d2,d3,d4,tl,ac,ct,l⟩ ⟨k,h1,h2,h3,h4,h5,h6,h7⟩
 simp only at h1 h2 h3 h4 h5 h6 h7;show Ok (qgE n i s' q' d1 d2 d3 d4 tl ac ct l) _;unfold qgE;refine Ok.bif (fun hc=>?_) fun hc=>.ret ⟨h4.le (by omega),h5,h3,by simp only; omega,h7⟩
 have hc:=zi hc;have hcs:=h4.cns (by omega)
 have n0:=h4.n0; have n1:=h4.n1;simp only at n0 n1;rw[qaL];refine Ok.bind (qBE hn (c:=((d1,d2,d3,d4),tl,ac,ct)) hcs.d.v h3) fun z hz=>?_
 obtain⟨hq,hp,hi,_⟩:=hz;refine Ok.eq (qmz n (c:=((d1,d2,d3,d4),tl,ac,ct)) hcs h4.srt (by simp only; omega) (recZ z) (by have:=hp.v; omega) (by have:=hp.h; omega)) ?_
 rw[wi (by omega)]
 by_cases hz:(capp n ((d1,d2,d3,d4),tl,ac,ct) (recZ z)).2=0
 ·rw[dec_t hz,z9];refine Ok.bind (Ok.gd (qae (by omega)) (.ret rfl)) fun y hy=>.ret ?_
  subst hy;refine⟨⟨k+1,by simp only; omega,by simp only; omega,hq,(qo2 h4 (by omega) hp hz).1,?_,?_,fun x hx=>?_⟩,by simp only; omega⟩
  ·have:=qCA h4 (by omega) hp hz
   simp only at this ⊢;omega
  ·simp only[ze,zY1]; omega
  ·rcases zu.1 hx with hx | hx
   ·exact h7 x hx
   ·rw[zH.1 hx]; exact⟨hp,hi⟩
 ·rw[dec_f hz,za];exact .ret ⟨⟨k,by simp only; omega,by simp only; omega,hq,h4,h5,h6,h7⟩,by simp only; omega⟩
theorem qCB{l:List Rec}(hl:l.length<=8)(h:∀r∈l,RecP r/\RecI r):Ok (iter (fun x=>qc5 x.1 x.2.1 x.2.2.1 x.2.2.2) (0,[],l,[])) fun z=>z.1=[]/\qbz z.2/\z.2.length<=40000:=by
 refine Ok.loop (fun x:Int×List Int×List Rec×List Int=>∃k:Nat,x.1=(k:Int)/\k<=l.length/\x.2.1=[]/\x.2.2.1=l/\qbz x.2.2.2/\x.2.2.2.length<=4010*k) (fun x=>((l.length:Int)-x.1).toNat) ⟨0,rfl,by omega,rfl,rfl,fun x hx=>(by cases hx),by simp⟩ ?_
 rintro⟨_,p,l',F⟩ ⟨k,rfl,h1,h2,h3,h4,h5⟩
 replace h2:p=[]:=h2;replace h3:l'=l:=h3;subst h2 h3;simp only at h4 h5;show Ok (qc5 (k:Int) [] l' F) _;unfold qc5;refine Ok.bif (fun hc=>?_) fun hc=>.ret ⟨rfl,h4,by simp only; omega⟩
 have hc:=zi hc;have hk:k<l'.length:=by omega
 refine Ok.gd (inB_t hk) ?_
 simp only[z8];obtain⟨hp,hi⟩:=h _ (gmem (d:=((0,([],((0,(0,(0,(0,(0,([],0)))))),([],(0,0))))):Rec)) hk);obtain⟨e,b,_,w2',hb,hbb⟩:=qtS hi hp;refine Ok.eq w2' ?_
 obtain⟨f,e3,_,p2,hq⟩:=qrR (b:=b) h4 (by omega) (by omega)
 refine Ok.eq p2 ?_
 have hf:=qv0 (b:=b) (by omega)
 rw[w1 hk (by omega)]
 rcases hq with⟨_,rfl⟩ | ⟨_,rfl⟩
 ·refine Ok.eq (qtQ (F:=F) (p:=frmB b) (by omega)) (.ret ⟨⟨k+1,rfl,by omega,rfl,rfl,fun x hx=>?_,by simp only[ze]; omega⟩,by simp only; omega⟩)
  rcases zu.1 hx with hx | hx
  ·exact h4 x hx
  ·exact qrQ hbb x hx
 ·refine Ok.eq (qtQ (F:=F) (p:=[]) (by simp; omega)) (.ret ⟨⟨k+1,rfl,by omega,rfl,rfl,fun x hx=>?_,by simp only[z51]; omega⟩,by simp only; omega⟩)
  exact h4 x (by simpa using hx)
end Go.Proofs.YtgmjmgihjjddmaaGreat
namespace Go.Proofs.YtgmjmgihjjddmaaGreat
open Go Go.Sq Wi
abbrev mzT:Type:=Int×Int×Int×Int×Int×Int×(List (Int×Bool))×Int×List UInt8×Int×Int×List Int×Int×List Int
abbrev myT:Type:=Int×List Str×List Seg×List Port×List Stat×Int×Int×List Vl×Int×List Int×Int×Int×List UInt8×Int×List Int
abbrev chgR(z:mzT)(y:myT):Rec:=(y.2.2.2.2.2.2.2.2.2.2.1,(y.2.2.2.2.2.2.2.2.2.2.2.2.2.2,((z.2.1,(z.2.2.1,(y.2.2.2.2.2.2.2.2.2.2.2.1,(z.2.2.2.2.1,(z.2.2.2.2.2.1,(z.2.2.2.2.2.2.1,z.2.2.2.2.2.2.2.1)))))),(y.2.2.2.2.2.2.2.2.2.2.2.2.1,(z.2.2.2.2.2.2.2.2.2.1,y.2.2.2.2.2.2.2.2.2.2.2.2.2.1)))))
structure MChg(c:Cn)(z:mzT)(y:myT):Prop where
 n:1<=y.2.2.1.length+y.2.2.2.1.length
 c:CnG ((y.2.2.2.2.2.2.2.1,c.1.2),(c.2.1,(c.2.2.1,y.2.2.2.2.2.2.2.2.1))) 1000
 b:qbz y.2.2.2.2.2.2.2.2.2.1
 l:y.2.2.2.2.2.2.2.2.2.1.length<=100000
 p:RecP (chgR z y)
 i:RecI (chgR z y)
theorem qBb(x:Int):0<=wu8 x/\wu8 x<=255:=by
 show 0<=IntKind.u8.wrap x/\IntKind.u8.wrap x<=255;rw[show IntKind.u8.wrap x=x%256 from rfl]
 omega
theorem qzY(l:List Int)(hl:∀x∈l,i64P x)(odd vby:Int)(ho:i64P odd)(hb:i64P vby):qgG l odd vby=some true:=by
 refine Ok.true ?_
 have hw:Ok qhB (fun b=>b=true):=⟨true,qxz,rfl⟩
 unfold qgG;refine Ok.eq (qC2 l) (Ok.bif (fun _=>Ok.bind hw fun b hb=>.ret hb) fun _=>?_)
 obtain⟨s,e,hs⟩:=qCL hl;refine Ok.eq e ?_
 refine Ok.bind (qCO hs) ?_
 rintro⟨n,s2,q2⟩ ⟨e,h,k,hn⟩
 replace e:s2=s:=e;subst e;simp only at h hn;have hg:=GN.of hn;have h0:=chk0 hn;have hp1:=hg.p1;refine Ok.bind (sN h (n:=3) (by omega) (by omega)) fun r5 h5=>?_
 rw[qaL,wi (n:=1+r5.1) (by omega)]
 refine Ok.bind (qzX hg h0 (t:=1+r5.1) ⟨by omega,by omega⟩ h5.1) ?_
 rintro⟨c,s6,q6,rs⟩ ⟨hc,hv,h6,hr1,hr2⟩
 simp only at hc hv h6 hr1 hr2;refine Ok.bind (qCB hr1 hr2) ?_
 rintro⟨pd,F⟩ ⟨hpd,hF,hN⟩
 replace hpd:pd=[]:=hpd;subst hpd;simp only at hF hN;have hcs:=hc.cns (by omega)
 refine Ok.bind (qBE hg (c:=c) hcs.d.v h6) fun z hz=>?_
 obtain⟨hq,hp,hi,h50⟩:=hz;have hc1:CnG ((c.1.1,c.1.2),(c.2.1,(c.2.2.1,c.2.2.2))) 1000:=hc.le (by omega)
 have hNl:F.length<=100000:=by omega
 have hnn:1<=n.2.1.length+n.2.2.1.length:=by omega
 refine Ok.eq (mod14 ho (by omega) (by omega)) ?_
 refine Ok.bind (Q:=MChg c z) ?_ fun y hy=>?_
 ·refine Ok.bif (fun _=>?_) fun _=>Ok.bif (fun _=>?_) fun _=>Ok.bif (fun _=>?_) fun _=>Ok.bif (fun _=>?_) fun _=>Ok.bif (fun _=>?_) fun _=>Ok.bif (fun _=>?_) fun _=>Ok.bif (fun _=>?_) fun _=>Ok.bif (fun _=>?_) fun _=>Ok.bif (fun _=>?_) fun _=>Ok.bif (fun _=>?_) fun _=>Ok.bif (fun _=>?_) fun _=>Ok.bif (fun _=>?_) fun _=>?_
  ·exact Ok.bind (wrong6 hn hq) fun r12 h12=>.ret ⟨by have:=h12.2; simp only; omega,hc1,hF,hNl,hp,hi⟩
  ·exact Ok.eq (mod14 hb (by omega) (by omega)) (.ret ⟨hnn,hc1,hF,hNl,hp,hi⟩)
  ·exact Ok.eq (mod14 hb (by omega) (by omega)) (.ret ⟨hnn,hc1,hF,hNl,⟨hp.v,hp.h⟩,⟨qnd _,hi.v,hi.s,hi.n,hi.e,hi.f⟩⟩)
  ·refine Ok.gd (qae (by have:(recZ z).2.1.length=z.2.2.2.2.2.2.2.2.2.2.2.2.2.length:=rfl; omega)) (.ret ⟨hnn,hc1,hF,hNl,⟨?_,hp.h⟩,⟨hi.k,fun x hx=>?_,hi.s,hi.n,hi.e,hi.f⟩⟩)
   ·simp only[ze,zY1];have:(recZ z).2.1.length=z.2.2.2.2.2.2.2.2.2.2.2.2.2.length:=rfl;omega
   ·rcases zu.1 hx with hx | hx
    ·exact hi.v x hx
    ·rw[zH.1 hx]; exact hb
  ·exact .ret ⟨hnn,hc1,hF,hNl,⟨hp.v,hp.h⟩,⟨hi.k,hi.v,hi.s,hi.n,hi.e,hb⟩⟩
  ·exact Ok.eq (mod14 hb (by omega) (by omega)) (.ret ⟨hnn,hc1,hF,hNl,⟨hp.v,hp.h⟩,⟨hi.k,hi.v,⟨hi.s.a,hi.s.b,qfr (by simp only; omega),hi.s.d,hi.s.e,hi.s.f,hi.s.h⟩,hi.n,hi.e,hi.f⟩⟩)
  ·refine Ok.bif (fun hl=>?_) fun _=>.ret ⟨hnn,hc1,hF,hNl,hp,hi⟩
   have hl:=zi hl;have hl:0<(F.length:Int):=hl;refine Ok.eq (mod14 hb (k:=(F.length:Int)) (by omega) (by omega)) ?_
   have hm:=zM2 vby (show(F.length:Int)≠0 by omega)
   have hm2:=zt2 vby hl;refine Ok.gd (qal.2 ⟨hm,hm2⟩) (Ok.gd (qal.2 ⟨hm,hm2⟩) (.ret ⟨hnn,hc1,fun x hx=>?_,by simp only[zN]; exact hNl,hp,hi⟩))
   rcases List.mem_or_eq_of_mem_set hx with hx | rfl
   ·exact hF x hx
   ·exact qBb _
  ·have hm:=zM2 vby (show(F.length:Int)+1≠0 by omega)
   have hm2:=zt2 vby (show(0:Int)<(F.length:Int)+1 by omega)
   obtain⟨m,em⟩:=Int.eq_ofNat_of_zero_le hm;rw[em] at hm2;refine Ok.eq (a:=(m:Int)) (by show qcr vby (wi64 ((F.length:Int)+1))=_; rw[wi (by omega),<-em]; exact mod14 hb (by omega) (by omega)) ?_
   refine Ok.gd (by unfold cutG; simp; omega) (.ret ⟨hnn,hc1,fun x hx=>hF x (zI1 hx),by simp only[zl]; omega,hp,hi⟩)
  ·refine Ok.eq (mod14 hb (by omega) (by omega)) ?_
   have hcc:∀x:Int,x=1000\/x=999->CnG ((c.1.1,c.1.2),(c.2.1,(c.2.2.1,x))) 1000:=fun x hx=>⟨hc1.d,hc1.t,hc1.tv,hc1.srt,hc1.a,by simp only; omega,by simp only; omega⟩
   refine Ok.gd (qal.2 ⟨by omega,by simp; omega⟩) (.ret ⟨hnn,hcc _ ?_,hF,hNl,hp,hi⟩)
   rcases Int.emod_two_eq vby with e | e <;> rw[e] <;> simp
  ·refine Ok.bif (fun hl=>?_) fun _=>.ret ⟨hnn,hc1,hF,hNl,hp,hi⟩
   have hl:=zi hl;have e0:(recZ z).2.1.length=z.2.2.2.2.2.2.2.2.2.2.2.2.2.length:=rfl;refine Ok.eq (mod14 hb (k:=(z.2.2.2.2.2.2.2.2.2.2.2.2.2.length:Int)) (by omega) (by omega)) ?_
   have hm:=zM2 vby (show(z.2.2.2.2.2.2.2.2.2.2.2.2.2.length:Int)≠0 by omega)
   have hm2:=zt2 vby (show 0<(z.2.2.2.2.2.2.2.2.2.2.2.2.2.length:Int) by omega)
   exact Ok.gd (qal.2 ⟨hm,hm2⟩) (.ret ⟨hnn,hc1,hF,hNl,⟨by simp only[zN]; omega,hp.h⟩,⟨hi.k,hi.v.set _ hb,hi.s,hi.n,hi.e,hi.f⟩⟩)
  ·refine Ok.gd (by unfold cutG; simp; omega) (.ret ⟨hnn,⟨⟨by have:=hc1.d.v; simp at this ⊢; omega,hc1.d.r,hc1.d.p,hc1.d.b⟩,hc1.t,hc1.tv,hc1.srt,hc1.a,hc1.n0,hc1.n1⟩,hF,hNl,hp,hi⟩)
  ·exact .ret ⟨hnn,hc1,hF,hNl,⟨hp.v,hp.h⟩,⟨hi.k,hi.v,hi.s,by simp,hi.e,hi.f⟩⟩
  ·exact .ret ⟨hnn,hc1,hF,hNl,hp,hi⟩
 ·obtain⟨d,e,m1,m2,g,_⟩:=qtR (y.2.1,(y.2.2.1,(y.2.2.2.1,(y.2.2.2.2.1,(y.2.2.2.2.2.1,y.2.2.2.2.2.2.1))))) y.1 hy.n;refine Ok.eq m1 (Ok.eq m2 ?_)
  simp only[zU1,z9];refine Ok.eq (sameC (c:=d) (g.cns (by omega))) ?_
  simp only[z9];refine Ok.eq (qxJ _ y.1 hy.n hy.b hy.l hy.c hy.i hy.p) ?_
  simp only[z9];exact Ok.bind hw fun b hb=>.ret hb
end Go.Proofs.YtgmjmgihjjddmaaGreat
