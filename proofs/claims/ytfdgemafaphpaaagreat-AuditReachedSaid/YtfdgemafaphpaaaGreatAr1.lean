/- States that are reached: they are valid, and their file leads to them. No condition. -/
import Derived.Test.YtfdgemafaphpaaaGreatCl2
import Derived.Test.YtfdgemafaphpaaaGreatCm5
import Derived.Test.YtfdgemafaphpaaaGreatCr4
namespace Go.Proofs.YtfdgemafaphpaaaGreat
open Go Go.Sq Wi
set_option linter.unusedVariables false
theorem qrQ{step:Int->Option (Int⊕(Unit⊕Bool))}{n:Nat}(h1:∀i:Nat,i<n->step (i:Int)=some (.inl ((i+1:Nat):Int)))(h2:step (n:Int)=some (.inr (.inl ()))):iter step 0=some (.inl ()):=
 qaG (step:=step) n (fun i=>(i:Int)) h1 h2
theorem eqI(l:List Int)(h:l.length<=100000):qbu l l=some true:=by
 unfold qbu;rw[qrQ (n:=l.length) (fun i hi=>by
  unfold qc5;rw[dec_t (show(i:Int)<(l.length:Int) by omega),zb,gd_t (inB_t hi),gd_t (inB_t hi),dec_t rfl,w1 hi (by omega)]; rfl) (by
  unfold qc5;rw[dec_f (by omega)]; rfl),dec_t rfl]; rfl
theorem eqB(l:List Bool)(h:l.length<=100000):qcr l l=some true:=by
 unfold qcr;rw[qrQ (n:=l.length) (fun i hi=>by
  unfold qcN;rw[dec_t (show(i:Int)<(l.length:Int) by omega),zb,gd_t (inB_t hi),gd_t (inB_t hi),beq_self_eq_true,w1 hi (by omega)]; rfl) (by
  unfold qcN;rw[dec_f (by omega)]; rfl),dec_t rfl]; rfl
theorem eqV(l:List Vl)(h:l.length<=100000):qa8 l l=some true:=by
 unfold qa8;rw[qrQ (n:=l.length) (fun i hi=>by
  unfold qbm;rw[dec_t (show(i:Int)<(l.length:Int) by omega),zb,gd_t (inB_t hi),gd_t (inB_t hi),w1 hi (by omega)]
  simp only[ze1,beq_self_eq_true,z23,ze,za]) (by
  unfold qbm;rw[dec_f (by omega)]; rfl),dec_t rfl]; rfl
theorem eqA(l:List Acc4)(h:l.length<=100000):qaT l l=some true:=by
 unfold qaT;rw[qrQ (n:=l.length) (fun i hi=>by
  unfold qba;rw[dec_t (show(i:Int)<(l.length:Int) by omega),zb,gd_t (inB_t hi),gd_t (inB_t hi),w1 hi (by omega)]
  simp only[ze1,z23,ze,za]) (by
  unfold qba;rw[dec_f (by omega)]; rfl),dec_t rfl]; rfl
theorem eqT(t:Tel)(h:t.2.2.2.2.2.length<=100000):qcU t t=some true:=by
 unfold qcU;rw[eqI _ h];simp only[ze1,zb,z7]
theorem qAM{c:Cn}(h:CnS c):qjh c c=some true:=by
 have ha:=h.a; have ht:=h.t;unfold qjh;rw[dec_t rfl,eqV _ h.d.v,eqI _ h.d.r,eqI _ h.d.p,eqB _ h.d.b,eqA _ (by omega)]
 simp only[zb,z7];have k:qac c.2.1 c.2.1 (fun h=>(qcU h.1 h.2.1).bind fun y=>some y)=some true:=by
  unfold qac;rw[qrQ (n:=c.2.1.length) (fun i hi=>by
   unfold qai;rw[dec_t (show(i:Int)<(c.2.1.length:Int) by omega),zb,gd_t (inB_t hi),gd_t (inB_t hi),w1 hi (by omega)]
   simp only[z8];rw[show qcU _ _=some true from eqT (c.2.1.getD i t0) (h.tv _ (gmem hi))]; rfl) (by
   unfold qai;rw[dec_f (by omega)]; rfl),dec_t rfl]; rfl
 rw[k]; rfl
theorem qyx{n:Net}(hn:GN n){c0 c:Cn}{rs:List Rec}{t:Int}(hnew:qfR n t=some (c0,0))(h:Hist n c0 rs c)(hl:rs.length<=30):qfC n t (fileB (rs.map bts),[]) c=some (true,0):=by
 have hr:=qyo hn hnew h hl qxE;rw[z81] at hr;have hi:=h.inv rs.length (zM _);rw[zk1,h.fin] at hi;unfold qfC;rw[qaR,hr,z7];simp only[ze1,ze,za];rw[show qjh ((c.1.1,c.1.2.1,c.1.2.2.1,c.1.2.2.2),c.2.1,c.2.2.1,c.2.2.2) ((c.1.1,c.1.2.1,c.1.2.2.1,c.1.2.2.2),c.2.1,c.2.2.1,c.2.2.2)=some true from qAM (hi.cns hn (by omega))]; rfl
theorem qCb{n:Net}{c:Cn}(hd:qc7 n c.1=0)(ha:Ac.ValidP c.2.2.1)(hs:SortT c.2.1)(ht:∀t∈c.2.1,qe9 t=true)(hl:c.2.1.length<=10000)(hk:0<=c.2.2.2/\c.2.2.2<=1000):qfW n c=some 0:=by
 have hn:=ha.n;unfold qfW;rw[qaR,show((c.1.1,c.1.2.1,c.1.2.2.1,c.1.2.2.2):Dk)=c.1 from rfl,qpI,hd,z7,Ac.valid_eq (by omega),Ac.validB_iff.2 ha]
 simp only[ze1,ze,za,z7];have k:=qaG (step:=fun x=>qet c x) c.2.1.length (fun i=>(i:Int)) (e:=.inl ()) (fun i hi=>by
  unfold qet;rw[dec_t (show(i:Int)<(c.2.1.length:Int) by omega),zb,gd_t (inB_t hi)]
  simp only[z8];rw[show qdk _=some true from(qu8 (c.2.1.getD i t0)).trans (congrArg some (ht _ (gmem hi)))]
  simp only[z7,ze,za];by_cases h0:0<i
  ·have hw:wi64 ((i:Int)-1)=((i-1:Nat):Int):=by rw[wi (by omega)]; omega
   have hg:=gDp hs (i:=i-1) (j:=i) (by omega) hi
   rw[dec_t (show(0:Int)<(i:Int) by omega),zb,hw,gd_t (inB_t (show i-1<c.2.1.length by omega)),z8,dec_f (show ¬(c.2.1.getD i t0).1<=(c.2.1.getD (i-1) t0).1 by omega),z7,za,w1 hi (by omega)]
  ·rw[dec_f (show ¬(0:Int)<(i:Int) by omega),za,z7,za,w1 hi (by omega)]) (by
  unfold qet;rw[dec_f (by omega)]; rfl)
 have k:iter (fun x=>qet c x) 0=some (.inl ()):=k
 rw[k,z7,z51,dec_f (show ¬c.2.2.2<0 by omega),dec_f (show ¬1000<c.2.2.2 by omega)]; rfl
theorem qAN{n:Net}(hn:GN n){c0 c:Cn}{rs:List Rec}(h:Hist n c0 rs c)(hl:rs.length<=20){r:Rec}(hr:RecP r):
  qjQ n (fileB (rs.map bts),[]) c r=some (if(capp n c r).2=0 then((fileB ((rs++[r]).map bts),[]),(capp n c r).1,0) else((fileB (rs.map bts),[]),c,(capp n c r).2)):=by
 have hi:=h.inv rs.length (zM _);rw[zk1,h.fin] at hi;have hcs:=hi.cns hn (by omega)
 have hn0:=hi.n0; have hn1:=hi.n1;obtain⟨hf,hfl⟩:=files h.enc (by omega) qxE
 unfold qjQ;simp only;rw[qaR,show(((c.1.1,c.1.2.1,c.1.2.2.1,c.1.2.2.2),c.2.1,c.2.2.1,c.2.2.2):Cn)=c from rfl,show((r.1,r.2.1,(r.2.2.1.1,r.2.2.1.2.1,r.2.2.1.2.2.1,r.2.2.1.2.2.2.1,r.2.2.1.2.2.2.2.1,r.2.2.1.2.2.2.2.2.1,r.2.2.1.2.2.2.2.2.2),r.2.2.2.1,r.2.2.2.2.1,r.2.2.2.2.2):Rec)=r from rfl]
 rw[qys n hcs hi.srt (by omega) r (by have:=hr.v; omega) (by have:=hr.h; omega),z7]
 by_cases h0:(capp n c r).2=0
 ·rw[dec_t h0,if_pos h0,ze,za];have he:=qCL hn hi (by omega) h0
  have hb:=qt2 he;have hbf:=qlK (b:=bts r) (by omega)
  have hre:qgx r=some (0,bts r):=by
   rw[renc he.hr];unfold encR;rw[if_neg he.nb]; rfl
  rw[hre,z7];simp only[ze1,ze,za];rw[qyl hf (by omega) (by omega),z7]
  simp only[ze1,ze,za];rw[qBZ (by omega),z7,zt1,qoO,List.map_singleton,qrP]
 ·rw[dec_f h0,if_neg h0]; rfl
theorem qDQ{n:Net}{c:Cn}{r:Rec}(hs:SortT c.2.1)(ht:∀t∈c.2.1,qe9 t=true)(h:(capp n c r).2=0):∀t∈(capp n c r).1.2.1,qe9 t=true:=by
 unfold capp at h ⊢;by_cases k1:r.1=1
 ·rw[if_pos k1] at h ⊢;unfold capp1 at h ⊢;by_cases h1:c.2.2.2=1000
  ·rw[if_pos h1] at h; cases h
  rw[if_neg h1] at h ⊢;by_cases h2:(accS c.2.1 r).2=0
  ·rw[if_pos h2];unfold accS at h2 ⊢;by_cases h3:r.2.1.length<5\/noB r.2.2.1=false\/noE r.2.2.2=false\/qe9 (telOf r.2.1)=false
   ·rw[if_pos h3] at h2; cases h2
   rw[if_neg h3] at h2 ⊢;cases hp:putT c.2.1 (telOf r.2.1) with
   | none=>rw[hp] at h2; cases h2
   | some l'=>
    intro x hx;rcases(qlI hs hp).frm x hx with rfl | ⟨hx,_⟩
    ·simp only[not_or,zZ2] at h3;exact h3.2.2.2
    ·exact ht x hx
  ·rw[if_neg h2] at h; exact absurd h h2
 rw[if_neg k1] at h ⊢;by_cases k2:r.1=2
 ·rw[if_pos k2];unfold capp2;split
  ·exact ht
  ·split <;> exact ht
 rw[if_neg k2];by_cases k3:r.1=3
 ·rw[if_pos k3];unfold capp3;split
  ·exact ht
  ·split <;> exact ht
 ·rw[if_neg k3]; exact ht
structure RchI(n:Net)(c0:Cn)(rs:List Rec)(c:Cn)(k:Nat):Prop where
 h:Hist n c0 rs c
 l:rs.length<=k
 v:qc7 n c.1=0
 a:Ac.ValidP c.2.2.1
 t:∀t∈c.2.1,qe9 t=true
theorem RchI.up{n:Net}{c0:Cn}{rs:List Rec}{c:Cn}{k:Nat}(h:RchI n c0 rs c k):RchI n c0 rs c (k+1):=⟨h.h,zT1 h.l,h.v,h.a,h.t⟩
theorem RchI.ci{n:Net}{c0:Cn}{rs:List Rec}{c:Cn}{k:Nat}(h:RchI n c0 rs c k):CnI n c rs.length:=by
 have hi:=h.h.inv rs.length (zM _);rw[zk1,h.h.fin] at hi;exact hi
theorem RchI.put{n:Net}(hn:GN n){c0:Cn}{rs:List Rec}{c:Cn}{k:Nat}(h:RchI n c0 rs c k)(hk:k<=100){r:Rec}(hr:RecP r)(h0:(capp n c r).2=0):RchI n c0 (rs++[r]) (capp n c r).1 (k+1):=by
 have hl:=h.l;have hi:=h.ci;refine⟨h.h.put hn (by omega) h0,by rw[zd,zV1]; omega,qAE h.v h0,?_,qDQ hi.srt h.t h0⟩
 have h4:=(qwu hi (by omega) hr h0).2.2.2
 by_cases k3:r.1=3
 ·rw[if_pos k3] at h4;have:=(Ac.post_valid h.a (e:=r.2.2.2) (by rw[h4])).1
  rw[h4] at this;exact this
 ·rw[if_neg k3] at h4;rw[h4]; exact h.a
theorem RchI.audit{n:Net}(hn:GN n){c0:Cn}{rs:List Rec}{c:Cn}{k:Nat}(h:RchI n c0 rs c k)(hk:k<=20){t:Int}(hnew:qfR n t=some (c0,0)):qfC n t (fileB (rs.map bts),[]) c=some (true,0)/\qfW n c=some 0:=by
 have hl:=h.l;have hi:=h.ci;have n0:=hi.n0; have n1:=hi.n1; have ht:=hi.t;exact⟨qyx hn hnew h.h (by omega),qCb h.v h.a hi.srt h.t (by omega) ⟨n0,by omega⟩⟩
theorem qvr(l:List Int)(hl:∀x∈l,i64P x)(m:Int)(hm:0<=m/\m<=65535):qfD l m=some true:=by
 refine Ok.true ?_
 have hw:Ok qeU (fun b=>b=true):=⟨true,qyd,rfl⟩
 unfold qfD;refine Ok.eq (qEk l) (Ok.bif (fun _=>Ok.bind hw fun b hb=>.ret hb) fun _=>?_)
 obtain⟨s,e,hs⟩:=qD2 hl;refine Ok.eq e ?_
 refine Ok.bind (qD5 hs) ?_
 rintro⟨n,s2,q2⟩ ⟨e,h,k,hn⟩
 replace e:s2=s:=e;subst e;simp only at h hn;have hg:=GN.of hn;have h0:=chk0 hn;have hp1:=hg.p1; have hg1:=hg.sg; have hg2:=hg.po; have hg3:=hg.st;have hnew:=qDr (n:=n) (t:=2) h0 (by omega) (by omega)
 have hdesk:=qAD (n:=n) (t:=2) h0 (by omega)
 rw[qaR];obtain⟨c0,hc0⟩:∃c0:Cn,c0=(((List.replicate (n.2.1.length+n.2.2.1.length) (2,0,false,false),List.replicate n.2.1.length 0,List.replicate n.2.2.1.length 0,List.replicate n.2.2.2.1.length false),[],[],0):Cn):=⟨_,rfl⟩;rw[<-hc0] at hnew;have hrnew:qnR n 2=some (c0,0):=by
  unfold qnR;rw[qaR,qBV h0 ⟨by omega,by omega⟩ (by omega),z7,hc0]; rfl
 have hI0:CnI n c0 0:=by rw[hc0]; exact⟨⟨by simp,⟨by simp,by simp,by simp⟩⟩,by simp,by simp,by unfold SortT; simp,by simp,by simp,by simp⟩
 have hR0:RchI n c0 [] c0 0:=⟨⟨rfl,fun i hi=>(by simp at hi),fun r hr=>(by cases hr),fun i hi=>(by
    obtain rfl:i=0:=by simpa using hi
    exact hI0)⟩,by simp,by rw[hc0]; exact hdesk,by rw[hc0]; exact Ac.valid_iff.2 ⟨by simp,by simp,by simp,.nil⟩,by rw[hc0]; simp⟩
 refine Ok.eq hrnew ?_
 refine Ok.bind (Q:=fun z=>∃d1 d2 d3 d4 tl ac ct,z=Sum.inl (d1,d2,d3,d4,tl,ac,ct)/\Ac.ValidP ac) ?_ ?_
 ·refine Ok.loop (fun x=>∃(k:Nat) (rs:List Rec),x.1=(k:Int)/\k<=10/\SrcOk x.2.1 x.2.2.1/\RchI n c0 rs ((x.2.2.2.1,x.2.2.2.2.1,x.2.2.2.2.2.1,x.2.2.2.2.2.2.1),x.2.2.2.2.2.2.2.1,x.2.2.2.2.2.2.2.2.1,x.2.2.2.2.2.2.2.2.2.1) k/\x.2.2.2.2.2.2.2.2.2.2.1=fileB (rs.map bts)/\x.2.2.2.2.2.2.2.2.2.2.2=[]) (fun x=>(10-x.1).toNat)
   ⟨0,[],rfl,by omega,h,hR0,rfl,rfl⟩ ?_
  rintro⟨i,s,q,d1,d2,d3,d4,tl,ac,ct,F,P⟩ ⟨k,rs,rfl,hk,hq,hi,hF,hP⟩
  replace hF:F=fileB (rs.map bts):=hF;replace hP:P=[]:=hP;subst hF hP;simp only at hq hi;show Ok (qdH (n,s2,q2) (k:Int) s q d1 d2 d3 d4 tl ac ct (fileB (rs.map bts)) []) _;unfold qdH;refine Ok.bif (fun hc=>?_) fun hc=>.ret ⟨_,_,_,_,_,_,_,rfl,hi.a⟩
  have hc:=zm hc;have hl:=hi.l;have hci:=hi.ci;have hcs:=hci.cns hg (by omega)
  rw[qaR];refine Ok.bind (qEq hg (c:=((d1,d2,d3,d4),tl,ac,ct)) hcs.d.v hq) fun z hz=>?_
  obtain⟨hq2,hp⟩:=hz;refine Ok.eq (qAN hg (c:=((d1,d2,d3,d4),tl,ac,ct)) hi.h (by omega) hp) ?_
  by_cases hz:(capp n ((d1,d2,d3,d4),tl,ac,ct) z.1).2=0
  ·rw[if_pos hz];have hput:=hi.put hg (by omega) hp hz
   obtain⟨g1,g2⟩:=hput.audit hg (by omega) hnew
   generalize (capp n ((d1,d2,d3,d4),tl,ac,ct) z.1).1=c at*
   refine Ok.eq g1 ?_
   refine Ok.eq (a:=false) ?_ ?_
   ·simp only[ze1,ze,za];rw[show qfW n ((c.1.1,c.1.2.1,c.1.2.2.1,c.1.2.2.2),c.2.1,c.2.2.1,c.2.2.2)=some 0 from g2]; rfl
   ·simp only[za];rw[wi (by omega)]
    exact .ret ⟨⟨k+1,rs++[z.1],rfl,by omega,hq2,hput,rfl,rfl⟩,by simp only; omega⟩
  ·rw[if_neg hz];obtain⟨g1,g2⟩:=hi.audit hg (by omega) hnew
   refine Ok.eq g1 ?_
   refine Ok.eq (a:=false) ?_ ?_
   ·simp only[ze1,ze,za];rw[g2]; rfl
   ·simp only[za];rw[wi (by omega)]
    exact .ret ⟨⟨k+1,rs,rfl,by omega,hq2,hi.up,rfl,rfl⟩,by simp only; omega⟩
 ·rintro _ ⟨d1,d2,d3,d4,tl,ac,ct,rfl,hv⟩
  simp only[z51];rw[wi (by omega)]
  obtain⟨r,e1,e2⟩:=Ac.rclose_ok hv hm;refine Ok.eq e1 ?_
  by_cases he:r.2.2=0
  ·obtain⟨h1,h2⟩:=e2 he;rw[dec_t he];simp only[ze,za];refine Ok.eq (Ac.square_ok h1 h2) ?_
   simp only[ze1,zb];exact Ok.bind hw fun b hb=>.ret hb
  ·rw[dec_f he];exact Ok.bind hw fun b hb=>.ret hb
end Go.Proofs.YtfdgemafaphpaaaGreat
