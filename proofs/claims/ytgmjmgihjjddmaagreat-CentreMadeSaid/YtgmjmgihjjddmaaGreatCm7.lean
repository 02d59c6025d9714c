/- Frames of any bytes: the journal and its reference read the same. No condition. -/
import Derived.Test.YtgmjmgihjjddmaaGreatCr1
namespace Go.Proofs.YtgmjmgihjjddmaaGreat
open Go Go.Sq Wi
theorem quZ{σ ε:Type}{sA sB:σ->Option (σ⊕ε)}(I:σ->Prop)(μ:σ->Nat)(Q:ε->Prop)
  (h:∀x,I x->(∃e,sA x=some (.inr e)/\sB x=some (.inr e)/\Q e)\/∃y,sA x=some (.inl y)/\sB x=some (.inl y)/\I y/\μ y<μ x) {x:σ} (hx:I x):∃e,iter sA x=some e/\iter sB x=some e/\Q e:=by
 have key:∀n x,μ x<n->I x->∃e,iter sA x=some e/\iter sB x=some e/\Q e:=by
  intro n;induction n with
  | zero=>intro x hx; omega
  | succ n ih=>
   intro x hn hx;rcases h x hx with⟨e,h1,h2,h3⟩ | ⟨y,h1,h2,h3,h4⟩
   ·exact⟨e,qb0 h1,qb0 h2,h3⟩
   ·obtain⟨e,g1,g2,g3⟩:=ih y (by omega) h3
    exact⟨e,by rw[qcW h1]; exact g1,by rw[qcW h2]; exact g2,g3⟩
 exact key (μ x+1) x (by omega) hx
theorem qBI(b:List Int):∀(f p k u:Nat),(rdI b p k u f).2.2=0->(p:Int)<(rdI b p k u f).2.1
 | 0,p,k,u,h=>by unfold rdI at h; simp at h
 | f+1,p,k,u,h=>by
  unfold rdI at h ⊢;by_cases h1:b.length<=p
  ·rw[if_pos h1] at h; simp at h
  ·rw[if_neg h1] at h ⊢;by_cases h2:128<=bN b p
   ·rw[if_pos h2] at h ⊢;have:=qBI b f (p+1) (k+1) _ h;omega
   ·rw[if_neg h2] at h ⊢;by_cases h3:k=9/\1<bN b p\/0<k/\bN b p=0
    ·rw[if_pos h3] at h; simp at h
    ·rw[if_neg h3]; simp only; omega
theorem qu0{b:List Int}(hB:qbz b)(hN:b.length<=1000000):∃(q:Nat) (l:List (List Int)),qgk b=some ((q:Int),l)/\qju b=some ((q:Int),l)/\q<=b.length/\l.length<=q/\∀x∈l,x.length<=4000/\qbz x:=by
 have key:∃e,iter (fun x:Int×List (List Int)=>qhx b x.1 x.2) (0,[])=some e/\iter (fun x:Int×List (List Int)=>qkh b x.1 x.2) (0,[])=some e/\∃(q:Nat) (l:List (List Int)),e=((q:Int),l)/\q<=b.length/\l.length<=q/\∀x∈l,x.length<=4000/\qbz x:=by
  refine quZ (fun x=>∃(q:Nat) (l:List (List Int)),x=((q:Int),l)/\q<=b.length/\l.length<=q/\∀x∈l,x.length<=4000/\qbz x) (fun x=>((b.length:Int)-x.1).toNat) _ ?_ ⟨0,[],rfl,by omega,by simp,by simp⟩
  rintro _ ⟨p,l,rfl,h1,h2,h3⟩
  unfold qhx qkh;simp only;by_cases hp:p<b.length
  ·rw[dec_t (show(p:Int)<(b.length:Int) by omega),z9,z9,qzI hB hN h1,qzJ hB hN h1]
   obtain⟨q,q1,q2⟩:=qo1 b 10 p 0 0 h1;have hi:=qzK b 10 p 0 0 rfl (by simp) hB
   have hg:=qBI b 10 p 0 0;obtain⟨n,q',e,hr⟩:∃n q' e,rdI b p 0 0 10=(n,q',e):=⟨_,_,_,rfl⟩;rw[hr] at q1 hi hg ⊢;simp only at q1 hi hg;subst q1;simp only[z7];by_cases he:e=0
   ·have hg:=hg he;rw[dec_t he];simp only[zd,za];by_cases n0:n<0
    ·rw[dec_t n0];exact .inl ⟨_,rfl,rfl,p,l,rfl,h1,h2,h3⟩
    ·rw[dec_f n0];simp only[za];by_cases n1:4000<n
     ·rw[dec_t n1];exact .inl ⟨_,rfl,rfl,p,l,rfl,h1,h2,h3⟩
     ·rw[dec_f n1];simp only[za,z7];rw[wi (n:=(b.length:Int)-(q:Int)) (by omega)]
      by_cases n2:(b.length:Int)-(q:Int)<n
      ·rw[dec_t n2];exact .inl ⟨_,rfl,rfl,p,l,rfl,h1,h2,h3⟩
      ·rw[dec_f n2];simp only[za];obtain⟨m,rfl⟩:∃m:Nat,n=(m:Int):=⟨n.toNat,by omega⟩
       have hqm:(q:Int)+(m:Int)=((q+m:Nat):Int):=by omega
       rw[wi (n:=(q:Int)+(m:Int)) (by omega),hqm]
       rw[gd_t (inR_t (show q<=q+m by omega) (show q+m<=b.length by omega)),gd_t (inR_t (show q<=q+m by omega) (show q+m<=b.length by omega))]
       simp only[z8];have hlen:((b.take (q+m)).drop q).length=m:=by rw[z01,zl]; omega
       rw[qrO _ (by omega),z7,gd_t (qae (by omega)),gd_t (qae (by omega)),gd_t (qae (by omega)),zA]
       refine .inr ⟨_,rfl,rfl,⟨q+m,_,rfl,by omega,by rw[ze]; simp only[zq,zG]; omega,fun x hx=>?_⟩,by simp only; omega⟩
       rcases zu.1 hx with hx | hx
       ·exact h3 x hx
       ·rw[zH.1 hx];exact⟨by omega,fun y hy=>hB y (zI1 (zg2 hy))⟩
   ·rw[dec_f he];exact .inl ⟨_,rfl,rfl,p,l,rfl,h1,h2,h3⟩
  ·rw[dec_f (show ¬(p:Int)<(b.length:Int) by omega)]
   exact .inl ⟨_,rfl,rfl,p,l,rfl,h1,h2,h3⟩
 obtain⟨_,k1,k2,q,l,rfl,k3⟩:=key;exact⟨q,l,by unfold qgk; rw[k1]; rfl,by unfold qju; rw[k2]; rfl,k3⟩
end Go.Proofs.YtgmjmgihjjddmaaGreat
namespace Go.Proofs.YtgmjmgihjjddmaaGreat
open Go Go.Sq Wi
theorem qzT{F:List Int}(h:F.length<=1000000):qdi (F,[])=some (F,[]):=by
 unfold qdi;rw[qh5 _ (by simp) (by simp; omega),z7,qh5 _ (by simp) (by simp)]
 simp
theorem qrR{F b:List Int}(hF:qbz F)(hN:F.length<=100000)(hb:b.length<=4000):
  ∃(f:List Int×List Int) (e:Int),qfQ (F,[]) b=some (f,e)/\qgr (F,[]) b=some (f,e)/\((e=0/\f=(F,frmB b))\/(e≠0/\f=(F,[]))):=by
 obtain⟨q,l,r1,r2,r3,r4,r5⟩:=qu0 hF (by omega)
 have hf:=qv0 hb;unfold qfQ qgr;rw[qA9 hb,qzR hb];simp only[z7,zU1,zd,za];rw[r1,r2];simp only[z7];have hc:=qzT (F:=F) (by omega)
 by_cases hq:(q:Int)=(F.length:Int)
 ·rw[dec_t hq];simp only[zd,za];have e1:wi64 ((F.length:Int)+(([]:List Int).length:Int))=(F.length:Int):=by rw[wi (by simp; omega)]; simp
  rw[e1,wi (by omega)]
  by_cases hm:65536<(F.length:Int)+((frmB b).length:Int)
  ·rw[dec_t hm,hc];exact⟨(F,[]),29,rfl,rfl,.inr ⟨by decide,rfl⟩⟩
  ·rw[dec_f hm];simp only[za];rw[qh5 _ (by simp) (by simp; omega),z7,qh5 _ (by simp) (by simp; omega),gd_t (qae (by omega)),gd_t (qae (by simp)),gd_t (qae (by simp; omega))]
   exact⟨(F,frmB b),0,by simp,by simp,.inl ⟨rfl,rfl⟩⟩
 ·rw[dec_f hq,hc];exact⟨(F,[]),21,rfl,rfl,.inr ⟨by decide,rfl⟩⟩
theorem qu1{F:List Int}(hF:qbz F)(hN:F.length<=1000000):
  ∃(f:List Int) (l:List (List Int)),qff (F,[])=some ((f,[]),l)/\qg5 (F,[])=some ((f,[]),l)/\l.length<=F.length/\∀x∈l,x.length<=4000/\qbz x:=by
 obtain⟨q,l,r1,r2,r3,r4,r5⟩:=qu0 hF hN;refine⟨F.take q,l,?_,?_,by omega,r5⟩
 ·unfold qff;rw[r1];simp only[z7];rw[gd_t (by unfold cutG; simp; omega),z8,qh5 _ (by simp) (by simp; omega)]
  simp
 ·unfold qg5;rw[r2];simp only[z7];rw[gd_t (by unfold cutG; simp; omega),z8,gd_t (qae (by rw[zl]; omega))]
  simp
end Go.Proofs.YtgmjmgihjjddmaaGreat
namespace Go.Proofs.YtgmjmgihjjddmaaGreat
open Go Go.Sq Wi
theorem qxF(a b:Tel):qiy a b=some (befT a b):=quO a b
theorem qCy(n m:Int):qj8 n m=some (rg 0 m n):=tv1 n m
theorem qxG(t:Tel)(h:t.2.2.2.2.2.length<=100000):qhP t=some (qh4 t):=by
 have k:=qa2 (ε:=Unit⊕Bool) (step:=fun x=>qeh t x) t.2.2.2.2.2.length (fun i=>(i:Int)) (fun i=>rv (t.2.2.2.2.2.getD i 0)) (fin:=.inl ()) (bad:=.inr false) (fun i hi _ hq=>?_) (fun i hi _ hq=>?_) (fun _=>?_)
 ·have hall:(List.range t.2.2.2.2.2.length).all (fun i=>rv (t.2.2.2.2.2.getD i 0))=t.2.2.2.2.2.all rv:=qsv t.2.2.2.2.2 0 rv
  rw[hall] at k;unfold qhP;refine(congrArg (fun o=>Option.bind o _) k).trans ?_
  unfold qh4;cases ha:t.2.2.2.2.2.all rv with
  | false=>simp
  | true=>
   simp only[z9,z7,z21,qCy,zI2];have hd:decide ((t.2.2.2.2.2.length:Int)<=16)=decide (t.2.2.2.2.2.length<=16):=by
    by_cases h:t.2.2.2.2.2.length<=16
    ·rw[dec_t h,dec_t (by omega)]
    ·rw[dec_f h,dec_f (by omega)]
   rw[hd];generalize decide (t.2.2.2.2.2.length<=16)=e;cases rg 0 255 t.1 <;> cases rg 0 255 t.2.1 <;> cases rg 0 2147483648 t.2.2.1 <;> cases rg 0 1099511627776 t.2.2.2.1 <;> cases rg 0 63 t.2.2.2.2.1 <;> cases e <;> rfl
 ·unfold qeh;have hq:=(tv2 (t.2.2.2.2.2.getD i 0)).symm;rename_i hq0;rw[hq0] at hq;unfold qbq at hq;simp only[z8];rw[dec_t (show(i:Int)<(t.2.2.2.2.2.length:Int) by omega),z9,gd_t (inB_t hi),gd_t (inB_t hi),<-hq,z7]
  simp only[zd,za];rw[w1 hi (by omega)]
 ·unfold qeh;have hq:=(tv2 (t.2.2.2.2.2.getD i 0)).symm;rename_i hq0;rw[hq0] at hq;unfold qbq at hq;simp only[z8];rw[dec_t (show(i:Int)<(t.2.2.2.2.2.length:Int) by omega),z9,gd_t (inB_t hi),gd_t (inB_t hi),<-hq,z7]; rfl
 ·unfold qeh;rw[dec_f (show ¬(t.2.2.2.2.2.length:Int)<(t.2.2.2.2.2.length:Int) by omega)]; rfl
theorem qxH{l:List Tel}(hs:SortT l)(hn:l.length<=10000)(t:Tel):qgp t l=some ((putT l t).isSome,(putT l t).getD []):=by
 have key:∃s,iter (fun x:Int×List Tel=>qhQ t x.1 x.2) (0,l)=some s/\∃k:Nat,s=((k:Int),l)/\LbT l t.1 k:=by
  refine qnZ (fun x=>∃k:Nat,x=((k:Int),l)/\k<=l.length/\∀j,j<k->(l.getD j t0).1<t.1) (fun x=>((l.length:Int)-x.1).toNat) _ ?_ ⟨0,rfl,by omega,fun j hj=>by omega⟩
  rintro _ ⟨k,rfl,h1,h2⟩
  unfold qhQ;simp only[z8];by_cases hk:k<l.length
  ·rw[dec_t (show(k:Int)<(l.length:Int) by omega),z9,gd_t (inB_t hk),z7]
   by_cases hc:(l.getD k t0).1<t.1
   ·right;rw[dec_t (show(l.getD k (0,(0,(0,(0,(0,[])))))).1<t.1 from hc)]
    simp only[z9];rw[w1 hk (by omega)]
    refine⟨_,rfl,⟨k+1,rfl,by omega,fun j hj=>?_⟩,by simp only; omega⟩
    by_cases e:j=k
    ·rw[e]; exact hc
    ·exact h2 j (by omega)
   ·left;rw[dec_f (show ¬(l.getD k (0,(0,(0,(0,(0,[])))))).1<t.1 from hc)]
    refine⟨_,rfl,k,rfl,h1,h2,fun j hj hjl=>?_⟩
    by_cases e:j=k
    ·rw[e]; omega
    ·have:=gDp hs (i:=k) (j:=j) (by omega) hjl; omega
  ·left;rw[dec_f (show ¬(k:Int)<(l.length:Int) by omega)]
   exact⟨_,rfl,k,rfl,h1,h2,fun j hj hjl=>by omega⟩
 obtain⟨_,q1,k,rfl,hk⟩:=key;have hkl:=hk.le;unfold qgp;rw[q1,qvZ hk];simp only[z7,z8,zA];have tail:∀(c:Bool),c=false->(bif c then(gd (inB (k:Int) l.length)<|(qiy (l.getD k (0,(0,(0,(0,(0,[])))))) t).bind fun r=>bif !r then some (false,[]) else gd (inB (k:Int) l.length)<|some (true,l.set k t)) else(gd (cutG none (some (.i64,(k:Int))) l.length)<|gd (fits (0+(l.take k).length) 64)<|gd (fits ((l.take k).length+1) 64)<|gd (cutG (some (.i64,(k:Int))) none l.length)<|gd (fits ((l.take k++[t]).length+(l.drop k).length) 64)<|some (true,l.take k++[t]++l.drop k)))=some (true,l.take k++[t]++l.drop k):=by
  intro c hc;subst hc;rw[za,gd_t (by unfold cutG; simp; omega),gd_t (qae (by rw[zl]; omega)),gd_t (qae (by rw[zl]; omega)),gd_t (by unfold cutG; simp; omega),gd_t (qae (by simp only[ze,zl,z01,zq,zG]; omega))]
 by_cases hl:k<l.length
 ·rw[dec_t (show(k:Int)<(l.length:Int) by omega),z9,gd_t (inB_t hl),z7]
  by_cases he:(l.getD k t0).1=t.1
  ·rw[if_pos ⟨hl,he⟩,dec_t (show(l.getD k (0,(0,(0,(0,(0,[])))))).1=t.1 from he)]
   simp only[z9];rw[gd_t (inB_t hl),qxF,z7];cases hb:befT (l.getD k t0) t with
   | true=>
    simp only[zd,za];rw[gd_t (inB_t hl)]; rfl
   | false=>
    rfl
  ·rw[if_neg (fun h=>he h.2)]
   exact tail _ (dec_f (show ¬(l.getD k (0,(0,(0,(0,(0,[])))))).1=t.1 from he))
 ·rw[dec_f (show ¬(k:Int)<(l.length:Int) by omega),if_neg (fun h=>hl h.1)]
  exact tail _ rfl
end Go.Proofs.YtgmjmgihjjddmaaGreat
namespace Go.Proofs.YtgmjmgihjjddmaaGreat
open Go Go.Sq Wi
theorem qw3(t:Tel)(h:t.2.2.2.2.2.length<=100000):qcz t=some t:=by
 unfold qcz;rw[gd_t (qae (by omega)),zA]
theorem qzU{c:Cn}(h:CnS c):qmr c=some (c.2.2.2,c.1.1,c.1.2.1,c.1.2.2.1,c.1.2.2.2,c.2.1,c.2.2.1):=by
 unfold qmr;rw[show((c.1.1,(c.1.2.1,(c.1.2.2.1,c.1.2.2.2))):Dk)=c.1 from rfl,qoW h.d,z7,gd_t (qae (by have:=h.a; omega)),zA]
 have k1:=qbe (step:=fun x:Int×List Vl×List Int×List Int×List Bool×List Tel×List Acc4=>qg2 c x.1 x.2.1 x.2.2.1 x.2.2.2.1 x.2.2.2.2.1 x.2.2.2.2.2.1 x.2.2.2.2.2.2) (e:=(c.1.1,c.1.2.1,c.1.2.2.1,c.1.2.2.2,c.2.1,c.2.2.1)) c.2.1.length
  (fun i=>((i:Int),c.1.1,c.1.2.1,c.1.2.2.1,c.1.2.2.2,c.2.1.take i,c.2.2.1)) (fun i hi=>by
   have ht:=h.t;unfold qg2;simp only[z8];rw[dec_t (show(i:Int)<(c.2.1.length:Int) by omega),z9,gd_t (inB_t hi),qw3 _ (h.tv _ (gmem (d:=t0) hi)),z7,gd_t (qae (by rw[zl]; omega)),w1 hi (by omega)]
   rw[zm2 hi,<-gD_eq (d:=t0) hi]) (by
   unfold qg2;simp only;rw[dec_f (show ¬(c.2.1.length:Int)<(c.2.1.length:Int) by omega),za,zJ1])
 refine(congrArg (fun o=>Option.bind o _) k1).trans ?_
 rfl
theorem ralike0(p:Pth):qhO p (0,(0,([],0)))=some (decide (p.1=0)&&(decide (p.2.1=0)&&decide (p.2.2.1.length=0))):=by
 unfold qhO;simp only;by_cases h1:p.1=0
 ·rw[dec_t h1];by_cases h2:p.2.1=0
  ·rw[dec_t h2];by_cases h3:p.2.2.1.length=0
   ·rw[dec_t h3,dec_t (show(p.2.2.1.length:Int)=(([]:List (Int×Bool)).length:Int) by rw[h3]; rfl)]
    simp only[zd,za,z7];have k:iter (fun x=>qiT p (0,(0,([],0))) x) 0=some (.inl ()):=qb0 (by
     unfold qiT;rw[dec_f (show ¬(0:Int)<(p.2.2.1.length:Int) by omega)]; rfl)
    rw[k]; rfl
   ·rw[dec_f h3,dec_f (show ¬(p.2.2.1.length:Int)=(([]:List (Int×Bool)).length:Int) by simp; exact fun e=>h3 (by rw[e]; rfl))]; rfl
  ·rw[dec_f h2]; rfl
 ·rw[dec_f h1]; rfl
theorem qsI(s:Stp):qgo s=some (noB s):=by
 unfold qgo qiU noB;simp only;have ha:qhO (s.2.2.2.1,(s.2.2.2.2.1,(s.2.2.2.2.2.1,s.2.2.2.2.2.2))) (0,(0,([],0)))=some (decide (s.2.2.2.1=0)&&(decide (s.2.2.2.2.1=0)&&decide (s.2.2.2.2.2.1.length=0))):=ralike0 s.2.2.2;simp only[ha];have e:∀(a b c d i o h:Bool),((bif a then bif b then bif c then bif d then(some (i&&(o&&h)):Option Bool).bind fun r=>some r else some false else some false else some false else some false).bind fun r=>some r)=some (a&&(b&&(c&&(i&&(o&&(d&&h)))))):=by
  intro a b c d i o h;cases a <;> cases b <;> cases c <;> cases d <;> cases i <;> cases o <;> cases h <;> rfl
 exact e _ _ _ _ _ _ _
end Go.Proofs.YtgmjmgihjjddmaaGreat
namespace Go.Proofs.YtgmjmgihjjddmaaGreat
open Go Go.Sq Wi
theorem qmz(n:Net){c:Cn}(h:CnS c)(hs:SortT c.2.1)(hk:0<=c.2.2.2/\c.2.2.2<=100000)(r:Rec)(hv:r.2.1.length<=100000)(hh:r.2.2.1.2.2.2.2.2.1.length<=100000):qeO n c r=some (capp n c r):=by
 unfold qeO capp;have hc:(((c.1.1,(c.1.2.1,(c.1.2.2.1,c.1.2.2.2))),(c.2.1,(c.2.2.1,c.2.2.2))):Cn)=c:=rfl;have hst:((r.2.2.1.1,(r.2.2.1.2.1,(r.2.2.1.2.2.1,(r.2.2.1.2.2.2.1,(r.2.2.1.2.2.2.2.1,(r.2.2.1.2.2.2.2.2.1,r.2.2.1.2.2.2.2.2.2)))))):Stp)=r.2.2.1:=rfl;by_cases h0:c.2.2.2=1000
 ·rw[dec_t h0];simp only[z9];unfold capp1 capp2 capp3;simp only[if_pos h0];split
  ·rfl
  ·split
   ·rfl
   ·split <;> rfl
 ·rw[dec_f h0];simp only[za];rw[qzU h];simp only[z7];have hw:wi64 (c.2.2.2+1)=c.2.2.2+1:=wi (by omega)
  by_cases h1:r.1=1
  ·rw[dec_t h1,if_pos h1];simp only[z9];unfold capp1;rw[if_neg h0];have bad:accS c.2.1 r=(c.2.1,28)->(if(accS c.2.1 r).2=0 then((c.1,(accS c.2.1 r).1,c.2.2.1,c.2.2.2+1),(0:Int)) else(c,(accS c.2.1 r).2))=(c,28):=fun e=>by rw[e]; rfl
   by_cases l5:r.2.1.length<5
   ·rw[dec_t (show(r.2.1.length:Int)<5 by omega),bad (if_pos (.inl l5))]; rfl
   ·rw[dec_f (show ¬(r.2.1.length:Int)<5 by omega)]
    simp only[za];rw[qsI];simp only[z7];have hnb:noB (r.2.2.1.1,(r.2.2.1.2.1,(r.2.2.1.2.2.1,(r.2.2.1.2.2.2.1,(r.2.2.1.2.2.2.2.1,(r.2.2.1.2.2.2.2.2.1,r.2.2.1.2.2.2.2.2.2))))))=noB r.2.2.1:=rfl;rw[hnb];cases hb:noB r.2.2.1 with
    | false=>rw[bad (if_pos (.inr (.inl hb)))]; rfl
    | true=>
     simp only[zd,za,z7];have hne:(decide (r.2.2.2.1=[])&&(decide (r.2.2.2.2.1=0)&&decide (r.2.2.2.2.2=0)))=noE r.2.2.2:=rfl;rw[hne];cases he:noE r.2.2.2 with
     | false=>rw[bad (if_pos (.inr (.inr (.inl he))))]; rfl
     | true=>
      simp only[zd,za];rw[gd_t (qal.2 ⟨by omega,by omega⟩),gd_t (qal.2 ⟨by omega,by omega⟩),gd_t (qal.2 ⟨by omega,by omega⟩),gd_t (qal.2 ⟨by omega,by omega⟩),gd_t (qal.2 ⟨by omega,by omega⟩),gd_t (by unfold cutG; simp; omega),gd_t (qae (by rw[z01]; omega))]
      simp only[zA];have hvt:qhP (r.2.1.getD 0 0,(r.2.1.getD 1 0,(r.2.1.getD 2 0,(r.2.1.getD 3 0,(r.2.1.getD 4 0,r.2.1.drop 5)))))=some (qh4 (telOf r.2.1)):=qxG (telOf r.2.1) (by show(r.2.1.drop 5).length<=100000; rw[z01]; omega)
      rw[hvt];simp only[z7];cases hvd:qh4 (telOf r.2.1) with
      | false=>rw[bad (if_pos (.inr (.inr (.inr hvd))))]; rfl
      | true=>
       simp only[zd,za];have hsd:qgp (r.2.1.getD 0 0,(r.2.1.getD 1 0,(r.2.1.getD 2 0,(r.2.1.getD 3 0,(r.2.1.getD 4 0,r.2.1.drop 5))))) c.2.1=some ((putT c.2.1 (telOf r.2.1)).isSome,(putT c.2.1 (telOf r.2.1)).getD []):=qxH hs h.t (telOf r.2.1);rw[hsd];have hno:¬(r.2.1.length<5\/noB r.2.2.1=false\/noE r.2.2.2=false\/qh4 (telOf r.2.1)=false):=fun e=>by
        rcases e with e | e | e | e
        ·exact l5 e
        ·rw[hb] at e; cases e
        ·rw[he] at e; cases e
        ·rw[hvd] at e; cases e
       unfold accS;rw[if_neg hno];cases putT c.2.1 (telOf r.2.1) with
       | none=>rfl
       | some l'=>
        simp only[z7,zQ2,zd,za,hw]; rfl
  ·rw[dec_f h1,if_neg h1];simp only[za];by_cases h2:r.1=2
   ·rw[dec_t h2,if_pos h2];simp only[z9];unfold capp2;rw[if_neg h0];have bad:cmdS n c.1 r=(c.1,28)->(if(cmdS n c.1 r).2=0 then(((cmdS n c.1 r).1,c.2.1,c.2.2.1,c.2.2.2+1),(0:Int)) else(c,(cmdS n c.1 r).2))=(c,28):=fun e=>by rw[e]; rfl
    by_cases l0:0<r.2.1.length
    ·rw[dec_t (show 0<(r.2.1.length:Int) by omega),bad (if_pos (.inl l0))]; rfl
    ·rw[dec_f (show ¬0<(r.2.1.length:Int) by omega)]
     simp only[za,z7];have hne:(decide (r.2.2.2.1=[])&&(decide (r.2.2.2.2.1=0)&&decide (r.2.2.2.2.2=0)))=noE r.2.2.2:=rfl;rw[hne];cases he:noE r.2.2.2 with
     | false=>rw[bad (if_pos (.inr he))]; rfl
     | true=>
      rw[show cmdS n c.1 r=appS n c.1 r.2.2.1 from if_neg (fun e=>e.elim l0 (fun e=>by rw[he] at e; cases e))]
      simp only[zd,za];have ha:qhS (n.1,(n.2.1,(n.2.2.1,(n.2.2.2.1,(n.2.2.2.2.1,n.2.2.2.2.2))))) (c.1.1,(c.1.2.1,(c.1.2.2.1,c.1.2.2.2))) (r.2.2.1.1,(r.2.2.1.2.1,(r.2.2.1.2.2.1,(r.2.2.1.2.2.2.1,(r.2.2.1.2.2.2.2.1,(r.2.2.1.2.2.2.2.2.1,r.2.2.1.2.2.2.2.2.2))))))=some (appS n c.1 r.2.2.1):=qzl r.2.2.1 hh;rw[ha];simp only[z7];by_cases h3:(appS n c.1 r.2.2.1).2=0
      ·rw[dec_t h3,if_pos h3]; simp only[zd,za,hw]
      ·rw[dec_f h3,if_neg h3]; rfl
   ·rw[dec_f h2,if_neg h2];simp only[za];by_cases h3:r.1=3
    ·rw[dec_t h3,if_pos h3];simp only[z9];unfold capp3;rw[if_neg h0];have bad:postS c.2.2.1 r=(c.2.2.1,28)->(if(postS c.2.2.1 r).2=0 then((c.1,c.2.1,(postS c.2.2.1 r).1,c.2.2.2+1),(0:Int)) else(c,(postS c.2.2.1 r).2))=(c,28):=fun e=>by rw[e]; rfl
     by_cases l0:0<r.2.1.length
     ·rw[dec_t (show 0<(r.2.1.length:Int) by omega),bad (if_pos (.inl l0))]; rfl
     ·rw[dec_f (show ¬0<(r.2.1.length:Int) by omega)]
      simp only[za];rw[qsI];simp only[z7];have hnb:noB (r.2.2.1.1,(r.2.2.1.2.1,(r.2.2.1.2.2.1,(r.2.2.1.2.2.2.1,(r.2.2.1.2.2.2.2.1,(r.2.2.1.2.2.2.2.2.1,r.2.2.1.2.2.2.2.2.2))))))=noB r.2.2.1:=rfl;rw[hnb];cases hb:noB r.2.2.1 with
      | false=>rw[bad (if_pos (.inr hb))]; rfl
      | true=>
       rw[show postS c.2.2.1 r=Ac.postF c.2.2.1 r.2.2.2 from if_neg (fun e=>e.elim l0 (fun e=>by rw[hb] at e; cases e))]
       simp only[zd,za];have ha:qfI c.2.2.1 (r.2.2.2.1,(r.2.2.2.2.1,r.2.2.2.2.2))=some (Ac.postF c.2.2.1 r.2.2.2):=(Ac.post_eq (l:=c.2.2.1) (e:=r.2.2.2) (by have:=h.a; omega)).2.1
       rw[ha];simp only[z7];by_cases h4:(Ac.postF c.2.2.1 r.2.2.2).2=0
       ·rw[dec_t h4,if_pos h4]; simp only[zd,za,hw]
       ·rw[dec_f h4,if_neg h4]; rfl
    ·rw[dec_f h3,if_neg h3,if_neg h0]; rfl
end Go.Proofs.YtgmjmgihjjddmaaGreat
namespace Go.Proofs.YtgmjmgihjjddmaaGreat
open Go Go.Sq Wi
theorem qDa{d e:Dk}(h:DkS d)(hl:Ln d e):DkS e:=⟨by rw[hl.v]; exact h.v,by rw[hl.r]; exact h.r,by rw[hl.p]; exact h.p,by rw[hl.b]; exact h.b⟩
structure CnG(c:Cn)(k:Nat):Prop where
 d:DkS c.1
 t:c.2.1.length<=k
 tv:∀x∈c.2.1,x.2.2.2.2.2.length<=100000
 srt:SortT c.2.1
 a:c.2.2.1.length<=k
 n0:0<=c.2.2.2
 n1:c.2.2.2<=k
theorem CnG.cns{c:Cn}{k:Nat}(h:CnG c k)(hk:k<=10000):CnS c:=⟨h.d,by have:=h.t; omega,h.tv,by have:=h.a; omega⟩
theorem CnG.up{c:Cn}{k:Nat}(h:CnG c k):CnG c (k+1):=⟨h.d,zi1 h.t,h.tv,h.srt,zi1 h.a,h.n0,by have:=h.n1; omega⟩
theorem qo2{n:Net}{c:Cn}{r:Rec}{k:Nat}(hi:CnG c k)(hk:k<=10000)(hr:RecP r)(h:(capp n c r).2=0):CnG (capp n c r).1 (k+1)/\(capp n c r).1.2.2.2=c.2.2.2+1∧
  (if r.1=2 then appS n c.1 r.2.2.1=((capp n c r).1.1,0) else(capp n c r).1.1=c.1)/\(if r.1=3 then Ac.postF c.2.2.1 r.2.2.2=((capp n c r).1.2.2.1,0) else(capp n c r).1.2.2.1=c.2.2.1):=by
 have hn0:=hi.n0; have hn1:=hi.n1;unfold capp at h ⊢;by_cases k1:r.1=1
 ·rw[if_pos k1] at h ⊢;rw[if_neg (by omega),if_neg (by omega)]
  unfold capp1 at h ⊢;by_cases h1:c.2.2.2=1000
  ·rw[if_pos h1] at h; cases h
  rw[if_neg h1] at h ⊢;by_cases h2:(accS c.2.1 r).2=0
  ·rw[if_pos h2];refine⟨?_,rfl,rfl,rfl⟩
   unfold accS at h2 ⊢;by_cases h3:r.2.1.length<5\/noB r.2.2.1=false\/noE r.2.2.2=false\/qh4 (telOf r.2.1)=false
   ·rw[if_pos h3] at h2; cases h2
   rw[if_neg h3] at h2 ⊢;cases hp:putT c.2.1 (telOf r.2.1) with
   | none=>rw[hp] at h2; cases h2
   | some l'=>
    have hq:=ql2 hi.srt hp;refine⟨hi.d,z81 hq.len (by have:=hi.t; omega),fun x hx=>?_,hq.srt,zi1 hi.a,by simp only; omega,by simp only; omega⟩
    rcases hq.frm x hx with rfl | ⟨hx,_⟩
    ·have:=hr.v; show(List.drop 5 _).length<=_; simp; omega
    ·exact hi.tv x hx
  ·rw[if_neg h2] at h; exact absurd h h2
 rw[if_neg k1] at h ⊢;by_cases k2:r.1=2
 ·rw[if_pos k2] at h ⊢;rw[if_pos k2,if_neg (by omega)]
  unfold capp2 at h ⊢;by_cases h1:c.2.2.2=1000
  ·rw[if_pos h1] at h; cases h
  rw[if_neg h1] at h ⊢;by_cases h2:(cmdS n c.1 r).2=0
  ·rw[if_pos h2];unfold cmdS at h2 ⊢;by_cases h3:0<r.2.1.length\/noE r.2.2.2=false
   ·rw[if_pos h3] at h2; cases h2
   rw[if_neg h3] at h2 ⊢;exact⟨⟨qDa hi.d (qzm _ _),zi1 hi.t,hi.tv,hi.srt,zi1 hi.a,by simp only; omega,by simp only; omega⟩,rfl,Prod.ext rfl h2,rfl⟩
  ·rw[if_neg h2] at h; exact absurd h h2
 rw[if_neg k2] at h ⊢;rw[if_neg k2];by_cases k3:r.1=3
 ·rw[if_pos k3] at h ⊢;rw[if_pos k3];unfold capp3 at h ⊢;by_cases h1:c.2.2.2=1000
  ·rw[if_pos h1] at h; cases h
  rw[if_neg h1] at h ⊢;by_cases h2:(postS c.2.2.1 r).2=0
  ·rw[if_pos h2];unfold postS at h2 ⊢;by_cases h3:0<r.2.1.length\/noB r.2.2.1=false
   ·rw[if_pos h3] at h2; cases h2
   rw[if_neg h3] at h2 ⊢;have ha:=hi.a;exact⟨⟨hi.d,zi1 hi.t,hi.tv,hi.srt,z81 (Ac.post_len (by omega)) (by omega),by simp only; omega,by simp only; omega⟩,rfl,rfl,Prod.ext rfl h2⟩
  ·rw[if_neg h2] at h; exact absurd h h2
 ·rw[if_neg k3] at h;exfalso;revert h;simp only;split <;> simp
end Go.Proofs.YtgmjmgihjjddmaaGreat
namespace Go.Proofs.YtgmjmgihjjddmaaGreat
open Go Go.Sq Wi
theorem qzV(n:Net)(t:Int):qfE n t=some (idleS n t):=by
 by_cases h0:qbZ n=0
 ·have hn:=VNet.of h0;have m1:=hn.small.sg;have m2:=hn.small.po;have m3:=hn.small.st;by_cases ht:1<=t/\t<=60
  ·rw[qA6 h0 ⟨by omega,by omega⟩ ht]
   unfold idleS;rw[if_neg (fun e=>e h0),rg_t ht]; rfl
  ·unfold qfE idleS;rw[qaL,qfK,z7,dec_t h0,if_neg (fun e=>e h0),show rg 1 60 t=false by unfold rg; simp; omega]
   by_cases h1:t<1
   ·rw[dec_t h1]; rfl
   ·rw[dec_f h1,dec_t (show 60<t by omega)]; rfl
 ·unfold qfE idleS;rw[qaL,qfK,z7,dec_f h0,if_pos h0]; rfl
theorem qBa(n:Net)(t:Int):DkS (idleS n t).1:=by
 unfold idleS;by_cases h0:qbZ n=0
 ·have hn:=VNet.of h0;have m1:=hn.small.sg;have m2:=hn.small.po;have m3:=hn.small.st;rw[if_neg (fun e=>e h0)]
  cases rg 1 60 t
  ·exact⟨by simp,by simp,by simp,by simp⟩
  ·exact⟨by simp; omega,by simp; omega,by simp; omega,by simp; omega⟩
 ·rw[if_pos h0]; exact⟨by simp,by simp,by simp,by simp⟩
abbrev zC:Cn:=(([],([],([],[]))),([],([],0)))
theorem cng0{d:Dk}(h:DkS d):CnG (d,([],([],0))) 0:=⟨h,by simp,by simp,by unfold SortT; simp,by simp,by simp,by simp⟩
theorem qtR(n:Net)(t:Int)(hp:1<=n.2.1.length+n.2.2.1.length):∃c e,qha n t=some (c,e)/\qji n t=some (c,e)/\CnG c 0/\c.2.2.2=0/\(qbZ n=0->1<=t/\t<=60->c.1.1.length=n.2.1.length+n.2.2.1.length):=by
 unfold qha qji;rw[qaL,qCh n t (fun _=>hp),qzV,z7]
 have hd:=qBa n t;by_cases h0:(idleS n t).2=0
 ·rw[dec_t h0];refine⟨((idleS n t).1,([],([],0))),0,rfl,rfl,cng0 hd,rfl,fun h ht=>?_⟩
  unfold idleS;rw[if_neg (fun e=>e h),rg_t ht]
  simp
 ·rw[dec_f h0];refine⟨_,_,rfl,rfl,cng0 ⟨by simp,by simp,by simp,by simp⟩,rfl,fun h ht=>absurd ?_ h0⟩
  unfold idleS;rw[if_neg (fun e=>e h),rg_t ht]; rfl
theorem qw4{b:List Int}:∀(n p:Nat) (ok:Bool) (l:List Int),(nums b n p ok l).2.2.length=n+l.length
 | 0,p,ok,l=>by unfold nums; simp only; omega
 | n+1,p,ok,l=>by unfold nums; rw[qw4 n]; simp; omega
theorem qw5{b:List Int}:∀(n p:Nat) (ok:Bool) (l:List (Int×Bool)),(hops b n p ok l).2.2.length=n+l.length
 | 0,p,ok,l=>by unfold hops; simp only; omega
 | n+1,p,ok,l=>by unfold hops; rw[qw5 n]; simp; omega
theorem qDb(b:List Int):RecP (decR b).1:=by
 unfold decR;split
 ·exact⟨by simp[zR],by simp[zR]⟩
 ·have h1:=qsG (b:=b) (m:=21) (by omega) (p:=(d1 b).2.1) (ok:=(d1 b).2.2)
  have h2:=qsG (b:=b) (m:=32) (by omega) (p:=(d7 b).2.1) (ok:=(d7 b).2.2)
  refine⟨?_,?_⟩
  ·show(dv b).2.2.length<=100;unfold dv; rw[qw4];have:(d2 b).1<=21:=h1.2;simp; omega
  ·show(dh b).2.2.length<=100;unfold dh; rw[qw5];have:(d8 b).1<=32:=h2.2;simp; omega
theorem qzW{n:Net}{c:Cn}{r:Rec}(h:c.2.2.2=1000):(capp n c r).2≠0:=by
 unfold capp capp1 capp2 capp3;simp only[if_pos h]
 repeat' split
 all_goals simp
abbrev rsT:Type:=Int×List Int×List Int×List Vl×List Int×List Int×List Bool×List Tel×List Acc4×Int×List Vl×List Int×List Int×List Bool×List Tel×List Acc4×Int×List (List Int)
abbrev rsX(k:Nat)(c:Cn)(l:List (List Int)):rsT:=((k:Int),[],[],[],[],[],[],[],[],0,c.1.1,c.1.2.1,c.1.2.2.1,c.1.2.2.2,c.2.1,c.2.2.1,c.2.2.2,l)
theorem qu2(n:Net)(t:Int)(hp:1<=n.2.1.length+n.2.2.1.length){F:List Int}(hF:qbz F)(hN:F.length<=100000):
  ∃f c e,qd9 n t (F,[])=some (f,c,e)/\qg6 n t (F,[])=some (f,c,e)/\CnS c:=by
 obtain⟨c0,e,n1,n2,g,g0,_⟩:=qtR n t hp;obtain⟨f,l,v1,v2,v3,v4⟩:=qu1 hF (by omega)
 unfold qd9 qg6;simp only;rw[qrO _ (by omega),z7,qrO _ (by simp),z7,qaL,n1,n2]
 simp only[z7];by_cases h0:e=0
 ·rw[dec_t h0];simp only[zd,za];rw[v1,v2];simp only[z7];obtain⟨q,k1,k2,hq⟩:∃q,iter (fun x:rsT=>qfA n F [] ((f,[]),l) x.1 x.2.1 x.2.2.1 x.2.2.2.1 x.2.2.2.2.1 x.2.2.2.2.2.1 x.2.2.2.2.2.2.1 x.2.2.2.2.2.2.2.1 x.2.2.2.2.2.2.2.2.1 x.2.2.2.2.2.2.2.2.2.1 x.2.2.2.2.2.2.2.2.2.2.1 x.2.2.2.2.2.2.2.2.2.2.2.1 x.2.2.2.2.2.2.2.2.2.2.2.2.1 x.2.2.2.2.2.2.2.2.2.2.2.2.2.1 x.2.2.2.2.2.2.2.2.2.2.2.2.2.2.1 x.2.2.2.2.2.2.2.2.2.2.2.2.2.2.2.1 x.2.2.2.2.2.2.2.2.2.2.2.2.2.2.2.2.1 x.2.2.2.2.2.2.2.2.2.2.2.2.2.2.2.2.2) (rsX 0 c0 l)=some q∧
    iter (fun x:rsT=>qgF n (F,[]) x.1 x.2.1 x.2.2.1 x.2.2.2.1 x.2.2.2.2.1 x.2.2.2.2.2.1 x.2.2.2.2.2.2.1 x.2.2.2.2.2.2.2.1 x.2.2.2.2.2.2.2.2.1 x.2.2.2.2.2.2.2.2.2.1 x.2.2.2.2.2.2.2.2.2.2.1 x.2.2.2.2.2.2.2.2.2.2.2.1 x.2.2.2.2.2.2.2.2.2.2.2.2.1 x.2.2.2.2.2.2.2.2.2.2.2.2.2.1 x.2.2.2.2.2.2.2.2.2.2.2.2.2.2.1 x.2.2.2.2.2.2.2.2.2.2.2.2.2.2.2.1 x.2.2.2.2.2.2.2.2.2.2.2.2.2.2.2.2.1 x.2.2.2.2.2.2.2.2.2.2.2.2.2.2.2.2.2) (rsX 0 c0 l)=some q∧
    (q=.inr (28,F,[],[],[],[],[],[],[],0)\/∃c:Cn,CnS c/\q=.inl ([],[],[],[],[],[],[],[],0,c.1.1,c.1.2.1,c.1.2.2.1,c.1.2.2.2,c.2.1,c.2.2.1,c.2.2.2)):=by
   refine quZ (fun x=>∃(k:Nat) (c:Cn),x=rsX k c l/\k<=l.length/\k<=1000/\CnG c k/\c.2.2.2=(k:Int)) (fun x=>((l.length:Int)-x.1).toNat) _ ?_ ⟨0,c0,rfl,by omega,by omega,g,g0⟩
   rintro _ ⟨k,c,rfl,h1,h2,h3,h4⟩
   unfold qfA qgF;simp only[z8];have hcs:=h3.cns (by omega)
   by_cases hk:k<l.length
   ·rw[dec_t (show(k:Int)<(l.length:Int) by omega),z9,z9,gd_t (inB_t hk),gd_t (inB_t hk)]
    obtain⟨u1,u2⟩:=v4 _ (gmem (d:=[]) hk);rw[wdec u2 (by omega),rdec u2 (by omega)]
    simp only[z7];have hr:=qDb (l.getD k []);generalize decR (l.getD k [])=z at*
    obtain⟨r,e2⟩:=z;simp only at hr ⊢;by_cases he:e2=0
    ·rw[dec_t he];simp only[zd,za];rw[qaL];have a1:=apply_eq' n hcs h3.srt (by omega) r (by have:=hr.v; omega)
     have a2:=qmz n hcs h3.srt (by omega) r (by have:=hr.v; omega) (by have:=hr.h; omega)
     by_cases hz:(capp n c r).2=0
     ·right;have hc:=qo2 h3 (by omega) hr hz
      have hn:k≠1000:=fun e=>qzW (n:=n) (r:=r) (by omega) hz
      refine⟨rsX (k+1) (capp n c r).1 l,?_,?_,⟨k+1,_,rfl,by omega,by omega,hc.1,by rw[hc.2.1]; omega⟩,by simp only; omega⟩
      ·refine(congrArg (fun o=>Option.bind o _) a1).trans ?_
       rw[z7,dec_t hz,zd,za,w1 hk (by omega)]
      ·refine(congrArg (fun o=>Option.bind o _) a2).trans ?_
       rw[z7,dec_t hz,zd,za,w1 hk (by omega)]
     ·left;refine⟨_,?_,?_,.inl rfl⟩
      ·refine(congrArg (fun o=>Option.bind o _) a1).trans ?_
       rw[z7,dec_f hz]; rfl
      ·refine(congrArg (fun o=>Option.bind o _) a2).trans ?_
       rw[z7,dec_f hz]; rfl
    ·rw[dec_f he];exact .inl ⟨_,rfl,rfl,.inl rfl⟩
   ·rw[dec_f (show ¬(k:Int)<(l.length:Int) by omega)]
    exact .inl ⟨_,rfl,rfl,.inr ⟨c,hcs,rfl⟩⟩
  rcases hq with rfl | ⟨c,hc,rfl⟩
  ·exact⟨(F,[]),zC,28,(congrArg (fun o=>Option.bind o _) k1).trans rfl,(congrArg (fun o=>Option.bind o _) k2).trans rfl,(cng0 ⟨by simp,by simp,by simp,by simp⟩).cns (by omega)⟩
  ·exact⟨(f,[]),c,0,(congrArg (fun o=>Option.bind o _) k1).trans rfl,(congrArg (fun o=>Option.bind o _) k2).trans rfl,hc⟩
 ·rw[dec_f h0];exact⟨(F,[]),zC,e,rfl,rfl,(cng0 ⟨by simp,by simp,by simp,by simp⟩).cns (by omega)⟩
end Go.Proofs.YtgmjmgihjjddmaaGreat
