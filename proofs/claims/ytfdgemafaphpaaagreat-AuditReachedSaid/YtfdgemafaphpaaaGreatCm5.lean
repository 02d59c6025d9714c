/- The reference's state: telegrams in their places, copies. No condition. -/
import Derived.Test.YtfdgemafaphpaaaGreatCr4
namespace Go.Proofs.YtfdgemafaphpaaaGreat
open Go Go.Sq Wi
theorem qyp(a b:Tel):qh7 a b=some (befT a b):=qu9 a b
theorem qDI(n m:Int):qjF n m=some (rg 0 m n):=tv1 n m
theorem qyq(t:Tel)(h:t.2.2.2.2.2.length<=100000):qhw t=some (qe9 t):=by
 have k:=qbn (ε:=Unit⊕Bool) (step:=fun x=>qee t x) t.2.2.2.2.2.length (fun i=>(i:Int)) (fun i=>rv (t.2.2.2.2.2.getD i 0)) (fin:=.inl ()) (bad:=.inr false) (fun i hi _ hq=>?_) (fun i hi _ hq=>?_) (fun _=>?_)
 ·have hall:(List.range t.2.2.2.2.2.length).all (fun i=>rv (t.2.2.2.2.2.getD i 0))=t.2.2.2.2.2.all rv:=qrF t.2.2.2.2.2 0 rv
  rw[hall] at k;unfold qhw;refine(congrArg (fun o=>Option.bind o _) k).trans ?_
  unfold qe9;cases ha:t.2.2.2.2.2.all rv with
  | false=>simp
  | true=>
   simp only[zb,z7,z51,qDI,zN2];have hd:decide ((t.2.2.2.2.2.length:Int)<=16)=decide (t.2.2.2.2.2.length<=16):=by
    by_cases h:t.2.2.2.2.2.length<=16
    ·rw[dec_t h,dec_t (by omega)]
    ·rw[dec_f h,dec_f (by omega)]
   rw[hd];generalize decide (t.2.2.2.2.2.length<=16)=e;cases rg 0 255 t.1 <;> cases rg 0 255 t.2.1 <;> cases rg 0 2147483648 t.2.2.1 <;> cases rg 0 1099511627776 t.2.2.2.1 <;> cases rg 0 63 t.2.2.2.2.1 <;> cases e <;> rfl
 ·unfold qee;have hq:=(tv2 (t.2.2.2.2.2.getD i 0)).symm;rename_i hq0;rw[hq0] at hq;unfold qbz at hq;simp only[z8];rw[dec_t (show(i:Int)<(t.2.2.2.2.2.length:Int) by omega),zb,gd_t (inB_t hi),gd_t (inB_t hi),<-hq,z7]
  simp only[ze,za];rw[w1 hi (by omega)]
 ·unfold qee;have hq:=(tv2 (t.2.2.2.2.2.getD i 0)).symm;rename_i hq0;rw[hq0] at hq;unfold qbz at hq;simp only[z8];rw[dec_t (show(i:Int)<(t.2.2.2.2.2.length:Int) by omega),zb,gd_t (inB_t hi),gd_t (inB_t hi),<-hq,z7]; rfl
 ·unfold qee;rw[dec_f (show ¬(t.2.2.2.2.2.length:Int)<(t.2.2.2.2.2.length:Int) by omega)]; rfl
theorem qyr{l:List Tel}(hs:SortT l)(hn:l.length<=10000)(t:Tel):qgv t l=some ((putT l t).isSome,(putT l t).getD []):=by
 have key:∃s,iter (fun x:Int×List Tel=>qhx t x.1 x.2) (0,l)=some s/\∃k:Nat,s=((k:Int),l)/\LbT l t.1 k:=by
  refine qjv (fun x=>∃k:Nat,x=((k:Int),l)/\k<=l.length/\∀j,j<k->(l.getD j t0).1<t.1) (fun x=>((l.length:Int)-x.1).toNat) _ ?_ ⟨0,rfl,by omega,fun j hj=>by omega⟩
  rintro _ ⟨k,rfl,h1,h2⟩
  unfold qhx;simp only[z8];by_cases hk:k<l.length
  ·rw[dec_t (show(k:Int)<(l.length:Int) by omega),zb,gd_t (inB_t hk),z7]
   by_cases hc:(l.getD k t0).1<t.1
   ·right;rw[dec_t (show(l.getD k (0,0,0,0,0,[])).1<t.1 from hc)]
    simp only[zb];rw[w1 hk (by omega)]
    refine⟨_,rfl,⟨k+1,rfl,by omega,fun j hj=>?_⟩,by simp only; omega⟩
    by_cases e:j=k
    ·rw[e]; exact hc
    ·exact h2 j (by omega)
   ·left;rw[dec_f (show ¬(l.getD k (0,0,0,0,0,[])).1<t.1 from hc)]
    refine⟨_,rfl,k,rfl,h1,h2,fun j hj hjl=>?_⟩
    by_cases e:j=k
    ·rw[e]; omega
    ·have:=gDp hs (i:=k) (j:=j) (by omega) hjl; omega
  ·left;rw[dec_f (show ¬(k:Int)<(l.length:Int) by omega)]
   exact⟨_,rfl,k,rfl,h1,h2,fun j hj hjl=>by omega⟩
 obtain⟨_,q1,k,rfl,hk⟩:=key;have hkl:=hk.le;unfold qgv;rw[q1,qwt hk];simp only[z7,z8,zD];have tail:∀(c:Bool),c=false->(bif c then(gd (inB (k:Int) l.length)<|(qh7 (l.getD k (0,0,0,0,0,[])) t).bind fun r=>bif !r then some (false,[]) else gd (inB (k:Int) l.length)<|some (true,l.set k t)) else(gd (cutG none (some (.i64,(k:Int))) l.length)<|gd (fits (0+(l.take k).length) 64)<|gd (fits ((l.take k).length+1) 64)<|gd (cutG (some (.i64,(k:Int))) none l.length)<|gd (fits ((l.take k++[t]).length+(l.drop k).length) 64)<|some (true,l.take k++[t]++l.drop k)))=some (true,l.take k++[t]++l.drop k):=by
  intro c hc;subst hc;rw[za,gd_t (by unfold cutG; simp; omega),gd_t (qaj (by rw[zk]; omega)),gd_t (qaj (by rw[zk]; omega)),gd_t (by unfold cutG; simp; omega),gd_t (qaj (by simp only[zd,zk,zY,zt,zK]; omega))]
 by_cases hl:k<l.length
 ·rw[dec_t (show(k:Int)<(l.length:Int) by omega),zb,gd_t (inB_t hl),z7]
  by_cases he:(l.getD k t0).1=t.1
  ·rw[if_pos ⟨hl,he⟩,dec_t (show(l.getD k (0,0,0,0,0,[])).1=t.1 from he)]
   simp only[zb];rw[gd_t (inB_t hl),qyp,z7];cases hb:befT (l.getD k t0) t with
   | true=>
    simp only[ze,za];rw[gd_t (inB_t hl)]; rfl
   | false=>
    rfl
  ·rw[if_neg (fun h=>he h.2)]
   exact tail _ (dec_f (show ¬(l.getD k (0,0,0,0,0,[])).1=t.1 from he))
 ·rw[dec_f (show ¬(k:Int)<(l.length:Int) by omega),if_neg (fun h=>hl h.1)]
  exact tail _ rfl
end Go.Proofs.YtfdgemafaphpaaaGreat
namespace Go.Proofs.YtfdgemafaphpaaaGreat
open Go Go.Sq Wi
theorem qB2(t:Tel)(h:t.2.2.2.2.2.length<=100000):qdp t=some t:=by
 unfold qdp;rw[gd_t (qaj (by omega)),zD]
theorem qAF{c:Cn}(h:CnS c):qlV c=some (c.2.2.2,c.1.1,c.1.2.1,c.1.2.2.1,c.1.2.2.2,c.2.1,c.2.2.1):=by
 unfold qlV;rw[show((c.1.1,c.1.2.1,c.1.2.2.1,c.1.2.2.2):Dk)=c.1 from rfl,qoJ h.d,z7,gd_t (qaj (by have:=h.a; omega)),zD]
 have k1:=qaG (step:=fun x:Int×List Vl×List Int×List Int×List Bool×List Tel×List Acc4=>qg2 c x.1 x.2.1 x.2.2.1 x.2.2.2.1 x.2.2.2.2.1 x.2.2.2.2.2.1 x.2.2.2.2.2.2) (e:=(c.1.1,c.1.2.1,c.1.2.2.1,c.1.2.2.2,c.2.1,c.2.2.1)) c.2.1.length
  (fun i=>((i:Int),c.1.1,c.1.2.1,c.1.2.2.1,c.1.2.2.2,c.2.1.take i,c.2.2.1)) (fun i hi=>by
   have ht:=h.t;unfold qg2;simp only[z8];rw[dec_t (show(i:Int)<(c.2.1.length:Int) by omega),zb,gd_t (inB_t hi),qB2 _ (h.tv _ (gmem (d:=t0) hi)),z7,gd_t (qaj (by rw[zk]; omega)),w1 hi (by omega)]
   rw[zx1 hi,<-gD_eq (d:=t0) hi]) (by
   unfold qg2;simp only;rw[dec_f (show ¬(c.2.1.length:Int)<(c.2.1.length:Int) by omega),za,zk1])
 refine(congrArg (fun o=>Option.bind o _) k1).trans ?_
 rfl
theorem ralike0(p:Pth):qhv p (0,0,[],0)=some (decide (p.1=0)&&(decide (p.2.1=0)&&decide (p.2.2.1.length=0))):=by
 unfold qhv;simp only;by_cases h1:p.1=0
 ·rw[dec_t h1];by_cases h2:p.2.1=0
  ·rw[dec_t h2];by_cases h3:p.2.2.1.length=0
   ·rw[dec_t h3,dec_t (show(p.2.2.1.length:Int)=(([]:List (Int×Bool)).length:Int) by rw[h3]; rfl)]
    simp only[ze,za,z7];have k:iter (fun x=>qiA p (0,0,[],0) x) 0=some (.inl ()):=qb0 (by
     unfold qiA;rw[dec_f (show ¬(0:Int)<(p.2.2.1.length:Int) by omega)]; rfl)
    rw[k]; rfl
   ·rw[dec_f h3,dec_f (show ¬(p.2.2.1.length:Int)=(([]:List (Int×Bool)).length:Int) by simp; exact fun e=>h3 (by rw[e]; rfl))]; rfl
  ·rw[dec_f h2]; rfl
 ·rw[dec_f h1]; rfl
theorem qsQ(s:Stp):qgu s=some (noB s):=by
 unfold qgu qiB noB;simp only;have ha:qhv (s.2.2.2.1,s.2.2.2.2.1,s.2.2.2.2.2.1,s.2.2.2.2.2.2) (0,0,[],0)=some (decide (s.2.2.2.1=0)&&(decide (s.2.2.2.2.1=0)&&decide (s.2.2.2.2.2.1.length=0))):=ralike0 s.2.2.2;simp only[ha];have e:∀(a b c d i o h:Bool),((bif a then bif b then bif c then bif d then(some (i&&(o&&h)):Option Bool).bind fun r=>some r else some false else some false else some false else some false).bind fun r=>some r)=some (a&&(b&&(c&&(i&&(o&&(d&&h)))))):=by
  intro a b c d i o h;cases a <;> cases b <;> cases c <;> cases d <;> cases i <;> cases o <;> cases h <;> rfl
 exact e _ _ _ _ _ _ _
end Go.Proofs.YtfdgemafaphpaaaGreat
namespace Go.Proofs.YtfdgemafaphpaaaGreat
open Go Go.Sq Wi
theorem qys(n:Net){c:Cn}(h:CnS c)(hs:SortT c.2.1)(hk:0<=c.2.2.2/\c.2.2.2<=100000)(r:Rec)(hv:r.2.1.length<=100000)(hh:r.2.2.1.2.2.2.2.2.1.length<=100000):qjN n c r=some (capp n c r):=by
 unfold qjN capp;have hc:(((c.1.1,c.1.2.1,c.1.2.2.1,c.1.2.2.2),c.2.1,c.2.2.1,c.2.2.2):Cn)=c:=rfl;have hst:((r.2.2.1.1,r.2.2.1.2.1,r.2.2.1.2.2.1,r.2.2.1.2.2.2.1,r.2.2.1.2.2.2.2.1,r.2.2.1.2.2.2.2.2.1,r.2.2.1.2.2.2.2.2.2):Stp)=r.2.2.1:=rfl;by_cases h0:c.2.2.2=1000
 ·rw[dec_t h0];simp only[zb];unfold capp1 capp2 capp3;simp only[if_pos h0];split
  ·rfl
  ·split
   ·rfl
   ·split <;> rfl
 ·rw[dec_f h0];simp only[za];rw[qAF h];simp only[z7];have hw:wi64 (c.2.2.2+1)=c.2.2.2+1:=wi (by omega)
  by_cases h1:r.1=1
  ·rw[dec_t h1,if_pos h1];simp only[zb];unfold capp1;rw[if_neg h0];have bad:accS c.2.1 r=(c.2.1,28)->(if(accS c.2.1 r).2=0 then((c.1,(accS c.2.1 r).1,c.2.2.1,c.2.2.2+1),(0:Int)) else(c,(accS c.2.1 r).2))=(c,28):=fun e=>by rw[e]; rfl
   by_cases l5:r.2.1.length<5
   ·rw[dec_t (show(r.2.1.length:Int)<5 by omega),bad (if_pos (.inl l5))]; rfl
   ·rw[dec_f (show ¬(r.2.1.length:Int)<5 by omega)]
    simp only[za];rw[qsQ];simp only[z7];have hnb:noB (r.2.2.1.1,r.2.2.1.2.1,r.2.2.1.2.2.1,r.2.2.1.2.2.2.1,r.2.2.1.2.2.2.2.1,r.2.2.1.2.2.2.2.2.1,r.2.2.1.2.2.2.2.2.2)=noB r.2.2.1:=rfl;rw[hnb];cases hb:noB r.2.2.1 with
    | false=>rw[bad (if_pos (.inr (.inl hb)))]; rfl
    | true=>
     simp only[ze,za,z7];have hne:(decide (r.2.2.2.1=[])&&(decide (r.2.2.2.2.1=0)&&decide (r.2.2.2.2.2=0)))=noE r.2.2.2:=rfl;rw[hne];cases he:noE r.2.2.2 with
     | false=>rw[bad (if_pos (.inr (.inr (.inl he))))]; rfl
     | true=>
      simp only[ze,za];rw[gd_t (qan.2 ⟨by omega,by omega⟩),gd_t (qan.2 ⟨by omega,by omega⟩),gd_t (qan.2 ⟨by omega,by omega⟩),gd_t (qan.2 ⟨by omega,by omega⟩),gd_t (qan.2 ⟨by omega,by omega⟩),gd_t (by unfold cutG; simp; omega),gd_t (qaj (by rw[zY]; omega))]
      simp only[zD];have hvt:qhw (r.2.1.getD 0 0,r.2.1.getD 1 0,r.2.1.getD 2 0,r.2.1.getD 3 0,r.2.1.getD 4 0,r.2.1.drop 5)=some (qe9 (telOf r.2.1)):=qyq (telOf r.2.1) (by show(r.2.1.drop 5).length<=100000; rw[zY]; omega)
      rw[hvt];simp only[z7];cases hvd:qe9 (telOf r.2.1) with
      | false=>rw[bad (if_pos (.inr (.inr (.inr hvd))))]; rfl
      | true=>
       simp only[ze,za];have hsd:qgv (r.2.1.getD 0 0,r.2.1.getD 1 0,r.2.1.getD 2 0,r.2.1.getD 3 0,r.2.1.getD 4 0,r.2.1.drop 5) c.2.1=some ((putT c.2.1 (telOf r.2.1)).isSome,(putT c.2.1 (telOf r.2.1)).getD []):=qyr hs h.t (telOf r.2.1);rw[hsd];have hno:¬(r.2.1.length<5\/noB r.2.2.1=false\/noE r.2.2.2=false\/qe9 (telOf r.2.1)=false):=fun e=>by
        rcases e with e | e | e | e
        ·exact l5 e
        ·rw[hb] at e; cases e
        ·rw[he] at e; cases e
        ·rw[hvd] at e; cases e
       unfold accS;rw[if_neg hno];cases putT c.2.1 (telOf r.2.1) with
       | none=>rfl
       | some l'=>
        simp only[z7,zV2,ze,za,hw]; rfl
  ·rw[dec_f h1,if_neg h1];simp only[za];by_cases h2:r.1=2
   ·rw[dec_t h2,if_pos h2];simp only[zb];unfold capp2;rw[if_neg h0];have bad:cmdS n c.1 r=(c.1,28)->(if(cmdS n c.1 r).2=0 then(((cmdS n c.1 r).1,c.2.1,c.2.2.1,c.2.2.2+1),(0:Int)) else(c,(cmdS n c.1 r).2))=(c,28):=fun e=>by rw[e]; rfl
    by_cases l0:0<r.2.1.length
    ·rw[dec_t (show 0<(r.2.1.length:Int) by omega),bad (if_pos (.inl l0))]; rfl
    ·rw[dec_f (show ¬0<(r.2.1.length:Int) by omega)]
     simp only[za,z7];have hne:(decide (r.2.2.2.1=[])&&(decide (r.2.2.2.2.1=0)&&decide (r.2.2.2.2.2=0)))=noE r.2.2.2:=rfl;rw[hne];cases he:noE r.2.2.2 with
     | false=>rw[bad (if_pos (.inr he))]; rfl
     | true=>
      rw[show cmdS n c.1 r=appS n c.1 r.2.2.1 from if_neg (fun e=>e.elim l0 (fun e=>by rw[he] at e; cases e))]
      simp only[ze,za];have ha:qhz (n.1,n.2.1,n.2.2.1,n.2.2.2.1,n.2.2.2.2.1,n.2.2.2.2.2) (c.1.1,c.1.2.1,c.1.2.2.1,c.1.2.2.2) (r.2.2.1.1,r.2.2.1.2.1,r.2.2.1.2.2.1,r.2.2.1.2.2.2.1,r.2.2.1.2.2.2.2.1,r.2.2.1.2.2.2.2.2.1,r.2.2.1.2.2.2.2.2.2)=some (appS n c.1 r.2.2.1):=qz6 r.2.2.1 hh;rw[ha];simp only[z7];by_cases h3:(appS n c.1 r.2.2.1).2=0
      ·rw[dec_t h3,if_pos h3]; simp only[ze,za,hw]
      ·rw[dec_f h3,if_neg h3]; rfl
   ·rw[dec_f h2,if_neg h2];simp only[za];by_cases h3:r.1=3
    ·rw[dec_t h3,if_pos h3];simp only[zb];unfold capp3;rw[if_neg h0];have bad:postS c.2.2.1 r=(c.2.2.1,28)->(if(postS c.2.2.1 r).2=0 then((c.1,c.2.1,(postS c.2.2.1 r).1,c.2.2.2+1),(0:Int)) else(c,(postS c.2.2.1 r).2))=(c,28):=fun e=>by rw[e]; rfl
     by_cases l0:0<r.2.1.length
     ·rw[dec_t (show 0<(r.2.1.length:Int) by omega),bad (if_pos (.inl l0))]; rfl
     ·rw[dec_f (show ¬0<(r.2.1.length:Int) by omega)]
      simp only[za];rw[qsQ];simp only[z7];have hnb:noB (r.2.2.1.1,r.2.2.1.2.1,r.2.2.1.2.2.1,r.2.2.1.2.2.2.1,r.2.2.1.2.2.2.2.1,r.2.2.1.2.2.2.2.2.1,r.2.2.1.2.2.2.2.2.2)=noB r.2.2.1:=rfl;rw[hnb];cases hb:noB r.2.2.1 with
      | false=>rw[bad (if_pos (.inr hb))]; rfl
      | true=>
       rw[show postS c.2.2.1 r=Ac.postF c.2.2.1 r.2.2.2 from if_neg (fun e=>e.elim l0 (fun e=>by rw[hb] at e; cases e))]
       simp only[ze,za];have ha:qe4 c.2.2.1 (r.2.2.2.1,r.2.2.2.2.1,r.2.2.2.2.2)=some (Ac.postF c.2.2.1 r.2.2.2):=(Ac.post_eq (l:=c.2.2.1) (e:=r.2.2.2) (by have:=h.a; omega)).2.1
       rw[ha];simp only[z7];by_cases h4:(Ac.postF c.2.2.1 r.2.2.2).2=0
       ·rw[dec_t h4,if_pos h4]; simp only[ze,za,hw]
       ·rw[dec_f h4,if_neg h4]; rfl
    ·rw[dec_f h3,if_neg h3,if_neg h0]; rfl
end Go.Proofs.YtfdgemafaphpaaaGreat
