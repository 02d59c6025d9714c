/- The centre: a state is made of its records, kind by kind. No condition. -/
import Derived.Test.YtgmjmgihjjddmaaGreatCn4
import Derived.Test.YtgmjmgihjjddmaaGreatCn3
namespace Go.Proofs.YtgmjmgihjjddmaaGreat
open Go Go.Sq
set_option linter.unusedVariables false
structure RecP(r:Rec):Prop where
 v:r.2.1.length<=100
 h:r.2.2.1.2.2.2.2.2.1.length<=100
theorem nat_i64'{x:Int}(h : -1000000000000000000<=x/\x<=1000000000000000000):i64P x:=by unfold i64P; omega
theorem qCn{s:List Int}{q:Int}(h:SrcOk s q):Ok (qb7 ([[97],[98,111],[99,51],[100,101,108,116,97],[101]]:List (List UInt8)) s q) fun z=>SrcOk z.2.1 z.2.2/\z.1.length<=100:=by
 unfold qb7;refine Ok.bind (sN h (by simp) (by simp)) fun r hr=>?_
 have hl:(([[97],[98,111],[99,51],[100,101,108,116,97],[101]]:List (List UInt8)).getD r.1.toNat []).length<=100:=by
  have hm:=gmem (l:=([[97],[98,111],[99,51],[100,101,108,116,97],[101]]:List (List UInt8))) (i:=r.1.toNat) (d:=[]) (by have:=hr.2; simp at this ⊢; omega)
  generalize ([[97],[98,111],[99,51],[100,101,108,116,97],[101]]:List (List UInt8)).getD r.1.toNat []=y at*
  simp only[zE,zP1,or_false] at hm;rcases hm with rfl | rfl | rfl | rfl | rfl <;> decide
 exact Ok.gd (qal.2 ⟨hr.2.1,hr.2.2⟩) (.ret ⟨hr.1,hl⟩)
theorem qCo{s:List Int}{q:Int}(h:SrcOk s q):Ok (qfY 2 s q) fun z=>SrcOk z.1 z.2.1/\z.2.2.length<=2/\∀e∈z.2.2,e.1.length<=100/\i64P e.2.1/\i64P e.2.2:=by
 unfold qfY;rw[wi (by omega)]
 refine Ok.bind (sN h (n:=2+1) (by omega) (by omega)) fun r hr=>?_
 refine Ok.bind (Q:=fun z:List Int×Int×List Ent3=>SrcOk z.1 z.2.1/\z.2.2.length<=2/\∀e∈z.2.2,e.1.length<=100/\i64P e.2.1/\i64P e.2.2) ?_ fun z hz=>.ret hz
 refine Ok.loop (fun x:Int×List Int×Int×List Ent3=>0<=x.1/\x.1+x.2.2.2.length<=2/\SrcOk x.2.1 x.2.2.1/\∀e∈x.2.2.2,e.1.length<=100/\i64P e.2.1/\i64P e.2.2) (fun x=>x.1.toNat) ⟨hr.2.1,by simp; omega,hr.1,fun x hx=>(by cases hx)⟩ ?_
 rintro⟨i,s',q',t⟩ ⟨h1,h2,h4,hE⟩
 simp only at h1 h2 h4 hE;show Ok (qfF i s' q' t) _;unfold qfF;refine Ok.bif (fun hc=>?_) fun hc=>.ret ⟨h4,by simp only; omega,hE⟩
 have hc:=zi hc;refine Ok.bind (qCn h4) fun r2 h5=>?_
 refine Ok.bind (sN h5.1 (n:=4) (by omega) (by omega)) fun r3 h6=>?_
 refine Ok.bind (sN h6.1 (n:=1000) (by omega) (by omega)) fun r4 h7=>?_
 refine Ok.bind (sP h7.1 (by simp) (by simp)) fun r5 h8=>?_
 refine Ok.bind (Q:=fun z:Bool×List Int×Int×List Ent3=>SrcOk z.2.1 z.2.2.1/\z.2.2.2=t) ?_ ?_
 ·exact Ok.bif (fun _=>Ok.bind (sN h8.1 (n:=2) (by omega) (by omega)) fun r6 h9=>.ret ⟨h9.1,rfl⟩) fun _=>.ret ⟨h8.1,rfl⟩
 rintro⟨b,s5,q5,t5⟩ ⟨h9,h10⟩
 have h10:t5=t:=h10;subst h10;simp only at h9;have h8v:i64P r5.1:=by
  have:=h8.2;simp only[zE,zP1,or_false] at this;exact nat_i64' (by omega)
 refine Ok.bind (Q:=fun z:Int×List Ent3=>z.2=t5/\i64P z.1) (Ok.bif (fun _=>.ret ⟨rfl,qnd _⟩) fun _=>.ret ⟨rfl,h8v⟩) ?_
 rintro⟨v,t6⟩ h11
 obtain⟨h11,hv⟩:=h11;replace h11:t6=t5:=h11;subst h11;refine Ok.gd (qae (by simp only; omega)) (.ret ?_)
 rw[wi (by omega)]
 refine⟨⟨by simp only; omega,by simp only[ze,zY1]; omega,h9,fun y hy=>?_⟩,by simp only; omega⟩
 rcases zu.1 hy with hy | hy
 ·exact hE y hy
 ·rw[zH.1 hy];exact⟨h5.2,qnd _,hv⟩
def recZ(z:Int×Int×Int×Int×Int×Int×(List (Int×Bool))×Int×List UInt8×Int×Int×List Int×Int×List Int):Rec:=(z.1,(z.2.2.2.2.2.2.2.2.2.2.2.2.2,((z.2.1,(z.2.2.1,(z.2.2.2.1,(z.2.2.2.2.1,(z.2.2.2.2.2.1,(z.2.2.2.2.2.2.1,z.2.2.2.2.2.2.2.1)))))),(z.2.2.2.2.2.2.2.2.1,(z.2.2.2.2.2.2.2.2.2.1,z.2.2.2.2.2.2.2.2.2.2.1)))))
structure RecI(r:Rec):Prop where
 k:i64P r.1
 v:i64L r.2.1
 s:StpI r.2.2.1
 n:r.2.2.2.1.length<=100
 e:i64P r.2.2.2.2.1
 f:i64P r.2.2.2.2.2
theorem stp0:StpI (0,(0,(0,(0,(0,([],0)))))):=stpI (by omega) (by omega) (by omega) (by omega) (by omega)
theorem qC8{x:Int}(h:rv x=true):i64P x:=by
 unfold rv rg at h;simp only[zb,zw] at h;unfold i64P; omega
theorem qCp{t:Tel}(h:qh4 t=true):i64L ([t.1,t.2.1,t.2.2.1,t.2.2.2.1,t.2.2.2.2.1]++t.2.2.2.2.2):=by
 unfold qh4 rg at h;simp only[zb,zw,zt] at h;obtain⟨⟨⟨a1,a2⟩,⟨b1,b2⟩,⟨c1,c2⟩,⟨d1,d2⟩,e1,e2⟩,_,g⟩:=h;intro x hx;rcases zu.1 hx with hx | hx
 ·simp only[zE,zP1,or_false] at hx;unfold i64P;omega
 ·exact qC8 (g x hx)
theorem qBE{n:Net}(hn:GN n){c:Cn}(hd:c.1.1.length<=100000){s:List Int}{q:Int}(h:SrcOk s q):Ok (qfm n c s q) fun z=>SrcOk z.2.2.2.2.2.2.2.2.2.2.2.1 z.2.2.2.2.2.2.2.2.2.2.2.2.1/\RecP (recZ z)/\RecI (recZ z)/\(recZ z).2.1.length<=50:=by
 unfold qfm;refine Ok.bind (sN h (n:=4) (by omega) (by omega)) fun r hr=>?_
 refine Ok.bif (fun _=>?_) fun _=>Ok.bif (fun _=>?_) fun _=>?_
 ·refine Ok.bind (sN hr.1 (n:=4) (by omega) (by omega)) fun r2 h2=>?_
  refine Ok.bind (qC7 ⟨h2.2.1,by omega⟩ h2.1) fun r3 h3=>?_
  have:=h3.2.2.2;exact Ok.gd (qae (by omega)) (.ret ⟨h3.1,⟨by simp[recZ]; omega,by simp[recZ]⟩,⟨by simp[recZ,i64P],qCp h3.2.2.1,stp0,by simp[recZ],by simp[recZ,i64P],by simp[recZ,i64P]⟩,by simp[recZ]; omega⟩)
 ·refine Ok.bind (qCo hr.1) fun r4 h4=>?_
  refine Ok.bif (fun _=>Ok.bind (sN h4.1 (n:=5) (by omega) (by omega)) fun r5 h5=>.ret ⟨h5.1,⟨by simp[recZ],by simp[recZ]⟩,⟨qfr (by simp only[recZ]; omega),fun x hx=>(by cases hx),stp0,by simp[recZ],by simp[recZ,i64P],by simp[recZ,i64P]⟩,by simp[recZ]⟩) fun hc=>?_
  have hc:=z41 hc;have hm:=h4.2.2 _ (gmem (d:=(([],(0,0)):Ent3)) (show 0<r4.2.2.length by omega))
  exact Ok.gd (qal.2 ⟨by omega,by omega⟩) (.ret ⟨h4.1,⟨by simp[recZ],by simp[recZ]⟩,⟨by simp[recZ,i64P],fun x hx=>(by cases hx),stp0,hm.1,hm.2.1,hm.2.2⟩,by simp[recZ]⟩)
 ·rw[qaL,show((c.1.1,(c.1.2.1,(c.1.2.2.1,c.1.2.2.2))):Dk)=c.1 from rfl]
  exact Ok.bind (qA1 hn hd hr.1) fun r6 h6=>.ret ⟨h6.1,⟨by simp[recZ],h6.2.1⟩,⟨by simp[recZ,i64P],fun x hx=>(by cases hx),h6.2.2,by simp[recZ],by simp[recZ,i64P],by simp[recZ,i64P]⟩,by simp[recZ]⟩
/-! ### What a state is, and what a record makes of it -/
structure CnI(n:Net)(c:Cn)(k:Nat):Prop where
 d:DkN n c.1
 t:c.2.1.length<=k
 tv:∀x∈c.2.1,x.2.2.2.2.2.length<=100000
 srt:SortT c.2.1
 a:c.2.2.1.length<=k
 n0:0<=c.2.2.2
 n1:c.2.2.2<=k
theorem CnI.cns{n:Net}(hn:GN n){c:Cn}{k:Nat}(h:CnI n c k)(hk:k<=10000):CnS c:=⟨h.d.small hn,by have:=h.t; omega,h.tv,by have:=h.a; omega⟩
theorem CnI.up{n:Net}{c:Cn}{k:Nat}(h:CnI n c k):CnI n c (k+1):=⟨h.d,zi1 h.t,h.tv,h.srt,zi1 h.a,h.n0,by have:=h.n1; omega⟩
theorem qA7{n:Net}{c:Cn}{r:Rec}(h:(capp n c r).2≠0):(capp n c r).1=c:=by
 unfold capp capp1 capp2 capp3 at h ⊢
 repeat' split
 all_goals first | rfl | (exfalso; revert h; simp[*])
theorem qCq{n:Net}{c:Cn}{r:Rec}{k:Nat}(hi:CnI n c k)(hk:k<=10000)(hr:RecP r)(h:(capp n c r).2=0):CnI n (capp n c r).1 (k+1)/\(capp n c r).1.2.2.2=c.2.2.2+1∧
  (if r.1=2 then appS n c.1 r.2.2.1=((capp n c r).1.1,0) else(capp n c r).1.1=c.1)/\(if r.1=3 then Ac.postF c.2.2.1 r.2.2.2=((capp n c r).1.2.2.1,0) else(capp n c r).1.2.2.1=c.2.2.1):=by
 have hn0:=hi.n0; have hn1:=hi.n1;unfold capp at h ⊢;by_cases k1:r.1=1
 ·rw[if_pos k1] at h ⊢;rw[if_neg (by omega),if_neg (by omega)]
  unfold capp1 at h ⊢;by_cases h1:c.2.2.2=1000
  ·rw[if_pos h1] at h; cases h
  rw[if_neg h1] at h ⊢;by_cases h2:(accS c.2.1 r).2=0
  ·rw[if_pos h2];refine⟨?_,rfl,rfl,rfl⟩
   unfold accS at h2 ⊢;by_cases h3:r.2.1.length<5\/noB r.2.2.1=false\/noE r.2.2.2=false\/qh4 (telOf r.2.1)=false
   ·rw[if_pos h3] at h2; cases h2
   rw[if_neg h3] at h2 ⊢;cases hp:putT c.2.1 (telOf r.2.1) with
   | none=>rw[hp] at h2; cases h2
   | some l'=>
    have hq:=ql2 hi.srt hp;refine⟨hi.d,z81 hq.len (by have:=hi.t; omega),fun x hx=>?_,hq.srt,zi1 hi.a,by simp only; omega,by simp only; omega⟩
    rcases hq.frm x hx with rfl | ⟨hx,_⟩
    ·have:=hr.v; show(List.drop 5 _).length<=_; simp; omega
    ·exact hi.tv x hx
  ·rw[if_neg h2] at h; exact absurd h h2
 rw[if_neg k1] at h ⊢;by_cases k2:r.1=2
 ·rw[if_pos k2] at h ⊢;rw[if_pos k2,if_neg (by omega)]
  unfold capp2 at h ⊢;by_cases h1:c.2.2.2=1000
  ·rw[if_pos h1] at h; cases h
  rw[if_neg h1] at h ⊢;by_cases h2:(cmdS n c.1 r).2=0
  ·rw[if_pos h2];unfold cmdS at h2 ⊢;by_cases h3:0<r.2.1.length\/noE r.2.2.2=false
   ·rw[if_pos h3] at h2; cases h2
   rw[if_neg h3] at h2 ⊢;exact⟨⟨hi.d.ln (qzm _ _),zi1 hi.t,hi.tv,hi.srt,zi1 hi.a,by simp only; omega,by simp only; omega⟩,rfl,Prod.ext rfl h2,rfl⟩
  ·rw[if_neg h2] at h; exact absurd h h2
 rw[if_neg k2] at h ⊢;rw[if_neg k2];by_cases k3:r.1=3
 ·rw[if_pos k3] at h ⊢;rw[if_pos k3];unfold capp3 at h ⊢;by_cases h1:c.2.2.2=1000
  ·rw[if_pos h1] at h; cases h
  rw[if_neg h1] at h ⊢;by_cases h2:(postS c.2.2.1 r).2=0
  ·rw[if_pos h2];unfold postS at h2 ⊢;by_cases h3:0<r.2.1.length\/noB r.2.2.1=false
   ·rw[if_pos h3] at h2; cases h2
   rw[if_neg h3] at h2 ⊢;have ha:=hi.a;exact⟨⟨hi.d,zi1 hi.t,hi.tv,hi.srt,z81 (Ac.post_len (by omega)) (by omega),by simp only; omega,by simp only; omega⟩,rfl,rfl,Prod.ext rfl h2⟩
  ·rw[if_neg h2] at h; exact absurd h h2
 ·rw[if_neg k3] at h;exfalso;revert h;simp only;split <;> simp
theorem quS{n:Net}(s:Stp):∀(l:List Stp) (d:Dk) (i:Int) {d' d'':Dk} {j:Int},runL n d i l=(d',j,0)->appS n d' s=(d'',0)->runL n d i (l++[s])=(d'',j+1,0)
 | [],d,i,d',d'',j,h,h2=>by
  rw[runL] at h;injection h with e1 e2; injection e2 with e2 _; subst e1 e2
  show runL n d i [s]=_;unfold runL;rw[h2,if_neg (by simp)]; rfl
 | x::l,d,i,d',d'',j,h,h2=>by
  show runL n d i (x::(l++[s]))=_;unfold runL at h ⊢;by_cases hc:(appS n d x).2≠0
  ·rw[if_pos hc] at h;injection h with _ h; injection h with _ h; exact absurd h hc
  ·rw[if_neg hc] at h ⊢;exact quS s l _ _ h h2
theorem qsD(e:Ent3):∀(l:List Ent3) (a:List Acc4) {a' a'':List Acc4},Ac.bookF l a=(a',0)->Ac.postF a' e=(a'',0)->Ac.bookF (l++[e]) a=(a'',0)
 | [],a,a',a'',h,h2=>by
  rw[Ac.bookF] at h;injection h with e1; subst e1
  show Ac.bookF [e] a=_;unfold Ac.bookF;rw[h2,if_pos rfl]; rfl
 | x::l,a,a',a'',h,h2=>by
  show Ac.bookF (x::(l++[e])) a=_;unfold Ac.bookF at h ⊢;by_cases hc:(Ac.postF a x).2=0
  ·rw[if_pos hc] at h ⊢;exact qsD e l _ h h2
  ·rw[if_neg hc] at h;injection h with _ h; exact absurd h hc
structure FolI(n:Net)(d0:Dk)(c:Cn)(steps:List Stp)(ents:List Ent3)(k:Nat):Prop where
 ci:CnI n c k
 sl:steps.length<=k
 el:ents.length<=k
 sh:∀s∈steps,s.2.2.2.2.2.1.length<=100000
 run:runL n d0 0 steps=(c.1,(steps.length:Int),0)
 book:Ac.bookF ents []=(c.2.2.1,0)
theorem FolI.up{n:Net}{d0:Dk}{c:Cn}{steps:List Stp}{ents:List Ent3}{k:Nat}(h:FolI n d0 c steps ents k):FolI n d0 c steps ents (k+1):=⟨h.ci.up,zi1 h.sl,zi1 h.el,h.sh,h.run,h.book⟩
theorem FolI.put{n:Net}{d0:Dk}{c:Cn}{steps:List Stp}{ents:List Ent3}{k:Nat}(h:FolI n d0 c steps ents k)(hk:k<=100){r:Rec}(hr:RecP r)(h0:(capp n c r).2=0):
  FolI n d0 (capp n c r).1 (if r.1=2 then steps++[r.2.2.1] else steps) (if r.1=3 then ents++[r.2.2.2] else ents) (k+1):=by
 obtain⟨h1,h2,h3,h4⟩:=qCq h.ci (by omega) hr h0
 have hsl:=h.sl; have hel:=h.el;refine⟨h1,?_,?_,fun s hs=>?_,?_,?_⟩
 ·split <;> (try rw[ze,zY1]) <;> omega
 ·split <;> (try rw[ze,zY1]) <;> omega
 ·split at hs
  ·rcases zu.1 hs with hs | hs
   ·exact h.sh s hs
   ·rw[zH.1 hs]; have:=hr.h; omega
  ·exact h.sh s hs
 ·by_cases k2:r.1=2
  ·rw[if_pos k2] at h3 ⊢;have:=quS r.2.2.1 steps d0 0 h.run h3;rw[this,ze]; rfl
  ·rw[if_neg k2] at h3 ⊢;rw[h3]; exact h.run
 ·by_cases k3:r.1=3
  ·rw[if_pos k3] at h4 ⊢;exact qsD r.2.2.2 ents [] h.book h4
  ·rw[if_neg k3] at h4 ⊢;rw[h4]; exact h.book
end Go.Proofs.YtgmjmgihjjddmaaGreat
