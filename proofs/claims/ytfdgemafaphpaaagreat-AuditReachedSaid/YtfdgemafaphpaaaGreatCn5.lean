/- The centre: a state is made of its records, kind by kind. No condition. -/
import Derived.Test.YtfdgemafaphpaaaGreatCn4
import Derived.Test.YtfdgemafaphpaaaGreatCn3
namespace Go.Proofs.YtfdgemafaphpaaaGreat
open Go Go.Sq
set_option linter.unusedVariables false
structure RecP(r:Rec):Prop where
 v:r.2.1.length<=100
 h:r.2.2.1.2.2.2.2.2.1.length<=100
theorem qDv{s:List Int}{q:Int}(h:SrcOk s q):Ok (qgZ ([[97],[98,111],[99,51],[100,101,108,116,97],[101]]:List (List UInt8)) s q) fun z=>SrcOk z.2.1 z.2.2:=by
 unfold qgZ;refine Ok.bind (sN h (by simp) (by simp)) fun r hr=>?_
 exact Ok.gd (qan.2 ⟨hr.2.1,hr.2.2⟩) (.ret hr.1)
theorem qDw{s:List Int}{q:Int}(h:SrcOk s q):Ok (qf7 2 s q) fun z=>SrcOk z.1 z.2.1/\z.2.2.length<=2:=by
 unfold qf7;rw[wi (by omega)]
 refine Ok.bind (sN h (n:=2+1) (by omega) (by omega)) fun r hr=>?_
 refine Ok.bind (Q:=fun z:List Int×Int×List Ent3=>SrcOk z.1 z.2.1/\z.2.2.length<=2) ?_ fun z hz=>.ret hz
 refine Ok.loop (fun x:Int×List Int×Int×List Ent3=>0<=x.1/\x.1+x.2.2.2.length<=2/\SrcOk x.2.1 x.2.2.1) (fun x=>x.1.toNat) ⟨hr.2.1,by simp; omega,hr.1⟩ ?_
 rintro⟨i,s',q',t⟩ ⟨h1,h2,h4⟩
 simp only at h1 h2 h4;show Ok (qfN i s' q' t) _;unfold qfN;refine Ok.bif (fun hc=>?_) fun hc=>.ret ⟨h4,by simp only; omega⟩
 have hc:=zm hc;refine Ok.bind (qDv h4) fun r2 h5=>?_
 refine Ok.bind (sN h5 (n:=4) (by omega) (by omega)) fun r3 h6=>?_
 refine Ok.bind (sN h6.1 (n:=1000) (by omega) (by omega)) fun r4 h7=>?_
 refine Ok.bind (sP h7.1 (by simp) (by simp)) fun r5 h8=>?_
 refine Ok.bind (Q:=fun z:Bool×List Int×Int×List Ent3=>SrcOk z.2.1 z.2.2.1/\z.2.2.2=t) ?_ ?_
 ·exact Ok.bif (fun _=>Ok.bind (sN h8.1 (n:=2) (by omega) (by omega)) fun r6 h9=>.ret ⟨h9.1,rfl⟩) fun _=>.ret ⟨h8.1,rfl⟩
 rintro⟨b,s5,q5,t5⟩ ⟨h9,h10⟩
 have h10:t5=t:=h10;subst h10;simp only at h9;refine Ok.bind (Q:=fun z:Int×List Ent3=>z.2=t5) (Ok.bif (fun _=>.ret rfl) fun _=>.ret rfl) ?_
 rintro⟨v,t6⟩ h11
 have h11:t6=t5:=h11;subst h11;refine Ok.gd (qaj (by simp only; omega)) (.ret ?_)
 rw[wi (by omega)]
 exact⟨⟨by simp only; omega,by simp only[zd,zV1]; omega,h9⟩,by simp only; omega⟩
theorem qEq{n:Net}(hn:GN n){c:Cn}(hd:c.1.1.length<=100000){s:List Int}{q:Int}(h:SrcOk s q):Ok (qg1 n c s q) fun z=>SrcOk z.2.1 z.2.2/\RecP z.1:=by
 unfold qg1;refine Ok.bind (sN h (n:=4) (by omega) (by omega)) fun r hr=>?_
 refine Ok.bif (fun _=>?_) fun _=>Ok.bif (fun _=>?_) fun _=>?_
 ·refine Ok.bind (sN hr.1 (n:=4) (by omega) (by omega)) fun r2 h2=>?_
  refine Ok.bind (qEp ⟨h2.2.1,by omega⟩ h2.1) fun r3 h3=>?_
  have:=h3.2.2.2;exact Ok.gd (qaj (by omega)) (.ret ⟨h3.1,⟨by simp; omega,by simp⟩⟩)
 ·refine Ok.bind (qDw hr.1) fun r4 h4=>?_
  refine Ok.bif (fun _=>Ok.bind (sN h4.1 (n:=5) (by omega) (by omega)) fun r5 h5=>.ret ⟨h5.1,⟨by simp,by simp⟩⟩) fun hc=>?_
  have hc:=zj1 hc;exact Ok.gd (qan.2 ⟨by omega,by omega⟩) (.ret ⟨h4.1,⟨by simp,by simp⟩⟩)
 ·rw[qaR,show((c.1.1,c.1.2.1,c.1.2.2.1,c.1.2.2.2):Dk)=c.1 from rfl]
  exact Ok.bind (qBQ hn hd hr.1) fun r6 h6=>.ret ⟨h6.1,⟨by simp,h6.2⟩⟩
/-! ### What a state is, and what a record makes of it -/
structure CnI(n:Net)(c:Cn)(k:Nat):Prop where
 d:DkN n c.1
 t:c.2.1.length<=k
 tv:∀x∈c.2.1,x.2.2.2.2.2.length<=100000
 srt:SortT c.2.1
 a:c.2.2.1.length<=k
 n0:0<=c.2.2.2
 n1:c.2.2.2<=k
theorem CnI.cns{n:Net}(hn:GN n){c:Cn}{k:Nat}(h:CnI n c k)(hk:k<=10000):CnS c:=⟨h.d.small hn,by have:=h.t; omega,h.tv,by have:=h.a; omega⟩
theorem CnI.up{n:Net}{c:Cn}{k:Nat}(h:CnI n c k):CnI n c (k+1):=⟨h.d,zT1 h.t,h.tv,h.srt,zT1 h.a,h.n0,by have:=h.n1; omega⟩
theorem qwu{n:Net}{c:Cn}{r:Rec}{k:Nat}(hi:CnI n c k)(hk:k<=10000)(hr:RecP r)(h:(capp n c r).2=0):CnI n (capp n c r).1 (k+1)/\(capp n c r).1.2.2.2=c.2.2.2+1∧
  (if r.1=2 then appS n c.1 r.2.2.1=((capp n c r).1.1,0) else(capp n c r).1.1=c.1)/\(if r.1=3 then Ac.postF c.2.2.1 r.2.2.2=((capp n c r).1.2.2.1,0) else(capp n c r).1.2.2.1=c.2.2.1):=by
 have hn0:=hi.n0; have hn1:=hi.n1;unfold capp at h ⊢;by_cases k1:r.1=1
 ·rw[if_pos k1] at h ⊢;rw[if_neg (by omega),if_neg (by omega)]
  unfold capp1 at h ⊢;by_cases h1:c.2.2.2=1000
  ·rw[if_pos h1] at h; cases h
  rw[if_neg h1] at h ⊢;by_cases h2:(accS c.2.1 r).2=0
  ·rw[if_pos h2];refine⟨?_,rfl,rfl,rfl⟩
   unfold accS at h2 ⊢;by_cases h3:r.2.1.length<5\/noB r.2.2.1=false\/noE r.2.2.2=false\/qe9 (telOf r.2.1)=false
   ·rw[if_pos h3] at h2; cases h2
   rw[if_neg h3] at h2 ⊢;cases hp:putT c.2.1 (telOf r.2.1) with
   | none=>rw[hp] at h2; cases h2
   | some l'=>
    have hq:=qlI hi.srt hp;refine⟨hi.d,zn1 hq.len (by have:=hi.t; omega),fun x hx=>?_,hq.srt,zT1 hi.a,by simp only; omega,by simp only; omega⟩
    rcases hq.frm x hx with rfl | ⟨hx,_⟩
    ·have:=hr.v; show(List.drop 5 _).length<=_; simp; omega
    ·exact hi.tv x hx
  ·rw[if_neg h2] at h; exact absurd h h2
 rw[if_neg k1] at h ⊢;by_cases k2:r.1=2
 ·rw[if_pos k2] at h ⊢;rw[if_pos k2,if_neg (by omega)]
  unfold capp2 at h ⊢;by_cases h1:c.2.2.2=1000
  ·rw[if_pos h1] at h; cases h
  rw[if_neg h1] at h ⊢;by_cases h2:(cmdS n c.1 r).2=0
  ·rw[if_pos h2];unfold cmdS at h2 ⊢;by_cases h3:0<r.2.1.length\/noE r.2.2.2=false
   ·rw[if_pos h3] at h2; cases h2
   rw[if_neg h3] at h2 ⊢;exact⟨⟨hi.d.ln (qEf _ _),zT1 hi.t,hi.tv,hi.srt,zT1 hi.a,by simp only; omega,by simp only; omega⟩,rfl,Prod.ext rfl h2,rfl⟩
  ·rw[if_neg h2] at h; exact absurd h h2
 rw[if_neg k2] at h ⊢;rw[if_neg k2];by_cases k3:r.1=3
 ·rw[if_pos k3] at h ⊢;rw[if_pos k3];unfold capp3 at h ⊢;by_cases h1:c.2.2.2=1000
  ·rw[if_pos h1] at h; cases h
  rw[if_neg h1] at h ⊢;by_cases h2:(postS c.2.2.1 r).2=0
  ·rw[if_pos h2];unfold postS at h2 ⊢;by_cases h3:0<r.2.1.length\/noB r.2.2.1=false
   ·rw[if_pos h3] at h2; cases h2
   rw[if_neg h3] at h2 ⊢;have ha:=hi.a;exact⟨⟨hi.d,zT1 hi.t,hi.tv,hi.srt,zn1 (Ac.post_len (by omega)) (by omega),by simp only; omega,by simp only; omega⟩,rfl,rfl,Prod.ext rfl h2⟩
  ·rw[if_neg h2] at h; exact absurd h h2
 ·rw[if_neg k3] at h;exfalso;revert h;simp only;split <;> simp
theorem qvd{n:Net}(s:Stp):∀(l:List Stp) (d:Dk) (i:Int) {d' d'':Dk} {j:Int},runL n d i l=(d',j,0)->appS n d' s=(d'',0)->runL n d i (l++[s])=(d'',j+1,0)
 | [],d,i,d',d'',j,h,h2=>by
  rw[runL] at h;injection h with e1 e2; injection e2 with e2 _; subst e1 e2
  show runL n d i [s]=_;unfold runL;rw[h2,if_neg (by simp)]; rfl
 | x::l,d,i,d',d'',j,h,h2=>by
  show runL n d i (x::(l++[s]))=_;unfold runL at h ⊢;by_cases hc:(appS n d x).2≠0
  ·rw[if_pos hc] at h;injection h with _ h; injection h with _ h; exact absurd h hc
  ·rw[if_neg hc] at h ⊢;exact qvd s l _ _ h h2
theorem qsL(e:Ent3):∀(l:List Ent3) (a:List Acc4) {a' a'':List Acc4},Ac.bookF l a=(a',0)->Ac.postF a' e=(a'',0)->Ac.bookF (l++[e]) a=(a'',0)
 | [],a,a',a'',h,h2=>by
  rw[Ac.bookF] at h;injection h with e1; subst e1
  show Ac.bookF [e] a=_;unfold Ac.bookF;rw[h2,if_pos rfl]; rfl
 | x::l,a,a',a'',h,h2=>by
  show Ac.bookF (x::(l++[e])) a=_;unfold Ac.bookF at h ⊢;by_cases hc:(Ac.postF a x).2=0
  ·rw[if_pos hc] at h ⊢;exact qsL e l _ h h2
  ·rw[if_neg hc] at h;injection h with _ h; exact absurd h hc
structure FolI(n:Net)(d0:Dk)(c:Cn)(steps:List Stp)(ents:List Ent3)(k:Nat):Prop where
 ci:CnI n c k
 sl:steps.length<=k
 el:ents.length<=k
 sh:∀s∈steps,s.2.2.2.2.2.1.length<=100000
 run:runL n d0 0 steps=(c.1,(steps.length:Int),0)
 book:Ac.bookF ents []=(c.2.2.1,0)
theorem FolI.up{n:Net}{d0:Dk}{c:Cn}{steps:List Stp}{ents:List Ent3}{k:Nat}(h:FolI n d0 c steps ents k):FolI n d0 c steps ents (k+1):=⟨h.ci.up,zT1 h.sl,zT1 h.el,h.sh,h.run,h.book⟩
theorem FolI.put{n:Net}{d0:Dk}{c:Cn}{steps:List Stp}{ents:List Ent3}{k:Nat}(h:FolI n d0 c steps ents k)(hk:k<=100){r:Rec}(hr:RecP r)(h0:(capp n c r).2=0):
  FolI n d0 (capp n c r).1 (if r.1=2 then steps++[r.2.2.1] else steps) (if r.1=3 then ents++[r.2.2.2] else ents) (k+1):=by
 obtain⟨h1,h2,h3,h4⟩:=qwu h.ci (by omega) hr h0
 have hsl:=h.sl; have hel:=h.el;refine⟨h1,?_,?_,fun s hs=>?_,?_,?_⟩
 ·split <;> (try rw[zd,zV1]) <;> omega
 ·split <;> (try rw[zd,zV1]) <;> omega
 ·split at hs
  ·rcases zy.1 hs with hs | hs
   ·exact h.sh s hs
   ·rw[zI.1 hs]; have:=hr.h; omega
  ·exact h.sh s hs
 ·by_cases k2:r.1=2
  ·rw[if_pos k2] at h3 ⊢;have:=qvd r.2.2.1 steps d0 0 h.run h3;rw[this,zd]; rfl
  ·rw[if_neg k2] at h3 ⊢;rw[h3]; exact h.run
 ·by_cases k3:r.1=3
  ·rw[if_pos k3] at h4 ⊢;exact qsL r.2.2.2 ents [] h.book h4
  ·rw[if_neg k3] at h4 ⊢;rw[h4]; exact h.book
end Go.Proofs.YtfdgemafaphpaaaGreat
