/- The centre: steps and entries carried out. No condition. -/
import Derived.Test.YtmdijohmddokhaaGreatDoorCn2
import Derived.Test.YtmdijohmddokhaaGreatDoorAc3
import Derived.Test.YtmdijohmddokhaaGreatDoorAw
namespace Go.Proofs.YtmdijohmddokhaaGreatDoor
open Go Go.Sq
set_option linter.unusedVariables false
noncomputable def cmdS(n:Net)(d:Dk)(r:Rec):Dk×Int:=if 0<r.2.1.length\/noE r.2.2.2=false then(d,28) else appS n d r.2.2.1
noncomputable def postS(a:List Acc4)(r:Rec):List Acc4×Int:=if 0<r.2.1.length\/noB r.2.2.1=false then(a,28) else Ac.postF a r.2.2.2
theorem qyV(n:Net)(r:Rec)(c:Int){d:Dk}(h:DkS d)(c6:List Tel)(c7:List Acc4):qgw n r c d.1 d.2.1 d.2.2.1 d.2.2.2 c6 c7=some ((cmdS n d r).2,c,(cmdS n d r).1.1,(cmdS n d r).1.2.1,(cmdS n d r).1.2.2.1,(cmdS n d r).1.2.2.2,c6,c7):=by
 unfold qgw cmdS;by_cases h5:0<r.2.1.length
 ·rw[dec_t (show(0:Int)<(r.2.1.length:Int) by omega),if_pos (.inl h5)]; rfl
 rw[dec_f (show ¬(0:Int)<(r.2.1.length:Int) by omega)]
 cases he:noE r.2.2.2 with
 | false=>
  rw[if_pos (.inr rfl)];unfold noE at he;rw[he]; rfl
 | true=>
 rw[if_neg (by simp[h5])]
 unfold noE at he;rw[he];simp only[zb,zf,z7];rw[qa9,show((d.1,d.2.1,d.2.2.1,d.2.2.2):Dk)=d from rfl,show((r.2.2.1.1,r.2.2.1.2.1,r.2.2.1.2.2.1,r.2.2.1.2.2.2.1,r.2.2.1.2.2.2.2.1,r.2.2.1.2.2.2.2.2.1,r.2.2.1.2.2.2.2.2.2):Stp)=r.2.2.1 from rfl,qCr h,z7]
theorem post_eq'(n:Net)(r:Rec)(c:Int)(c2:List Vl)(c3 c4:List Int)(c5:List Bool)(c6:List Tel){a:List Acc4}(h:a.length<=10000):qku n r c c2 c3 c4 c5 c6 a=some ((postS a r).2,c,c2,c3,c4,c5,c6,(postS a r).1):=by
 unfold qku postS;rw[show((r.2.2.1.1,r.2.2.1.2.1,r.2.2.1.2.2.1,r.2.2.1.2.2.2.1,r.2.2.1.2.2.2.2.1,r.2.2.1.2.2.2.2.2.1,r.2.2.1.2.2.2.2.2.2):Stp)=r.2.2.1 from rfl,qvY,z7]
 by_cases h5:0<r.2.1.length
 ·rw[dec_t (show(0:Int)<(r.2.1.length:Int) by omega),if_pos (.inl h5)]; rfl
 rw[dec_f (show ¬(0:Int)<(r.2.1.length:Int) by omega)]
 cases hb:noB r.2.2.1 with
 | false=>rw[if_pos (.inr rfl)]; rfl
 | true=>
 rw[if_neg (by simp[h5])]
 simp only[zb,zf,z7];rw[show((r.2.2.2.1,r.2.2.2.2.1,r.2.2.2.2.2):Ent3)=r.2.2.2 from rfl,(Ac.post_eq (by omega)).1]; rfl
noncomputable def capp2(n:Net)(c:Cn)(r:Rec):Cn×Int:=if c.2.2.2=1000 then(c,4) else if(cmdS n c.1 r).2=0 then(((cmdS n c.1 r).1,c.2.1,c.2.2.1,c.2.2.2+1),0) else(c,(cmdS n c.1 r).2)
noncomputable def capp3(c:Cn)(r:Rec):Cn×Int:=if c.2.2.2=1000 then(c,4) else if(postS c.2.2.1 r).2=0 then((c.1,c.2.1,(postS c.2.2.1 r).1,c.2.2.2+1),0) else(c,(postS c.2.2.1 r).2)
noncomputable def capp(n:Net)(c:Cn)(r:Rec):Cn×Int:=if r.1=1 then capp1 c r else if r.1=2 then capp2 n c r else if r.1=3 then capp3 c r else(c,if c.2.2.2=1000 then 4 else 28)
theorem apply_eq'(n:Net){c:Cn}(h:CnS c)(hs:SortT c.2.1)(hk:0<=c.2.2.2/\c.2.2.2<=100000)(r:Rec)(hv:r.2.1.length<=100000):qdZ n c r=some (capp n c r):=by
 unfold capp;by_cases k1:r.1=1
 ·rw[if_pos k1]; exact qAS n h hs hk k1 hv
 rw[if_neg k1];unfold qdZ;rw[show(((c.1.1,c.1.2.1,c.1.2.2.1,c.1.2.2.2),c.2.1,c.2.2.1,c.2.2.2):Cn)=c from rfl,qx5 h,z7,mg_eq,if_neg k1]
 rw[show((r.1,r.2.1,(r.2.2.1.1,r.2.2.1.2.1,r.2.2.1.2.2.1,r.2.2.1.2.2.2.1,r.2.2.1.2.2.2.2.1,r.2.2.1.2.2.2.2.2.1,r.2.2.1.2.2.2.2.2.2),r.2.2.2.1,r.2.2.2.2.1,r.2.2.2.2.2):Rec)=r from rfl,qa9]
 by_cases k2:r.1=2
 ·rw[if_pos k2,if_pos k2];unfold capp2;by_cases h1:c.2.2.2=1000
  ·rw[dec_t h1,if_pos h1]; rfl
  rw[dec_f h1,if_neg h1];simp only[zQ2,zf,zb,zo2,z7,show decide ((2:Nat)=1)=false from rfl,show decide ((2:Nat)=2)=true from rfl,za]
  rw[qyV n r _ h.d,z7];by_cases h0:(cmdS n c.1 r).2=0
  ·rw[dec_t h0,if_pos h0,zf,zb];simp only;rw[wi (by omega)]; rfl
  ·rw[dec_f h0,if_neg h0]; rfl
 rw[if_neg k2,if_neg k2];by_cases k3:r.1=3
 ·rw[if_pos k3,if_pos k3];unfold capp3;by_cases h1:c.2.2.2=1000
  ·rw[dec_t h1,if_pos h1]; rfl
  rw[dec_f h1,if_neg h1];simp only[zQ2,zf,zb,zo2,z7,show decide ((3:Nat)=1)=false from rfl,show decide ((3:Nat)=2)=false from rfl,show decide ((3:Nat)=3)=true from rfl,za]
  rw[post_eq' n r _ _ _ _ _ _ h.a,z7];by_cases h0:(postS c.2.2.1 r).2=0
  ·rw[dec_t h0,if_pos h0,zf,zb];simp only;rw[wi (by omega)]; rfl
  ·rw[dec_f h0,if_neg h0]; rfl
 rw[if_neg k3,if_neg k3];by_cases h1:c.2.2.2=1000
 ·rw[dec_t h1,if_pos h1]; rfl
 ·rw[dec_f h1,if_neg h1]; rfl
/-! ### The idle desk of the document -/
theorem qCy{n:Net}{t:Int}(h0:qbb n=0)(hp:n.2.1.length+n.2.2.1.length<=1000/\n.2.2.2.1.length<=1000)(ht:1<=t/\t<=60):
  qmT n t=some ((List.replicate (n.2.1.length+n.2.2.1.length) (t,0,false,false),List.replicate n.2.1.length 0,List.replicate n.2.2.1.length 0,List.replicate n.2.2.2.1.length false),0):=by
 unfold qmT;rw[qa9,qiI,z7,dec_t h0,zf,zb,dec_f (show ¬t<1 by omega),dec_f (show ¬60<t by omega)]
 simp only[zb,z7];rw[gd_t (qhg (by omega)),gd_t (qhg (by omega)),gd_t (qhg (by omega))]
 simp only[z9];generalize List.replicate n.2.1.length (0:Int)=A;generalize List.replicate n.2.2.1.length (0:Int)=B;generalize List.replicate n.2.2.2.1.length false=C;have k1:=qbj (step:=fun x:Int×List Vl×List Int×List Int×List Bool=>qhU n t x.1 x.2.1 x.2.2.1 x.2.2.2.1 x.2.2.2.2) (n.2.1.length+n.2.2.1.length)
  (fun i=>((i:Int),List.replicate i (t,0,false,false),A,B,C)) (e:=(List.replicate (n.2.1.length+n.2.2.1.length) (t,0,false,false),A,B,C)) (fun i hi=>by
   unfold qhU qdj;simp only[z7];rw[wi (by omega),dec_t (by omega),za,gd_t (qaw (by rw[zf2]; omega)),w1 hi (by omega),List.replicate_succ' (n:=i)]) (by
   unfold qhU qdj;simp only[z7];rw[wi (by omega),dec_f (by omega),zb])
 refine(congrArg (fun o=>Option.bind o _) k1).trans ?_
 rfl
end Go.Proofs.YtmdijohmddokhaaGreatDoor
namespace Go.Proofs.YtmdijohmddokhaaGreatDoor
open Go Go.Sq
set_option linter.unusedVariables false
theorem qtz{a b c:Tel}(h:befT a b=true)(h':befT b c=true):befT a c=true:=by
 rw[qCu] at h h' ⊢;omega
structure Put(l:List Tel)(t:Tel)(l':List Tel):Prop where
 srt:SortT l'
 mem:t∈l'
 frm:∀x∈l',x=t\/x∈l/\x.1≠t.1
 kep:∀x∈l,x.1≠t.1->x∈l'
 bef:∀x∈l,x.1=t.1->befT x t=true
 len:l'.length<=l.length+1
theorem qpO:∀ {l:List Tel} {t:Tel} {l':List Tel},SortT l->putT l t=some l'->Put l t l'
 | [],t,l',_,h=>by
  injection h with h; subst h
  exact⟨by unfold SortT; simp,by simp,fun x hx=>.inl (by simpa using hx),fun x hx=>(by cases hx),fun x hx=>(by cases hx),by simp⟩
 | x::r,t,l',hs,h=>by
  unfold putT at h;have hs':=zR2.1 hs;by_cases h1:x.1<t.1
  ·rw[if_pos h1] at h;obtain⟨r',hr,rfl⟩:=zc1.1 h;have ih:=qpO hs'.2 hr;refine⟨zR2.2 ⟨fun y hy=>?_,ih.srt⟩,zO _ ih.mem,fun y hy=>?_,fun y hy hn=>?_,fun y hy he=>?_,by have:=ih.len; simp; omega⟩
   ·rcases ih.frm y hy with rfl | ⟨h2,_⟩
    ·exact h1
    ·exact hs'.1 y h2
   ·rcases zw.1 hy with rfl | hy
    ·exact .inr ⟨zd2,by omega⟩
    ·exact(ih.frm y hy).imp id fun h=>⟨zO _ h.1,h.2⟩
   ·rcases zw.1 hy with rfl | hy
    ·exact zd2
    ·exact zO _ (ih.kep y hy hn)
   ·rcases zw.1 hy with rfl | hy
    ·omega
    ·exact ih.bef y hy he
  ·rw[if_neg h1] at h;by_cases h2:x.1=t.1
   ·rw[if_pos h2] at h;cases hb:befT x t with
    | false=>rw[hb] at h; cases h
    | true=>
     rw[hb] at h;injection h with h; subst h
     refine⟨zR2.2 ⟨fun y hy=>by have:=hs'.1 y hy; omega,hs'.2⟩,zd2,fun y hy=>?_,fun y hy hn=>?_,fun y hy he=>?_,by simp⟩
     ·rcases zw.1 hy with rfl | hy
      ·exact .inl rfl
      ·exact .inr ⟨zO _ hy,by have:=hs'.1 y hy; omega⟩
     ·rcases zw.1 hy with rfl | hy
      ·exact absurd h2 hn
      ·exact zO _ hy
     ·rcases zw.1 hy with rfl | hy
      ·exact hb
      ·have:=hs'.1 y hy; omega
   ·rw[if_neg h2] at h;injection h with h; subst h
    refine⟨zR2.2 ⟨fun y hy=>?_,hs⟩,zd2,fun y hy=>?_,fun y hy hn=>zO _ hy,fun y hy he=>?_,by simp⟩
    ·rcases zw.1 hy with rfl | hy
     ·omega
     ·have:=hs'.1 y hy; omega
    ·rcases zw.1 hy with rfl | hy
     ·exact .inl rfl
     ·refine .inr ⟨hy,?_⟩
      rcases zw.1 hy with rfl | hy
      ·exact h2
      ·have:=hs'.1 y hy; omega
    ·rcases zw.1 hy with rfl | hy
     ·exact absurd he h2
     ·have:=hs'.1 y hy; omega
theorem qv0:∀ {l:List Tel} {t:Tel},putT l t=none->∃x∈l,x.1=t.1/\befT x t=false
 | [],t,h=>by cases h
 | x::r,t,h=>by
  unfold putT at h;by_cases h1:x.1<t.1
  ·rw[if_pos h1] at h;obtain⟨y,hy,h2⟩:=qv0 (Option.map_eq_none_iff.1 h);exact⟨y,zO _ hy,h2⟩
  ·rw[if_neg h1] at h;by_cases h2:x.1=t.1
   ·rw[if_pos h2] at h;cases hb:befT x t with
    | false=>exact⟨x,zd2,h2,hb⟩
    | true=>rw[hb] at h; cases h
   ·rw[if_neg h2] at h; cases h
structure Lst(all l:List Tel):Prop where
 srt:SortT l
 up:∀o∈all,∃x∈l,x.1=o.1/\(x=o\/befT o x=true)
 frm:∀x∈l,x∈all
def nwB(all:List Tel)(t:Tel):Bool:=all.all fun o=>!decide (o.1=t.1) || befT o t
theorem Lst.new{all l:List Tel}(h:Lst all l){t:Tel}:nwB all t=(putT l t).isSome:=by
 unfold nwB;cases hp:putT l t with
 | none=>
  obtain⟨x,hx,h1,h2⟩:=qv0 hp;refine zJ.2 fun he=>?_
  have:=zm.1 he x (h.frm x hx);rw[z21 h1,h2] at this;cases this
 | some l'=>
  refine zm.2 fun o ho=>?_
  by_cases h1:o.1=t.1
  ·obtain⟨x,hx,h2,h3⟩:=h.up o ho;have h4:=(qpO h.srt hp).bef x hx (by omega)
   rw[show befT o t=true from h3.elim (fun e=>e ▸ h4) (fun h3=>qtz h3 h4),Bool.or_true]
  ·rw[zw2 h1]; rfl
theorem Lst.put{all l l':List Tel}(h:Lst all l){t:Tel}(hp:putT l t=some l'):Lst (all++[t]) l':=by
 have hq:=qpO h.srt hp;refine⟨hq.srt,fun o ho=>?_,fun x hx=>?_⟩
 ·rcases zD.1 ho with ho | ho
  ·obtain⟨x,hx,h2,h3⟩:=h.up o ho;by_cases h1:x.1=t.1
   ·have h4:=hq.bef x hx h1;exact⟨t,hq.mem,by omega,.inr (h3.elim (fun e=>e ▸ h4) fun h3=>qtz h3 h4)⟩
   ·exact⟨x,hq.kep x hx h1,h2,h3⟩
  ·rw[zW.1 ho]; exact⟨t,hq.mem,rfl,.inl rfl⟩
 ·rcases hq.frm x hx with rfl | ⟨h1,_⟩
  ·simp
  ·exact List.mem_append_left _ (h.frm x h1)
theorem qEb:∀v∈[(0:Int),(-1),62,63,(-63),(-62),9007199254740992,(-9007199254740992),126,1000],rv v=true:=by decide
theorem qE3{st:Int}(h0:0<=st/\st<=255){s:List Int}{q:Int}(h:SrcOk s q):Ok (qeg st s q) fun z=>SrcOk z.2.1 z.2.2/\z.1.1=st/\qll z.1=true/\z.1.2.2.2.2.2.length<=3:=by
 unfold qeg;refine Ok.bind (sN h (n:=3) (by omega) (by omega)) fun r hr=>?_
 refine Ok.bind (sN hr.1 (n:=6) (by omega) (by omega)) fun r2 hr2=>?_
 refine Ok.bind (sP hr2.1 (by simp) (by simp)) fun r3 hr3=>?_
 refine Ok.bind (sN hr3.1 (n:=64) (by omega) (by omega)) fun r4 hr4=>?_
 refine Ok.bind (sN hr4.1 (n:=4) (by omega) (by omega)) fun r5 hr5=>?_
 have h3:=hr3.2;simp only[zw,List.not_mem_nil,or_false] at h3;refine Ok.bind (Q:=fun z:List Int×Int×List Int=>SrcOk z.1 z.2.1/\z.2.2.length<=3/\z.2.2.all rv=true) ?_ fun z hz=>?_
 ·refine Ok.loop (fun x:Int×List Int×Int×List Int=>0<=x.1/\x.1+x.2.2.2.length<=3/\SrcOk x.2.1 x.2.2.1/\x.2.2.2.all rv=true) (fun x=>x.1.toNat) ⟨hr5.2.1,by simp; omega,hr5.1,rfl⟩ ?_
  rintro⟨i,s',q',t⟩ ⟨h1,h2,h4,h5⟩
  simp only at h1 h2 h4 h5;show Ok (qep i s' q' t) _;unfold qep;refine Ok.bif (fun hc=>?_) fun hc=>.ret ⟨h4,by simp only; omega,h5⟩
  have hc:=zi hc;refine Ok.bind (sP h4 (by simp) (by simp)) fun r6 hr6=>?_
  refine Ok.gd (qaw (by omega)) (.ret ?_)
  rw[wi (by omega)]
  refine⟨⟨by simp only; omega,by simp only[zd,zI]; omega,hr6.1,?_⟩,by simp only; omega⟩
  simp only[List.all_append,h5,z11,List.all_nil,qEb _ hr6.2,Bool.and_self]
 ·refine .ret ⟨hz.1,rfl,?_,hz.2.1⟩
  unfold qll;simp only;rw[rg_t h0,rg_t ⟨hr.2.1,by omega⟩,rg_t ⟨hr2.2.1,by omega⟩,rg_t (lo:=0) (hi:=1099511627776) (by omega),rg_t ⟨hr4.2.1,by omega⟩,hz.2.2,dec_t (show z.2.2.length<=16 by omega)]; rfl
structure RepI(c:Cn)(all:List Tel)(k:Nat):Prop where
 d:DkS c.1
 a:c.2.2.1=[]
 n:c.2.2.2=(all.length:Int)
 l:all.length<=k
 m:c.2.1.length<=k
 tv:∀x∈c.2.1,x.2.2.2.2.2.length<=100000
 lst:Lst all c.2.1
theorem RepI.cns{c:Cn}{all:List Tel}{k:Nat}(h:RepI c all k)(hk:k<=100):CnS c:=⟨h.d,by have:=h.m; omega,h.tv,by rw[h.a]; simp⟩
end Go.Proofs.YtmdijohmddokhaaGreatDoor
namespace Go.Proofs.YtmdijohmddokhaaGreatDoor
open Go Go.Sq
set_option linter.unusedVariables false
structure RecP(r:Rec):Prop where
 v:r.2.1.length<=100
 h:r.2.2.1.2.2.2.2.2.1.length<=100
theorem qEc{s:List Int}{q:Int}(h:SrcOk s q):Ok (qhV ([[97],[98,111],[99,51],[100,101,108,116,97],[101]]:List (List UInt8)) s q) fun z=>SrcOk z.2.1 z.2.2:=by
 unfold qhV;refine Ok.bind (sN h (by simp) (by simp)) fun r hr=>?_
 exact Ok.gd (qae.2 ⟨hr.2.1,hr.2.2⟩) (.ret hr.1)
theorem qEd{s:List Int}{q:Int}(h:SrcOk s q):Ok (qgC 2 s q) fun z=>SrcOk z.1 z.2.1/\z.2.2.length<=2:=by
 unfold qgC;rw[wi (by omega)]
 refine Ok.bind (sN h (n:=2+1) (by omega) (by omega)) fun r hr=>?_
 refine Ok.bind (Q:=fun z:List Int×Int×List Ent3=>SrcOk z.1 z.2.1/\z.2.2.length<=2) ?_ fun z hz=>.ret hz
 refine Ok.loop (fun x:Int×List Int×Int×List Ent3=>0<=x.1/\x.1+x.2.2.2.length<=2/\SrcOk x.2.1 x.2.2.1) (fun x=>x.1.toNat) ⟨hr.2.1,by simp; omega,hr.1⟩ ?_
 rintro⟨i,s',q',t⟩ ⟨h1,h2,h4⟩
 simp only at h1 h2 h4;show Ok (qgj i s' q' t) _;unfold qgj;refine Ok.bif (fun hc=>?_) fun hc=>.ret ⟨h4,by simp only; omega⟩
 have hc:=zi hc;refine Ok.bind (qEc h4) fun r2 h5=>?_
 refine Ok.bind (sN h5 (n:=4) (by omega) (by omega)) fun r3 h6=>?_
 refine Ok.bind (sN h6.1 (n:=1000) (by omega) (by omega)) fun r4 h7=>?_
 refine Ok.bind (sP h7.1 (by simp) (by simp)) fun r5 h8=>?_
 refine Ok.bind (Q:=fun z:Bool×List Int×Int×List Ent3=>SrcOk z.2.1 z.2.2.1/\z.2.2.2=t) ?_ ?_
 ·exact Ok.bif (fun _=>Ok.bind (sN h8.1 (n:=2) (by omega) (by omega)) fun r6 h9=>.ret ⟨h9.1,rfl⟩) fun _=>.ret ⟨h8.1,rfl⟩
 rintro⟨b,s5,q5,t5⟩ ⟨h9,h10⟩
 have h10:t5=t:=h10;subst h10;simp only at h9;refine Ok.bind (Q:=fun z:Int×List Ent3=>z.2=t5) (Ok.bif (fun _=>.ret rfl) fun _=>.ret rfl) ?_
 rintro⟨v,t6⟩ h11
 have h11:t6=t5:=h11;subst h11;refine Ok.gd (qaw (by simp only; omega)) (.ret ?_)
 rw[wi (by omega)]
 exact⟨⟨by simp only; omega,by simp only[zd,zI]; omega,h9⟩,by simp only; omega⟩
theorem qDj{n:Net}(hn:GN n){c:Cn}(hd:c.1.1.length<=100000){s:List Int}{q:Int}(h:SrcOk s q):Ok (qfX n c s q) fun z=>SrcOk z.2.1 z.2.2/\RecP z.1:=by
 unfold qfX;refine Ok.bind (sN h (n:=4) (by omega) (by omega)) fun r hr=>?_
 refine Ok.bif (fun _=>?_) fun _=>Ok.bif (fun _=>?_) fun _=>?_
 ·refine Ok.bind (sN hr.1 (n:=4) (by omega) (by omega)) fun r2 h2=>?_
  refine Ok.bind (qE3 ⟨h2.2.1,by omega⟩ h2.1) fun r3 h3=>?_
  have:=h3.2.2.2;exact Ok.gd (qaw (by omega)) (.ret ⟨h3.1,⟨by simp; omega,by simp⟩⟩)
 ·refine Ok.bind (qEd hr.1) fun r4 h4=>?_
  refine Ok.bif (fun _=>Ok.bind (sN h4.1 (n:=5) (by omega) (by omega)) fun r5 h5=>.ret ⟨h5.1,⟨by simp,by simp⟩⟩) fun hc=>?_
  have hc:=zN hc;exact Ok.gd (qae.2 ⟨by omega,by omega⟩) (.ret ⟨h4.1,⟨by simp,by simp⟩⟩)
 ·rw[qa9,show((c.1.1,c.1.2.1,c.1.2.2.1,c.1.2.2.2):Dk)=c.1 from rfl]
  exact Ok.bind (qCt hn hd hr.1) fun r6 h6=>.ret ⟨h6.1,⟨by simp,h6.2⟩⟩
/-! ### What a state is, and what a record makes of it -/
structure CnI(n:Net)(c:Cn)(k:Nat):Prop where
 d:DkN n c.1
 t:c.2.1.length<=k
 tv:∀x∈c.2.1,x.2.2.2.2.2.length<=100000
 srt:SortT c.2.1
 a:c.2.2.1.length<=k
 n0:0<=c.2.2.2
 n1:c.2.2.2<=k
theorem CnI.cns{n:Net}(hn:GN n){c:Cn}{k:Nat}(h:CnI n c k)(hk:k<=10000):CnS c:=⟨h.d.small hn,by have:=h.t; omega,h.tv,by have:=h.a; omega⟩
theorem CnI.up{n:Net}{c:Cn}{k:Nat}(h:CnI n c k):CnI n c (k+1):=⟨h.d,zz1 h.t,h.tv,h.srt,zz1 h.a,h.n0,by have:=h.n1; omega⟩
theorem qsE{n:Net}{c:Cn}{r:Rec}{k:Nat}(hi:CnI n c k)(hk:k<=10000)(hr:RecP r)(h:(capp n c r).2=0):CnI n (capp n c r).1 (k+1)/\(capp n c r).1.2.2.2=c.2.2.2+1∧
  (if r.1=2 then appS n c.1 r.2.2.1=((capp n c r).1.1,0) else(capp n c r).1.1=c.1)/\(if r.1=3 then Ac.postF c.2.2.1 r.2.2.2=((capp n c r).1.2.2.1,0) else(capp n c r).1.2.2.1=c.2.2.1):=by
 have hn0:=hi.n0; have hn1:=hi.n1;unfold capp at h ⊢;by_cases k1:r.1=1
 ·rw[if_pos k1] at h ⊢;rw[if_neg (by omega),if_neg (by omega)]
  unfold capp1 at h ⊢;by_cases h1:c.2.2.2=1000
  ·rw[if_pos h1] at h; cases h
  rw[if_neg h1] at h ⊢;by_cases h2:(accS c.2.1 r).2=0
  ·rw[if_pos h2];refine⟨?_,rfl,rfl,rfl⟩
   unfold accS at h2 ⊢;by_cases h3:r.2.1.length<5\/noB r.2.2.1=false\/noE r.2.2.2=false\/qll (telOf r.2.1)=false
   ·rw[if_pos h3] at h2; cases h2
   rw[if_neg h3] at h2 ⊢;cases hp:putT c.2.1 (telOf r.2.1) with
   | none=>rw[hp] at h2; cases h2
   | some l'=>
    have hq:=qpO hi.srt hp;refine⟨hi.d,zG hq.len (by have:=hi.t; omega),fun x hx=>?_,hq.srt,zz1 hi.a,by simp only; omega,by simp only; omega⟩
    rcases hq.frm x hx with rfl | ⟨hx,_⟩
    ·have:=hr.v; show(List.drop 5 _).length<=_; simp; omega
    ·exact hi.tv x hx
  ·rw[if_neg h2] at h; exact absurd h h2
 rw[if_neg k1] at h ⊢;by_cases k2:r.1=2
 ·rw[if_pos k2] at h ⊢;rw[if_pos k2,if_neg (by omega)]
  unfold capp2 at h ⊢;by_cases h1:c.2.2.2=1000
  ·rw[if_pos h1] at h; cases h
  rw[if_neg h1] at h ⊢;by_cases h2:(cmdS n c.1 r).2=0
  ·rw[if_pos h2];unfold cmdS at h2 ⊢;by_cases h3:0<r.2.1.length\/noE r.2.2.2=false
   ·rw[if_pos h3] at h2; cases h2
   rw[if_neg h3] at h2 ⊢;exact⟨⟨hi.d.ln (qET _ _),zz1 hi.t,hi.tv,hi.srt,zz1 hi.a,by simp only; omega,by simp only; omega⟩,rfl,Prod.ext rfl h2,rfl⟩
  ·rw[if_neg h2] at h; exact absurd h h2
 rw[if_neg k2] at h ⊢;rw[if_neg k2];by_cases k3:r.1=3
 ·rw[if_pos k3] at h ⊢;rw[if_pos k3];unfold capp3 at h ⊢;by_cases h1:c.2.2.2=1000
  ·rw[if_pos h1] at h; cases h
  rw[if_neg h1] at h ⊢;by_cases h2:(postS c.2.2.1 r).2=0
  ·rw[if_pos h2];unfold postS at h2 ⊢;by_cases h3:0<r.2.1.length\/noB r.2.2.1=false
   ·rw[if_pos h3] at h2; cases h2
   rw[if_neg h3] at h2 ⊢;have ha:=hi.a;exact⟨⟨hi.d,zz1 hi.t,hi.tv,hi.srt,zG (Ac.post_len (by omega)) (by omega),by simp only; omega,by simp only; omega⟩,rfl,rfl,Prod.ext rfl h2⟩
  ·rw[if_neg h2] at h; exact absurd h h2
 ·rw[if_neg k3] at h;exfalso;revert h;simp only;split <;> simp
theorem qv1{n:Net}(s:Stp):∀(l:List Stp) (d:Dk) (i:Int) {d' d'':Dk} {j:Int},runL n d i l=(d',j,0)->appS n d' s=(d'',0)->runL n d i (l++[s])=(d'',j+1,0)
 | [],d,i,d',d'',j,h,h2=>by
  rw[runL] at h;injection h with e1 e2; injection e2 with e2 _; subst e1 e2
  show runL n d i [s]=_;unfold runL;rw[h2,if_neg (by simp)]; rfl
 | x::l,d,i,d',d'',j,h,h2=>by
  show runL n d i (x::(l++[s]))=_;unfold runL at h ⊢;by_cases hc:(appS n d x).2≠0
  ·rw[if_pos hc] at h;injection h with _ h; injection h with _ h; exact absurd h hc
  ·rw[if_neg hc] at h ⊢;exact qv1 s l _ _ h h2
theorem qtA(e:Ent3):∀(l:List Ent3) (a:List Acc4) {a' a'':List Acc4},Ac.bookF l a=(a',0)->Ac.postF a' e=(a'',0)->Ac.bookF (l++[e]) a=(a'',0)
 | [],a,a',a'',h,h2=>by
  rw[Ac.bookF] at h;injection h with e1; subst e1
  show Ac.bookF [e] a=_;unfold Ac.bookF;rw[h2,if_pos rfl]; rfl
 | x::l,a,a',a'',h,h2=>by
  show Ac.bookF (x::(l++[e])) a=_;unfold Ac.bookF at h ⊢;by_cases hc:(Ac.postF a x).2=0
  ·rw[if_pos hc] at h ⊢;exact qtA e l _ h h2
  ·rw[if_neg hc] at h;injection h with _ h; exact absurd h hc
structure FolI(n:Net)(d0:Dk)(c:Cn)(steps:List Stp)(ents:List Ent3)(k:Nat):Prop where
 ci:CnI n c k
 sl:steps.length<=k
 el:ents.length<=k
 sh:∀s∈steps,s.2.2.2.2.2.1.length<=100000
 run:runL n d0 0 steps=(c.1,(steps.length:Int),0)
 book:Ac.bookF ents []=(c.2.2.1,0)
theorem FolI.up{n:Net}{d0:Dk}{c:Cn}{steps:List Stp}{ents:List Ent3}{k:Nat}(h:FolI n d0 c steps ents k):FolI n d0 c steps ents (k+1):=⟨h.ci.up,zz1 h.sl,zz1 h.el,h.sh,h.run,h.book⟩
theorem FolI.put{n:Net}{d0:Dk}{c:Cn}{steps:List Stp}{ents:List Ent3}{k:Nat}(h:FolI n d0 c steps ents k)(hk:k<=100){r:Rec}(hr:RecP r)(h0:(capp n c r).2=0):
  FolI n d0 (capp n c r).1 (if r.1=2 then steps++[r.2.2.1] else steps) (if r.1=3 then ents++[r.2.2.2] else ents) (k+1):=by
 obtain⟨h1,h2,h3,h4⟩:=qsE h.ci (by omega) hr h0
 have hsl:=h.sl; have hel:=h.el;refine⟨h1,?_,?_,fun s hs=>?_,?_,?_⟩
 ·split <;> (try rw[zd,zI]) <;> omega
 ·split <;> (try rw[zd,zI]) <;> omega
 ·split at hs
  ·rcases zD.1 hs with hs | hs
   ·exact h.sh s hs
   ·rw[zW.1 hs]; have:=hr.h; omega
  ·exact h.sh s hs
 ·by_cases k2:r.1=2
  ·rw[if_pos k2] at h3 ⊢;have:=qv1 r.2.2.1 steps d0 0 h.run h3;rw[this,zd]; rfl
  ·rw[if_neg k2] at h3 ⊢;rw[h3]; exact h.run
 ·by_cases k3:r.1=3
  ·rw[if_pos k3] at h4 ⊢;exact qtA r.2.2.2 ents [] h.book h4
  ·rw[if_neg k3] at h4 ⊢;rw[h4]; exact h.book
end Go.Proofs.YtmdijohmddokhaaGreatDoor
namespace Go.Proofs.YtmdijohmddokhaaGreatDoor
open Go Go.Sq
theorem qyW(a b:Tel):qi7 a b=some (befT a b):=qvX a b
theorem qEe(n m:Int):qkC n m=some (rg 0 m n):=tv1 n m
theorem qyX(t:Tel)(h:t.2.2.2.2.2.length<=100000):qiB t=some (qll t):=by
 have k:=qa1 (ε:=Unit⊕Bool) (step:=fun x=>qeJ t x) t.2.2.2.2.2.length (fun i=>(i:Int)) (fun i=>rv (t.2.2.2.2.2.getD i 0)) (fin:=.inl ()) (bad:=.inr false) (fun i hi _ hq=>?_) (fun i hi _ hq=>?_) (fun _=>?_)
 ·have hall:(List.range t.2.2.2.2.2.length).all (fun i=>rv (t.2.2.2.2.2.getD i 0))=t.2.2.2.2.2.all rv:=qst t.2.2.2.2.2 0 rv
  rw[hall] at k;unfold qiB;refine(congrArg (fun o=>Option.bind o _) k).trans ?_
  unfold qll;cases ha:t.2.2.2.2.2.all rv with
  | false=>simp
  | true=>
   simp only[za,z7,z81,qEe,zv2];have hd:decide ((t.2.2.2.2.2.length:Int)<=16)=decide (t.2.2.2.2.2.length<=16):=by
    by_cases h:t.2.2.2.2.2.length<=16
    ·rw[dec_t h,dec_t (by omega)]
    ·rw[dec_f h,dec_f (by omega)]
   rw[hd];generalize decide (t.2.2.2.2.2.length<=16)=e;cases rg 0 255 t.1 <;> cases rg 0 255 t.2.1 <;> cases rg 0 2147483648 t.2.2.1 <;> cases rg 0 1099511627776 t.2.2.2.1 <;> cases rg 0 63 t.2.2.2.2.1 <;> cases e <;> rfl
 ·unfold qeJ;have hq:=(tv2 (t.2.2.2.2.2.getD i 0)).symm;rename_i hq0;rw[hq0] at hq;unfold qbx at hq;simp only[z9];rw[dec_t (show(i:Int)<(t.2.2.2.2.2.length:Int) by omega),za,gd_t (inB_t hi),gd_t (inB_t hi),<-hq,z7]
  simp only[zf,zb];rw[w1 hi (by omega)]
 ·unfold qeJ;have hq:=(tv2 (t.2.2.2.2.2.getD i 0)).symm;rename_i hq0;rw[hq0] at hq;unfold qbx at hq;simp only[z9];rw[dec_t (show(i:Int)<(t.2.2.2.2.2.length:Int) by omega),za,gd_t (inB_t hi),gd_t (inB_t hi),<-hq,z7]; rfl
 ·unfold qeJ;rw[dec_f (show ¬(t.2.2.2.2.2.length:Int)<(t.2.2.2.2.2.length:Int) by omega)]; rfl
theorem qyY{l:List Tel}(hs:SortT l)(hn:l.length<=10000)(t:Tel):qha t l=some ((putT l t).isSome,(putT l t).getD []):=by
 have key:∃s,iter (fun x:Int×List Tel=>qiC t x.1 x.2) (0,l)=some s/\∃k:Nat,s=((k:Int),l)/\LbT l t.1 k:=by
  refine qq3 (fun x=>∃k:Nat,x=((k:Int),l)/\k<=l.length/\∀j,j<k->(l.getD j t0).1<t.1) (fun x=>((l.length:Int)-x.1).toNat) _ ?_ ⟨0,rfl,by omega,fun j hj=>by omega⟩
  rintro _ ⟨k,rfl,h1,h2⟩
  unfold qiC;simp only[z9];by_cases hk:k<l.length
  ·rw[dec_t (show(k:Int)<(l.length:Int) by omega),za,gd_t (inB_t hk),z7]
   by_cases hc:(l.getD k t0).1<t.1
   ·right;rw[dec_t (show(l.getD k (0,0,0,0,0,[])).1<t.1 from hc)]
    simp only[za];rw[w1 hk (by omega)]
    refine⟨_,rfl,⟨k+1,rfl,by omega,fun j hj=>?_⟩,by simp only; omega⟩
    by_cases e:j=k
    ·rw[e]; exact hc
    ·exact h2 j (by omega)
   ·left;rw[dec_f (show ¬(l.getD k (0,0,0,0,0,[])).1<t.1 from hc)]
    refine⟨_,rfl,k,rfl,h1,h2,fun j hj hjl=>?_⟩
    by_cases e:j=k
    ·rw[e]; omega
    ·have:=gDp hs (i:=k) (j:=j) (by omega) hjl; omega
  ·left;rw[dec_f (show ¬(k:Int)<(l.length:Int) by omega)]
   exact⟨_,rfl,k,rfl,h1,h2,fun j hj hjl=>by omega⟩
 obtain⟨_,q1,k,rfl,hk⟩:=key;have hkl:=hk.le;unfold qha;rw[q1,qw6 hk];simp only[z7,z9,zC];have tail:∀(c:Bool),c=false->(bif c then(gd (inB (k:Int) l.length)<|(qi7 (l.getD k (0,0,0,0,0,[])) t).bind fun r=>bif !r then some (false,[]) else gd (inB (k:Int) l.length)<|some (true,l.set k t)) else(gd (cutG none (some (.i64,(k:Int))) l.length)<|gd (fits (0+(l.take k).length) 64)<|gd (fits ((l.take k).length+1) 64)<|gd (cutG (some (.i64,(k:Int))) none l.length)<|gd (fits ((l.take k++[t]).length+(l.drop k).length) 64)<|some (true,l.take k++[t]++l.drop k)))=some (true,l.take k++[t]++l.drop k):=by
  intro c hc;subst hc;rw[zb,gd_t (by unfold cutG; simp; omega),gd_t (qaw (by rw[zn]; omega)),gd_t (qaw (by rw[zn]; omega)),gd_t (by unfold cutG; simp; omega),gd_t (qaw (by simp only[zd,zn,z01,zg,zx]; omega))]
 by_cases hl:k<l.length
 ·rw[dec_t (show(k:Int)<(l.length:Int) by omega),za,gd_t (inB_t hl),z7]
  by_cases he:(l.getD k t0).1=t.1
  ·rw[if_pos ⟨hl,he⟩,dec_t (show(l.getD k (0,0,0,0,0,[])).1=t.1 from he)]
   simp only[za];rw[gd_t (inB_t hl),qyW,z7];cases hb:befT (l.getD k t0) t with
   | true=>
    simp only[zf,zb];rw[gd_t (inB_t hl)]; rfl
   | false=>
    rfl
  ·rw[if_neg (fun h=>he h.2)]
   exact tail _ (dec_f (show ¬(l.getD k (0,0,0,0,0,[])).1=t.1 from he))
 ·rw[dec_f (show ¬(k:Int)<(l.length:Int) by omega),if_neg (fun h=>hl h.1)]
  exact tail _ rfl
end Go.Proofs.YtmdijohmddokhaaGreatDoor
namespace Go.Proofs.YtmdijohmddokhaaGreatDoor
open Go Go.Sq
theorem qCz(t:Tel)(h:t.2.2.2.2.2.length<=100000):qdJ t=some t:=by
 unfold qdJ;rw[gd_t (qaw (by omega)),zC]
theorem qA0{c:Cn}(h:CnS c):qmW c=some (c.2.2.2,c.1.1,c.1.2.1,c.1.2.2.1,c.1.2.2.2,c.2.1,c.2.2.1):=by
 unfold qmW;rw[show((c.1.1,c.1.2.1,c.1.2.2.1,c.1.2.2.2):Dk)=c.1 from rfl,qpJ h.d,z7,gd_t (qaw (by have:=h.a; omega)),zC]
 have k1:=qbj (step:=fun x:Int×List Vl×List Int×List Int×List Bool×List Tel×List Acc4=>qhX c x.1 x.2.1 x.2.2.1 x.2.2.2.1 x.2.2.2.2.1 x.2.2.2.2.2.1 x.2.2.2.2.2.2) (e:=(c.1.1,c.1.2.1,c.1.2.2.1,c.1.2.2.2,c.2.1,c.2.2.1)) c.2.1.length
  (fun i=>((i:Int),c.1.1,c.1.2.1,c.1.2.2.1,c.1.2.2.2,c.2.1.take i,c.2.2.1)) (fun i hi=>by
   have ht:=h.t;unfold qhX;simp only[z9];rw[dec_t (show(i:Int)<(c.2.1.length:Int) by omega),za,gd_t (inB_t hi),qCz _ (h.tv _ (gmem (d:=t0) hi)),z7,gd_t (qaw (by rw[zn]; omega)),w1 hi (by omega)]
   rw[zq2 hi,<-gD_eq (d:=t0) hi]) (by
   unfold qhX;simp only;rw[dec_f (show ¬(c.2.1.length:Int)<(c.2.1.length:Int) by omega),zb,zV1])
 refine(congrArg (fun o=>Option.bind o _) k1).trans ?_
 rfl
theorem ralike0(p:Pth):qiA p (0,0,[],0)=some (decide (p.1=0)&&(decide (p.2.1=0)&&decide (p.2.2.1.length=0))):=by
 unfold qiA;simp only;by_cases h1:p.1=0
 ·rw[dec_t h1];by_cases h2:p.2.1=0
  ·rw[dec_t h2];by_cases h3:p.2.2.1.length=0
   ·rw[dec_t h3,dec_t (show(p.2.2.1.length:Int)=(([]:List (Int×Bool)).length:Int) by rw[h3]; rfl)]
    simp only[zf,zb,z7];have k:iter (fun x=>qjm p (0,0,[],0) x) 0=some (.inl ()):=qaV (by
     unfold qjm;rw[dec_f (show ¬(0:Int)<(p.2.2.1.length:Int) by omega)]; rfl)
    rw[k]; rfl
   ·rw[dec_f h3,dec_f (show ¬(p.2.2.1.length:Int)=(([]:List (Int×Bool)).length:Int) by simp; exact fun e=>h3 (by rw[e]; rfl))]; rfl
  ·rw[dec_f h2]; rfl
 ·rw[dec_f h1]; rfl
theorem qqj(s:Stp):qfq s=some (noB s):=by
 unfold qfq qch noB;simp only;have ha:qiA (s.2.2.2.1,s.2.2.2.2.1,s.2.2.2.2.2.1,s.2.2.2.2.2.2) (0,0,[],0)=some (decide (s.2.2.2.1=0)&&(decide (s.2.2.2.2.1=0)&&decide (s.2.2.2.2.2.1.length=0))):=ralike0 s.2.2.2;simp only[ha];have e:∀(a b c d i o h:Bool),((bif a then bif b then bif c then bif d then(some (i&&(o&&h)):Option Bool).bind fun r=>some r else some false else some false else some false else some false).bind fun r=>some r)=some (a&&(b&&(c&&(i&&(o&&(d&&h)))))):=by
  intro a b c d i o h;cases a <;> cases b <;> cases c <;> cases d <;> cases i <;> cases o <;> cases h <;> rfl
 exact e _ _ _ _ _ _ _
end Go.Proofs.YtmdijohmddokhaaGreatDoor
namespace Go.Proofs.YtmdijohmddokhaaGreatDoor
open Go Go.Sq
theorem qtB(n:Net){c:Cn}(h:CnS c)(hs:SortT c.2.1)(hk:0<=c.2.2.2/\c.2.2.2<=100000)(r:Rec)(hv:r.2.1.length<=100000)(hh:r.2.2.1.2.2.2.2.2.1.length<=100000):qgn n c r=some (capp n c r):=by
 unfold qgn capp;have hc:(((c.1.1,c.1.2.1,c.1.2.2.1,c.1.2.2.2),c.2.1,c.2.2.1,c.2.2.2):Cn)=c:=rfl;have hst:((r.2.2.1.1,r.2.2.1.2.1,r.2.2.1.2.2.1,r.2.2.1.2.2.2.1,r.2.2.1.2.2.2.2.1,r.2.2.1.2.2.2.2.2.1,r.2.2.1.2.2.2.2.2.2):Stp)=r.2.2.1:=rfl;by_cases h0:c.2.2.2=1000
 ·rw[dec_t h0];simp only[za];unfold capp1 capp2 capp3;simp only[if_pos h0];split
  ·rfl
  ·split
   ·rfl
   ·split <;> rfl
 ·rw[dec_f h0];simp only[zb];rw[qA0 h];simp only[z7];have hw:wi64 (c.2.2.2+1)=c.2.2.2+1:=wi (by omega)
  by_cases h1:r.1=1
  ·rw[dec_t h1,if_pos h1];simp only[za];unfold capp1;rw[if_neg h0];have bad:accS c.2.1 r=(c.2.1,28)->(if(accS c.2.1 r).2=0 then((c.1,(accS c.2.1 r).1,c.2.2.1,c.2.2.2+1),(0:Int)) else(c,(accS c.2.1 r).2))=(c,28):=fun e=>by rw[e]; rfl
   by_cases l5:r.2.1.length<5
   ·rw[dec_t (show(r.2.1.length:Int)<5 by omega),bad (if_pos (.inl l5))]; rfl
   ·rw[dec_f (show ¬(r.2.1.length:Int)<5 by omega)]
    simp only[zb];rw[qqj];simp only[z7];have hnb:noB (r.2.2.1.1,r.2.2.1.2.1,r.2.2.1.2.2.1,r.2.2.1.2.2.2.1,r.2.2.1.2.2.2.2.1,r.2.2.1.2.2.2.2.2.1,r.2.2.1.2.2.2.2.2.2)=noB r.2.2.1:=rfl;rw[hnb];cases hb:noB r.2.2.1 with
    | false=>rw[bad (if_pos (.inr (.inl hb)))]; rfl
    | true=>
     simp only[zf,zb,z7];have hne:(decide (r.2.2.2.1=[])&&(decide (r.2.2.2.2.1=0)&&decide (r.2.2.2.2.2=0)))=noE r.2.2.2:=rfl;rw[hne];cases he:noE r.2.2.2 with
     | false=>rw[bad (if_pos (.inr (.inr (.inl he))))]; rfl
     | true=>
      simp only[zf,zb];rw[gd_t (qae.2 ⟨by omega,by omega⟩),gd_t (qae.2 ⟨by omega,by omega⟩),gd_t (qae.2 ⟨by omega,by omega⟩),gd_t (qae.2 ⟨by omega,by omega⟩),gd_t (qae.2 ⟨by omega,by omega⟩),gd_t (by unfold cutG; simp; omega),gd_t (qaw (by rw[z01]; omega))]
      simp only[zC];have hvt:qiB (r.2.1.getD 0 0,r.2.1.getD 1 0,r.2.1.getD 2 0,r.2.1.getD 3 0,r.2.1.getD 4 0,r.2.1.drop 5)=some (qll (telOf r.2.1)):=qyX (telOf r.2.1) (by show(r.2.1.drop 5).length<=100000; rw[z01]; omega)
      rw[hvt];simp only[z7];cases hvd:qll (telOf r.2.1) with
      | false=>rw[bad (if_pos (.inr (.inr (.inr hvd))))]; rfl
      | true=>
       simp only[zf,zb];have hsd:qha (r.2.1.getD 0 0,r.2.1.getD 1 0,r.2.1.getD 2 0,r.2.1.getD 3 0,r.2.1.getD 4 0,r.2.1.drop 5) c.2.1=some ((putT c.2.1 (telOf r.2.1)).isSome,(putT c.2.1 (telOf r.2.1)).getD []):=qyY hs h.t (telOf r.2.1);rw[hsd];have hno:¬(r.2.1.length<5\/noB r.2.2.1=false\/noE r.2.2.2=false\/qll (telOf r.2.1)=false):=fun e=>by
        rcases e with e | e | e | e
        ·exact l5 e
        ·rw[hb] at e; cases e
        ·rw[he] at e; cases e
        ·rw[hvd] at e; cases e
       unfold accS;rw[if_neg hno];cases putT c.2.1 (telOf r.2.1) with
       | none=>rfl
       | some l'=>
        simp only[z7,zQ2,zf,zb,hw]; rfl
  ·rw[dec_f h1,if_neg h1];simp only[zb];by_cases h2:r.1=2
   ·rw[dec_t h2,if_pos h2];simp only[za];unfold capp2;rw[if_neg h0];have bad:cmdS n c.1 r=(c.1,28)->(if(cmdS n c.1 r).2=0 then(((cmdS n c.1 r).1,c.2.1,c.2.2.1,c.2.2.2+1),(0:Int)) else(c,(cmdS n c.1 r).2))=(c,28):=fun e=>by rw[e]; rfl
    by_cases l0:0<r.2.1.length
    ·rw[dec_t (show 0<(r.2.1.length:Int) by omega),bad (if_pos (.inl l0))]; rfl
    ·rw[dec_f (show ¬0<(r.2.1.length:Int) by omega)]
     simp only[zb,z7];have hne:(decide (r.2.2.2.1=[])&&(decide (r.2.2.2.2.1=0)&&decide (r.2.2.2.2.2=0)))=noE r.2.2.2:=rfl;rw[hne];cases he:noE r.2.2.2 with
     | false=>rw[bad (if_pos (.inr he))]; rfl
     | true=>
      rw[show cmdS n c.1 r=appS n c.1 r.2.2.1 from if_neg (fun e=>e.elim l0 (fun e=>by rw[he] at e; cases e))]
      simp only[zf,zb];have ha:qiF (n.1,n.2.1,n.2.2.1,n.2.2.2.1,n.2.2.2.2.1,n.2.2.2.2.2) (c.1.1,c.1.2.1,c.1.2.2.1,c.1.2.2.2) (r.2.2.1.1,r.2.2.1.2.1,r.2.2.1.2.2.1,r.2.2.1.2.2.2.1,r.2.2.1.2.2.2.2.1,r.2.2.1.2.2.2.2.2.1,r.2.2.1.2.2.2.2.2.2)=some (appS n c.1 r.2.2.1):=qAN r.2.2.1 hh;rw[ha];simp only[z7];by_cases h3:(appS n c.1 r.2.2.1).2=0
      ·rw[dec_t h3,if_pos h3]; simp only[zf,zb,hw]
      ·rw[dec_f h3,if_neg h3]; rfl
   ·rw[dec_f h2,if_neg h2];simp only[zb];by_cases h3:r.1=3
    ·rw[dec_t h3,if_pos h3];simp only[za];unfold capp3;rw[if_neg h0];have bad:postS c.2.2.1 r=(c.2.2.1,28)->(if(postS c.2.2.1 r).2=0 then((c.1,c.2.1,(postS c.2.2.1 r).1,c.2.2.2+1),(0:Int)) else(c,(postS c.2.2.1 r).2))=(c,28):=fun e=>by rw[e]; rfl
     by_cases l0:0<r.2.1.length
     ·rw[dec_t (show 0<(r.2.1.length:Int) by omega),bad (if_pos (.inl l0))]; rfl
     ·rw[dec_f (show ¬0<(r.2.1.length:Int) by omega)]
      simp only[zb];rw[qqj];simp only[z7];have hnb:noB (r.2.2.1.1,r.2.2.1.2.1,r.2.2.1.2.2.1,r.2.2.1.2.2.2.1,r.2.2.1.2.2.2.2.1,r.2.2.1.2.2.2.2.2.1,r.2.2.1.2.2.2.2.2.2)=noB r.2.2.1:=rfl;rw[hnb];cases hb:noB r.2.2.1 with
      | false=>rw[bad (if_pos (.inr hb))]; rfl
      | true=>
       rw[show postS c.2.2.1 r=Ac.postF c.2.2.1 r.2.2.2 from if_neg (fun e=>e.elim l0 (fun e=>by rw[hb] at e; cases e))]
       simp only[zf,zb];have ha:qgm c.2.2.1 (r.2.2.2.1,r.2.2.2.2.1,r.2.2.2.2.2)=some (Ac.postF c.2.2.1 r.2.2.2):=(Ac.post_eq (l:=c.2.2.1) (e:=r.2.2.2) (by have:=h.a; omega)).2.1
       rw[ha];simp only[z7];by_cases h4:(Ac.postF c.2.2.1 r.2.2.2).2=0
       ·rw[dec_t h4,if_pos h4]; simp only[zf,zb,hw]
       ·rw[dec_f h4,if_neg h4]; rfl
    ·rw[dec_f h3,if_neg h3,if_neg h0]; rfl
end Go.Proofs.YtmdijohmddokhaaGreatDoor
namespace Go.Proofs.YtmdijohmddokhaaGreatDoor
open Go Go.Sq
structure CnG(c:Cn)(k:Nat):Prop where
 d:DkS c.1
 t:c.2.1.length<=k
 tv:∀x∈c.2.1,x.2.2.2.2.2.length<=100000
 srt:SortT c.2.1
 a:c.2.2.1.length<=k
 n0:0<=c.2.2.2
 n1:c.2.2.2<=k
theorem CnG.cns{c:Cn}{k:Nat}(h:CnG c k)(hk:k<=10000):CnS c:=⟨h.d,by have:=h.t; omega,h.tv,by have:=h.a; omega⟩
theorem CnG.up{c:Cn}{k:Nat}(h:CnG c k):CnG c (k+1):=⟨h.d,zz1 h.t,h.tv,h.srt,zz1 h.a,h.n0,by have:=h.n1; omega⟩
end Go.Proofs.YtmdijohmddokhaaGreatDoor
