/- The centre: repeated and elder telegrams. No condition. -/
import Derived.Test.YtfdgemafaphpaaaGreatCn2
import Derived.Test.YtfdgemafaphpaaaGreatAw
namespace Go.Proofs.YtfdgemafaphpaaaGreat
open Go Go.Sq
set_option linter.unusedVariables false
theorem qsK{a b c:Tel}(h:befT a b=true)(h':befT b c=true):befT a c=true:=by
 rw[qBR] at h h' ⊢;omega
structure Put(l:List Tel)(t:Tel)(l':List Tel):Prop where
 srt:SortT l'
 mem:t∈l'
 frm:∀x∈l',x=t\/x∈l/\x.1≠t.1
 kep:∀x∈l,x.1≠t.1->x∈l'
 bef:∀x∈l,x.1=t.1->befT x t=true
 len:l'.length<=l.length+1
theorem qlI:∀ {l:List Tel} {t:Tel} {l':List Tel},SortT l->putT l t=some l'->Put l t l'
 | [],t,l',_,h=>by
  injection h with h; subst h
  exact⟨by unfold SortT; simp,by simp,fun x hx=>.inl (by simpa using hx),fun x hx=>(by cases hx),fun x hx=>(by cases hx),by simp⟩
 | x::r,t,l',hs,h=>by
  unfold putT at h;have hs':=zE2.1 hs;by_cases h1:x.1<t.1
  ·rw[if_pos h1] at h;obtain⟨r',hr,rfl⟩:=z31.1 h;have ih:=qlI hs'.2 hr;refine⟨zE2.2 ⟨fun y hy=>?_,ih.srt⟩,zT _ ih.mem,fun y hy=>?_,fun y hy hn=>?_,fun y hy he=>?_,by have:=ih.len; simp; omega⟩
   ·rcases ih.frm y hy with rfl | ⟨h2,_⟩
    ·exact h1
    ·exact hs'.1 y h2
   ·rcases zE.1 hy with rfl | hy
    ·exact .inr ⟨zQ1,by omega⟩
    ·exact(ih.frm y hy).imp id fun h=>⟨zT _ h.1,h.2⟩
   ·rcases zE.1 hy with rfl | hy
    ·exact zQ1
    ·exact zT _ (ih.kep y hy hn)
   ·rcases zE.1 hy with rfl | hy
    ·omega
    ·exact ih.bef y hy he
  ·rw[if_neg h1] at h;by_cases h2:x.1=t.1
   ·rw[if_pos h2] at h;cases hb:befT x t with
    | false=>rw[hb] at h; cases h
    | true=>
     rw[hb] at h;injection h with h; subst h
     refine⟨zE2.2 ⟨fun y hy=>by have:=hs'.1 y hy; omega,hs'.2⟩,zQ1,fun y hy=>?_,fun y hy hn=>?_,fun y hy he=>?_,by simp⟩
     ·rcases zE.1 hy with rfl | hy
      ·exact .inl rfl
      ·exact .inr ⟨zT _ hy,by have:=hs'.1 y hy; omega⟩
     ·rcases zE.1 hy with rfl | hy
      ·exact absurd h2 hn
      ·exact zT _ hy
     ·rcases zE.1 hy with rfl | hy
      ·exact hb
      ·have:=hs'.1 y hy; omega
   ·rw[if_neg h2] at h;injection h with h; subst h
    refine⟨zE2.2 ⟨fun y hy=>?_,hs⟩,zQ1,fun y hy=>?_,fun y hy hn=>zT _ hy,fun y hy he=>?_,by simp⟩
    ·rcases zE.1 hy with rfl | hy
     ·omega
     ·have:=hs'.1 y hy; omega
    ·rcases zE.1 hy with rfl | hy
     ·exact .inl rfl
     ·refine .inr ⟨hy,?_⟩
      rcases zE.1 hy with rfl | hy
      ·exact h2
      ·have:=hs'.1 y hy; omega
    ·rcases zE.1 hy with rfl | hy
     ·exact absurd he h2
     ·have:=hs'.1 y hy; omega
theorem qvc:∀ {l:List Tel} {t:Tel},putT l t=none->∃x∈l,x.1=t.1/\befT x t=false
 | [],t,h=>by cases h
 | x::r,t,h=>by
  unfold putT at h;by_cases h1:x.1<t.1
  ·rw[if_pos h1] at h;obtain⟨y,hy,h2⟩:=qvc (Option.map_eq_none_iff.1 h);exact⟨y,zT _ hy,h2⟩
  ·rw[if_neg h1] at h;by_cases h2:x.1=t.1
   ·rw[if_pos h2] at h;cases hb:befT x t with
    | false=>exact⟨x,zQ1,h2,hb⟩
    | true=>rw[hb] at h; cases h
   ·rw[if_neg h2] at h; cases h
structure Lst(all l:List Tel):Prop where
 srt:SortT l
 up:∀o∈all,∃x∈l,x.1=o.1/\(x=o\/befT o x=true)
 frm:∀x∈l,x∈all
def nwB(all:List Tel)(t:Tel):Bool:=all.all fun o=>!decide (o.1=t.1) || befT o t
theorem Lst.new{all l:List Tel}(h:Lst all l){t:Tel}:nwB all t=(putT l t).isSome:=by
 unfold nwB;cases hp:putT l t with
 | none=>
  obtain⟨x,hx,h1,h2⟩:=qvc hp;refine zV.2 fun he=>?_
  have:=zx.1 he x (h.frm x hx);rw[zb1 h1,h2] at this;cases this
 | some l'=>
  refine zx.2 fun o ho=>?_
  by_cases h1:o.1=t.1
  ·obtain⟨x,hx,h2,h3⟩:=h.up o ho;have h4:=(qlI h.srt hp).bef x hx (by omega)
   rw[show befT o t=true from h3.elim (fun e=>e ▸ h4) (fun h3=>qsK h3 h4),Bool.or_true]
  ·rw[zo2 h1]; rfl
theorem Lst.put{all l l':List Tel}(h:Lst all l){t:Tel}(hp:putT l t=some l'):Lst (all++[t]) l':=by
 have hq:=qlI h.srt hp;refine⟨hq.srt,fun o ho=>?_,fun x hx=>?_⟩
 ·rcases zy.1 ho with ho | ho
  ·obtain⟨x,hx,h2,h3⟩:=h.up o ho;by_cases h1:x.1=t.1
   ·have h4:=hq.bef x hx h1;exact⟨t,hq.mem,by omega,.inr (h3.elim (fun e=>e ▸ h4) fun h3=>qsK h3 h4)⟩
   ·exact⟨x,hq.kep x hx h1,h2,h3⟩
  ·rw[zI.1 ho]; exact⟨t,hq.mem,rfl,.inl rfl⟩
 ·rcases hq.frm x hx with rfl | ⟨h1,_⟩
  ·simp
  ·exact List.mem_append_left _ (h.frm x h1)
theorem qDu:∀v∈[(0:Int),(-1),62,63,(-63),(-62),9007199254740992,(-9007199254740992),126,1000],rv v=true:=by decide
theorem qEp{st:Int}(h0:0<=st/\st<=255){s:List Int}{q:Int}(h:SrcOk s q):Ok (qdO st s q) fun z=>SrcOk z.2.1 z.2.2/\z.1.1=st/\qe9 z.1=true/\z.1.2.2.2.2.2.length<=3:=by
 unfold qdO;refine Ok.bind (sN h (n:=3) (by omega) (by omega)) fun r hr=>?_
 refine Ok.bind (sN hr.1 (n:=6) (by omega) (by omega)) fun r2 hr2=>?_
 refine Ok.bind (sP hr2.1 (by simp) (by simp)) fun r3 hr3=>?_
 refine Ok.bind (sN hr3.1 (n:=64) (by omega) (by omega)) fun r4 hr4=>?_
 refine Ok.bind (sN hr4.1 (n:=4) (by omega) (by omega)) fun r5 hr5=>?_
 have h3:=hr3.2;simp only[zE,z33,or_false] at h3;refine Ok.bind (Q:=fun z:List Int×Int×List Int=>SrcOk z.1 z.2.1/\z.2.2.length<=3/\z.2.2.all rv=true) ?_ fun z hz=>?_
 ·refine Ok.loop (fun x:Int×List Int×Int×List Int=>0<=x.1/\x.1+x.2.2.2.length<=3/\SrcOk x.2.1 x.2.2.1/\x.2.2.2.all rv=true) (fun x=>x.1.toNat) ⟨hr5.2.1,by simp; omega,hr5.1,rfl⟩ ?_
  rintro⟨i,s',q',t⟩ ⟨h1,h2,h4,h5⟩
  simp only at h1 h2 h4 h5;show Ok (qd2 i s' q' t) _;unfold qd2;refine Ok.bif (fun hc=>?_) fun hc=>.ret ⟨h4,by simp only; omega,h5⟩
  have hc:=zm hc;refine Ok.bind (sP h4 (by simp) (by simp)) fun r6 hr6=>?_
  refine Ok.gd (qaj (by omega)) (.ret ?_)
  rw[wi (by omega)]
  refine⟨⟨by simp only; omega,by simp only[zd,zV1]; omega,hr6.1,?_⟩,by simp only; omega⟩
  simp only[List.all_append,h5,zF1,List.all_nil,qDu _ hr6.2,z23]
 ·refine .ret ⟨hz.1,rfl,?_,hz.2.1⟩
  unfold qe9;simp only;rw[rg_t h0,rg_t ⟨hr.2.1,by omega⟩,rg_t ⟨hr2.2.1,by omega⟩,rg_t (lo:=0) (hi:=1099511627776) (by omega),rg_t ⟨hr4.2.1,by omega⟩,hz.2.2,dec_t (show z.2.2.length<=16 by omega)]; rfl
structure RepI(c:Cn)(all:List Tel)(k:Nat):Prop where
 d:DkS c.1
 a:c.2.2.1=[]
 n:c.2.2.2=(all.length:Int)
 l:all.length<=k
 m:c.2.1.length<=k
 tv:∀x∈c.2.1,x.2.2.2.2.2.length<=100000
 lst:Lst all c.2.1
theorem RepI.cns{c:Cn}{all:List Tel}{k:Nat}(h:RepI c all k)(hk:k<=100):CnS c:=⟨h.d,by have:=h.m; omega,h.tv,by rw[h.a]; simp⟩
end Go.Proofs.YtfdgemafaphpaaaGreat
