/- The second engine, part B: how a state is carried over changes of the frame and of the world. No condition. -/
import Derived.Test.YtmdijohmddokhaaGreatDoorSqA
namespace Go.Sq
open Go Go.RowKit
def qcB(b:Nat):Nat->List SV->List Wr
 | _,[]=>[]
 | o,s::r=>.c b o s::qcB b (o+1) r
def qhF(b:Nat):Nat->Nat->List Key
 | _,0=>[]
 | o,n+1=>.c b o::qhF b (o+1) n
theorem qgN{b:Nat}:∀ {n o j:Nat},j<n->Key.c b (o+j)∈qhF b o n
 | 0,_,_,h=>by omega
 | n+1,o,0,_=>by simp[qhF]
 | n+1,o,j+1,h=>by
  have:=qgN (b:=b) (n:=n) (o:=o+1) (j:=j) (by omega)
  rw[show o+1+j=o+(j+1) by omega] at this
  simp[qhF,this]
theorem qcm(st:St)(l l':List Wr):st.app (l++l')=(st.app l).app l':=by
 induction l generalizing st with
 | nil=>rfl
 | cons x l ih=>exact ih _
theorem bq{x y:Nat}(h:x≠y):Nat.beq x y=false:=zJ.2 (fun e=>h (zc e))
theorem qjv(b:Nat):∀(cs:List SV) (o:Nat) (st:St),(st.app (qcB b o cs)).r=st.r/\(st.app (qcB b o cs)).v=st.v/\(st.app (qcB b o cs)).a=st.a/\(st.app (qcB b o cs)).d=st.d∧
  (∀b' j,b'≠b->(st.app (qcB b o cs)).c b' j=st.c b' j)/\(∀j,(j<o\/o+cs.length<=j)->(st.app (qcB b o cs)).c b j=st.c b j)/\(∀j s,cs[j]? = some s->(st.app (qcB b o cs)).c b (o+j)=s)
 | [],o,st=>⟨rfl,rfl,rfl,rfl,fun _ _ _=>rfl,fun _ _=>rfl,fun j s h=>by simp at h⟩
 | c::r,o,st=>by
  obtain⟨h1,h2,h3,h4,h5,h6,h7⟩:=qjv b r (o+1) (st.put (.c b o c));have hp:∀b' j,(st.put (.c b o c)).c b' j=if b'=b/\j=o then c else st.c b' j:=by
   intro b' j;show(bif Nat.beq b' b&&Nat.beq j o then c else st.c b' j)=_;by_cases e1:b'=b
   ·by_cases e2:j=o
    ·subst e1 e2; simp
    ·simp[bq e2,e2]
   ·simp[bq e1,e1]
  refine⟨h1,h2,h3,h4,fun b' j hb=>(h5 b' j hb).trans (by rw[hp,if_neg (fun h=>hb h.1)]),fun j hj=>(h6 j ?_).trans (by rw[hp,if_neg]; rintro⟨_,rfl⟩; simp at hj; omega),fun j s hs=>?_⟩
  ·simp at hj ⊢; omega
  ·cases j with
   | zero=>
    simp at hs; subst hs;exact(h6 o (.inl (by omega))).trans (by rw[hp,if_pos ⟨rfl,rfl⟩])
   | succ j=>
    have:=h7 j s (by simpa using hs)
    rw[<-this,show o+(j+1)=o+1+j by omega]; rfl
def Env.set(ρ:Env)(b:Nat)(u:Value):Env:=fun x=>if x=b then some u else ρ x
theorem ObOk.keep{F F':Nat->Prop}{w w':World}{A:Ob}{u:Value}(h:ObOk F w A u)(hF:∀g,F g->F' g)(hw:∀g,F g->w'.heap[g]? = w.heap[g]?)
  (hb:∀g,blkOf u=some g->w'.heap[g]? = w.heap[g]?):ObOk F' w' A u:=by
 have hc:=hw;cases A with
 | arr ty e l=>
  obtain⟨xs,⟨h1,h2⟩,h3⟩:=h;refine⟨xs,⟨h1,?_⟩,fun i x hx=>(h3 i x hx).mono hF hc⟩
  rcases h2 with h2 | ⟨g,cap,cur,rfl,a2,a3⟩
  ·exact .inl h2
  ·exact .inr ⟨g,cap,cur,rfl,(hb g rfl).trans a2,a3⟩
 | map nn ty k v l=>
  rcases h with h | ⟨r,es,clock,rfl,h2,h3,Z,h4,h5,h6⟩
  ·exact .inl h
  refine .inr ⟨r,es,clock,rfl,(hb r rfl).trans h2,h3,Z,h4,h5,fun z hz=>?_⟩
  obtain⟨⟨c1,p1,p2⟩,⟨c2,q1,q2⟩⟩:=h6 z hz;exact⟨⟨c1,p1.mono hF hc,p2⟩,⟨c2,q1.mono hF hc,q2⟩⟩
 | iter on k v c=>
  obtain⟨it,mo,since,seen,last,rfl,h1,h2,h3⟩:=h;refine⟨it,mo,since,seen,last,rfl,(hb it rfl).trans h1,?_,h3⟩
  rcases h2 with h2 | ⟨m,es,clock,rfl,a1,a2,a3,a4,a5,⟨L,b1,b2,b3⟩,a6⟩
  ·exact .inl h2
  ·refine .inr ⟨m,es,clock,rfl,hF _ a1,(hw _ a1).trans a2,a3,a4,a5,⟨L,b1,b2,fun i x e hx he=>?_⟩,fun s hs=>?_⟩
   ·obtain⟨⟨c1,p1,p2⟩,⟨c2,q1,q2⟩⟩:=b3 i x e hx he;exact⟨⟨c1,p1.mono hF hc,p2⟩,⟨c2,q1.mono hF hc,q2⟩⟩
   ·obtain⟨e,e1,e2,x,e3,⟨c1,p1,p2⟩,⟨c2,q1,q2⟩⟩:=a6 s hs;exact⟨e,e1,e2,x,e3,⟨c1,p1.mono hF hc,p2⟩,⟨c2,q1.mono hF hc,q2⟩⟩
theorem ObOk.lt{F:Nat->Prop}{w:World}{A:Ob}{u:Value}(h:ObOk F w A u){g:Nat}(hg:blkOf u=some g):g<w.heap.size:=by
 cases A with
 | arr ty e l=>
  obtain⟨xs,⟨h1,h2⟩,h3⟩:=h;rcases h2 with⟨ad,rfl,_⟩ | ⟨g',cap,cur,rfl,a2,a3⟩
  ·rw[qw9] at hg; cases hg
  ·injection hg with hg; subst hg; exact(zT.1 a2).1
 | map nn ty k v l=>
  rcases h with⟨_,rfl,_⟩ | ⟨r,es,clock,rfl,h2,_⟩
  ·cases hg
  ·injection hg with hg; subst hg; exact(zT.1 h2).1
 | iter on k v c=>
  obtain⟨it,mo,since,seen,last,rfl,h1,_⟩:=h;injection hg with hg; subst hg; exact(zT.1 h1).1
theorem ObOk.one{F:Nat->Prop}{w:World}{A:Ob}{u:Value}(h:ObOk F w A u):u.oneCell'=true:=by
 cases A with
 | arr ty e l=>
  obtain⟨xs,⟨h1,h2⟩,h3⟩:=h;rcases h2 with⟨ad,rfl,_⟩ | ⟨g',cap,cur,rfl,_⟩ <;> rfl
 | map nn ty k v l=>rcases h with⟨_,rfl,_⟩ | ⟨r,es,clock,rfl,_⟩ <;> rfl
 | iter on k v c=>obtain⟨it,mo,since,seen,last,rfl,_⟩:=h; rfl
theorem ObOk.novar{F:Nat->Prop}{w:World}{A:Ob}{u:Value}(h:ObOk F w A u){g:Nat}(hu:u=.pointer (some ⟨g,0,none⟩)){arr:Array Value}{ty:TypeId}{z:Nat×Nat}(hg:w.heap[g]? = some (.cells arr ty z)):False:=by
 subst hu;cases A with
 | arr ty e l=>obtain⟨xs,⟨_,h2⟩,_⟩:=h; rcases h2 with⟨_,hh,_⟩ | ⟨_,_,_,hh,_⟩ <;> cases hh
 | map nn ty k v l=>rcases h with⟨_,hh,_⟩ | ⟨_,_,_,hh,_⟩ <;> cases hh
 | iter on k v c=>
  obtain⟨it,mo,since,seen,last,e,h1,_⟩:=h;injection e with e; injection e with e; injection e with e; subst e
  rw[h1] at hg; cases hg
section
variable {P:Program} {w0:World} {M:Mod} {N:Nat} {F0:Nat->Prop} {ops:Array Oper}
variable {F:Nat->Prop} {ρ:Env} {st:St} {a:Act} {w:World}
theorem qwc(u:Value):Den P F w ρ (ofV u) u:=by
 cases u with
 | int k n=>exact .v ⟨[.int k n],rfl,rfl⟩
 | bool b=>exact .v ⟨[.bool b],rfl,rfl⟩
 | string s=>exact .v ⟨[.string s],rfl,rfl⟩
 | _=>exact .raw _
theorem Rel'.evx{st0:St}{rd:List Key}(h:Rel' P w0 M N F ρ st a w)(hag:∀κ∈rd,agree st0 st κ){x:Operand}(hx:∀κ∈qac x,κ∈rd):Den P F w ρ (st0.ev x) (a.eval x):=by
 cases x with
 | tmp t=>
  have:st0.r t=st.r t:=hag (.r t) (hx _ (by simp[qac]))
  show Den P F w ρ (st0.r t) _;rw[this]; exact h.regs t
 | const u=>exact qwc u
 | func f=>exact .clo (ss:=[]) (vs:=[]) rfl (fun i s u h=>by simp at h)
 | global g=>
  show Den P F w ρ (gfind globs g) (.pointer (some ⟨g,0,none⟩));rcases qwb globs g with e | ⟨p,hp,rfl,e⟩
  ·rw[e]; exact .any _
  ·rw[e];obtain⟨h1,es,h2,h3,_⟩:=h.mem.glob p hp;exact .sel (ad:=⟨p.1,0,none⟩) (o:=0) h1 h2 (fun j u hj=>by rw[zi1,zY]; exact h3 j u hj)
theorem qBr(a:Act)(d:Nat)(v:Value)(hd:d<a.tmps.size)(t:Nat):
  (a.put (some d) v).tmps.getD t undef=if t=d then v else a.tmps.getD t undef:=by
 simp only[Act.put,z41,zR1];by_cases h:d=t
 ·subst h; simp[hd]
 ·simp[h,Ne.symm h]
theorem MemOk.congr{st':St}(h:MemOk P F w ρ st)(hc:st'.c=st.c)(hv:st'.v=st.v)(ha:st'.a=st.a)(hd:st'.d=st.d):MemOk P F w ρ st':=by
 obtain⟨r,c,v,a',d⟩:=st';subst hc hv ha hd;exact⟨h.dom,h.var,h.arr,h.sep,h.own,h.fb,h.one,h.glob⟩
theorem Rel'.setR(h:Rel' P w0 M N F ρ st a w){d:Nat}{s:SV}{u:Value}(hd:d<N)(hv:Den P F w ρ s u):
  Rel' P w0 M N F ρ (st.put (.r d s)) (a.put (some d) u) w:=by
 refine⟨h.fr,h.mem.congr rfl rfl rfl rfl,h.lo,fun t=>?_,by simp[Act.put,h.sz],h.df,h.pin⟩
 rw[qBr a d u (by rw[h.sz]; exact hd)]
 show Den P F w ρ (bif Nat.beq t d then s else st.r t) _;by_cases ht:t=d
 ·subst ht; simp[hv]
 ·simp only[bq ht,zb,if_neg ht]; exact h.regs t
theorem MemOk.lt(h:MemOk P F w ρ st){b:Nat}{v:Value}{g:Nat}(hp:st.present b)(hr:ρ b=some v)(hg:blkOf v=some g):g<w.heap.size:=by
 rcases hp with hp | hp
 ·obtain⟨x,hx⟩:=zs1.1 hp;obtain⟨g',arr,h1,h2,_⟩:=h.var b x.1 x.2 hx;rw[h1] at hr; injection hr with hr; subst hr
  injection hg with hg; subst hg
  exact(zT.1 h2).1
 ·obtain⟨A,hA⟩:=zs1.1 hp;obtain⟨v',h1,h2⟩:=h.arr b A hA;rw[h1] at hr; injection hr with hr; subst hr
  exact h2.lt hg
theorem MemOk.named(h:MemOk P F w ρ st){b:Nat}(hp:st.present b):∃v,ρ b=some v:=by
 rcases hp with hp | hp
 ·obtain⟨x,hx⟩:=zs1.1 hp;obtain⟨g',arr,h1,_⟩:=h.var b x.1 x.2 hx;exact⟨_,h1⟩
 ·obtain⟨A,hA⟩:=zs1.1 hp;obtain⟨v',h1,_⟩:=h.arr b A hA;exact⟨_,h1⟩
theorem MemOk.move{X F':Nat->Prop}{w':World}(h:MemOk P F w ρ st)(hf:Fr w X w')(hX:∀b v g,st.present b->ρ b=some v->blkOf v=some g->¬X g)(hXF:∀g,F g->¬X g)
  (hFF:∀g,F g->F' g) (hF':∀g,F' g->F g\/X g\/w.heap.size<=g) (hb:∀g,F' g->g<w'.heap.size):MemOk P F' w' ρ st:=by
 have hw:∀g,F g->w'.heap[g]? = w.heap[g]?:=fun g hg=>hf.blk g (h.fb g hg) (hXF g hg)
 refine⟨h.dom,?_,?_,h.sep,?_,hb,h.one,h.glob.mono hFF hw⟩
 ·intro b ty k hv;obtain⟨g,arr,h1,h2,h3,h4⟩:=h.var b ty k hv;exact⟨g,arr,h1,(hf.blk g (zT.1 h2).1 (hX b _ g (.inl (by rw[hv]; simp)) h1 rfl)).trans h2,h3,fun j x hj=>⟨(h4 j x hj).1.mono hFF hw ρ (fun _ _ h=>h),(h4 j x hj).2⟩⟩
 ·intro b A hA;obtain⟨v,h1,h2⟩:=h.arr b A hA;have hp:st.present b:=.inr (by rw[hA]; simp)
  exact⟨v,h1,h2.keep hFF hw (fun g hg=>hf.blk g (h2.lt hg) (hX b v g hp h1 hg))⟩
 ·intro b v g hp hr hg hF;rcases hF' g hF with h1 | h1 | h1
  ·exact h.own b v g hp hr hg h1
  ·exact hX b v g hp hr hg h1
  ·exact absurd (h.lt hp hr hg) (Nat.not_lt.2 h1)
theorem Rel'.move{X F':Nat->Prop}{w':World}(h:Rel' P w0 M N F ρ st a w)(hf:Fr w X w')(hX:∀b v g,st.present b->ρ b=some v->blkOf v=some g->¬X g)(hXF:∀g,F g->¬X g)
  (hFF:∀g,F g->F' g) (hF':∀g,F' g->F g\/X g\/w.heap.size<=g) (hb:∀g,F' g->g<w'.heap.size) (hlo:∀g,X g->g<w0.heap.size->M.blk g):Rel' P w0 M N F' ρ st a w':=
 ⟨h.fr.trans hf hlo,h.mem.move hf hX hXF hFF hF' hb,h.lo,fun t=>(h.regs t).mono hFF (fun g hg=>hf.blk g (h.mem.fb g hg) (hXF g hg)) ρ (fun _ _ h=>h),h.sz,h.df,h.pin⟩
theorem Rel'.grow{F':Nat->Prop}{w':World}(h:Rel' P w0 M N F ρ st a w)(hf:Fr w (fun _=>False) w')(hFF:∀g,F g->F' g)(hF':∀g,F' g->F g\/w.heap.size<=g)(hb:∀g,F' g->g<w'.heap.size):Rel' P w0 M N F' ρ st a w':=
 h.move hf (fun _ _ _ _ _ _ h=>h) (fun _ _ h=>h) hFF (fun g hg=>(hF' g hg).elim .inl (fun h=>.inr (.inr h))) hb (fun _ h=>h.elim)
theorem Rel'.grow0{w':World}(h:Rel' P w0 M N F ρ st a w)(hf:Fr w (fun _=>False) w'):Rel' P w0 M N F ρ st a w':=
 h.grow hf (fun _ h=>h) (fun _ h=>.inl h) (fun g hg=>zq1 (h.mem.fb g hg) hf.size)
theorem Rel'.drew(h:Rel' P w0 M N F ρ st a w):Rel' P w0 M N F ρ st a w.drew:=h.grow0 ⟨rfl,rfl,rfl,z61 _,fun _ _ _=>rfl⟩
theorem qd8(w:World)(o:Obj):Fr w (fun _=>False) (w.alloc o):=⟨rfl,rfl,rfl,by simp,fun g hg _=>zB1 w _ g hg⟩
theorem Rel'.less{st':St}(h:Rel' P w0 M N F ρ st a w)(e1:st'.r=st.r)(e2:st'.c=st.c)(e3:st'.d=st.d)(e4:∀b x,st'.v b=some x->st.v b=some x)(e5:∀b x,st'.a b=some x->st.a b=some x):Rel' P w0 M N F ρ st' a w:=by
 have hp:∀b,st'.present b->st.present b:=by
  rintro b (hp | hp)
  ·obtain⟨x,hx⟩:=zs1.1 hp; exact .inl (by rw[e4 b x hx]; simp)
  ·obtain⟨x,hx⟩:=zs1.1 hp; exact .inr (by rw[e5 b x hx]; simp)
 refine⟨h.fr,⟨fun b hb=>h.mem.dom b (by rw[<-e3]; exact hb),fun b ty k hv=>by rw[e2]; exact h.mem.var b ty k (e4 b _ hv),fun b A hA=>h.mem.arr b A (e5 b A hA),fun b b' v v' g p p'=>h.mem.sep b b' v v' g (hp b p) (hp b' p'),fun b v g p=>h.mem.own b v g (hp b p),h.mem.fb,h.mem.one,h.mem.glob⟩,fun b v g p=>h.lo b v g (hp b p),fun t=>by rw[e1]; exact h.regs t,h.sz,h.df,h.pin⟩
theorem Rel'.dropV(h:Rel' P w0 M N F ρ st a w)(b:Nat):Rel' P w0 M N F ρ (st.put (.v b none)) a w:=
 h.less rfl rfl rfl (fun b' x hx=>by
  have hx':(bif Nat.beq b' b then none else st.v b')=some x:=hx;cases hb:Nat.beq b' b with
  | true=>rw[hb] at hx'; cases hx'
  | false=>rw[hb] at hx'; exact hx') (fun _ _ h=>h)
theorem Rel'.dropA(h:Rel' P w0 M N F ρ st a w)(b:Nat):Rel' P w0 M N F ρ (st.put (.a b none)) a w:=
 h.less rfl rfl rfl (fun _ _ h=>h) (fun b' x hx=>by
  have hx':(bif Nat.beq b' b then none else st.a b')=some x:=hx;cases hb:Nat.beq b' b with
  | true=>rw[hb] at hx'; cases hx'
  | false=>rw[hb] at hx'; exact hx')
theorem Rel'.name(h:Rel' P w0 M N F ρ st a w){b:Nat}{u:Value}(hb:st.d b=false)(h1:u.oneCell'=true):Rel' P w0 M N F (ρ.set b u) (st.put (.d b)) a w:=by
 have hρb:=h.mem.dom b hb;have hρ:∀b' x,ρ b'=some x->(ρ.set b u) b'=some x:=fun b' x hx=>by
  unfold Env.set; rw[if_neg (fun e=>by subst e; rw[hρb] at hx; cases hx)]; exact hx
 have hne:∀b',st.present b'->(ρ.set b u) b'=ρ b':=fun b' hp=>by
  unfold Env.set; rw[if_neg]; rintro rfl;obtain⟨v,hv⟩:=h.mem.named hp;rw[hρb] at hv; cases hv
 have up:∀ {s v},Den P F w ρ s v->Den P F w (ρ.set b u) s v:=fun hd=>hd.mono (fun _ h=>h) (fun _ _=>rfl) _ hρ
 refine⟨h.fr,⟨?_,?_,?_,?_,?_,h.mem.fb,?_,h.mem.glob⟩,?_,fun t=>up (h.regs t),h.sz,h.df,fun b' v hp=>hρ _ _ (h.pin b' v hp)⟩
 ·intro b' hb';have hb2:(bif Nat.beq b' b then true else st.d b')=false:=hb';cases e:Nat.beq b' b with
  | true=>rw[e] at hb2; cases hb2
  | false=>
   rw[e] at hb2;unfold Env.set; rw[if_neg (fun h=>by subst h; simp at e)]; exact h.mem.dom b' hb2
 ·intro b' ty k hv;obtain⟨g,arr,a1,a2,a3,a4⟩:=h.mem.var b' ty k hv;exact⟨g,arr,hρ _ _ a1,a2,a3,fun j x hj=>⟨up (a4 j x hj).1,(a4 j x hj).2⟩⟩
 ·intro b' A hA;obtain⟨v,a1,a2⟩:=h.mem.arr b' A hA;exact⟨v,hρ _ _ a1,a2⟩
 ·intro b1 b2 v1 v2 g p1 p2 r1 r2;rw[hne b1 p1] at r1; rw[hne b2 p2] at r2;exact h.mem.sep b1 b2 v1 v2 g p1 p2 r1 r2
 ·intro b' v g p r;rw[hne b' p] at r;exact h.mem.own b' v g p r
 ·intro b' v hv;unfold Env.set at hv;by_cases e:b'=b
  ·rw[if_pos e] at hv; injection hv with hv; subst hv; exact h1
  ·rw[if_neg e] at hv; exact h.mem.one b' v hv
 ·intro b' v g p r;rw[hne b' p] at r;exact h.lo b' v g p r
theorem Rel'.addA(h:Rel' P w0 M N F ρ st a w){b:Nat}{u:Value}{A:Ob}(hρ:ρ b=some u)(hv:st.v b=none)(hob:ObOk F w A u)
  (hs:∀g,blkOf u=some g->(∀b' v,b'≠b->st.present b'->ρ b'=some v->blkOf v≠some g)/\¬F g/\(M.blk g\/w0.heap.size<=g)):Rel' P w0 M N F ρ (st.put (.a b (some A))) a w:=by
 have hp:∀b',(st.put (.a b (some A))).present b'->b'≠b->st.present b':=by
  rintro b' (hp | hp) hne
  ·exact .inl hp
  ·refine .inr ?_
   have hp':(bif Nat.beq b' b then some A else st.a b')≠none:=hp;rw[bq hne] at hp'; exact hp'
 refine⟨h.fr,⟨h.mem.dom,?_,?_,?_,?_,h.mem.fb,h.mem.one,h.mem.glob⟩,?_,h.regs,h.sz,h.df,h.pin⟩
 ·exact h.mem.var
 ·intro b' A' hA;have hA':(bif Nat.beq b' b then some A else st.a b')=some A':=hA;cases e:Nat.beq b' b with
  | true=>
   rw[e] at hA'; injection hA' with hA'; subst hA'
   have:=zc e; subst this;exact⟨u,hρ,hob⟩
  | false=>rw[e] at hA'; exact h.mem.arr b' A' hA'
 ·intro b1 b2 v1 v2 g p1 p2 r1 r2 g1 g2;by_cases e1:b1=b
  ·by_cases e2:b2=b
   ·rw[e1,e2]
   ·subst e1; rw[hρ] at r1; injection r1 with r1; subst r1
    exact absurd g2 ((hs g g1).1 b2 v2 e2 (hp b2 p2 e2) r2)
  ·by_cases e2:b2=b
   ·subst e2; rw[hρ] at r2; injection r2 with r2; subst r2
    exact absurd g1 ((hs g g2).1 b1 v1 e1 (hp b1 p1 e1) r1)
   ·exact h.mem.sep b1 b2 v1 v2 g (hp _ p1 e1) (hp _ p2 e2) r1 r2 g1 g2
 ·intro b' v g p r hg;by_cases e:b'=b
  ·subst e; rw[hρ] at r; injection r with r; subst r; exact(hs g hg).2.1
  ·exact h.mem.own b' v g (hp b' p e) r hg
 ·intro b' v g p r hg;by_cases e:b'=b
  ·subst e; rw[hρ] at r; injection r with r; subst r; exact(hs g hg).2.2
  ·exact h.lo b' v g (hp b' p e) r hg
theorem Rel'.addV(h:Rel' P w0 M N F ρ st a w){b g:Nat}{ty:TypeId}{cs:List SV}{arr:Array Value}(hρ:ρ b=some (.pointer (some ⟨g,0,none⟩)))(ha:st.a b=none)
  (hheap:w.heap[g]? = some (.cells arr ty (0,0))) (hl:cs.length=arr.size) (hc:∀(j:Nat) (s:SV) (x:Value),cs[j]? = some s->arr[j]? = some x->Den P F w ρ s x/\x.oneCell'=true)
  (hs:∀b' v,b'≠b->st.present b'->ρ b'=some v->blkOf v≠some g) (hF:¬F g) (hlo:M.blk g\/w0.heap.size<=g):Rel' P w0 M N F ρ (st.app (.v b (some (ty,cs.length))::qcB b 0 cs)) a w:=by
 obtain⟨h1,h2,h3,h4,h5,h6,h7⟩:=qjv b cs 0 (st.put (.v b (some (ty,cs.length))));have hV:∀b',(st.app (.v b (some (ty,cs.length))::qcB b 0 cs)).v b'=if b'=b then some (ty,cs.length) else st.v b':=by
  intro b';show(St.app _ (qcB b 0 cs)).v b'=_;rw[h2];show(bif Nat.beq b' b then _ else st.v b')=_;by_cases e:b'=b
  ·subst e; simp
  ·simp[bq e,e]
 have hA:∀b',(st.app (.v b (some (ty,cs.length))::qcB b 0 cs)).a b'=st.a b':=fun b'=>congrFun h3 b'
 have hD:∀b',(st.app (.v b (some (ty,cs.length))::qcB b 0 cs)).d b'=st.d b':=fun b'=>congrFun h4 b'
 have hp:∀b',(st.app (.v b (some (ty,cs.length))::qcB b 0 cs)).present b'->b'≠b->st.present b':=by
  intro b' hp hne;unfold St.present at hp ⊢;rw[hV,hA,if_neg hne] at hp;exact hp
 refine⟨h.fr,⟨fun b' hb'=>h.mem.dom b' (by rw[<-hD]; exact hb'),?_,?_,?_,?_,h.mem.fb,h.mem.one,h.mem.glob⟩,?_,fun t=>?_,h.sz,h.df,h.pin⟩
 ·intro b' ty' k' hv;rw[hV] at hv;by_cases e:b'=b
  ·subst e;rw[if_pos rfl] at hv; injection hv with hv; injection hv with hv1 hv2; subst hv1 hv2
   refine⟨g,arr,hρ,hheap,hl.symm,fun j x hx=>?_⟩
   have hj:j<cs.length:=by rw[hl]; exact(zT.1 hx).1
   have hs':cs[j]? = some cs[j]:=zk hj;have hc':=h7 j _ hs';rw[zY] at hc';show Den P F _ _ ((St.app _ (qcB b' 0 cs)).c b' j) x/\_;rw[hc'];exact hc j _ x hs' hx
  ·rw[if_neg e] at hv;obtain⟨g',arr',a1,a2,a3,a4⟩:=h.mem.var b' ty' k' hv;refine⟨g',arr',a1,a2,a3,fun j x hx=>⟨?_,(a4 j x hx).2⟩⟩
   show Den P F _ _ ((St.app _ (qcB b 0 cs)).c b' j) x;rw[h5 b' j e];exact(a4 j x hx).1
 ·intro b' A hA';rw[hA] at hA';exact h.mem.arr b' A hA'
 ·intro b1 b2 v1 v2 g' p1 p2 r1 r2 g1 g2;by_cases e1:b1=b
  ·by_cases e2:b2=b
   ·rw[e1,e2]
   ·subst e1; rw[hρ] at r1; injection r1 with r1; subst r1
    injection g1 with g1; subst g1
    exact absurd g2 (hs b2 v2 e2 (hp b2 p2 e2) r2)
  ·by_cases e2:b2=b
   ·subst e2; rw[hρ] at r2; injection r2 with r2; subst r2
    injection g2 with g2; subst g2
    exact absurd g1 (hs b1 v1 e1 (hp b1 p1 e1) r1)
   ·exact h.mem.sep b1 b2 v1 v2 g' (hp _ p1 e1) (hp _ p2 e2) r1 r2 g1 g2
 ·intro b' v g' p r hg;by_cases e:b'=b
  ·subst e; rw[hρ] at r; injection r with r; subst r; injection hg with hg; subst hg; exact hF
  ·exact h.mem.own b' v g' (hp b' p e) r hg
 ·intro b' v g' p r hg;by_cases e:b'=b
  ·subst e; rw[hρ] at r; injection r with r; subst r; injection hg with hg; subst hg; exact hlo
  ·exact h.lo b' v g' (hp b' p e) r hg
 ·show Den P F w ρ ((St.app _ (qcB b 0 cs)).r t) _;rw[h1]; exact h.regs t
theorem MemOk.absent(h:MemOk P F w ρ st){b:Nat}(hb:st.d b=false):st.v b=none/\st.a b=none/\¬st.present b:=by
 have hρ:=h.dom b hb;have hp:¬st.present b:=fun hp=>by obtain⟨v,hv⟩:=h.named hp; rw[hρ] at hv; cases hv
 refine⟨?_,?_,hp⟩
 ·cases hx:st.v b with
  | none=>rfl
  | some x=>exact absurd (.inl (by rw[hx]; simp)) hp
 ·cases hx:st.a b with
  | none=>rfl
  | some x=>exact absurd (.inr (by rw[hx]; simp)) hp
theorem Rel'.newVar(h:Rel' P w0 M N F ρ st a w){b d:Nat}{ty:TypeId}{cs:List SV}{arr:Array Value}(hb:st.d b=false)(hd:d<N)(hk:cs.length=arr.size)
  (hden:∀(j:Nat) (s:SV) (x:Value),cs[j]? = some s->arr[j]? = some x->Den P F w ρ s x/\x.oneCell'=true):
  Rel' P w0 M N F (ρ.set b (.pointer (some ⟨w.heap.size,0,none⟩))) (st.app ((.d b::.v b (some (ty,cs.length))::qcB b 0 cs)++[.r d (.ptr b 0)]))
   (a.put (some d) (.pointer (some ⟨w.heap.size,0,none⟩))) (w.alloc (.cells arr ty)):=by
 obtain⟨_,hna,hnp⟩:=h.mem.absent hb;have hρb:=h.mem.dom b hb;have h1:=(h.grow0 (qd8 w (.cells arr ty))).name (b:=b) (u:=.pointer (some ⟨w.heap.size,0,none⟩)) hb rfl;have hset:(ρ.set b (.pointer (some ⟨w.heap.size,0,none⟩))) b=some (.pointer (some ⟨w.heap.size,0,none⟩)):=by unfold Env.set; rw[if_pos rfl]
 have hρ:∀b' x,ρ b'=some x->(ρ.set b (.pointer (some ⟨w.heap.size,0,none⟩))) b'=some x:=fun b' x hx=>by
  unfold Env.set; rw[if_neg (fun e=>by subst e; rw[hρb] at hx; cases hx)]; exact hx
 have h2:=h1.addV (cs:=cs) (arr:=arr) (ty:=ty) hset hna (zm2 w _) hk (fun j s x hs hx=>⟨(hden j s x hs hx).1.mono (fun _ h=>h) (fun g hg=>zB1 w _ g (h.mem.fb g hg)) _ hρ,(hden j s x hs hx).2⟩)
  (fun b' v hne hp hv hg=>by
   have hv':ρ b'=some v:=by unfold Env.set at hv; rwa[if_neg hne] at hv
   exact Nat.lt_irrefl _ (h.mem.lt (b:=b') (v:=v) hp hv' hg))
  (fun hF=>Nat.lt_irrefl _ (h.mem.fb _ hF)) (.inr h.fr.size)
 rw[qcm];exact h2.setR hd (.ptr hset)
theorem Rel'.setVar(h:Rel' P w0 M N F ρ st a w){b k g:Nat}{ty:TypeId}{arr':Array Value}{st':St}(hv:st.v b=some (ty,k))(hρ:ρ b=some (.pointer (some ⟨g,0,none⟩)))
  (hs:arr'.size=k) (e1:st'.r=st.r) (e2:st'.v=st.v) (e3:st'.a=st.a) (e4:st'.d=st.d) (e5:∀b' j,b'≠b->st'.c b' j=st.c b' j)
  (hc:∀j x,arr'[j]? = some x->Den P F w ρ (st'.c b j) x/\x.oneCell'=true):Rel' P w0 M N F ρ st' a (w.setRow g arr'):=by
 obtain⟨g0,arr,a1,a2,a3,a4⟩:=h.mem.var b ty k hv;rw[hρ] at a1; injection a1 with a1; injection a1 with a1; injection a1 with a1; injection a1 with a1; subst a1
 have hpb:st.present b:=.inl (by rw[hv]; simp)
 have hother:∀g',g'≠g->(w.setRow g arr').heap[g']? = w.heap[g']?:=fun g' hne=>zn2 w g g' arr' hne
 have hFg:∀g',F g'->g'≠g:=fun g' hF e=>by subst e; exact h.mem.own b _ _ hpb hρ rfl hF
 have up:∀ {ρ s v},Den P F w ρ s v->Den P F (w.setRow g arr') ρ s v:=fun hd=>hd.mono (fun _ h=>h) (fun g' hF=>hother g' (hFg g' hF)) _ (fun _ _ h=>h)
 have hP:∀b',st'.present b'↔st.present b':=fun b'=>by unfold St.present; rw[e2,e3]
 refine⟨⟨h.fr.os,h.fr.tape,h.fr.output,by simpa using h.fr.size,fun g' hg' hM=>?_⟩,⟨?_,?_,?_,?_,?_,fun g' hF=>by simpa using h.mem.fb g' hF,h.mem.one,h.mem.glob.mono (fun _ h=>h) fun g' hF=>hother g' (hFg g' hF)⟩,?_,?_,h.sz,h.df,h.pin⟩
 ·rw[hother g' ?_]; exact h.fr.blk g' hg' hM
  rintro rfl
  rcases h.lo b _ _ hpb hρ rfl with hm | hm
  ·exact hM hm
  ·exact absurd hg' (Nat.not_lt.2 hm)
 ·intro b' hb'; rw[e4] at hb'; exact h.mem.dom b' hb'
 ·intro b' ty' k' hv';rw[e2] at hv';by_cases e:b'=b
  ·subst e;rw[hv] at hv'; injection hv' with hv'; injection hv' with hv1 hv2; subst hv1 hv2
   exact⟨g,arr',hρ,zl2 w g arr arr' ty (0,0) a2,hs,fun j x hx=>⟨up (hc j x hx).1,(hc j x hx).2⟩⟩
  ·obtain⟨g',arr2,b1,b2,b3,b4⟩:=h.mem.var b' ty' k' hv';have hne:g'≠g:=by
    rintro rfl
    exact e (h.mem.sep b' b _ _ g' (.inl (by rw[hv']; simp)) hpb b1 hρ rfl rfl)
   exact⟨g',arr2,b1,(hother g' hne).trans b2,b3,fun j x hx=>⟨by rw[e5 b' j e]; exact up (b4 j x hx).1,(b4 j x hx).2⟩⟩
 ·intro b' A hA;rw[e3] at hA;obtain⟨v,b1,b2⟩:=h.mem.arr b' A hA;refine⟨v,b1,b2.keep (fun _ h=>h) (fun g' hF=>hother g' (hFg g' hF)) (fun g' hg'=>hother g' ?_)⟩
  rintro rfl
  have:=h.mem.sep b' b _ _ g' (.inr (by rw[hA]; simp)) hpb b1 hρ hg' rfl
  subst this;rw[hρ] at b1; injection b1 with b1; subst b1
  exact(b2.novar rfl a2).elim
 ·intro b1 b2 v1 v2 g' p1 p2; exact h.mem.sep b1 b2 v1 v2 g' ((hP _).1 p1) ((hP _).1 p2)
 ·intro b' v g' p; exact h.mem.own b' v g' ((hP _).1 p)
 ·intro b' v g' p; exact h.lo b' v g' ((hP _).1 p)
 ·intro t; rw[e1]; exact up (h.regs t)
/-! ### Operations that only make a value -/
theorem qco{o:Oper}(hg:o.guard=none):Region.wanted o (yielded ops a.tmps)=true:=by simp[Region.wanted,hg]
theorem RT.value{o:Oper}{d:Nat}{st0:St}{rd:List Key}{s:SV}(hg:o.guard=none)(hdst:o.dst=some d)(hd:d<N)
  (f:∀st,(∀κ∈rd,agree st0 st κ)->∀F ρ a w,Rel' P w0 M N F ρ st a w->∃u,(execOp a.eval o).run P w=.ok (.value u) w/\Den P F w ρ s u):RT P w0 M N F0 ops o st0 rd [.r d s]:=by
 intro st hp a w ⟨F,ρ,h,hF⟩;rw[if_pos (qco hg)];obtain⟨v,hr,hv⟩:=f st hp F ρ a w h;unfold Oper.wp;rw[hr];show Rel P w0 M N F0 _ (a.put o.dst v) w;rw[hdst];exact⟨F,ρ,h.setR hd hv,hF⟩
theorem RT.stepW{o:Oper}{st0:St}{rd:List Key}{wr:List Wr}(hg:o.guard=none)
  (f:∀st,(∀κ∈rd,agree st0 st κ)->∀F ρ a w,Rel' P w0 M N F ρ st a w->∃u ρ' F' w',((execOp a.eval o).run P w=.ok (.value u) w'\/((execOp a.eval o).run P w=.ok .skip w'/\u=undef))∧
   Rel' P w0 M N F' ρ' (st.app wr) (a.put o.dst u) w'/\(∀g,F g->F' g)/\(∀g,F' g->F g\/M.blk g\/w0.heap.size<=g)):
  RT P w0 M N F0 ops o st0 rd wr:=by
 intro st hp a w ⟨F,ρ,h,hF⟩;rw[if_pos (qco hg)];obtain⟨v,ρ',F',w',hr,hk,f1,f2⟩:=f st hp F ρ a w h;unfold Oper.wp;have hh:Rel P w0 M N F0 (st.app wr) (a.put o.dst v) w':=⟨F',ρ',hk,fun g hg=>f1 g (hF.1 g hg),fun g hg=>(f2 g hg).elim (fun h=>hF.2 g h) .inr⟩
 rcases hr with hr | ⟨hr,rfl⟩ <;> rw[hr] <;> exact hh
end
end Go.Sq
