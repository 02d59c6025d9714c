/- The second engine, part C: regions, in the text's order and in any order; code. No condition. -/
import Derived.Test.YtmdijohmddokhaaGreatDoorSqB
import Derived.Scope
namespace Go.Sq
open Go Go.RowKit
def memN:List Nat->Nat->Bool
 | [],_=>false
 | t::l,x=>Nat.beq x t || memN l x
theorem qaU{l:List Nat}{x:Nat}:memN l x=true↔x∈l:=by
 induction l with
 | nil=>simp[memN]
 | cons a l ih=>
  simp only[memN,zd1,ih,zw];constructor
  ·rintro(h | h)
   ·exact .inl (zc h)
   ·exact .inr h
  ·rintro(rfl | h)
   ·exact .inl (zO2 _)
   ·exact .inr h
theorem lb{m n:Nat}(h:Nat.ble m n=true:=by rfl):m<=n:=zH h
def thenQ(R:St->Prop)(Q:Exit->St->Prop):Exit->St->Prop
 | .normal,st=>R st
 | e,st=>Q e st
def qCK(id:Nat)(Q:Exit->St->Prop):Exit->St->Prop
 | .exit id',st=>bif Nat.beq id' id then Q .normal st else Q (.exit id') st
 | e,st=>Q e st
def qEv(Q:Exit->St->Prop):Exit->St->Prop
 | .goto _,_=>False
 | e,st=>Q e st
def Key.eqb:Key->Key->Bool
 | .r t,.r t'=>Nat.beq t t'
 | .c t o,.c t' o'=>Nat.beq t t'&&Nat.beq o o'
 | .v t,.v t'=>Nat.beq t t'
 | .a t,.a t'=>Nat.beq t t'
 | .d t,.d t'=>Nat.beq t t'
 | .g t,.g t'=>Nat.beq t t'
 | _,_=>false
theorem Key.eqb_self(κ:Key):κ.eqb κ=true:=by cases κ <;> simp[Key.eqb]
def keyIn(κ:Key):List Key->Bool
 | []=>false
 | x::l=>κ.eqb x || keyIn κ l
theorem qlt{κ:Key}{l:List Key}(h:κ∈l):keyIn κ l=true:=by
 induction l with
 | nil=>cases h
 | cons x l ih=>
  simp only[keyIn,zd1];rcases zw.1 h with rfl | h
  ·exact .inl (Key.eqb_self _)
  ·exact .inr (ih h)
def disj(x y:List Key×List Key):Bool:=
 x.2.all (fun κ=>!keyIn κ y.1&&!keyIn κ y.2)&&y.2.all (fun κ=>!keyIn κ x.1)
def befOf(acc:List Nat)(es:List Edge):Nat:=es.foldl (fun s e=>if Region.binds .any e then s|||2^e.on|||acc.getD e.on 0 else s) 0
def befL:List Oper->List Nat->List Nat
 | [],acc=>acc
 | o::r,acc=>befL r (acc++[befOf acc o.after.toList])
def qtG:List Oper->Nat->Bool
 | [],_=>true
 | o::r,i=>o.after.toList.all (fun e=>!Region.binds .any e || Nat.blt e.on i)&&qtG r (i+1)
def qy8(bef:List Nat)(feet:List (List Key×List Key)):Bool:=
 (List.range feet.length).all fun j=>(List.range j).all fun i=>(bef.getD j 0).testBit i || disj (feet.getD i ([],[])) (feet.getD j ([],[]))
def qos(l:List Oper)(feet:List (List Key×List Key)):Bool:=qtG l 0&&qy8 (befL l []) feet
inductive Reach (l:List Oper):Nat->Nat->Prop
 | edge {j i:Nat} {o:Oper} {e:Edge}:l[j]? = some o->e∈o.after->Region.binds .any e=true->e.on=i->Reach l j i
 | more {j k i:Nat} {o:Oper} {e:Edge}:l[j]? = some o->e∈o.after->Region.binds .any e=true->e.on=k->Reach l k i->Reach l j i
theorem qym{acc:List Nat}{es:List Edge}{i:Nat}(h:(befOf acc es).testBit i=true):∃e∈es,Region.binds .any e=true/\(e.on=i\/(acc.getD e.on 0).testBit i=true):=by
 unfold befOf at h;have key:∀(es:List Edge) (s:Nat),(es.foldl (fun s e=>if Region.binds .any e then s|||2^e.on|||acc.getD e.on 0 else s) s).testBit i=true->
   s.testBit i=true\/∃e∈es,Region.binds .any e=true/\(e.on=i\/(acc.getD e.on 0).testBit i=true):=by
  intro es;induction es with
  | nil=>intro s h; exact .inl h
  | cons e es ih=>
   intro s h;rcases ih _ h with h | ⟨e',he',hb⟩
   ·by_cases hb:Region.binds .any e=true
    ·simp only[if_pos hb] at h;simp only[Nat.testBit_or,zd1,Nat.testBit_two_pow,zj] at h;rcases h with(h | h) | h
     ·exact .inl h
     ·exact .inr ⟨e,by simp,hb,.inl h⟩
     ·exact .inr ⟨e,by simp,hb,.inr h⟩
    ·simp only[if_neg hb] at h; exact .inl h
   ·exact .inr ⟨e',by simp[he'],hb⟩
 rcases key es 0 h with h | h
 ·simp at h
 ·exact h
theorem qu5(l:List Oper):∀(r:List Oper) (acc:List Nat),(∀j,r[j]? = l[acc.length+j]?)->(∀j i,(acc.getD j 0).testBit i=true->Reach l j i)->
  ∀j i,((befL r acc).getD j 0).testBit i=true->Reach l j i
 | [],acc,_,hacc=>hacc
 | o::r,acc,hr,hacc=>by
  refine qu5 l r (acc++[befOf acc o.after.toList]) (fun j=>?_) (fun j i h=>?_)
  ·have:=hr (j+1); simp only[List.getElem?_cons_succ] at this; rw[this]; congr 1; simp; omega
  ·have ho:l[acc.length]? = some o:=by have:=hr 0; simpa using this.symm
   by_cases h1:j<acc.length
   ·refine hacc j i ?_
    rwa[zh,zR h1,<-zh] at h
   ·by_cases h2:j=acc.length
    ·subst h2;have h3:(befOf acc o.after.toList).testBit i=true:=by simpa[zh] using h
     obtain⟨e,he,hb,hc⟩:=qym h3;rcases hc with hc | hc
     ·exact .edge ho (by simpa using he) hb hc
     ·exact .more ho (by simpa using he) hb rfl (hacc _ _ hc)
    ·exfalso;rw[zh,zl1 (by simp; omega)] at h
     simp at h
theorem qqm:∀(r:List Oper) (k:Nat),qtG r k=true->∀j o,r[j]? = some o->∀e∈o.after,Region.binds .any e=true->e.on<k+j
 | [],_,_,j,o,h=>by simp at h
 | o0::r,k,h,j,o,ho=>by
  simp only[qtG,z8,zm] at h;cases j with
  | zero=>
   simp at ho; subst ho;intro e he hb;have:=h.1 e (by simpa using he)
   simp only[hb,zf,zi2] at this;have h2:e.on<k:=zX ▸ this;simpa using h2
  | succ j=>
   intro e he hb;have:=qqm r (k+1) h.2 j o (by simpa using ho) e he hb
   omega
section
variable {P:Program} {w0:World} {M:Mod} {N:Nat} {F0:Nat->Prop} {ops:Array Oper}
variable {F:Nat->Prop} {ρ:Env} {st:St} {a:Act} {w:World}
theorem agree.refl(st:St)(κ:Key):agree st st κ:=by cases κ <;> first | rfl | exact .inl rfl
theorem agree.trans{a b c:St}{κ:Key}(h:agree a b κ)(h':agree b c κ):agree a c κ:=by cases κ <;> first | exact Eq.trans h h' | exact SameG.trans h h'
theorem agree.symm{a b:St}{κ:Key}(h:agree a b κ):agree b a κ:=by cases κ <;> first | exact Eq.symm h | exact SameG.symm h
structure qc1(P:Program)(w0:World)(M:Mod)(N:Nat)(F0:Nat->Prop)(ops:Array Oper) where
 o:Oper
 st0:St
 rd:List Key
 wr:List Wr
 h:RT P w0 M N F0 ops o st0 rd wr
def qc1.pre(x:qc1 P w0 M N F0 ops)(st:St):Prop:=∀κ∈x.rd,agree x.st0 st κ
def qc1.foot(x:qc1 P w0 M N F0 ops):List Key×List Key:=(x.rd,wkeys x.wr)
def runL(st:St):List (qc1 P w0 M N F0 ops)->St
 | []=>st
 | x::l=>runL (st.app x.wr) l
def preL(st:St):List (qc1 P w0 M N F0 ops)->Prop
 | []=>True
 | x::l=>x.pre st/\preL (st.app x.wr) l
def QK(P:Program)(w0:World)(M:Mod)(N:Nat)(F0:Nat->Prop)(K:St->Prop):Exit->Act->World->Prop
 | .normal,a,w=>∃st',K st'/\Rel P w0 M N F0 st' a w
 | _,_,_=>False
def G(P:Program)(w0:World)(M:Mod)(N:Nat)(F0:Nat->Prop)(draw:Bool)(ops:Array Oper)(st0:St)(feet:List (List Key×List Key))(rest:List Oper)(st:St)(K:St->Prop):Prop:=
 ∀L:List (qc1 P w0 M N F0 ops),L.map qc1.foot=feet->L.map (·.o)++rest=ops.toList->preL st0 L->runL st0 L=st->
  ∀a w,Rel P w0 M N F0 st0 a w->if draw then wpAny P .any ops (QK P w0 M N F0 K) ops.size (Array.replicate ops.size false) a { w with drawn:=w.drawn+1 } else wpList P ops (QK P w0 M N F0 K) ops.toList a w
theorem qwd(st:St)(l l':List (qc1 P w0 M N F0 ops)):runL st (l++l')=runL (runL st l) l':=by
 induction l generalizing st with
 | nil=>rfl
 | cons x l ih=>exact ih _
theorem qrc(st:St)(l l':List (qc1 P w0 M N F0 ops)):preL st (l++l')↔preL st l/\preL (runL st l) l':=by
 induction l generalizing st with
 | nil=>simp[preL,runL]
 | cons x l ih=>simp only[zj1,preL,runL,ih,and_assoc]
theorem G.step{draw:Bool}{st0:St}{feet:List (List Key×List Key)}{rest:List Oper}{K:St->Prop}{o:Oper}{rd:List Key}{wr:List Wr}
  (h:RT P w0 M N F0 ops o st rd wr) (hk:G P w0 M N F0 draw ops st0 (feet++[(rd,wkeys wr)]) rest (st.app wr) K):G P w0 M N F0 draw ops st0 feet (o::rest) st K:=by
 intro L hf ho hpre hr;refine hk (L++[⟨o,st,rd,wr,h⟩]) (by simp[hf,qc1.foot]) (by simp[<-ho]) ?_ (by rw[qwd,hr]; rfl)
 rw[qrc,hr];exact⟨hpre,fun κ _=>agree.refl _ κ,trivial⟩
theorem qot{K:St->Prop}:∀(L:List (qc1 P w0 M N F0 ops)) (st:St) (a:Act) (w:World),preL st L->Rel P w0 M N F0 st a w->K (runL st L)->wpList P ops (QK P w0 M N F0 K) (L.map (·.o)) a w
 | [],st,a,w,_,hr,hK=>⟨st,hK,hr⟩
 | x::L,st,a,w,⟨hp,hpre⟩,hr,hK=>by
  have h:=x.h st hp a w hr;show wpList P ops (QK P w0 M N F0 K) (x.o::L.map (·.o)) a w;unfold wpList;split
  ·rename_i hw;rw[if_pos hw] at h;refine .inl ?_
   have h2:=Oper.wp_mono (K':=wpList P ops (QK P w0 M N F0 K) (L.map (·.o))) (fun a' w' hr'=>qot L _ a' w' hpre hr' hK) h
   exact wp_calm h2
  ·rename_i hw;rw[if_neg hw] at h;exact qot L _ _ _ hpre h hK
where
 wp_calm {o:Oper} {a:Act} {w:World} {K':Act->World->Prop} {Q:Exit->Act->World->Prop} (h:o.wp P a w K' (fun _ _ _=>False)):o.wp P a w K' Q:=by
  unfold Oper.wp at*
  generalize (execOp a.eval o).run P w=r at*
  cases r with
  | ok n w'=>
   cases n <;> simp only[Oper.upon] at h ⊢ <;>
    first
     | exact h
     | exact Calls.mono h (fun e w'' he=>by
       cases e with
       | returned v=>exact he
       | panicked c=>exact he.elim
       | outgrown=>exact(by obtain⟨_,_,hh⟩:=he; exact hh.elim))
  | halt x w'=>cases x <;> simp only[Oper.upon] at h ⊢
theorem G.done{st0:St}{feet:List (List Key×List Key)}{K:St->Prop}(hK:K st):G P w0 M N F0 false ops st0 feet [] st K:=by
 intro L _ ho hpre hr a w hrel;simp only[zM] at ho;rw[if_neg (by simp),<-ho]
 exact qot L st0 a w hpre hrel (by rw[hr]; exact hK)
theorem qy9(st:St)(x:Wr)(κ:Key)(h:κ∉x.keys):agree (st.put x) st κ:=by
 have bq:∀ {a b:Nat},a≠b->Nat.beq a b=false:=fun hne=>zJ.2 (fun e=>hne (zc e))
 cases x with
 | r t s=>
  cases κ <;> first | rfl | exact .inl rfl | skip
  rename_i t';show(bif Nat.beq t' t then s else st.r t')=st.r t';rw[bq (fun e=>h (by rw[e]; exact .head _))]; rfl
 | c b o s=>
  cases κ <;> first | rfl | exact .inl rfl | skip
  rename_i b' o';show(bif Nat.beq b' b&&Nat.beq o' o then s else st.c b' o')=st.c b' o';by_cases e:b'=b
  ·subst e; rw[bq (a:=o') (b:=o) (fun e=>h (by rw[e]; exact .head _))]; simp
  ·rw[bq e]; simp
 | v b y=>
  cases κ <;> first | rfl | exact .inl rfl | skip
  rename_i b';show(bif Nat.beq b' b then y else st.v b')=st.v b';rw[bq (fun e=>h (by rw[e]; exact .head _))]; rfl
 | a b y=>
  cases κ <;> first | rfl | exact .inl rfl | skip
  ·rename_i b';show(bif Nat.beq b' b then y else st.a b')=st.a b';rw[bq (fun e=>h (by rw[e]; exact .head _))]; rfl
  ·rename_i b';show SameG (bif Nat.beq b' b then y else st.a b') (st.a b');rw[bq (fun e=>h (by rw[e]; exact .tail _ (.head _)))]; exact .inl rfl
 | d b=>
  cases κ <;> first | rfl | exact .inl rfl | skip
  rename_i b';show(bif Nat.beq b' b then true else st.d b')=st.d b';rw[bq (fun e=>h (by rw[e]; exact .head _))]; rfl
 | e b k y=>
  cases κ <;> first | rfl | exact .inl rfl | skip
  ·rename_i b';show(bif Nat.beq b' b then addE k y (st.a b) else st.a b')=st.a b';rw[bq (fun e=>h (by rw[e]; exact .head _))]; rfl
  ·rename_i b';show SameG (bif Nat.beq b' b then addE k y (st.a b) else st.a b') (st.a b');by_cases e:b'=b
   ·subst e; simp only[zO2,za]; exact qrb k y _
   ·rw[bq e]; exact .inl rfl
theorem qza{st st':St}(x:Wr){κ:Key}(h:agree st st' κ):agree (st.put x) (st'.put x) κ:=by
 cases x with
 | a b y=>
  cases κ <;> first | exact h | skip
  ·rename_i b';show(bif Nat.beq b' b then y else st.a b')=(bif Nat.beq b' b then y else st'.a b');rw[(h:st.a b'=st'.a b')]
  ·rename_i b';show SameG (bif Nat.beq b' b then y else st.a b') (bif Nat.beq b' b then y else st'.a b');cases Nat.beq b' b with
   | true=>exact .inl rfl
   | false=>exact h
 | e b k y=>
  cases κ <;> first | exact h | skip
  ·rename_i b';show(bif Nat.beq b' b then addE k y (st.a b) else st.a b')=(bif Nat.beq b' b then addE k y (st'.a b) else st'.a b');cases hb:Nat.beq b' b with
   | true=>have e:=zc hb; subst e; rw[(h:st.a b'=st'.a b')]
   | false=>exact h
  ·rename_i b';show SameG (bif Nat.beq b' b then addE k y (st.a b) else st.a b') (bif Nat.beq b' b then addE k y (st'.a b) else st'.a b');cases hb:Nat.beq b' b with
   | true=>
    have e:=zc hb; subst e;exact(qrb k y _).trans ((show SameG (st.a b') (st'.a b') from h).trans (qrb k y _).symm)
   | false=>exact h
 | _=>cases κ <;> simp only[agree,St.put] at h ⊢ <;> first | exact h | rw[h]
theorem qou:∀(l:List Wr) (st:St) (κ:Key),κ∉wkeys l->agree (st.app l) st κ
 | [],st,κ,_=>agree.refl st κ
 | x::l,st,κ,h=>by
  simp only[wkeys,zD,not_or] at h;exact(qou l (st.put x) κ h.2).trans (qy9 st x κ h.1)
theorem qlu:∀(l:List Wr) {st st':St} {κ:Key},agree st st' κ->agree (st.app l) (st'.app l) κ
 | [],_,_,_,h=>h
 | x::l,_,_,_,h=>qlu l (qza x h)
def selL(X:Nat->Bool):Nat->St->List (qc1 P w0 M N F0 ops)->St
 | _,st,[]=>st
 | i,st,x::l=>selL X (i+1) (if X i then st.app x.wr else st) l
theorem qmB(X Y:Nat->Bool)(κ:Key):∀(L:List (qc1 P w0 M N F0 ops)) (i:Nat) (st st':St),agree st st' κ->(∀j x,L[j]? = some x->κ∈wkeys x.wr->X (i+j)=Y (i+j))->agree (selL X i st L) (selL Y i st' L) κ
 | [],_,_,_,h,_=>h
 | x::L,i,st,st',h,hXY=>by
  refine qmB X Y κ L (i+1) _ _ ?_ (fun j y hj hκ=>by have:=hXY (j+1) y (by simpa using hj) hκ; rwa[show i+(j+1)=i+1+j by omega] at this)
  by_cases hκ:κ∈wkeys x.wr
  ·have:=hXY 0 x rfl hκ;simp only[zP1] at this;rw[this];split
   ·exact qlu _ h
   ·exact h
  ·have a1:agree (if X i=true then st.app x.wr else st) st κ:=by split; exact qou _ _ _ hκ; exact agree.refl _ _
   have a2:agree (if Y i=true then st'.app x.wr else st') st' κ:=by split; exact qou _ _ _ hκ; exact agree.refl _ _
   exact a1.trans (h.trans a2.symm)
theorem qqX:∀(L:List (qc1 P w0 M N F0 ops)) (i:Nat) (st:St) (X:Nat->Bool),(∀j,j<L.length->X (i+j)=true)->selL X i st L=runL st L
 | [],_,_,_,_=>rfl
 | x::L,i,st,X,h=>by
  have h0:=h 0 (by simp)
  simp only[zP1] at h0;simp only[selL,h0,if_true,runL];exact qqX L (i+1) _ X (fun j hj=>by have:=h (j+1) (by simpa using hj); rwa[show i+(j+1)=i+1+j by omega] at this)
theorem qov:∀(L:List (qc1 P w0 M N F0 ops)) (i:Nat) (st:St) (X:Nat->Bool),(∀j,j<L.length->X (i+j)=false)->selL X i st L=st
 | [],_,_,_,_=>rfl
 | x::L,i,st,X,h=>by
  have h0:=h 0 (by simp)
  simp only[zP1] at h0;simp only[selL,h0,zQ1,if_false];exact qov L (i+1) _ X (fun j hj=>by have:=h (j+1) (by simpa using hj); rwa[show i+(j+1)=i+1+j by omega] at this)
theorem qn2(X:Nat->Bool):∀(L L':List (qc1 P w0 M N F0 ops)) (i:Nat) (st:St),selL X i st (L++L')=selL X (i+L.length) (selL X i st L) L'
 | [],L',i,st=>rfl
 | x::L,L',i,st=>by
  simp only[zj1,selL,qn2 X L L',zg];rw[show i+1+L.length=i+(L.length+1) by omega]
theorem qBs{L:List (qc1 P w0 M N F0 ops)}{st0:St}(hpre:preL st0 L){i:Nat}{x:qc1 P w0 M N F0 ops}(hx:L[i]? = some x):
  x.pre (selL (fun j=>decide (j<i)) 0 st0 L)/\(selL (fun j=>decide (j<i)) 0 st0 L).app x.wr=selL (fun j=>decide (j<i+1)) 0 st0 L:=by
 have hi:i<L.length:=(zr.1 hx).1;obtain⟨A,B,rfl,rfl⟩:∃A B,L=A++x::B/\A.length=i:=⟨L.take i,L.drop (i+1),by
  rw[<-(zr.1 hx).2,<-ze1 hi,zD1],by simp; omega⟩
 have e1:selL (fun j=>decide (j<A.length)) 0 st0 (A++x::B)=runL st0 A:=by
  rw[qn2,qqX A 0 st0 _ (by intro j hj; simpa using hj),qov (x::B) _ _ _ (by intro j _; simp)]
 have e2:selL (fun j=>decide (j<A.length+1)) 0 st0 (A++x::B)=(runL st0 A).app x.wr:=by
  rw[qn2,qqX A 0 st0 _ (by intro j hj; simp; omega)]
  simp only[selL,zY,Nat.lt_succ_self,z82,if_true];rw[qov B _ _ _ (by intro j _; simp)]
 rw[qrc] at hpre;rw[e1,e2];exact⟨hpre.2.1,rfl⟩
structure Free(L:List (qc1 P w0 M N F0 ops)):Prop where
 back:∀j x,L[j]? = some x->∀e∈x.o.after,Region.binds .any e=true->e.on<j
 pair:∀i j x y,i<j->L[i]? = some x->L[j]? = some y->Reach (L.map (·.o)) j i\/((∀κ,κ∈wkeys x.wr->κ∉y.rd/\κ∉wkeys y.wr)/\(∀κ,κ∈wkeys y.wr->κ∉x.rd))
theorem qDr(L:List (qc1 P w0 M N F0 ops))(h:qos (L.map (·.o)) (L.map qc1.foot)=true):Free L:=by
 unfold qos at h;rw[z8] at h;refine⟨fun j x hx e he hb=>?_,fun i j x y hij hx hy=>?_⟩
 ·have:=qqm _ 0 h.1 j x.o (by simp[hx]) e he hb
  omega
 ·have hj:j<L.length:=(zr.1 hy).1;have h2:=h.2;unfold qy8 at h2;simp only[zm,zK,z71,zd1] at h2;rcases h2 j hj i hij with h3 | h3
  ·exact .inl (qu5 _ _ [] (by simp) (by simp) j i h3)
  ·refine .inr ?_
   have fx:(L.map qc1.foot).getD i ([],[])=x.foot:=by simp[zh,hx]
   have fy:(L.map qc1.foot).getD j ([],[])=y.foot:=by simp[zh,hy]
   rw[fx,fy] at h3;unfold disj qc1.foot at h3;simp only[z8,zm,zq] at h3;refine⟨fun κ hκ=>⟨fun hm=>?_,fun hm=>?_⟩,fun κ hκ hm=>?_⟩
   ·have:=(h3.1 κ hκ).1; rw[qlt hm] at this; cases this
   ·have:=(h3.1 κ hκ).2; rw[qlt hm] at this; cases this
   ·have:=h3.2 κ hκ; rw[qlt hm] at this; cases this
def cnt:Nat->(Nat->Bool)->Nat
 | 0,_=>0
 | n+1,p=>cnt n p+if p n then 1 else 0
theorem qu6:∀(n:Nat) (p q:Nat->Bool),(∀j,j<n->p j=q j)->cnt n p=cnt n q
 | 0,_,_,_=>rfl
 | n+1,p,q,h=>by simp only[cnt,qu6 n p q (fun j hj=>h j (by omega)),h n (by omega)]
theorem qxb:∀(n:Nat) (p q:Nat->Bool) (i:Nat),i<n->p i=true->q i=false->(∀j,j≠i->q j=p j)->cnt n q+1=cnt n p
 | 0,_,_,i,h,_,_,_=>by omega
 | n+1,p,q,i,h,hp,hq,hj=>by
  by_cases e:i=n
  ·subst e;simp only[cnt,hp,hq,qu6 i q p (fun j hj'=>hj j (by omega))]; simp
  ·have:=qxb n p q i (by omega) hp hq hj
   simp only[cnt,hj n (fun e'=>e e'.symm)]; omega
theorem qxc:∀(n:Nat) (p:Nat->Bool),cnt n p=0->∀j,j<n->p j=false
 | 0,_,_,j,h=>by omega
 | n+1,p,h,j,hj=>by
  simp only[cnt] at h;by_cases e:j=n
  ·subst e;cases hp:p j with
   | false=>rfl
   | true=>rw[hp] at h; simp at h
  ·exact qxc n p (by omega) j (by omega)
theorem qCL:∀(n:Nat) (p:Nat->Bool),cnt n p<=n
 | 0,_=>z61 _
 | n+1,p=>by have:=qCL n p; simp only[cnt]; split <;> omega
theorem qwe{l:Array Bool}{i:Nat}(h:i<l.size)(b c:Bool):l.getD i b=l.getD i c:=by
 simp[z41,zt1 h]
theorem qwf{K:St->Prop}{L:List (qc1 P w0 M N F0 ops)}{st0:St}(ho:L.map (·.o)=ops.toList)(hpre:preL st0 L)(hf:Free L)(hK:K (runL st0 L)):
  ∀(fuel:Nat) (listed:Array Bool) (a:Act) (w:World),listed.size=ops.size->cnt ops.size (fun j=>!listed.getD j true)<=fuel->
   (∀j x,L[j]? = some x->listed.getD j true=true->∀e∈x.o.after,Region.binds .any e=true->listed.getD e.on true=true)->
   Rel P w0 M N F0 (selL (fun j=>listed.getD j true) 0 st0 L) a w->wpAny P .any ops (QK P w0 M N F0 K) fuel listed a w:=by
 have hlen:L.length=ops.size:=by have:=congrArg List.length ho; simpa using this
 have hop:∀(i:Nat) (x:qc1 P w0 M N F0 ops),L[i]? = some x->ops[i]? = some x.o:=by
  intro i x hx;have:(L.map (·.o))[i]? = some x.o:=by simp[hx]
  rw[ho] at this; simpa using this
 have hL:∀i,i<ops.size->∃x,L[i]? = some x:=fun i hi=>⟨L[i]'(by omega),zk (by omega)⟩
 -- all listed
 have hend:∀(listed:Array Bool) (a:Act) (w:World),(∀j,j<ops.size->listed.getD j true=true)->Rel P w0 M N F0 (selL (fun j=>listed.getD j true) 0 st0 L) a w->QK P w0 M N F0 K .normal a w:=by
  intro listed a w hall hr;rw[qqX L 0 st0 _ (by intro j hj; rw[zY]; exact hall j (by omega))] at hr
  exact⟨_,hK,hr⟩
 have hready:∀(listed:Array Bool),listed.size=ops.size->Region.ready .any ops listed=[]->∀j,j<ops.size->listed.getD j true=true:=by
  intro listed hs hr j;induction j using Nat.strongRecOn with
  | _ j ih=>
   intro hj;cases hl:listed.getD j true with
   | true=>rfl
   | false=>
    exfalso;obtain⟨x,hx⟩:=hL j hj;have:j∈Region.ready .any ops listed:=mem_ready.2 ⟨hl,x.o,hop j x hx,fun e he hb=>by
     have hlt:=hf.back j x hx e he hb;rw[qwe (by omega) false true]
     exact ih e.on hlt (by omega)⟩
    rw[hr] at this; cases this
 intro fuel;induction fuel with
 | zero=>
  intro listed a w hs hc hcl hr;have hall:∀j,j<ops.size->listed.getD j true=true:=fun j hj=>by
   have:=qxc _ _ (Nat.le_zero.1 hc) j hj; simpa using this
  refine⟨?_,hend listed a w hall hr⟩
  cases hrd:Region.ready .any ops listed with
  | nil=>rfl
  | cons i r=>
   exfalso;have hi:=mem_ready.1 (show i∈Region.ready .any ops listed by rw[hrd]; simp)
   obtain⟨h1,o,h2,_⟩:=hi;rw[hall i (zT.1 h2).1] at h1; cases h1
 | succ fuel ih=>
  intro listed a w hs hc hcl hr;refine⟨fun h0=>hend listed a w (hready listed hs h0) hr,fun i hi=>?_⟩
  obtain⟨hun,o,hoi,hdep⟩:=mem_ready.1 hi;have hisz:i<ops.size:=(zT.1 hoi).1;obtain⟨x,hx⟩:=hL i hisz;have hxo:x.o=o:=by have:=hop i x hx; rw[hoi] at this; injection this with this; exact this.symm
  subst hxo
  -- what waits for what
  have hreach:∀j k,Reach (L.map (·.o)) j k->listed.getD j true=true->j<ops.size->listed.getD k true=true/\k<ops.size:=by
   intro j k h;induction h with
   | @edge j' k' o' e' hj he hb hk=>
    intro hl hjs;obtain⟨y,hy⟩:=hL j' hjs
    have hyo : y.o = o' := by have h1:(L.map (·.o))[j']? = some y.o:=by simp[hy]
                              rw[hj] at h1; injection h1 with h1; exact h1.symm
    subst hyo hk;exact⟨hcl j' y hy hl _ he hb,Nat.lt_trans (hf.back j' y hy _ he hb) hjs⟩
   | @more j' m' k' o' e' hj he hb hk _ ih2=>
    intro hl hjs;obtain⟨y,hy⟩:=hL j' hjs
    have hyo : y.o = o' := by have h1:(L.map (·.o))[j']? = some y.o:=by simp[hy]
                              rw[hj] at h1; injection h1 with h1; exact h1.symm
    subst hyo hk;exact ih2 (hcl j' y hy hl _ he hb) (Nat.lt_trans (hf.back j' y hy _ he hb) hjs)
  have hreachi:∀k,Reach (L.map (·.o)) i k->listed.getD k true=true:=by
   intro k h;have hedge:∀(o':Oper) (e:Edge),(L.map (·.o))[i]? = some o'->e∈o'.after->Region.binds .any e=true->listed.getD e.on true=true/\e.on<ops.size:=by
    intro o' e h1 he hb;have h1':(L.map (·.o))[i]? = some x.o:=by simp[hx]
    rw[h1'] at h1; injection h1 with h1; subst h1
    have hlt:=hf.back i x hx e he hb;have:=hdep e he hb;rw[qwe (by omega) true false]
    exact⟨this,by omega⟩
   cases h with
   | edge h1 he hb hk=>subst hk; exact(hedge _ _ h1 he hb).1
   | more h1 he hb hk h2=>subst hk; exact(hreach _ _ h2 (hedge _ _ h1 he hb).1 (hedge _ _ h1 he hb).2).1
  -- who writes what number i reads or writes stands in the text's order to it
  have hsame:∀κ,(κ∈x.rd\/κ∈wkeys x.wr)->∀j y,L[j]? = some y->κ∈wkeys y.wr->j≠i->listed.getD j true=decide (j<i):=by
   intro κ hκ j y hy hw hne;have hjs:j<ops.size:=by rw[<-hlen]; exact(zr.1 hy).1
   rcases Nat.lt_or_gt_of_ne hne with hlt | hgt
   ·rw[z21 hlt];rcases hf.pair j i y x hlt hy hx with h | ⟨h1,h2⟩
    ·exact hreachi j h
    ·rcases hκ with hκ | hκ
     ·exact absurd hκ (h1 κ hw).1
     ·exact absurd hκ (h1 κ hw).2
   ·rw[zw2 (by omega)]
    rcases hf.pair i j x y hgt hx hy with h | ⟨h1,h2⟩
    ·cases hl:listed.getD j true with
     | false=>rfl
     | true=>have:=(hreach j i h hl hjs).1; rw[hun] at this; cases this
    ·rcases hκ with hκ | hκ
     ·exact absurd hκ (h2 κ hw)
     ·exact absurd hw (h1 κ hκ).2
  obtain⟨hp,happ⟩:=qBs hpre hx;have hagree:∀κ,(κ∈x.rd\/κ∈wkeys x.wr)->agree (selL (fun j=>decide (j<i)) 0 st0 L) (selL (fun j=>listed.getD j true) 0 st0 L) κ:=by
   intro κ hκ;refine qmB _ _ κ L 0 st0 st0 (agree.refl _ _) (fun j y hy hw=>?_)
   rw[zY];by_cases e:j=i
   ·subst e; rw[hun]; simp
   ·exact(hsame κ hκ j y hy hw e).symm
  have hp':x.pre (selL (fun j=>listed.getD j true) 0 st0 L):=fun κ hκ=>(hp κ hκ).trans (hagree κ (.inl hκ))
  have hnext:(selL (fun j=>listed.getD j true) 0 st0 L).app x.wr=selL (fun j=>(listed.setIfInBounds i true).getD j true) 0 st0 L:=by
   refine St.ext' fun κ _=>?_
   have hset:∀j,j≠i->(listed.setIfInBounds i true).getD j true=listed.getD j true:=fun j hj=>getD_set_ne true (Ne.symm hj)
   have hseti:(listed.setIfInBounds i true).getD i true=true:=by
    simp[z41,zR1];split <;> simp
   by_cases hκ:κ∈wkeys x.wr
   ·refine(qlu x.wr (hagree κ (.inr hκ)).symm).trans ?_
    rw[happ];refine qmB _ _ κ L 0 st0 st0 (agree.refl _ _) (fun j y hy hw=>?_)
    rw[zY];by_cases e:j=i
    ·subst e; rw[hseti]; simp
    ·rw[hset j e,hsame κ (.inr hκ) j y hy hw e];rcases Nat.lt_or_gt_of_ne e with h | h
     ·rw[z21 h,z21 (by omega)]
     ·rw[zw2 (by omega),zw2 (by omega)]
   ·refine(qou x.wr _ κ hκ).trans ?_
    refine qmB _ _ κ L 0 st0 st0 (agree.refl _ _) (fun j y hy hw=>?_)
    rw[zY];by_cases e:j=i
    ·subst e;have:y=x:=by rw[hx] at hy; injection hy with hy; exact hy.symm
     subst this; exact absurd hw hκ
    ·rw[hset j e]
  have hrt:=x.h _ hp' a w hr;have hgo:∀a' w',Rel P w0 M N F0 ((selL (fun j=>listed.getD j true) 0 st0 L).app x.wr) a' w'->wpAny P .any ops (QK P w0 M N F0 K) fuel (listed.setIfInBounds i true) a' w':=by
   intro a' w' hr';rw[hnext] at hr';have hset:∀j,j≠i->(listed.setIfInBounds i true).getD j true=listed.getD j true:=fun j hj=>getD_set_ne true (Ne.symm hj)
   have hseti:(listed.setIfInBounds i true).getD i true=true:=by
    simp[z41,zR1];split <;> simp
   refine ih (listed.setIfInBounds i true) a' w' (by simp[hs]) ?_ ?_ hr'
   ·have:=qxb ops.size (fun j=>!listed.getD j true) (fun j=>!(listed.setIfInBounds i true).getD j true) i hisz (by simp only[hun]; rfl) (by simp only[hseti]; rfl) (fun j hj=>by simp only[hset j hj])
    omega
   ·intro j y hy hl e he hb;by_cases ee:e.on=i
    ·rw[ee]; exact hseti
    ·rw[hset _ ee];by_cases ej:j=i
     ·subst ej;have hyx:y=x:=by rw[hx] at hy; injection hy with hy; exact hy.symm
      subst hyx;have hlt:=hf.back j y hy e he hb;rw[qwe (by omega) true false]
      exact hdep e he hb
     ·rw[hset j ej] at hl;exact hcl j y hy hl e he hb
  unfold wpOp;rw[hoi];simp only[];split
  ·rename_i hw;rw[if_pos hw] at hrt;exact .inl (qot.wp_calm (Oper.wp_mono hgo hrt))
  ·rename_i hw;rw[if_neg hw] at hrt;exact hgo _ _ hrt
theorem G.drawn{st0 st:St}{feet:List (List Key×List Key)}{K:St->Prop}(hfree:qos ops.toList feet=true)(hK:K st):G P w0 M N F0 true ops st0 feet [] st K:=by
 intro L hfe ho hpre hr a w ⟨F,ρ,hrel,hF⟩;simp only[zM] at ho;rw[if_pos rfl];have hf:Free L:=qDr L (by rw[ho,hfe]; exact hfree)
 have hg:∀j,(Array.replicate ops.size false).getD j true=true->ops.size<=j:=by
  intro j hj;rcases zb2 j ops.size with h | h
  ·simp[z41,h] at hj
  ·exact h
 have hlen:L.length=ops.size:=by have:=congrArg List.length ho; simpa using this
 refine qwf ho hpre hf (by rw[hr]; exact hK) ops.size _ a _ (by simp) (qCL _ _) ?_ ?_
 ·intro j x hx hl;have:=hg j hl;have h2:=(zr.1 hx).1;omega
 ·rw[qov L 0 st0 _ (by
   intro j hj;rw[zY];cases h:(Array.replicate ops.size false).getD j true with
   | false=>rfl
   | true=>have:=hg j h; omega)]
  exact⟨F,ρ,hrel.drew,hF⟩
end
section
variable {P:Program} {w0:World} {M:Mod} {N:Nat} {F0:Nat->Prop}
variable {st:St} {Q:Exit->St->Prop}
def QX(P:Program)(w0:World)(M:Mod)(N:Nat)(F0:Nat->Prop)(Q:Exit->St->Prop):Exit->Act->World->Prop:=fun e a w=>∃st',Q e st'/\Rel P w0 M N F0 st' a w
def W(P:Program)(w0:World)(M:Mod)(N:Nat)(F0:Nat->Prop)(c:Code)(st:St)(Q:Exit->St->Prop):Prop:=∀a w,Rel P w0 M N F0 st a w->c.wp P (QX P w0 M N F0 Q) a w
def Le(P:Program)(w0:World)(M:Mod)(N:Nat)(F0:Nat->Prop)(st st':St):Prop:=∀a w,Rel P w0 M N F0 st a w->Rel P w0 M N F0 st' a w
theorem W.le{c:Code}{st':St}(h:Le P w0 M N F0 st st')(hw:W P w0 M N F0 c st' Q):W P w0 M N F0 c st Q:=fun a w hr=>hw a w (h a w hr)
theorem Le.refl:Le P w0 M N F0 st st:=fun _ _ h=>h
theorem W.region{id:Nat}{l:List Oper}(h:G P w0 M N F0 false l.toArray st [] l st (Q .normal)):W P w0 M N F0 (.region id l.toArray false) st Q:=by
 intro a w hr;have h1:=h [] rfl rfl trivial rfl a w hr;rw[if_neg (by simp)] at h1
 refine zK1 ?_ (wp_region_list h1)
 intro e a w hq;cases e <;> first | exact hq | exact hq.elim
theorem W.drawn{id:Nat}{l:List Oper}(hm:P.follows .mixedOrders=true)(h:G P w0 M N F0 true l.toArray st [] l st (Q .normal)):W P w0 M N F0 (.region id l.toArray true) st Q:=by
 intro a w hr;have h1:=h [] rfl rfl trivial rfl a w hr;rw[if_pos rfl] at h1;refine zK1 ?_ (wp_region_any hm h1)
 intro e a w hq;cases e <;> first | exact hq | exact hq.elim
theorem W.seq{x y:Code}(h:W P w0 M N F0 x st (thenQ (fun st'=>W P w0 M N F0 y st' Q) Q)):W P w0 M N F0 (.seq x y) st Q:=by
 intro a w hr;refine wp_seq (zK1 ?_ (h a w hr))
 rintro e a w ⟨st',hq,hr'⟩
 cases e <;> first | exact hq a w hr' | exact⟨st',hq,hr'⟩
theorem W.block{id:Nat}{c:Code}(h:W P w0 M N F0 c st (qCK id Q)):W P w0 M N F0 (.block id c) st Q:=by
 intro a w hr;refine wp_block (zK1 ?_ (h a w hr))
 rintro e a w ⟨st',hq,hr'⟩
 cases e with
 | exit id'=>
  simp only[qCK] at hq;by_cases e:id'=id
  ·subst e; simp only[zO2,za] at hq;simp only[Exit.inBlock,if_true]; exact⟨st',hq,hr'⟩
  ·have hb:Nat.beq id' id=false:=zJ.2 (fun h=>e (zc h))
   simp only[hb,zb] at hq;simp only[Exit.inBlock,if_neg e]; exact⟨st',hq,hr'⟩
 | _=>exact⟨st',hq,hr'⟩
theorem W.scope{c:Code}(h:W P w0 M N F0 c st (qEv Q)):W P w0 M N F0 (.scope c) st Q:=by
 intro a w hr;refine wp_scope_straight (zK1 ?_ (h a w hr))
 rintro e a w ⟨st',hq,hr'⟩
 cases e <;> first | exact⟨st',hq,hr'⟩ | exact hq.elim
theorem W.exit{id:Nat}(h:Q (.exit id) st):W P w0 M N F0 (.exit id) st Q:=fun _ _ hr=>wp_exit ⟨st,h,hr⟩
theorem W.ret(h:Q .ret st):W P w0 M N F0 .ret st Q:=fun _ _ hr=>wp_ret ⟨st,h,hr⟩
theorem W.skip(h:Q .normal st):W P w0 M N F0 .skip st Q:=fun _ _ hr=>wp_skip ⟨st,h,hr⟩
theorem W.loop{c:Code}{α:Type}(f:α->St)(p:α->Prop)(μ:α->Nat)(i0:α)(h0:Le P w0 M N F0 st (f i0))(hp:p i0)
  (round:∀i,p i->W P w0 M N F0 c (f i) (thenQ (fun st'=>∃j,p j/\μ j<μ i/\Le P w0 M N F0 st' (f j)) Q)):W P w0 M N F0 (.loop c) st Q:=by
 intro a w hr b k cs;have key:∀n i a w,μ i=n->p i->Rel P w0 M N F0 (f i) a w->
   ∃e a' w',QX P w0 M N F0 Q e a' w'/\Arrives P (lone (b.at a (.code c::.inLoop c::k)) cs w) b k cs e a' w':=by
  intro n;induction n using Nat.strongRecOn with
  | _ n ih=>
   intro i a w hn hpi hrel;obtain⟨e,a₁,w₁,⟨st',hq,hr'⟩,harr⟩:=round i hpi a w hrel b (.inLoop c::k) cs;cases e with
   | normal=>
    obtain⟨j,hpj,hlt,hle⟩:=hq;obtain⟨e₂,a₂,w₂,hq₂,harr₂⟩:=ih (μ j) (hn ▸ hlt) j a₁ w₁ rfl hpj (hle a₁ w₁ hr');exact⟨e₂,a₂,w₂,hq₂,.of_steps (Steps.trans harr (.one step_inLoop)) harr₂⟩
   | exit id=>exact⟨_,a₁,w₁,⟨st',hq,hr'⟩,.pass (x:=.inLoop c) rfl (fun _ _=>.inl (by simp)) harr⟩
   | goto l=>exact⟨_,a₁,w₁,⟨st',hq,hr'⟩,.pass (x:=.inLoop c) rfl (fun _ _=>.inl (by simp)) harr⟩
   | ret=>exact⟨_,a₁,w₁,⟨st',hq,hr'⟩,.pass (x:=.inLoop c) rfl (fun _ _=>.inl (by simp)) harr⟩
   | panic ch=>exact⟨_,a₁,w₁,⟨st',hq,hr'⟩,.pass (x:=.inLoop c) rfl (fun _ _=>.inl (by simp)) harr⟩
   | outgrown=>exact⟨_,a₁,w₁,⟨st',hq,hr'⟩,.pass (x:=.inLoop c) rfl (fun _ _=>.inl (by simp)) harr⟩
 obtain⟨e,a',w',hq,harr⟩:=key _ i0 a w rfl hp (h0 a w hr);exact⟨e,a',w',hq,.of_steps (.one step_loop) harr⟩
end
end Go.Sq
