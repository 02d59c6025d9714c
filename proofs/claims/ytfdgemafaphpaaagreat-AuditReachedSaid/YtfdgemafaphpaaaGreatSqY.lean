/- The second engine, part Y: plain lemmas on loops and lists, for the laws. No condition. -/
import Derived.Test.YtfdgemafaphpaaaGreatSqV
import Derived.IntWalk
import Derived.Lib.Bytealg
import Derived.Laws.Externs
namespace Go.Sq
open Go
/-! ### Functions without a body here -/
def qCr(a b:List UInt8):Option Int:=some (Lib.compareBytes a b)
def qCs(f:FuncId):Ext:={ f:=f,ps:=[.str,.str],r:=.int .i64,g:=fun x=>qCr x.1 x.2.1 }
theorem qzF{P:Program}{f:FuncId}{fn:Func}(hf:P.funcs[f]? = some fn)(hname:(fn.name == "runtime.NumGoroutine")=false)(hb:fn.body.isNone=true)(hn:Extern.findNext fn=none)(he:Extern.find fn=some Extern.BytealgCompare.compare):ExtOk P (qCs f):=by
 intro x y hxy F w vs hvs;obtain⟨v1,r1,rfl,⟨cs1,h1,rfl⟩,v2,r2,rfl,⟨cs2,h2,rfl⟩,hr⟩:=hvs;have hr':r2=[]:=hr;subst hr';have h1':cs1=[.string ⟨⟨x.1⟩⟩]:=h1;have h2':cs2=[.string ⟨⟨x.2.1⟩⟩]:=h2;subst h1' h2';have hxy':some (Lib.compareBytes x.1 x.2.1)=some y:=hxy;injection hxy' with hxy'; subst hxy'
 refine⟨.int .i64 (Lib.compareBytes x.1 x.2.1),?_,⟨[.int .i64 (Lib.compareBytes x.1 x.2.1)],rfl,rfl⟩⟩
 show(callFunc f #[.string ⟨⟨x.1⟩⟩,.string ⟨⟨x.2.1⟩⟩]).run P w=_;rw[run_callFunc_extern hf hname hb hn he,Lib.run_compareString];rfl
def bothC{A:Type}[DecidableEq A](a b:Option A):Option A:=if a=b then a else none
theorem LeO.both{A:Type}[DecidableEq A]{a b a' b':Option A}(h:LeO a a')(h':LeO b b'):LeO (bothC a b) (bothO a' b'):=by
 intro y hy;unfold bothC at hy;split at hy
 ·rename_i e;subst e;rw[h y hy] at*
  unfold bothO;rw[if_pos (by rw[h' y hy])]
 ·cases hy
theorem FunOk.le{P:Program}{e:Fun}(h:FunOk P e){tw:CT e.ji.ct->Option (CT e.jo.ct)}(hl:∀x,LeO (tw x) (e.tw x)):FunOk P { f:=e.f,np:=e.np,nr:=e.nr,ji:=e.ji,jo:=e.jo,tw:=tw }:=
 ⟨h.ok,fun x y hxy=>h.run x y (hl x y hxy)⟩
theorem qh1{A:Type}(s:List A)(c:Bool):LeO (gd c (some ([]++s))) (bif Nat.beq s.length 0 then bothO (some []) (gd c (some ([]++s))) else gd c (some ([]++s))):=by
 intro y hy;cases c with
 | false=>cases hy
 | true=>
  cases s with
  | nil=>injection hy with hy; subst hy; show bothO (some []) (some [])=_; unfold bothO; rw[if_pos rfl]; rfl
  | cons a l=>exact hy
theorem wi{n:Int}(h : -9223372036854775808<=n/\n<=9223372036854775807):wi64 n=n:=IntWalk.i64_in n h
theorem qaG{σ ε:Type}{step:σ->Option (σ⊕ε)}(n:Nat)(st:Nat->σ){e:ε}(hs:∀i,i<n->step (st i)=some (.inl (st (i+1))))(he:step (st n)=some (.inr e)):iter step (st 0)=some e:=by
 have key:∀k,k<=n->iter step (st (n-k))=some e:=by
  intro k;induction k with
  | zero=>intro _; exact qb0 he
  | succ k ih=>
   intro hk;have:=hs (n-(k+1)) (by omega)
   rw[show n-(k+1)+1=n-k by omega] at this
   rw[qcw this];exact ih (by omega)
 have:=key n (zM n);rwa[zU2] at this
theorem qbn{σ ε:Type}{step:σ->Option (σ⊕ε)}(n:Nat)(st:Nat->σ)(p:Nat->Bool){fin bad:ε}
  (hs:∀i,i<n->(∀j,j<i->p j=true)->p i=true->step (st i)=some (.inl (st (i+1))))
  (hb:∀i,i<n->(∀j,j<i->p j=true)->p i=false->step (st i)=some (.inr bad))
  (he:(∀j,j<n->p j=true)->step (st n)=some (.inr fin)):iter step (st 0)=some (bif (List.range n).all p then fin else bad):=by
 have key:∀k,k<=n->(∀j,j<n-k->p j=true)->iter step (st (n-k))=some (bif (List.range n).all p then fin else bad):=by
  intro k;induction k with
  | zero=>
   intro _ h;rw[Nat.sub_zero] at h ⊢;rw[qb0 (he h),show(List.range n).all p=true from zx.2 fun x hx=>h x (zO.1 hx)]; rfl
  | succ k ih=>
   intro hk h;cases hp:p (n-(k+1)) with
   | true=>
    have:=hs (n-(k+1)) (by omega) h hp
    rw[show n-(k+1)+1=n-k by omega] at this
    rw[qcw this];refine ih (by omega) fun j hj=>?_
    by_cases e:j=n-(k+1)
    ·rw[e]; exact hp
    ·exact h j (by omega)
   | false=>
    rw[qb0 (hb _ (by omega) h hp),show(List.range n).all p=false from List.all_eq_false.2 ⟨n-(k+1),zO.2 (by omega),by simp[hp]⟩]; rfl
 have:=key n (zM n) (fun j hj=>by omega)
 rwa[zU2] at this
theorem qkR{n:Nat}{p:Nat->Bool}:(List.range n).all p=true↔∀i,i<n->p i=true:=by
 simp[zx,zO]
/-! ### Elements -/
theorem gD_eq{A:Type}{l:List A}{k:Nat}{d:A}(h:k<l.length):l.getD k d=l[k]:=by
 rw[zh,zi h]; rfl
theorem qsD{A:Type}{l:List A}{k:Nat}{d:A}(h:l.length<=k):l.getD k d=d:=by
 rw[zh,zv1 h]; rfl
theorem qgq{A:Type}(l:List A)(j k:Nat)(v d:A):(l.set j v).getD k d=if j=k/\j<l.length then v else l.getD k d:=by
 rw[zh,zh,List.getElem?_set]
 by_cases h:j=k
 ·subst h;by_cases h2:j<l.length
  ·simp[h2]
  ·simp[h2]
 ·simp[h]
theorem qxa{A:Type}(X Y:List A)(k:Nat)(d:A):(X++Y).getD k d=if k<X.length then X.getD k d else Y.getD (k-X.length) d:=by
 rw[zh,zh,zh,List.getElem?_append]
 split <;> rfl
theorem qwe{A:Type}(X:List A)(n k:Nat)(d:A):(X.take n).getD k d=if k<n then X.getD k d else d:=by
 rw[zh,zh,zw];split <;> rfl
theorem qzG{A:Type}(X:List A)(n k:Nat)(d:A):(X.drop n).getD k d=X.getD (n+k) d:=by
 rw[zh,zh,zC]
theorem qgR{A B:Type}(f:A->B)(X:List A)(k:Nat)(d:A)(d':B)(h:k<X.length):(X.map f).getD k d'=f (X.getD k d):=by
 rw[gD_eq (by simpa using h),gD_eq h]; simp
theorem qBe(f:Nat->Int)(n k:Nat)(h:k<n):((List.range n).map f).getD k 0=f k:=by
 rw[gD_eq (by simpa using h)]; simp
theorem qaU{A:Type}{l:List A}{k:Nat}{d:A}(h:k<l.length):l.getD k d∈l:=by
 rw[gD_eq h]; exact zL2 h
theorem qpq{A:Type}{S:List A}{x:A}(d:A)(h:x∈S):∃k,k<S.length/\S.getD k d=x:=by
 obtain⟨k,hk,rfl⟩:=List.mem_iff_getElem.1 h;exact⟨k,hk,gD_eq hk⟩
theorem qCt{A:Type}{X Y:List A}(d:A)(h:X.length=Y.length)(hk:∀k,k<X.length->X.getD k d=Y.getD k d):X=Y:=by
 refine List.ext_getElem h fun k h1 h2=>?_
 have:=hk k h1;rwa[gD_eq h1,gD_eq h2] at this
theorem qdu{A:Type}{l:List A}{i:Nat}(d:A)(h:i<l.length):l.take (i+1)=l.take i++[l.getD i d]:=by
 rw[gD_eq h,zx1 h]
def mix{A:Type}(X Y:List A)(i:Nat):List A:=X.take i++Y.drop i
theorem mix_0{A:Type}(X Y:List A):mix X Y 0=Y:=by simp[mix]
theorem mix_n{A:Type}{X Y:List A}{n:Nat}(h1:X.length=n)(h2:Y.length=n):mix X Y n=X:=by
 unfold mix; rw[zr (by omega),z21 (by omega),z81]
theorem qiw{A:Type}{X Y:List A}{i n:Nat}(h1:X.length=n)(h2:Y.length=n):(mix X Y i).length=n:=by
 unfold mix; simp only[zd,zk,zY]; omega
theorem qsE{A:Type}{X Y:List A}{i n:Nat}(h1:X.length=n)(h2:Y.length=n)(k:Nat)(d:A):(mix X Y i).getD k d=if k<i then X.getD k d else Y.getD k d:=by
 unfold mix;rw[qxa,qwe,qzG,zk];by_cases h:k<i
 ·by_cases h3:k<n
  ·rw[if_pos (by omega)]; simp only[h,if_true]
  ·rw[if_neg (by omega),if_pos h,qsD (by omega),qsD (by omega)]
 ·rw[if_neg (by omega),if_neg h]
  by_cases h3:k<n
  ·congr 1; omega
  ·rw[qsD (by omega),qsD (by omega)]
theorem qqY{A:Type}{X Y:List A}{i n:Nat}(h1:X.length=n)(h2:Y.length=n)(d:A)(h:i<n){v:A}(hv:v=X.getD i d):(mix X Y i).set i v=mix X Y (i+1):=by
 refine qCt d (by rw[zJ,qiw h1 h2,qiw h1 h2]) fun k _=>?_
 rw[qgq,qsE h1 h2,qsE h1 h2,qiw h1 h2];by_cases e:i=k
 ·subst e; rw[if_pos ⟨rfl,h⟩,if_pos (by omega),hv]
 ·rw[if_neg (fun hh=>e hh.1)]
  by_cases h3:k<i
  ·rw[if_pos h3,if_pos (by omega)]
  ·rw[if_neg h3,if_neg (by omega)]
/-! ### Sums -/
def isum:List Int->Int
 | []=>0
 | x::l=>x+isum l
theorem qqb(X Y:List Int):isum (X++Y)=isum X+isum Y:=by
 induction X with
 | nil=>simp[isum]
 | cons x X ih=>simp only[zO1,isum,ih]; omega
theorem qnL{l:List Int}{i:Nat}(h:i<l.length):isum (l.take (i+1))=isum (l.take i)+l.getD i 0:=by
 rw[qdu 0 h,qqb]; simp[isum]
theorem qoU{l:List Int}{a b:Int}(h:∀x∈l,a<=x/\x<=b):a*l.length<=isum l/\isum l<=b*l.length:=by
 induction l with
 | nil=>simp[isum]
 | cons x l ih=>
  have h1:=h x (by simp)
  have h2:=ih fun y hy=>h y (by simp[hy])
  simp only[isum,zt,Int.natCast_add,Int.natCast_one,Int.mul_add,Int.mul_one];omega
theorem qwf{l:List Int}(h:∀x∈l,0<=x):0<=isum l:=by
 induction l with
 | nil=>exact Int.le_refl 0
 | cons x l ih=>
  have h1:=h x (by simp)
  have h2:=ih fun y hy=>h y (by simp[hy])
  simp only[isum]; omega
theorem qC1{l:List Int}(h:∀x∈l,0<=x){i:Nat}:isum (l.take i)<=isum l:=by
 have e:isum l=isum (l.take i)+isum (l.drop i):=by rw[<-qqb,zh1]
 have:=qwf (l:=l.drop i) fun x hx=>h x (zX1 hx)
 omega
theorem qtn{l:List Int}(h:∀x∈l,0<=x){x:Int}(hx:x∈l):x<=isum l:=by
 induction l with
 | nil=>cases hx
 | cons y l ih=>
  have h1:=h y (by simp)
  have h2:=qwf (l:=l) fun z hz=>h z (by simp[hz])
  simp only[isum];rcases zE.1 hx with rfl | hx
  ·omega
  ·have:=ih (fun z hz=>h z (by simp[hz])) hx; omega
theorem qpr(f:Int->Int)(a:Int)(l:List Int)(h:∀x∈l,f x=a*x):isum (l.map f)=a*isum l:=by
 induction l with
 | nil=>simp[isum]
 | cons x l ih=>
  simp only[z41,isum,h x (by simp),ih fun y hy=>h y (by simp[hy]),Int.mul_add]
/-! ### Guards -/
theorem gd_tt{A:Type}(x:Option A):gd true x=x:=rfl
theorem inB_t{i:Nat}{n:Nat}(h:i<n):inB (i:Int) n=true:=qan.2 ⟨by omega,by omega⟩
theorem dec_t{p:Prop}[Decidable p](h:p):decide p=true:=zb1 h
theorem dec_f{p:Prop}[Decidable p](h:¬p):decide p=false:=zo2 h
theorem qaj{n b:Nat}(h:n*b<=140737488355328):fits n b=true:=Nat.ble_eq_true_of_le h
theorem qfe{b n:Nat}(h:n*b<=281474976710656):makeG b (n:Int)=true:=by
 unfold makeG;have:((n*b:Nat):Int)<=281474976710656:=by omega
 simp only[z9,zo];rw[zC2] at this;exact⟨by omega,by rw[Int.mul_comm]; exact this⟩
theorem inR_t{a b n:Nat}(h:a<=b)(h2:b<=n):inR (a:Int) (b:Int) n=true:=by
 unfold inR;simp only[z9,zo];omega
/-! ### Walks through maps, computed -/
def agr{ε:Type}[DecidableEq ε]:List (Option ε)->Option ε
 | []=>none
 | none::_=>none
 | some e::l=>bif l.all (fun b=>decide (b=some e)) then some e else none
theorem qxb{ε:Type}[DecidableEq ε]{L:List (Option ε)}{e:ε}(h:agr L=some e):L≠[]/\∀b∈L,b=some e:=by
 cases L with
 | nil=>cases h
 | cons a l=>
  cases a with
  | none=>cases h
  | some e'=>
   simp only[agr] at h;cases hb:l.all (fun b=>decide (b=some e')) with
   | false=>rw[hb] at h; cases h
   | true=>
    rw[hb] at h; injection h with h; subst h
    refine⟨by simp,fun b hm=>?_⟩
    rcases zE.1 hm with rfl | hm
    ·rfl
    ·exact zm (zx.1 hb b hm)
def qxc{σ ε:Type}[DecidableEq ε](outs:σ->List (Option (σ⊕ε))):Nat->σ->Option ε
 | 0,_=>none
 | n+1,x=>agr ((outs x).map fun o=>o.bind (Sum.elim (qxc outs n) some))
theorem qqZ{σ ε:Type}[DecidableEq ε]{outs:σ->List (Option (σ⊕ε))}:∀ {n:Nat} {x:σ} {e:ε},qxc outs n x=some e->NIter outs x e
 | 0,_,_,h=>by cases h
 | n+1,x,e,h=>by
  obtain⟨h1,h2⟩:=qxb h;have h3:∀o∈outs x,o.bind (Sum.elim (qxc outs n) some)=some e:=fun o ho=>h2 _ (z61 ho)
  refine .mk (fun h=>h1 (by rw[h]; rfl)) (fun o ho=>?_) (fun y hy=>qqZ (n:=n) (h3 _ hy)) (fun e' he=>?_)
  ·have:=h3 o ho;cases o with
   | none=>cases this
   | some r=>exact⟨r,rfl⟩
  ·have:=h3 _ he;injection this
inductive LeL {A:Type}:List (Option A)->List (Option A)->Prop
 | nil:LeL [] []
 | cons {a b:Option A} {l l':List (Option A)}:LeO a b->LeL l l'->LeL (a::l) (b::l')
theorem LeL.refl{A:Type}:∀(l:List (Option A)),LeL l l
 | []=>.nil
 | a::l=>.cons (LeO.refl a) (LeL.refl l)
theorem LeL.one{A:Type}{a b:Option A}(h:LeO a b):LeL [a] [b]:=.cons h .nil
theorem LeL.map{A B:Type}{f g:B->Option A}(h:∀i,LeO (f i) (g i)):∀ {l:List B},LeL (l.map f) (l.map g)
 | []=>.nil
 | _::_=>.cons (h _) (LeL.map h)
theorem LeL.bif{A:Type}{c:Bool}{x y x' y':List (Option A)}(h:LeL x x')(h':LeL y y'):LeL (bif c then x else y) (bif c then x' else y'):=by
 cases c
 ·exact h'
 ·exact h
theorem LeL.eq{A:Type}{l l':List (Option A)}(h:LeL l l')(hs:∀o∈l,∃r,o=some r):l'=l:=by
 induction h with
 | nil=>rfl
 | @cons a b l l' h _ ih=>
  obtain⟨r,rfl⟩:=hs a (by simp)
  rw[ih fun o ho=>hs o (by simp[ho]),h r rfl]
theorem LeO.iterA{σ ε:Type}[DecidableEq ε]{outs outs':σ->List (Option (σ⊕ε))}{n:Nat}{x:σ}(h:∀x,LeL (outs x) (outs' x)):LeO (qxc outs n x) (iterA outs' x):=by
 intro v hv;have key:∀ {x e},NIter outs x e->NIter outs' x e:=by
  intro x e hn;induction hn with
  | mk h1 h2 _ h4 ih=>
   have e1:=(h _).eq h2;exact .mk (by rw[e1]; exact h1) (by rw[e1]; exact h2) (fun y hy=>ih y (by rw[<-e1]; exact hy)) (fun e' he=>h4 e' (by rw[<-e1]; exact he))
 exact qBb (key (qqZ hv))
def qxd{σ ε A:Type}[DecidableEq A](n:Nat)(outs:σ->List (Option (σ⊕ε)))(x:σ)(k:ε->Option A):Option A:=
 match n with
 | 0=>none
 | n+1=>agr ((outs x).map fun o=>o.bind (Sum.elim (fun y=>qxd n outs y k) k))
theorem qq0{σ ε A:Type}[DecidableEq A]{outs:σ->List (Option (σ⊕ε))}{k:ε->Option A}:∀ {n:Nat} {x:σ} {v:A},qxd n outs x k=some v->NIterK outs k x v
 | 0,_,_,h=>by cases h
 | n+1,x,v,h=>by
  obtain⟨h1,h2⟩:=qxb h;have h3:∀o∈outs x,o.bind (Sum.elim (fun y=>qxd n outs y k) k)=some v:=fun o ho=>h2 _ (z61 ho)
  refine .mk (fun h=>h1 (by rw[h]; rfl)) (fun o ho=>?_) (fun y hy=>qq0 (n:=n) (h3 _ hy)) (fun e' he=>h3 _ he)
  have:=h3 o ho;cases o with
  | none=>cases this
  | some r=>exact⟨r,rfl⟩
theorem LeO.iterK{σ ε A:Type}[DecidableEq A]{outs outs':σ->List (Option (σ⊕ε))}{n:Nat}{x:σ}{k k':ε->Option A}(h:∀x,LeL (outs x) (outs' x))(hk:∀e,LeO (k e) (k' e)):LeO (qxd n outs x k) (iterK outs' x k'):=by
 intro v hv;have key:∀ {x e},NIterK outs k x e->NIterK outs' k' x e:=by
  intro x e hn;induction hn with
  | mk h1 h2 _ h4 ih=>
   have e1:=(h _).eq h2;exact .mk (by rw[e1]; exact h1) (by rw[e1]; exact h2) (fun y hy=>ih y (by rw[<-e1]; exact hy)) (fun e' he=>hk _ _ (h4 e' (by rw[<-e1]; exact he)))
 exact qnJ (key (qq0 hv))
end Go.Sq
