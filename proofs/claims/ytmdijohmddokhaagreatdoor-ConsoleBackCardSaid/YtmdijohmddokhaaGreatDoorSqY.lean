/- The second engine, part Y: plain lemmas on loops and lists, for the laws. No condition. -/
import Derived.Test.YtmdijohmddokhaaGreatDoorSqV
import Derived.IntWalk
import Derived.Lib.Bytealg
import Derived.Laws.Externs
namespace Go.Sq
open Go
/-! ### Functions without a body here -/
def qC0(a b:List UInt8):Option Int:=some (Lib.compareBytes a b)
def qC1(f:FuncId):Ext:={ f:=f,ps:=[.str,.str],r:=.int .i64,g:=fun x=>qC0 x.1 x.2.1 }
theorem qAd{P:Program}{f:FuncId}{fn:Func}(hf:P.funcs[f]? = some fn)(hname:(fn.name == "runtime.NumGoroutine")=false)(hb:fn.body.isNone=true)(hn:Extern.findNext fn=none)(he:Extern.find fn=some Extern.BytealgCompare.compare):ExtOk P (qC1 f):=by
 intro x y hxy F w vs hvs;obtain⟨v1,r1,rfl,⟨cs1,h1,rfl⟩,v2,r2,rfl,⟨cs2,h2,rfl⟩,hr⟩:=hvs;have hr':r2=[]:=hr;subst hr';have h1':cs1=[.string ⟨⟨x.1⟩⟩]:=h1;have h2':cs2=[.string ⟨⟨x.2.1⟩⟩]:=h2;subst h1' h2';have hxy':some (Lib.compareBytes x.1 x.2.1)=some y:=hxy;injection hxy' with hxy'; subst hxy'
 refine⟨.int .i64 (Lib.compareBytes x.1 x.2.1),?_,⟨[.int .i64 (Lib.compareBytes x.1 x.2.1)],rfl,rfl⟩⟩
 show(callFunc f #[.string ⟨⟨x.1⟩⟩,.string ⟨⟨x.2.1⟩⟩]).run P w=_;rw[zL2 hf hname hb hn he,Lib.run_compareString];rfl
def bothC{A:Type}[DecidableEq A](a b:Option A):Option A:=if a=b then a else none
theorem LeO.both{A:Type}[DecidableEq A]{a b a' b':Option A}(h:LeO a a')(h':LeO b b'):LeO (bothC a b) (bothO a' b'):=by
 intro y hy;unfold bothC at hy;split at hy
 ·rename_i e;subst e;rw[h y hy] at*
  unfold bothO;rw[if_pos (by rw[h' y hy])]
 ·cases hy
theorem FunOk.le{P:Program}{e:Fun}(h:FunOk P e){tw:CT e.ji.ct->Option (CT e.jo.ct)}(hl:∀x,LeO (tw x) (e.tw x)):FunOk P { f:=e.f,np:=e.np,nr:=e.nr,ji:=e.ji,jo:=e.jo,tw:=tw }:=
 ⟨h.ok,fun x y hxy=>h.run x y (hl x y hxy)⟩
theorem qmH{A:Type}(s:List A)(c:Bool):LeO (gd c (some ([]++s))) (bif Nat.beq s.length 0 then bothO (some []) (gd c (some ([]++s))) else gd c (some ([]++s))):=by
 intro y hy;cases c with
 | false=>cases hy
 | true=>
  cases s with
  | nil=>injection hy with hy; subst hy; show bothO (some []) (some [])=_; unfold bothO; rw[if_pos rfl]; rfl
  | cons a l=>exact hy
theorem wi{n:Int}(h : -9223372036854775808<=n/\n<=9223372036854775807):wi64 n=n:=IntWalk.i64_in n h
theorem qbj{σ ε:Type}{step:σ->Option (σ⊕ε)}(n:Nat)(st:Nat->σ){e:ε}(hs:∀i,i<n->step (st i)=some (.inl (st (i+1))))(he:step (st n)=some (.inr e)):iter step (st 0)=some e:=by
 have key:∀k,k<=n->iter step (st (n-k))=some e:=by
  intro k;induction k with
  | zero=>intro _; exact qaV he
  | succ k ih=>
   intro hk;have:=hs (n-(k+1)) (by omega)
   rw[show n-(k+1)+1=n-k by omega] at this
   rw[qbp this];exact ih (by omega)
 have:=key n (z61 n);rwa[Nat.sub_self] at this
theorem qa1{σ ε:Type}{step:σ->Option (σ⊕ε)}(n:Nat)(st:Nat->σ)(p:Nat->Bool){fin bad:ε}
  (hs:∀i,i<n->(∀j,j<i->p j=true)->p i=true->step (st i)=some (.inl (st (i+1))))
  (hb:∀i,i<n->(∀j,j<i->p j=true)->p i=false->step (st i)=some (.inr bad))
  (he:(∀j,j<n->p j=true)->step (st n)=some (.inr fin)):iter step (st 0)=some (bif (List.range n).all p then fin else bad):=by
 have key:∀k,k<=n->(∀j,j<n-k->p j=true)->iter step (st (n-k))=some (bif (List.range n).all p then fin else bad):=by
  intro k;induction k with
  | zero=>
   intro _ h;rw[Nat.sub_zero] at h ⊢;rw[qaV (he h),show(List.range n).all p=true from zm.2 fun x hx=>h x (zK.1 hx)]; rfl
  | succ k ih=>
   intro hk h;cases hp:p (n-(k+1)) with
   | true=>
    have:=hs (n-(k+1)) (by omega) h hp
    rw[show n-(k+1)+1=n-k by omega] at this
    rw[qbp this];refine ih (by omega) fun j hj=>?_
    by_cases e:j=n-(k+1)
    ·rw[e]; exact hp
    ·exact h j (by omega)
   | false=>
    rw[qaV (hb _ (by omega) h hp),show(List.range n).all p=false from List.all_eq_false.2 ⟨n-(k+1),zK.2 (by omega),by simp[hp]⟩]; rfl
 have:=key n (z61 n) (fun j hj=>by omega)
 rwa[Nat.sub_self] at this
theorem qoN{n:Nat}{p:Nat->Bool}:(List.range n).all p=true↔∀i,i<n->p i=true:=by
 simp[zm,zK]
/-! ### Elements -/
theorem gD_eq{A:Type}{l:List A}{k:Nat}{d:A}(h:k<l.length):l.getD k d=l[k]:=by
 rw[zh,zk h]; rfl
theorem qtp{A:Type}{l:List A}{k:Nat}{d:A}(h:l.length<=k):l.getD k d=d:=by
 rw[zh,zl1 h]; rfl
theorem qhv{A:Type}(l:List A)(j k:Nat)(v d:A):(l.set j v).getD k d=if j=k/\j<l.length then v else l.getD k d:=by
 rw[zh,zh,List.getElem?_set]
 by_cases h:j=k
 ·subst h;by_cases h2:j<l.length
  ·simp[h2]
  ·simp[h2]
 ·simp[h]
theorem qxK{A:Type}(X Y:List A)(k:Nat)(d:A):(X++Y).getD k d=if k<X.length then X.getD k d else Y.getD (k-X.length) d:=by
 rw[zh,zh,zh,List.getElem?_append]
 split <;> rfl
theorem qAe{A:Type}(X:List A)(n k:Nat)(d:A):(X.take n).getD k d=if k<n then X.getD k d else d:=by
 rw[zh,zh,zp];split <;> rfl
theorem qDE{A:Type}(X:List A)(n k:Nat)(d:A):(X.drop n).getD k d=X.getD (n+k) d:=by
 rw[zh,zh,zB]
theorem qlC{A B:Type}(f:A->B)(X:List A)(k:Nat)(d:A)(d':B)(h:k<X.length):(X.map f).getD k d'=f (X.getD k d):=by
 rw[gD_eq (by simpa using h),gD_eq h]; simp
theorem qBP(f:Nat->Int)(n k:Nat)(h:k<n):((List.range n).map f).getD k 0=f k:=by
 rw[gD_eq (by simpa using h)]; simp
theorem qbe{A:Type}{l:List A}{k:Nat}{d:A}(h:k<l.length):l.getD k d∈l:=by
 rw[gD_eq h]; exact zY2 h
theorem qvI{A:Type}{S:List A}{x:A}(d:A)(h:x∈S):∃k,k<S.length/\S.getD k d=x:=by
 obtain⟨k,hk,rfl⟩:=List.mem_iff_getElem.1 h;exact⟨k,hk,gD_eq hk⟩
theorem qC2{A:Type}{X Y:List A}(d:A)(h:X.length=Y.length)(hk:∀k,k<X.length->X.getD k d=Y.getD k d):X=Y:=by
 refine List.ext_getElem h fun k h1 h2=>?_
 have:=hk k h1;rwa[gD_eq h1,gD_eq h2] at this
theorem qer{A:Type}{l:List A}{i:Nat}(d:A)(h:i<l.length):l.take (i+1)=l.take i++[l.getD i d]:=by
 rw[gD_eq h,zq2 h]
def mix{A:Type}(X Y:List A)(i:Nat):List A:=X.take i++Y.drop i
theorem mix_0{A:Type}(X Y:List A):mix X Y 0=Y:=by simp[mix]
theorem mix_n{A:Type}{X Y:List A}{n:Nat}(h1:X.length=n)(h2:Y.length=n):mix X Y n=X:=by
 unfold mix; rw[zz (by omega),zZ (by omega),zM]
theorem qpW{A:Type}{X Y:List A}{i n:Nat}(h1:X.length=n)(h2:Y.length=n):(mix X Y i).length=n:=by
 unfold mix; simp only[zd,zn,z01]; omega
theorem qxL{A:Type}{X Y:List A}{i n:Nat}(h1:X.length=n)(h2:Y.length=n)(k:Nat)(d:A):(mix X Y i).getD k d=if k<i then X.getD k d else Y.getD k d:=by
 unfold mix;rw[qxK,qAe,qDE,zn];by_cases h:k<i
 ·by_cases h3:k<n
  ·rw[if_pos (by omega)]; simp only[h,if_true]
  ·rw[if_neg (by omega),if_pos h,qtp (by omega),qtp (by omega)]
 ·rw[if_neg (by omega),if_neg h]
  by_cases h3:k<n
  ·congr 1; omega
  ·rw[qtp (by omega),qtp (by omega)]
theorem qAf{A:Type}{X Y:List A}{i n:Nat}(h1:X.length=n)(h2:Y.length=n)(d:A)(h:i<n){v:A}(hv:v=X.getD i d):(mix X Y i).set i v=mix X Y (i+1):=by
 refine qC2 d (by rw[zQ,qpW h1 h2,qpW h1 h2]) fun k _=>?_
 rw[qhv,qxL h1 h2,qxL h1 h2,qpW h1 h2];by_cases e:i=k
 ·subst e; rw[if_pos ⟨rfl,h⟩,if_pos (by omega),hv]
 ·rw[if_neg (fun hh=>e hh.1)]
  by_cases h3:k<i
  ·rw[if_pos h3,if_pos (by omega)]
  ·rw[if_neg h3,if_neg (by omega)]
/-! ### Sums -/
/-! ### Guards -/
theorem gd_tt{A:Type}(x:Option A):gd true x=x:=rfl
theorem inB_t{i:Nat}{n:Nat}(h:i<n):inB (i:Int) n=true:=qae.2 ⟨by omega,by omega⟩
theorem dec_t{p:Prop}[Decidable p](h:p):decide p=true:=z21 h
theorem dec_f{p:Prop}[Decidable p](h:¬p):decide p=false:=zw2 h
theorem qaw{n b:Nat}(h:n*b<=140737488355328):fits n b=true:=zw1 h
theorem qhg{b n:Nat}(h:n*b<=281474976710656):makeG b (n:Int)=true:=by
 unfold makeG;have:((n*b:Nat):Int)<=281474976710656:=by omega
 simp only[z8,zj];rw[Int.natCast_mul] at this;exact⟨by omega,by rw[Int.mul_comm]; exact this⟩
theorem inR_t{a b n:Nat}(h:a<=b)(h2:b<=n):inR (a:Int) (b:Int) n=true:=by
 unfold inR;simp only[z8,zj];omega
/-! ### Walks through maps, computed -/
inductive LeL {A:Type}:List (Option A)->List (Option A)->Prop
 | nil:LeL [] []
 | cons {a b:Option A} {l l':List (Option A)}:LeO a b->LeL l l'->LeL (a::l) (b::l')
theorem LeL.refl{A:Type}:∀(l:List (Option A)),LeL l l
 | []=>.nil
 | a::l=>.cons (LeO.refl a) (LeL.refl l)
theorem LeL.one{A:Type}{a b:Option A}(h:LeO a b):LeL [a] [b]:=.cons h .nil
theorem LeL.map{A B:Type}{f g:B->Option A}(h:∀i,LeO (f i) (g i)):∀ {l:List B},LeL (l.map f) (l.map g)
 | []=>.nil
 | _::_=>.cons (h _) (LeL.map h)
theorem LeL.bif{A:Type}{c:Bool}{x y x' y':List (Option A)}(h:LeL x x')(h':LeL y y'):LeL (bif c then x else y) (bif c then x' else y'):=by
 cases c
 ·exact h'
 ·exact h
theorem LeL.eq{A:Type}{l l':List (Option A)}(h:LeL l l')(hs:∀o∈l,∃r,o=some r):l'=l:=by
 induction h with
 | nil=>rfl
 | @cons a b l l' h _ ih=>
  obtain⟨r,rfl⟩:=hs a (by simp)
  rw[ih fun o ho=>hs o (by simp[ho]),h r rfl]
end Go.Sq
