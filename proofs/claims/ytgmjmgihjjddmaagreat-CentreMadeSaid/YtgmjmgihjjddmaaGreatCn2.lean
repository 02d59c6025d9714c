/- The centre: states; a record of a telegram carried out. No condition. -/
import Derived.Test.YtgmjmgihjjddmaaGreatCn1
import Derived.Test.YtgmjmgihjjddmaaGreatNk5
namespace Go.Proofs.YtgmjmgihjjddmaaGreat
open Go Go.Sq
set_option linter.unusedVariables false
abbrev a0:Acc4:=([],(0,(0,(0,0))))
structure CnS(c:Cn):Prop where
 d:DkS c.1
 t:c.2.1.length<=10000
 tv:∀x∈c.2.1,x.2.2.2.2.2.length<=100000
 a:c.2.2.1.length<=10000
theorem qC3(l:List Tel)(h:l.length<=10000):qaJ l=some l:=by
 unfold qaJ;rw[gd_t (qae (by omega)),zA]
theorem qC4(l:List Acc4)(h:l.length<=10000):qan l=some l:=by
 unfold qan;rw[gd_t (qae (by omega)),zA]
theorem qC5{A:Type}(l:List A)(i:Nat)(d:A):l.set i (l.getD i d)=l:=by
 apply zC1;intro j;rw[List.getElem?_set]
 by_cases h:i=j
 ·subst h;rw[if_pos rfl];split
  ·rename_i hl; rw[zj,zk hl]; rfl
  ·rename_i hl; rw[zr1 (by omega)]
 ·rw[if_neg h]
theorem gmem{A:Type}{l:List A}{i:Nat}{d:A}(h:i<l.length):l.getD i d∈l:=by
 rw[zj,zk h];exact zX2 h
theorem qtN{c:Cn}(h:CnS c):qbU c=some (c.2.2.2,c.1.1,c.1.2.1,c.1.2.2.1,c.1.2.2.2,c.2.1,c.2.2.1):=by
 unfold qbU;rw[show((c.1.1,(c.1.2.1,(c.1.2.2.1,c.1.2.2.2))):Dk)=c.1 from rfl,qy8 h.d,z7,qC3 _ h.t,z7,qC4 _ h.a,z7]
 have k1:=qbe (step:=fun x:Int×List Tel×List Vl×List Int×List Int×List Bool×List Acc4=>qfN c.2.1 x.1 x.2.1 x.2.2.1 x.2.2.2.1 x.2.2.2.2.1 x.2.2.2.2.2.1 x.2.2.2.2.2.2) c.2.1.length
  (fun i=>((i:Int),c.2.1,c.1.1,c.1.2.1,c.1.2.2.1,c.1.2.2.2,c.2.2.1)) (e:=(c.1.1,c.1.2.1,c.1.2.2.1,c.1.2.2.2,c.2.1,c.2.2.1)) (fun i hi=>by
   unfold qfN;simp only[dec_t (show(i:Int)<(c.2.1.length:Int) by omega),z9,gd_t (inB_t hi),z8]
   rw[qzr _ (h.tv _ (gmem (d:=t0) hi)),z7,w1 hi (by have:=h.t; omega)]
   have e:c.2.1.set i (c.2.1.getD i t0)=c.2.1:=qC5 _ _ _;exact congrArg some (congrArg Sum.inl (by rw[show((((c.2.1.getD i (0,(0,(0,(0,(0,[])))))).1,(((c.2.1.getD i (0,(0,(0,(0,(0,[])))))).2).1,((((c.2.1.getD i (0,(0,(0,(0,(0,[])))))).2).2).1,(((((c.2.1.getD i (0,(0,(0,(0,(0,[])))))).2).2).2).1,((((((c.2.1.getD i (0,(0,(0,(0,(0,[])))))).2).2).2).2).1,(((((c.2.1.getD i (0,(0,(0,(0,(0,[])))))).2).2).2).2).2)))))):Tel)=c.2.1.getD i t0 from rfl,e]))) (by
   unfold qfN;simp only[dec_f (show ¬(c.2.1.length:Int)<(c.2.1.length:Int) by omega),za])
 rw[show((((0:Nat):Int),c.2.1,c.1.1,c.1.2.1,c.1.2.2.1,c.1.2.2.2,c.2.2.1):Int×List Tel×List Vl×List Int×List Int×List Bool×List Acc4)=(0,c.2.1,c.1.1,c.1.2.1,c.1.2.2.1,c.1.2.2.2,c.2.2.1) from rfl] at k1
 refine(congrArg (fun o=>Option.bind o _) k1).trans ?_
 rfl
theorem mg_eq(x:Int):mget keyI (mput keyI (mput keyI (mput keyI [] 1 1) 2 2) 3 3) x=if x=1 then some (1:Nat) else if x=2 then some 2 else if x=3 then some 3 else none:=by
 show mget keyI [((1:Int),(1:Nat)),(2,2),(3,3)] x=_;unfold mget keyI;by_cases h1:x=1
 ·subst h1; rfl
 ·by_cases h2:x=2
  ·subst h2; rfl
  ·by_cases h3:x=3
   ·subst h3; rfl
   ·have e:∀y:Int,(keyO (Ty.int IntKind.i64)).eq x y=decide (x=y):=fun y=>rfl
    simp[mget,e,h1,h2,h3]
def capp1(c:Cn)(r:Rec):Cn×Int:=if c.2.2.2=1000 then(c,4) else if(accS c.2.1 r).2=0 then((c.1,(accS c.2.1 r).1,c.2.2.1,c.2.2.2+1),0) else(c,(accS c.2.1 r).2)
theorem qzt(n:Net){c:Cn}(h:CnS c)(hs:SortT c.2.1)(hk:0<=c.2.2.2/\c.2.2.2<=100000){r:Rec}(hr:r.1=1)(hv:r.2.1.length<=100000):qcU n c r=some (capp1 c r):=by
 unfold qcU capp1;have hm:mget keyI (mput keyI (mput keyI (mput keyI [] 1 1) 2 2) 3 3) r.1=some (1:Nat):=by rw[mg_eq,if_pos hr]
 rw[hm,show(((c.1.1,(c.1.2.1,(c.1.2.2.1,c.1.2.2.2))),(c.2.1,(c.2.2.1,c.2.2.2))):Cn)=c from rfl,qtN h,z7]
 by_cases h1:c.2.2.2=1000
 ·rw[dec_t h1,if_pos h1]; rfl
 rw[dec_f h1,if_neg h1];simp only[zQ2,zd,za,zk2,zU1,z9];rw[show((r.1,(r.2.1,((r.2.2.1.1,(r.2.2.1.2.1,(r.2.2.1.2.2.1,(r.2.2.1.2.2.2.1,(r.2.2.1.2.2.2.2.1,(r.2.2.1.2.2.2.2.2.1,r.2.2.1.2.2.2.2.2.2)))))),(r.2.2.2.1,(r.2.2.2.2.1,r.2.2.2.2.2))))):Rec)=r from rfl,qaL,z7,qzs hs h.t _ _ _ _ _ _ _ _ hv,z7,z7]
 by_cases h0:(accS c.2.1 r).2=0
 ·rw[dec_t h0,if_pos h0,zd,za];simp only;rw[wi (by omega)]
 ·rw[dec_f h0,if_neg h0]; rfl
/-! ### States are compared -/
theorem qzu(t:Tel)(h:t.2.2.2.2.2.length<=100000):qbT t t=some true:=by
 unfold qbT;rw[dec_t rfl,dec_t rfl,dec_t rfl,dec_t rfl,dec_t rfl,sameI _ h]; rfl
theorem sameA(a:List Acc4)(h:a.length<=100000):qmo a a=some true:=by
 unfold qmo;rw[dec_t rfl];have:=qa2 (step:=fun x=>qfj a a x) a.length (fun i=>(i:Int)) (fun _=>true) (fin:=.inl ()) (bad:=.inr false) (fun i hi _ hq=>?_) (fun i hi _ hq=>by cases hq) (fun _=>?_)
 ·have e:(List.range a.length).all (fun _=>true)=true:=by simp
  rw[e] at this;have this:iter (fun x=>qfj a a x) 0=some (.inl ()):=this
  rw[this]; rfl
 ·unfold qfj;rw[dec_t (show(i:Int)<(a.length:Int) by omega),z9,gd_t (inB_t hi),gd_t (inB_t hi),dec_t rfl,dec_t rfl,dec_t rfl,dec_t rfl,dec_t rfl,w1 hi (by omega)]; rfl
 ·unfold qfj;rw[dec_f (by omega)]; rfl
theorem sameC{c:Cn}(h:CnS c):qeT c c=some true:=by
 unfold qeT;rw[dec_t rfl,show((c.1.1,(c.1.2.1,(c.1.2.2.1,c.1.2.2.2))):Dk)=c.1 from rfl,sameD h.d,z7,sameA _ (by have:=h.a; omega),z7,dec_t rfl]
 have:=qa2 (step:=fun x=>qfk c c x) c.2.1.length (fun i=>(i:Int)) (fun _=>true) (fin:=.inl ()) (bad:=.inr false) (fun i hi _ hq=>?_) (fun i hi _ hq=>by cases hq) (fun _=>?_)
 ·have e:(List.range c.2.1.length).all (fun _=>true)=true:=by simp
  rw[e] at this;have this:iter (fun x=>qfk c c x) 0=some (.inl ()):=this
  simp only[zd,za,z7];rw[this]; rfl
 ·unfold qfk;have ht:=h.t;rw[dec_t (show(i:Int)<(c.2.1.length:Int) by omega),z9,gd_t (inB_t hi),gd_t (inB_t hi),z8,show((c.2.1.getD i (0,(0,(0,(0,(0,[])))))):Tel)=c.2.1.getD i t0 from rfl,qzu _ (h.tv _ (gmem hi)),w1 hi (by omega)]; rfl
 ·unfold qfk;rw[dec_f (by omega)]; rfl
/-! ### What is stored -/
/-! ### The state without records -/
end Go.Proofs.YtgmjmgihjjddmaaGreat
