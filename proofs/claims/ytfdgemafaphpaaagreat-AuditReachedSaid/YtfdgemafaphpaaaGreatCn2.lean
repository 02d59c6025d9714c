/- The centre: states; a record of a telegram carried out. No condition. -/
import Derived.Test.YtfdgemafaphpaaaGreatCn1
import Derived.Test.YtfdgemafaphpaaaGreatNk5
namespace Go.Proofs.YtfdgemafaphpaaaGreat
open Go Go.Sq
set_option linter.unusedVariables false
abbrev a0:Acc4:=([],0,0,0,0)
structure CnS(c:Cn):Prop where
 d:DkS c.1
 t:c.2.1.length<=10000
 tv:∀x∈c.2.1,x.2.2.2.2.2.length<=100000
 a:c.2.2.1.length<=10000
theorem qEl(l:List Tel)(h:l.length<=10000):qaK l=some l:=by
 unfold qaK;rw[gd_t (qaj (by omega)),zD]
theorem qEm(l:List Acc4)(h:l.length<=10000):qal l=some l:=by
 unfold qal;rw[gd_t (qaj (by omega)),zD]
theorem qEn{A:Type}(l:List A)(i:Nat)(d:A):l.set i (l.getD i d)=l:=by
 apply zK1;intro j;rw[List.getElem?_set]
 by_cases h:i=j
 ·subst h;rw[if_pos rfl];split
  ·rename_i hl; rw[zh,zi hl]; rfl
  ·rename_i hl; rw[zv1 (by omega)]
 ·rw[if_neg h]
theorem gmem{A:Type}{l:List A}{i:Nat}{d:A}(h:i<l.length):l.getD i d∈l:=by
 rw[zh,zi h];exact zL2 h
theorem qxw{c:Cn}(h:CnS c):qc2 c=some (c.2.2.2,c.1.1,c.1.2.1,c.1.2.2.1,c.1.2.2.2,c.2.1,c.2.2.1):=by
 unfold qc2;rw[show((c.1.1,c.1.2.1,c.1.2.2.1,c.1.2.2.2):Dk)=c.1 from rfl,qzV h.d,z7,qEl _ h.t,z7,qEm _ h.a,z7]
 have k1:=qaG (step:=fun x:Int×List Tel×List Vl×List Int×List Int×List Bool×List Acc4=>qgf c.2.1 x.1 x.2.1 x.2.2.1 x.2.2.2.1 x.2.2.2.2.1 x.2.2.2.2.2.1 x.2.2.2.2.2.2) c.2.1.length
  (fun i=>((i:Int),c.2.1,c.1.1,c.1.2.1,c.1.2.2.1,c.1.2.2.2,c.2.2.1)) (e:=(c.1.1,c.1.2.1,c.1.2.2.1,c.1.2.2.2,c.2.1,c.2.2.1)) (fun i hi=>by
   unfold qgf;simp only[dec_t (show(i:Int)<(c.2.1.length:Int) by omega),zb,gd_t (inB_t hi),z8]
   rw[qCA _ (h.tv _ (gmem (d:=t0) hi)),z7,w1 hi (by have:=h.t; omega)]
   have e:c.2.1.set i (c.2.1.getD i t0)=c.2.1:=qEn _ _ _;exact congrArg some (congrArg Sum.inl (by rw[show((((c.2.1.getD i (0,(0,(0,(0,(0,[])))))).1,(((c.2.1.getD i (0,(0,(0,(0,(0,[])))))).2).1,((((c.2.1.getD i (0,(0,(0,(0,(0,[])))))).2).2).1,(((((c.2.1.getD i (0,(0,(0,(0,(0,[])))))).2).2).2).1,((((((c.2.1.getD i (0,(0,(0,(0,(0,[])))))).2).2).2).2).1,(((((c.2.1.getD i (0,(0,(0,(0,(0,[])))))).2).2).2).2).2)))))):Tel)=c.2.1.getD i t0 from rfl,e]))) (by
   unfold qgf;simp only[dec_f (show ¬(c.2.1.length:Int)<(c.2.1.length:Int) by omega),za])
 rw[show((((0:Nat):Int),c.2.1,c.1.1,c.1.2.1,c.1.2.2.1,c.1.2.2.2,c.2.2.1):Int×List Tel×List Vl×List Int×List Int×List Bool×List Acc4)=(0,c.2.1,c.1.1,c.1.2.1,c.1.2.2.1,c.1.2.2.2,c.2.2.1) from rfl] at k1
 refine(congrArg (fun o=>Option.bind o _) k1).trans ?_
 rfl
theorem mg_eq(x:Int):mget keyI (mput keyI (mput keyI (mput keyI [] 1 1) 2 2) 3 3) x=if x=1 then some (1:Nat) else if x=2 then some 2 else if x=3 then some 3 else none:=by
 show mget keyI [((1:Int),(1:Nat)),(2,2),(3,3)] x=_;unfold mget keyI;by_cases h1:x=1
 ·subst h1; rfl
 ·by_cases h2:x=2
  ·subst h2; rfl
  ·by_cases h3:x=3
   ·subst h3; rfl
   ·have e:∀y:Int,(keyO (Ty.int IntKind.i64)).eq x y=decide (x=y):=fun y=>rfl
    simp[mget,e,h1,h2,h3]
def capp1(c:Cn)(r:Rec):Cn×Int:=if c.2.2.2=1000 then(c,4) else if(accS c.2.1 r).2=0 then((c.1,(accS c.2.1 r).1,c.2.2.1,c.2.2.2+1),0) else(c,(accS c.2.1 r).2)
theorem qAa(n:Net){c:Cn}(h:CnS c)(hs:SortT c.2.1)(hk:0<=c.2.2.2/\c.2.2.2<=100000){r:Rec}(hr:r.1=1)(hv:r.2.1.length<=100000):qe8 n c r=some (capp1 c r):=by
 unfold qe8 capp1;have hm:mget keyI (mput keyI (mput keyI (mput keyI [] 1 1) 2 2) 3 3) r.1=some (1:Nat):=by rw[mg_eq,if_pos hr]
 rw[hm,show(((c.1.1,c.1.2.1,c.1.2.2.1,c.1.2.2.2),c.2.1,c.2.2.1,c.2.2.2):Cn)=c from rfl,qxw h,z7]
 by_cases h1:c.2.2.2=1000
 ·rw[dec_t h1,if_pos h1]; rfl
 rw[dec_f h1,if_neg h1];simp only[zV2,ze,za,zw2,ze1,zb];rw[show((r.1,r.2.1,(r.2.2.1.1,r.2.2.1.2.1,r.2.2.1.2.2.1,r.2.2.1.2.2.2.1,r.2.2.1.2.2.2.2.1,r.2.2.1.2.2.2.2.2.1,r.2.2.1.2.2.2.2.2.2),r.2.2.2.1,r.2.2.2.2.1,r.2.2.2.2.2):Rec)=r from rfl,qaR,z7,qz9 hs h.t _ _ _ _ _ _ _ _ hv,z7,z7]
 by_cases h0:(accS c.2.1 r).2=0
 ·rw[dec_t h0,if_pos h0,ze,za];simp only;rw[wi (by omega)]
 ·rw[dec_f h0,if_neg h0]; rfl
/-! ### States are compared -/
theorem qDr{n:Net}{t:Int}(h0:qcc n=0)(hp:1<=n.2.1.length+n.2.2.1.length)(ht:1<=t/\t<=60):qfR n t=some (((List.replicate (n.2.1.length+n.2.2.1.length) (t,0,false,false),List.replicate n.2.1.length 0,List.replicate n.2.2.1.length 0,List.replicate n.2.2.2.1.length false),[],[],0),0):=by
 unfold qfR;rw[qaR,qDo n t (fun _=>hp),z7]
 unfold idleS;rw[if_neg (fun h=>h h0),rg_t ht]; rfl
end Go.Proofs.YtfdgemafaphpaaaGreat
