/- The centre: steps and entries carried out. No condition. -/
import Derived.Test.YtfdgemafaphpaaaGreatCn2
import Derived.Test.YtfdgemafaphpaaaGreatAc3
namespace Go.Proofs.YtfdgemafaphpaaaGreat
open Go Go.Sq
set_option linter.unusedVariables false
noncomputable def cmdS(n:Net)(d:Dk)(r:Rec):Dk×Int:=if 0<r.2.1.length\/noE r.2.2.2=false then(d,28) else appS n d r.2.2.1
noncomputable def postS(a:List Acc4)(r:Rec):List Acc4×Int:=if 0<r.2.1.length\/noB r.2.2.1=false then(a,28) else Ac.postF a r.2.2.2
theorem qyi(n:Net)(r:Rec)(c:Int){d:Dk}(h:DkS d)(c6:List Tel)(c7:List Acc4):qgg n r c d.1 d.2.1 d.2.2.1 d.2.2.2 c6 c7=some ((cmdS n d r).2,c,(cmdS n d r).1.1,(cmdS n d r).1.2.1,(cmdS n d r).1.2.2.1,(cmdS n d r).1.2.2.2,c6,c7):=by
 unfold qgg cmdS;by_cases h5:0<r.2.1.length
 ·rw[dec_t (show(0:Int)<(r.2.1.length:Int) by omega),if_pos (.inl h5)]; rfl
 rw[dec_f (show ¬(0:Int)<(r.2.1.length:Int) by omega)]
 cases he:noE r.2.2.2 with
 | false=>
  rw[if_pos (.inr rfl)];unfold noE at he;rw[he]; rfl
 | true=>
 rw[if_neg (by simp[h5])]
 unfold noE at he;rw[he];simp only[za,ze,z7];rw[qaR,show((d.1,d.2.1,d.2.2.1,d.2.2.2):Dk)=d from rfl,show((r.2.2.1.1,r.2.2.1.2.1,r.2.2.1.2.2.1,r.2.2.1.2.2.2.1,r.2.2.1.2.2.2.2.1,r.2.2.1.2.2.2.2.2.1,r.2.2.1.2.2.2.2.2.2):Stp)=r.2.2.1 from rfl,qBO h,z7]
theorem post_eq'(n:Net)(r:Rec)(c:Int)(c2:List Vl)(c3 c4:List Int)(c5:List Bool)(c6:List Tel){a:List Acc4}(h:a.length<=10000):qj5 n r c c2 c3 c4 c5 c6 a=some ((postS a r).2,c,c2,c3,c4,c5,c6,(postS a r).1):=by
 unfold qj5 postS;rw[show((r.2.2.1.1,r.2.2.1.2.1,r.2.2.1.2.2.1,r.2.2.1.2.2.2.1,r.2.2.1.2.2.2.2.1,r.2.2.1.2.2.2.2.2.1,r.2.2.1.2.2.2.2.2.2):Stp)=r.2.2.1 from rfl,qva,z7]
 by_cases h5:0<r.2.1.length
 ·rw[dec_t (show(0:Int)<(r.2.1.length:Int) by omega),if_pos (.inl h5)]; rfl
 rw[dec_f (show ¬(0:Int)<(r.2.1.length:Int) by omega)]
 cases hb:noB r.2.2.1 with
 | false=>rw[if_pos (.inr rfl)]; rfl
 | true=>
 rw[if_neg (by simp[h5])]
 simp only[za,ze,z7];rw[show((r.2.2.2.1,r.2.2.2.2.1,r.2.2.2.2.2):Ent3)=r.2.2.2 from rfl,(Ac.post_eq (by omega)).1]; rfl
noncomputable def capp2(n:Net)(c:Cn)(r:Rec):Cn×Int:=if c.2.2.2=1000 then(c,4) else if(cmdS n c.1 r).2=0 then(((cmdS n c.1 r).1,c.2.1,c.2.2.1,c.2.2.2+1),0) else(c,(cmdS n c.1 r).2)
noncomputable def capp3(c:Cn)(r:Rec):Cn×Int:=if c.2.2.2=1000 then(c,4) else if(postS c.2.2.1 r).2=0 then((c.1,c.2.1,(postS c.2.2.1 r).1,c.2.2.2+1),0) else(c,(postS c.2.2.1 r).2)
noncomputable def capp(n:Net)(c:Cn)(r:Rec):Cn×Int:=if r.1=1 then capp1 c r else if r.1=2 then capp2 n c r else if r.1=3 then capp3 c r else(c,if c.2.2.2=1000 then 4 else 28)
theorem apply_eq'(n:Net){c:Cn}(h:CnS c)(hs:SortT c.2.1)(hk:0<=c.2.2.2/\c.2.2.2<=100000)(r:Rec)(hv:r.2.1.length<=100000):qe8 n c r=some (capp n c r):=by
 unfold capp;by_cases k1:r.1=1
 ·rw[if_pos k1]; exact qAa n h hs hk k1 hv
 rw[if_neg k1];unfold qe8;rw[show(((c.1.1,c.1.2.1,c.1.2.2.1,c.1.2.2.2),c.2.1,c.2.2.1,c.2.2.2):Cn)=c from rfl,qxw h,z7,mg_eq,if_neg k1]
 rw[show((r.1,r.2.1,(r.2.2.1.1,r.2.2.1.2.1,r.2.2.1.2.2.1,r.2.2.1.2.2.2.1,r.2.2.1.2.2.2.2.1,r.2.2.1.2.2.2.2.2.1,r.2.2.1.2.2.2.2.2.2),r.2.2.2.1,r.2.2.2.2.1,r.2.2.2.2.2):Rec)=r from rfl,qaR]
 by_cases k2:r.1=2
 ·rw[if_pos k2,if_pos k2];unfold capp2;by_cases h1:c.2.2.2=1000
  ·rw[dec_t h1,if_pos h1]; rfl
  rw[dec_f h1,if_neg h1];simp only[zV2,ze,za,zw2,z7,show decide ((2:Nat)=1)=false from rfl,show decide ((2:Nat)=2)=true from rfl,zb]
  rw[qyi n r _ h.d,z7];by_cases h0:(cmdS n c.1 r).2=0
  ·rw[dec_t h0,if_pos h0,ze,za];simp only;rw[wi (by omega)]; rfl
  ·rw[dec_f h0,if_neg h0]; rfl
 rw[if_neg k2,if_neg k2];by_cases k3:r.1=3
 ·rw[if_pos k3,if_pos k3];unfold capp3;by_cases h1:c.2.2.2=1000
  ·rw[dec_t h1,if_pos h1]; rfl
  rw[dec_f h1,if_neg h1];simp only[zV2,ze,za,zw2,z7,show decide ((3:Nat)=1)=false from rfl,show decide ((3:Nat)=2)=false from rfl,show decide ((3:Nat)=3)=true from rfl,zb]
  rw[post_eq' n r _ _ _ _ _ _ h.a,z7];by_cases h0:(postS c.2.2.1 r).2=0
  ·rw[dec_t h0,if_pos h0,ze,za];simp only;rw[wi (by omega)]; rfl
  ·rw[dec_f h0,if_neg h0]; rfl
 rw[if_neg k3,if_neg k3];by_cases h1:c.2.2.2=1000
 ·rw[dec_t h1,if_pos h1]; rfl
 ·rw[dec_f h1,if_neg h1]; rfl
/-! ### The idle desk of the document -/
theorem qBV{n:Net}{t:Int}(h0:qcc n=0)(hp:n.2.1.length+n.2.2.1.length<=1000/\n.2.2.2.1.length<=1000)(ht:1<=t/\t<=60):
  qlS n t=some ((List.replicate (n.2.1.length+n.2.2.1.length) (t,0,false,false),List.replicate n.2.1.length 0,List.replicate n.2.2.1.length 0,List.replicate n.2.2.2.1.length false),0):=by
 unfold qlS;rw[qaR,qka,z7,dec_t h0,ze,za,dec_f (show ¬t<1 by omega),dec_f (show ¬60<t by omega)]
 simp only[za,z7];rw[gd_t (qfe (by omega)),gd_t (qfe (by omega)),gd_t (qfe (by omega))]
 simp only[z8];generalize List.replicate n.2.1.length (0:Int)=A;generalize List.replicate n.2.2.1.length (0:Int)=B;generalize List.replicate n.2.2.2.1.length false=C;have k1:=qaG (step:=fun x:Int×List Vl×List Int×List Int×List Bool=>qgY n t x.1 x.2.1 x.2.2.1 x.2.2.2.1 x.2.2.2.2) (n.2.1.length+n.2.2.1.length)
  (fun i=>((i:Int),List.replicate i (t,0,false,false),A,B,C)) (e:=(List.replicate (n.2.1.length+n.2.2.1.length) (t,0,false,false),A,B,C)) (fun i hi=>by
   unfold qgY qdN;simp only[z7];rw[wi (by omega),dec_t (by omega),zb,gd_t (qaj (by rw[z52]; omega)),w1 hi (by omega),List.replicate_succ' (n:=i)]) (by
   unfold qgY qdN;simp only[z7];rw[wi (by omega),dec_f (by omega),za])
 refine(congrArg (fun o=>Option.bind o _) k1).trans ?_
 rfl
end Go.Proofs.YtfdgemafaphpaaaGreat
