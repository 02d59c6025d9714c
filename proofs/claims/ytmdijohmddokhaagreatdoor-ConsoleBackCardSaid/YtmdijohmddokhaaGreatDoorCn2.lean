/- The centre: telegrams, and the last one of each station. No condition. -/
import Derived.Test.YtmdijohmddokhaaGreatDoorSa0
import Derived.Test.YtmdijohmddokhaaGreatDoorNk5
namespace Go.Proofs.YtmdijohmddokhaaGreatDoor
open Go Go.Sq
set_option linter.unusedVariables false
abbrev Tel:=Int×Int×Int×Int×Int×List Int
abbrev t0:Tel:=(0,0,0,0,0,[])
def rv(v:Int):Bool:=rg (-9007199254740992) 9007199254740992 v
def qll(t:Tel):Bool:=(rg 0 255 t.1&&(rg 0 255 t.2.1&&(rg 0 2147483648 t.2.2.1&&(rg 0 1099511627776 t.2.2.2.1&&rg 0 63 t.2.2.2.2.1))))&&(decide (t.2.2.2.2.2.length<=16)&&t.2.2.2.2.2.all rv)
theorem tv1(n m:Int):qbw n m=some (rg 0 m n):=by
 unfold qbw rg;cases decide (0<=n) <;> rfl
theorem tv2(v:Int):qbx v=some (!rv v):=by
 unfold qbx rv rg;by_cases h:v < -9007199254740992
 ·rw[dec_t h,dec_f (show ¬ -9007199254740992<=v by omega)]; rfl
 ·rw[dec_f h,dec_t (show -9007199254740992<=v by omega),zb,zE]
  congr 1;by_cases h2:9007199254740992<v
  ·rw[dec_t h2,dec_f (by omega)]; rfl
  ·rw[dec_f h2,dec_t (by omega)]; rfl
theorem qD5{A:Type}(l:List A)(p:A->Bool):(l.any fun x=>!p x)=!l.all p:=by
 induction l with
 | nil=>rfl
 | cons x r ih=>simp only[List.any_cons,z11,ih,Bool.not_and]
theorem qAP(t:Tel):qgv t=some (qll t):=by
 unfold qgv;simp only[tv1,z7];have hv:t.2.2.2.2.2.length<=16->qaE t.2.2.2.2.2 (fun h=>(qbx h.1).bind fun y=>some y)=some (!t.2.2.2.2.2.all rv):=fun h=>by
  rw[qom _ (fun v=>!rv v) _ (fun x _=>by rw[show(qbx (x,()).1)=some (!rv x) from tv2 x]; rfl) (by omega),qD5]
 unfold qll;cases rg 0 255 t.1 with
 | false=>rfl
 | true=>
 cases rg 0 255 t.2.1 with
 | false=>rfl
 | true=>
 cases rg 0 2147483648 t.2.2.1 with
 | false=>rfl
 | true=>
 cases rg 0 1099511627776 t.2.2.2.1 with
 | false=>rfl
 | true=>
 cases rg 0 63 t.2.2.2.2.1 with
 | false=>rfl
 | true=>
 simp only[zf,zb,Bool.and_self,zE,z7];by_cases h:t.2.2.2.2.2.length<=16
 ·rw[dec_t (show(t.2.2.2.2.2.length:Int)<=16 by omega),dec_t h,za,hv h,z7,ze2,zE]
 ·rw[dec_f (show ¬(t.2.2.2.2.2.length:Int)<=16 by omega),dec_f h]; rfl
def befT(a b:Tel):Bool:=decide (a.1=b.1)&&(decide (a.2.1<b.2.1) || (decide (a.2.1=b.2.1)&&decide (a.2.2.1<b.2.2.1)))
theorem qvX(a b:Tel):qfP a b=some (befT a b):=by
 unfold qfP befT;cases decide (a.1=b.1) <;> cases decide (a.2.1<b.2.1) <;> cases decide (a.2.1=b.2.1) <;> rfl
theorem qCu{a b:Tel}:befT a b=true↔a.1=b.1/\(a.2.1<b.2.1\/a.2.1=b.2.1/\a.2.2.1<b.2.2.1):=by
 simp[befT]
def SortT(l:List Tel):Prop:=l.Pairwise fun a b=>a.1<b.1
def putT:List Tel->Tel->Option (List Tel)
 | [],t=>some [t]
 | x::r,t=>if x.1<t.1 then(putT r t).map (x::·) else if x.1=t.1 then(if befT x t then some (t::r) else none) else some (t::x::r)
structure LbT(l:List Tel)(s:Int)(k:Nat):Prop where
 le:k<=l.length
 lt:∀j,j<k->(l.getD j t0).1<s
 ge:∀j,k<=j->j<l.length->s<=(l.getD j t0).1
theorem qw6:∀ {l:List Tel} {t:Tel} {k:Nat},LbT l t.1 k->putT l t=if k<l.length/\(l.getD k t0).1=t.1 then(if befT (l.getD k t0) t then some (l.set k t) else none) else some (l.take k++[t]++l.drop k)
 | [],t,k,h=>by
  have:k=0:=by have:=h.le; simpa using this
  subst this; rfl
 | x::r,t,0,h=>by
  have h0:=h.ge 0 (by omega) (by simp)
  have h0:t.1<=x.1:=h0;unfold putT;rw[if_neg (by omega)]
  by_cases he:x.1=t.1
  ·rw[if_pos he,if_pos (show 0<(x::r).length/\((x::r).getD 0 t0).1=t.1 from⟨by simp,he⟩)]; rfl
  ·rw[if_neg he,if_neg (fun h=>he h.2)]; rfl
 | x::r,t,k+1,h=>by
  have h0:x.1<t.1:=h.lt 0 (by omega)
  have hr:LbT r t.1 k:=⟨by have:=h.le; simpa using this,fun j hj=>h.lt (j+1) (by omega),fun j hj hl=>h.ge (j+1) (by omega) (by simpa using hl)⟩
  unfold putT;rw[if_pos h0,qw6 hr];have e1:(x::r).getD (k+1) t0=r.getD k t0:=rfl;rw[e1];by_cases hc:k<r.length/\(r.getD k t0).1=t.1
  ·rw[if_pos hc,if_pos (show k+1<(x::r).length/\(r.getD k t0).1=t.1 from⟨by simpa using hc.1,hc.2⟩)]
   cases befT (r.getD k t0) t <;> rfl
  ·rw[if_neg hc,if_neg (fun h=>hc ⟨by simpa using h.1,h.2⟩)]; rfl
theorem hnat{i j:Nat}(h:i+j<=4611686018427387904):wi64 (Int.fdiv (wu64 (wi64 ((i:Int)+(j:Int)))) (2^shAmt .u64 1))=(((i+j)/2:Nat):Int):=by
 have e0:wi64 ((i:Int)+(j:Int))=(i:Int)+(j:Int):=wi (by omega)
 have e1:wu64 ((i:Int)+(j:Int))=(i:Int)+(j:Int):=by
  show IntKind.u64.wrap _=_;rw[show IntKind.u64.wrap ((i:Int)+(j:Int))=((i:Int)+(j:Int))%18446744073709551616 from rfl]
  omega
 have e2:(2:Int)^shAmt .u64 1=2:=by kernel_rfl
 rw[e0,e1,e2,Int.fdiv_eq_ediv_of_nonneg _ (by omega),wi (by omega)]
 omega
theorem gDp{l:List Tel}(h:SortT l){i j:Nat}(hij:i<j)(hj:j<l.length):(l.getD i t0).1<(l.getD j t0).1:=by
 have:=List.pairwise_iff_getElem.1 h i j (by omega) hj hij
 rw[zh,zh,zk (by omega),zk hj]
 exact this
def cmpT(x y:Int):Int:=if x<y then -1 else if y<x then 1 else 0
theorem qAQ(a:Tel)(s:Int):(qdh a s).bind (fun y=>some y)=some (cmpT a.1 s):=by
 unfold qdh qig qhM cmpT;rw[dec_t rfl,dec_t rfl];simp only[z7,zf,zb];by_cases h1:a.1<s
 ·rw[dec_t h1,if_pos h1]; rfl
 ·rw[dec_f h1,if_neg h1];by_cases h2:s<a.1
  ·rw[dec_t h2,if_pos h2]; rfl
  ·rw[dec_f h2,if_neg h2]; rfl
theorem qD6{l:List Tel}{s:Int}(hs:SortT l)(hn:l.length<=1000000):∃k:Nat,LbT l s k/\qkl l s=some ((k:Int),decide (k<l.length/\(l.getD k t0).1=s)):=by
 have key:∃e,iter (fun x2:Int×Int=>qav l s (fun h=>(qdh h.1 h.2.1).bind fun y=>some y) x2.1 x2.2) (0,(l.length:Int))=some e/\∃k:Nat,e=(k:Int)/\LbT l s k:=by
  refine qq3 (fun x=>∃i j:Nat,x=((i:Int),(j:Int))/\i<=j/\j<=l.length/\(∀q,q<i->(l.getD q t0).1<s)/\(∀q,j<=q->q<l.length->s<=(l.getD q t0).1)) (fun x=>(x.2-x.1).toNat) _ ?_ ⟨0,l.length,rfl,by omega,by omega,by omega,by omega⟩
  rintro _ ⟨i,j,rfl,h1,h2,h3,h4⟩
  unfold qav;simp only;by_cases hij:i<j
  ·right;have hm:(i+j)/2<l.length:=by omega
   simp only[dec_t (show(i:Int)<(j:Int) by omega),za,hnat (i:=i) (j:=j) (by omega),gd_t (inB_t hm),z9]
   rw[show(qdh (l.getD ((i+j)/2) t0) s).bind (fun y=>some y)=_ from qAQ _ _]
   simp only[z7];unfold cmpT;by_cases hc:(l.getD ((i+j)/2) t0).1<s
   ·rw[if_pos hc,dec_t (by omega),wi (by omega)]
    refine⟨_,rfl,⟨(i+j)/2+1,j,rfl,by omega,h2,fun q hq=>?_,h4⟩,by simp only; omega⟩
    by_cases e:q=(i+j)/2
    ·rw[e]; exact hc
    ·have:=gDp hs (i:=q) (j:=(i+j)/2) (by omega) hm
     omega
   ·rw[if_neg hc,dec_f (by split <;> omega)]
    refine⟨_,rfl,⟨i,(i+j)/2,rfl,by omega,by omega,h3,fun q hq hql=>?_⟩,by simp only; omega⟩
    by_cases e:q=(i+j)/2
    ·rw[e]; omega
    ·have:=gDp hs (i:=(i+j)/2) (j:=q) (by omega) hql
     omega
  ·left;obtain rfl:i=j:=by omega
   exact⟨(i:Int),by simp only[dec_f (show ¬(i:Int)<(i:Int) by omega),zb],i,rfl,h2,h3,h4⟩
 obtain⟨_,q,k,rfl,hk⟩:=key;refine⟨k,hk,?_⟩
 unfold qkl qaD;rw[q];simp only[z7];by_cases hkl:k<l.length
 ·rw[dec_t (show(k:Int)<(l.length:Int) by omega),za,gd_t (inB_t hkl),z9,show(qdh (l.getD k t0) s).bind (fun y=>some y)=_ from qAQ _ _]
  simp only[z7];congr 2;have hge:=hk.ge k (z61 _) hkl;unfold cmpT;rw[if_neg (by omega)]
  by_cases he:(l.getD k t0).1=s
  ·rw[if_neg (by omega),dec_t rfl,dec_t ⟨hkl,he⟩]
  ·rw[if_pos (by omega),dec_f (by omega),dec_f (fun h=>he h.2)]
 ·rw[dec_f (show ¬(k:Int)<(l.length:Int) by omega),zb,dec_f (fun h=>hkl h.1)]; rfl
/-! ### A record of a telegram is carried out -/
abbrev Ent3:=List UInt8×Int×Int
abbrev Rec:=Int×List Int×Stp×Ent3
abbrev Acc4:=List UInt8×Int×Int×Int×Int
abbrev Cn:=Dk×List Tel×List Acc4×Int
def noB(s:Stp):Bool:=decide (s.1=0)&&(decide (s.2.1=0)&&(decide (s.2.2.1=0)&&(decide (s.2.2.2.1=0)&&(decide (s.2.2.2.2.1=0)&&(decide (s.2.2.2.2.2.2=0)&&decide (s.2.2.2.2.2.1.length=0))))))
theorem qvY(s:Stp):qfO s=some (noB s):=by
 unfold qfO noB;rw[show decide ((s.2.2.2.2.2.1.length:Int)=0)=decide (s.2.2.2.2.2.1.length=0) by
  by_cases h:s.2.2.2.2.2.1.length=0
  ·rw[dec_t h,dec_t (by omega)]
  ·rw[dec_f h,dec_f (by omega)]]
 cases decide (s.1=0) <;> cases decide (s.2.1=0) <;> cases decide (s.2.2.1=0) <;> cases decide (s.2.2.2.1=0) <;> cases decide (s.2.2.2.2.1=0) <;> cases decide (s.2.2.2.2.2.2=0) <;> rfl
def noE(e:Ent3):Bool:=decide (e.1=[])&&(decide (e.2.1=0)&&decide (e.2.2=0))
def telOf(v:List Int):Tel:=(v.getD 0 0,v.getD 1 0,v.getD 2 0,v.getD 3 0,v.getD 4 0,v.drop 5)
def accS(l:List Tel)(r:Rec):List Tel×Int:=
 if r.2.1.length<5\/noB r.2.2.1=false\/noE r.2.2.2=false\/qll (telOf r.2.1)=false then(l,28)
 else match putT l (telOf r.2.1) with
  | some l'=>(l',0)
  | none=>(l,6)
theorem qDg(l:List Int)(h:l.length<=100000):qcM l=some l:=by
 unfold qcM;rw[gd_t (qaw (by omega)),zC]
theorem qAR{l:List Tel}(hs:SortT l)(hn:l.length<=10000)(n:Net)(r:Rec)(c:Int)(c2:List Vl)(c3 c4:List Int)(c5:List Bool)(c7:List Acc4)(hv:r.2.1.length<=100000):
  qhN n r c c2 c3 c4 c5 l c7=some ((accS l r).2,c,c2,c3,c4,c5,(accS l r).1,c7):=by
 unfold qhN;rw[show((r.2.2.1.1,r.2.2.1.2.1,r.2.2.1.2.2.1,r.2.2.1.2.2.2.1,r.2.2.1.2.2.2.2.1,r.2.2.1.2.2.2.2.2.1,r.2.2.1.2.2.2.2.2.2):Stp)=r.2.2.1 from rfl,qvY,z7]
 unfold accS;by_cases h5:r.2.1.length<5
 ·rw[dec_t (show(r.2.1.length:Int)<5 by omega),if_pos (.inl h5)]; rfl
 rw[dec_f (show ¬(r.2.1.length:Int)<5 by omega)]
 cases hb:noB r.2.2.1 with
 | false=>rw[if_pos (.inr (.inl rfl))]; rfl
 | true=>
 cases he:noE r.2.2.2 with
 | false=>
  rw[if_pos (.inr (.inr (.inl rfl)))];unfold noE at he;rw[he]; rfl
 | true=>
 unfold noE at he;rw[he];simp only[zb,zf,z7];have hB:∀i:Int,0<=i->i<5->inB i r.2.1.length=true:=fun i h1 h2=>qae.2 ⟨by omega,by omega⟩
 rw[gd_t (hB 0 (by omega) (by omega)),gd_t (hB 1 (by omega) (by omega)),gd_t (hB 2 (by omega) (by omega)),gd_t (hB 3 (by omega) (by omega)),gd_t (hB 4 (by omega) (by omega))]
 have hcut:cutG (some (.i64,5)) none r.2.1.length=true:=by simp[cutG,inR, *] <;> omega
 rw[gd_t hcut,qDg _ (by simp; omega),z7,show((r.2.1.getD 0 0,r.2.1.getD 1 0,r.2.1.getD 2 0,r.2.1.getD 3 0,r.2.1.getD 4 0,r.2.1.drop 5):Tel)=telOf r.2.1 from rfl,qAP,z7]
 cases hvt:qll (telOf r.2.1) with
 | false=>rw[if_pos (.inr (.inr (.inr rfl)))]; rfl
 | true=>
 rw[if_neg (by simp[h5])]
 simp only[zf,zb];obtain⟨k,hk,hf⟩:=qD6 (s:=(telOf r.2.1).1) hs (by omega)
 rw[show(r.2.1.getD 0 0)=(telOf r.2.1).1 from rfl,hf,z7,qw6 hk]
 by_cases hc:k<l.length/\(l.getD k t0).1=(telOf r.2.1).1
 ·rw[if_pos hc,dec_t hc,zf,zb,gd_t (inB_t hc.1),z9,show((l.getD k (0,0,0,0,0,[])):Tel)=l.getD k t0 from rfl,qvX,z7]
  cases befT (l.getD k t0) (telOf r.2.1) with
  | false=>rfl
  | true=>simp only[zf,zb,if_true]; rw[gd_t (inB_t hc.1)]
 ·rw[if_neg hc,dec_f hc,zk1,za];unfold insT;have hkl:=hk.le;rw[dec_t (show(0:Int)<=(k:Int) by omega),dec_t (show(k:Int)<=(l.length:Int) by omega),qaw (by omega),z9]; rfl
end Go.Proofs.YtmdijohmddokhaaGreatDoor
namespace Go.Proofs.YtmdijohmddokhaaGreatDoor
open Go Go.Sq
set_option linter.unusedVariables false
abbrev a0:Acc4:=([],0,0,0,0)
structure CnS(c:Cn):Prop where
 d:DkS c.1
 t:c.2.1.length<=10000
 tv:∀x∈c.2.1,x.2.2.2.2.2.length<=100000
 a:c.2.2.1.length<=10000
theorem qEZ(l:List Tel)(h:l.length<=10000):qaH l=some l:=by
 unfold qaH;rw[gd_t (qaw (by omega)),zC]
theorem qE0(l:List Acc4)(h:l.length<=10000):qaj l=some l:=by
 unfold qaj;rw[gd_t (qaw (by omega)),zC]
theorem qE1{A:Type}(l:List A)(i:Nat)(d:A):l.set i (l.getD i d)=l:=by
 apply zC1;intro j;rw[List.getElem?_set]
 by_cases h:i=j
 ·subst h;rw[if_pos rfl];split
  ·rename_i hl; rw[zh,zk hl]; rfl
  ·rename_i hl; rw[zl1 (by omega)]
 ·rw[if_neg h]
theorem gmem{A:Type}{l:List A}{i:Nat}{d:A}(h:i<l.length):l.getD i d∈l:=by
 rw[zh,zk h];exact zY2 h
theorem qx5{c:Cn}(h:CnS c):qdg c=some (c.2.2.2,c.1.1,c.1.2.1,c.1.2.2.1,c.1.2.2.2,c.2.1,c.2.2.1):=by
 unfold qdg;rw[show((c.1.1,c.1.2.1,c.1.2.2.1,c.1.2.2.2):Dk)=c.1 from rfl,qAC h.d,z7,qEZ _ h.t,z7,qE0 _ h.a,z7]
 have k1:=qbj (step:=fun x:Int×List Tel×List Vl×List Int×List Int×List Bool×List Acc4=>qgu c.2.1 x.1 x.2.1 x.2.2.1 x.2.2.2.1 x.2.2.2.2.1 x.2.2.2.2.2.1 x.2.2.2.2.2.2) c.2.1.length
  (fun i=>((i:Int),c.2.1,c.1.1,c.1.2.1,c.1.2.2.1,c.1.2.2.2,c.2.2.1)) (e:=(c.1.1,c.1.2.1,c.1.2.2.1,c.1.2.2.2,c.2.1,c.2.2.1)) (fun i hi=>by
   unfold qgu;simp only[dec_t (show(i:Int)<(c.2.1.length:Int) by omega),za,gd_t (inB_t hi),z9]
   rw[qDg _ (h.tv _ (gmem (d:=t0) hi)),z7,w1 hi (by have:=h.t; omega)]
   have e:c.2.1.set i (c.2.1.getD i t0)=c.2.1:=qE1 _ _ _;exact congrArg some (congrArg Sum.inl (by rw[show((((c.2.1.getD i (0,(0,(0,(0,(0,[])))))).1,(((c.2.1.getD i (0,(0,(0,(0,(0,[])))))).2).1,((((c.2.1.getD i (0,(0,(0,(0,(0,[])))))).2).2).1,(((((c.2.1.getD i (0,(0,(0,(0,(0,[])))))).2).2).2).1,((((((c.2.1.getD i (0,(0,(0,(0,(0,[])))))).2).2).2).2).1,(((((c.2.1.getD i (0,(0,(0,(0,(0,[])))))).2).2).2).2).2)))))):Tel)=c.2.1.getD i t0 from rfl,e]))) (by
   unfold qgu;simp only[dec_f (show ¬(c.2.1.length:Int)<(c.2.1.length:Int) by omega),zb])
 rw[show((((0:Nat):Int),c.2.1,c.1.1,c.1.2.1,c.1.2.2.1,c.1.2.2.2,c.2.2.1):Int×List Tel×List Vl×List Int×List Int×List Bool×List Acc4)=(0,c.2.1,c.1.1,c.1.2.1,c.1.2.2.1,c.1.2.2.2,c.2.2.1) from rfl] at k1
 refine(congrArg (fun o=>Option.bind o _) k1).trans ?_
 rfl
theorem mg_eq(x:Int):mget keyI (mput keyI (mput keyI (mput keyI [] 1 1) 2 2) 3 3) x=if x=1 then some (1:Nat) else if x=2 then some 2 else if x=3 then some 3 else none:=by
 show mget keyI [((1:Int),(1:Nat)),(2,2),(3,3)] x=_;unfold mget keyI;by_cases h1:x=1
 ·subst h1; rfl
 ·by_cases h2:x=2
  ·subst h2; rfl
  ·by_cases h3:x=3
   ·subst h3; rfl
   ·have e:∀y:Int,(keyO (Ty.int IntKind.i64)).eq x y=decide (x=y):=fun y=>rfl
    simp[mget,e,h1,h2,h3]
def capp1(c:Cn)(r:Rec):Cn×Int:=if c.2.2.2=1000 then(c,4) else if(accS c.2.1 r).2=0 then((c.1,(accS c.2.1 r).1,c.2.2.1,c.2.2.2+1),0) else(c,(accS c.2.1 r).2)
theorem qAS(n:Net){c:Cn}(h:CnS c)(hs:SortT c.2.1)(hk:0<=c.2.2.2/\c.2.2.2<=100000){r:Rec}(hr:r.1=1)(hv:r.2.1.length<=100000):qdZ n c r=some (capp1 c r):=by
 unfold qdZ capp1;have hm:mget keyI (mput keyI (mput keyI (mput keyI [] 1 1) 2 2) 3 3) r.1=some (1:Nat):=by rw[mg_eq,if_pos hr]
 rw[hm,show(((c.1.1,c.1.2.1,c.1.2.2.1,c.1.2.2.2),c.2.1,c.2.2.1,c.2.2.2):Cn)=c from rfl,qx5 h,z7]
 by_cases h1:c.2.2.2=1000
 ·rw[dec_t h1,if_pos h1]; rfl
 rw[dec_f h1,if_neg h1];simp only[zQ2,zf,zb,zo2,z82,za];rw[show((r.1,r.2.1,(r.2.2.1.1,r.2.2.1.2.1,r.2.2.1.2.2.1,r.2.2.1.2.2.2.1,r.2.2.1.2.2.2.2.1,r.2.2.1.2.2.2.2.2.1,r.2.2.1.2.2.2.2.2.2),r.2.2.2.1,r.2.2.2.2.1,r.2.2.2.2.2):Rec)=r from rfl,qa9,z7,qAR hs h.t _ _ _ _ _ _ _ _ hv,z7,z7]
 by_cases h0:(accS c.2.1 r).2=0
 ·rw[dec_t h0,if_pos h0,zf,zb];simp only;rw[wi (by omega)]
 ·rw[dec_f h0,if_neg h0]; rfl
/-! ### States are compared -/
theorem qD7(t:Tel)(h:t.2.2.2.2.2.length<=100000):qdK t t=some true:=by
 unfold qdK;rw[dec_t rfl,dec_t rfl,dec_t rfl,dec_t rfl,dec_t rfl,sameI _ h]; rfl
theorem sameA(a:List Acc4)(h:a.length<=100000):qm7 a a=some true:=by
 unfold qm7;rw[dec_t rfl];have:=qa1 (step:=fun x=>qf2 a a x) a.length (fun i=>(i:Int)) (fun _=>true) (fin:=.inl ()) (bad:=.inr false) (fun i hi _ hq=>?_) (fun i hi _ hq=>by cases hq) (fun _=>?_)
 ·have e:(List.range a.length).all (fun _=>true)=true:=by simp
  rw[e] at this;have this:iter (fun x=>qf2 a a x) 0=some (.inl ()):=this
  rw[this]; rfl
 ·unfold qf2;rw[dec_t (show(i:Int)<(a.length:Int) by omega),za,gd_t (inB_t hi),gd_t (inB_t hi),dec_t rfl,dec_t rfl,dec_t rfl,dec_t rfl,dec_t rfl,w1 hi (by omega)]; rfl
 ·unfold qf2;rw[dec_f (by omega)]; rfl
theorem sameC{c:Cn}(h:CnS c):qm8 c c=some true:=by
 unfold qm8;rw[dec_t rfl,show((c.1.1,c.1.2.1,c.1.2.2.1,c.1.2.2.2):Dk)=c.1 from rfl,sameD h.d,z7,sameA _ (by have:=h.a; omega),z7,dec_t rfl]
 have:=qa1 (step:=fun x=>qf3 c c x) c.2.1.length (fun i=>(i:Int)) (fun _=>true) (fin:=.inl ()) (bad:=.inr false) (fun i hi _ hq=>?_) (fun i hi _ hq=>by cases hq) (fun _=>?_)
 ·have e:(List.range c.2.1.length).all (fun _=>true)=true:=by simp
  rw[e] at this;have this:iter (fun x=>qf3 c c x) 0=some (.inl ()):=this
  simp only[zf,zb,z7];rw[this]; rfl
 ·unfold qf3;have ht:=h.t;rw[dec_t (show(i:Int)<(c.2.1.length:Int) by omega),za,gd_t (inB_t hi),gd_t (inB_t hi),z9,show((c.2.1.getD i (0,0,0,0,0,[])):Tel)=c.2.1.getD i t0 from rfl,qD7 _ (h.tv _ (gmem hi)),w1 hi (by omega)]; rfl
 ·unfold qf3;rw[dec_f (by omega)]; rfl
/-! ### What is stored -/
theorem qD8{n:Net}{t:Int}(h0:qbb n=0)(hp:1<=n.2.1.length+n.2.2.1.length)(ht:1<=t/\t<=60):qjE n t=some (((List.replicate (n.2.1.length+n.2.2.1.length) (t,0,false,false),List.replicate n.2.1.length 0,List.replicate n.2.2.1.length 0,List.replicate n.2.2.2.1.length false),[],[],0),0):=by
 unfold qjE;rw[qa9,qD4 n t (fun _=>hp),z7]
 unfold idleS;rw[if_neg (fun h=>h h0),rg_t ht]; rfl
end Go.Proofs.YtmdijohmddokhaaGreatDoor
