/- Lemmas. No condition. -/
import Derived.Test.YtmdijohmddokhaaGreatDoorSa0
namespace Go.Proofs.YtmdijohmddokhaaGreatDoor
open Go Go.Sq
set_option linter.unusedVariables false
abbrev Tel:=Int×Int×Int×Int×Int×List Int
abbrev t0:Tel:=(0,0,0,0,0,[])
def rv(v:Int):Bool:=rg (-9007199254740992) 9007199254740992 v
def qlv(t:Tel):Bool:=(rg 0 255 t.1&&(rg 0 255 t.2.1&&(rg 0 2147483648 t.2.2.1&&(rg 0 1099511627776 t.2.2.2.1&&rg 0 63 t.2.2.2.2.1))))&&(decide (t.2.2.2.2.2.length<=16)&&t.2.2.2.2.2.all rv)
theorem tv1(n m:Int):qby n m=some (rg 0 m n):=by
 unfold qby rg;cases decide (0<=n) <;> rfl
theorem tv2(v:Int):qbz v=some (!rv v):=by
 unfold qbz rv rg;by_cases h:v < -9007199254740992
 ·rw[dec_t h,dec_f (show ¬ -9007199254740992<=v by omega)]; rfl
 ·rw[dec_f h,dec_t (show -9007199254740992<=v by omega),zb,zG]
  congr 1;by_cases h2:9007199254740992<v
  ·rw[dec_t h2,dec_f (by omega)]; rfl
  ·rw[dec_f h2,dec_t (by omega)]; rfl
theorem qEh{A:Type}(l:List A)(p:A->Bool):(l.any fun x=>!p x)=!l.all p:=by
 induction l with
 | nil=>rfl
 | cons x r ih=>simp only[List.any_cons,z31,ih,Bool.not_and]
theorem qAX(t:Tel):qgA t=some (qlv t):=by
 unfold qgA;simp only[tv1,z7];have hv:t.2.2.2.2.2.length<=16->qaE t.2.2.2.2.2 (fun h=>(qbz h.1).bind fun y=>some y)=some (!t.2.2.2.2.2.all rv):=fun h=>by
  rw[qoq _ (fun v=>!rv v) _ (fun x _=>by rw[show(qbz (x,()).1)=some (!rv x) from tv2 x]; rfl) (by omega),qEh]
 unfold qlv;cases rg 0 255 t.1 with
 | false=>rfl
 | true=>
 cases rg 0 255 t.2.1 with
 | false=>rfl
 | true=>
 cases rg 0 2147483648 t.2.2.1 with
 | false=>rfl
 | true=>
 cases rg 0 1099511627776 t.2.2.2.1 with
 | false=>rfl
 | true=>
 cases rg 0 63 t.2.2.2.2.1 with
 | false=>rfl
 | true=>
 simp only[zg,zb,Bool.and_self,zG,z7];by_cases h:t.2.2.2.2.2.length<=16
 ·rw[dec_t (show(t.2.2.2.2.2.length:Int)<=16 by omega),dec_t h,za,hv h,z7,zp2,zG]
 ·rw[dec_f (show ¬(t.2.2.2.2.2.length:Int)<=16 by omega),dec_f h]; rfl
def befT(a b:Tel):Bool:=decide (a.1=b.1)&&(decide (a.2.1<b.2.1) || (decide (a.2.1=b.2.1)&&decide (a.2.2.1<b.2.2.1)))
theorem qvW(a b:Tel):qf0 a b=some (befT a b):=by
 unfold qf0 befT;cases decide (a.1=b.1) <;> cases decide (a.2.1<b.2.1) <;> cases decide (a.2.1=b.2.1) <;> rfl
theorem qCF{a b:Tel}:befT a b=true↔a.1=b.1/\(a.2.1<b.2.1\/a.2.1=b.2.1/\a.2.2.1<b.2.2.1):=by
 simp[befT]
def SortT(l:List Tel):Prop:=l.Pairwise fun a b=>a.1<b.1
def putT:List Tel->Tel->Option (List Tel)
 | [],t=>some [t]
 | x::r,t=>if x.1<t.1 then(putT r t).map (x::·) else if x.1=t.1 then(if befT x t then some (t::r) else none) else some (t::x::r)
structure LbT(l:List Tel)(s:Int)(k:Nat):Prop where
 le:k<=l.length
 lt:∀j,j<k->(l.getD j t0).1<s
 ge:∀j,k<=j->j<l.length->s<=(l.getD j t0).1
theorem qxa:∀ {l:List Tel} {t:Tel} {k:Nat},LbT l t.1 k->putT l t=if k<l.length/\(l.getD k t0).1=t.1 then(if befT (l.getD k t0) t then some (l.set k t) else none) else some (l.take k++[t]++l.drop k)
 | [],t,k,h=>by
  have:k=0:=by have:=h.le; simpa using this
  subst this; rfl
 | x::r,t,0,h=>by
  have h0:=h.ge 0 (by omega) (by simp)
  have h0:t.1<=x.1:=h0;unfold putT;rw[if_neg (by omega)]
  by_cases he:x.1=t.1
  ·rw[if_pos he,if_pos (show 0<(x::r).length/\((x::r).getD 0 t0).1=t.1 from⟨by simp,he⟩)]; rfl
  ·rw[if_neg he,if_neg (fun h=>he h.2)]; rfl
 | x::r,t,k+1,h=>by
  have h0:x.1<t.1:=h.lt 0 (by omega)
  have hr:LbT r t.1 k:=⟨by have:=h.le; simpa using this,fun j hj=>h.lt (j+1) (by omega),fun j hj hl=>h.ge (j+1) (by omega) (by simpa using hl)⟩
  unfold putT;rw[if_pos h0,qxa hr];have e1:(x::r).getD (k+1) t0=r.getD k t0:=rfl;rw[e1];by_cases hc:k<r.length/\(r.getD k t0).1=t.1
  ·rw[if_pos hc,if_pos (show k+1<(x::r).length/\(r.getD k t0).1=t.1 from⟨by simpa using hc.1,hc.2⟩)]
   cases befT (r.getD k t0) t <;> rfl
  ·rw[if_neg hc,if_neg (fun h=>hc ⟨by simpa using h.1,h.2⟩)]; rfl
theorem hnat{i j:Nat}(h:i+j<=4611686018427387904):wi64 (Int.fdiv (wu64 (wi64 ((i:Int)+(j:Int)))) (2^shAmt .u64 1))=(((i+j)/2:Nat):Int):=by
 have e0:wi64 ((i:Int)+(j:Int))=(i:Int)+(j:Int):=wi (by omega)
 have e1:wu64 ((i:Int)+(j:Int))=(i:Int)+(j:Int):=by
  show IntKind.u64.wrap _=_;rw[show IntKind.u64.wrap ((i:Int)+(j:Int))=((i:Int)+(j:Int))%18446744073709551616 from rfl]
  omega
 have e2:(2:Int)^shAmt .u64 1=2:=by kernel_rfl
 rw[e0,e1,e2,Int.fdiv_eq_ediv_of_nonneg _ (by omega),wi (by omega)]
 omega
theorem gDp{l:List Tel}(h:SortT l){i j:Nat}(hij:i<j)(hj:j<l.length):(l.getD i t0).1<(l.getD j t0).1:=by
 have:=zx2.1 h i j (by omega) hj hij
 rw[zh,zh,zl (by omega),zl hj]
 exact this
def cmpT(x y:Int):Int:=if x<y then -1 else if y<x then 1 else 0
theorem qAY(a:Tel)(s:Int):(qdk a s).bind (fun y=>some y)=some (cmpT a.1 s):=by
 unfold qdk qip qhT cmpT;rw[dec_t rfl,dec_t rfl];simp only[z7,zg,zb];by_cases h1:a.1<s
 ·rw[dec_t h1,if_pos h1]; rfl
 ·rw[dec_f h1,if_neg h1];by_cases h2:s<a.1
  ·rw[dec_t h2,if_pos h2]; rfl
  ·rw[dec_f h2,if_neg h2]; rfl
theorem qEi{l:List Tel}{s:Int}(hs:SortT l)(hn:l.length<=1000000):∃k:Nat,LbT l s k/\qkr l s=some ((k:Int),decide (k<l.length/\(l.getD k t0).1=s)):=by
 have key:∃e,iter (fun x2:Int×Int=>qaw l s (fun h=>(qdk h.1 h.2.1).bind fun y=>some y) x2.1 x2.2) (0,(l.length:Int))=some e/\∃k:Nat,e=(k:Int)/\LbT l s k:=by
  refine qq5 (fun x=>∃i j:Nat,x=((i:Int),(j:Int))/\i<=j/\j<=l.length/\(∀q,q<i->(l.getD q t0).1<s)/\(∀q,j<=q->q<l.length->s<=(l.getD q t0).1)) (fun x=>(x.2-x.1).toNat) _ ?_ ⟨0,l.length,rfl,by omega,by omega,by omega,by omega⟩
  rintro _ ⟨i,j,rfl,h1,h2,h3,h4⟩
  unfold qaw;simp only;by_cases hij:i<j
  ·right;have hm:(i+j)/2<l.length:=by omega
   simp only[dec_t (show(i:Int)<(j:Int) by omega),za,hnat (i:=i) (j:=j) (by omega),gd_t (inB_t hm),z9]
   rw[show(qdk (l.getD ((i+j)/2) t0) s).bind (fun y=>some y)=_ from qAY _ _]
   simp only[z7];unfold cmpT;by_cases hc:(l.getD ((i+j)/2) t0).1<s
   ·rw[if_pos hc,dec_t (by omega),wi (by omega)]
    refine⟨_,rfl,⟨(i+j)/2+1,j,rfl,by omega,h2,fun q hq=>?_,h4⟩,by simp only; omega⟩
    by_cases e:q=(i+j)/2
    ·rw[e]; exact hc
    ·have:=gDp hs (i:=q) (j:=(i+j)/2) (by omega) hm
     omega
   ·rw[if_neg hc,dec_f (by split <;> omega)]
    refine⟨_,rfl,⟨i,(i+j)/2,rfl,by omega,by omega,h3,fun q hq hql=>?_⟩,by simp only; omega⟩
    by_cases e:q=(i+j)/2
    ·rw[e]; omega
    ·have:=gDp hs (i:=(i+j)/2) (j:=q) (by omega) hql
     omega
  ·left;obtain rfl:i=j:=by omega
   exact⟨(i:Int),by simp only[dec_f (show ¬(i:Int)<(i:Int) by omega),zb],i,rfl,h2,h3,h4⟩
 obtain⟨_,q,k,rfl,hk⟩:=key;refine⟨k,hk,?_⟩
 unfold qkr qaD;rw[q];simp only[z7];by_cases hkl:k<l.length
 ·rw[dec_t (show(k:Int)<(l.length:Int) by omega),za,gd_t (inB_t hkl),z9,show(qdk (l.getD k t0) s).bind (fun y=>some y)=_ from qAY _ _]
  simp only[z7];congr 2;have hge:=hk.ge k (zZ _) hkl;unfold cmpT;rw[if_neg (by omega)]
  by_cases he:(l.getD k t0).1=s
  ·rw[if_neg (by omega),dec_t rfl,dec_t ⟨hkl,he⟩]
  ·rw[if_pos (by omega),dec_f (by omega),dec_f (fun h=>he h.2)]
 ·rw[dec_f (show ¬(k:Int)<(l.length:Int) by omega),zb,dec_f (fun h=>hkl h.1)]; rfl
/-! ### A record of a telegram is carried out -/
abbrev Ent3:=List UInt8×Int×Int
abbrev Rec:=Int×List Int×Stp×Ent3
abbrev Acc4:=List UInt8×Int×Int×Int×Int
abbrev Cn:=Dk×List Tel×List Acc4×Int
def noB(s:Stp):Bool:=decide (s.1=0)&&(decide (s.2.1=0)&&(decide (s.2.2.1=0)&&(decide (s.2.2.2.1=0)&&(decide (s.2.2.2.2.1=0)&&(decide (s.2.2.2.2.2.2=0)&&decide (s.2.2.2.2.2.1.length=0))))))
theorem qvX(s:Stp):qfZ s=some (noB s):=by
 unfold qfZ noB;rw[show decide ((s.2.2.2.2.2.1.length:Int)=0)=decide (s.2.2.2.2.2.1.length=0) by
  by_cases h:s.2.2.2.2.2.1.length=0
  ·rw[dec_t h,dec_t (by omega)]
  ·rw[dec_f h,dec_f (by omega)]]
 cases decide (s.1=0) <;> cases decide (s.2.1=0) <;> cases decide (s.2.2.1=0) <;> cases decide (s.2.2.2.1=0) <;> cases decide (s.2.2.2.2.1=0) <;> cases decide (s.2.2.2.2.2.2=0) <;> rfl
def noE(e:Ent3):Bool:=decide (e.1=[])&&(decide (e.2.1=0)&&decide (e.2.2=0))
def telOf(v:List Int):Tel:=(v.getD 0 0,v.getD 1 0,v.getD 2 0,v.getD 3 0,v.getD 4 0,v.drop 5)
def accS(l:List Tel)(r:Rec):List Tel×Int:=
 if r.2.1.length<5\/noB r.2.2.1=false\/noE r.2.2.2=false\/qlv (telOf r.2.1)=false then(l,28)
 else match putT l (telOf r.2.1) with
  | some l'=>(l',0)
  | none=>(l,6)
theorem qDu(l:List Int)(h:l.length<=100000):qcR l=some l:=by
 unfold qcR;rw[gd_t (qav (by omega)),zC]
theorem qAZ{l:List Tel}(hs:SortT l)(hn:l.length<=10000)(n:Net)(r:Rec)(c:Int)(c2:List Vl)(c3 c4:List Int)(c5:List Bool)(c7:List Acc4)(hv:r.2.1.length<=100000):
  qhU n r c c2 c3 c4 c5 l c7=some ((accS l r).2,c,c2,c3,c4,c5,(accS l r).1,c7):=by
 unfold qhU;rw[show((r.2.2.1.1,r.2.2.1.2.1,r.2.2.1.2.2.1,r.2.2.1.2.2.2.1,r.2.2.1.2.2.2.2.1,r.2.2.1.2.2.2.2.2.1,r.2.2.1.2.2.2.2.2.2):Stp)=r.2.2.1 from rfl,qvX,z7]
 unfold accS;by_cases h5:r.2.1.length<5
 ·rw[dec_t (show(r.2.1.length:Int)<5 by omega),if_pos (.inl h5)]; rfl
 rw[dec_f (show ¬(r.2.1.length:Int)<5 by omega)]
 cases hb:noB r.2.2.1 with
 | false=>rw[if_pos (.inr (.inl rfl))]; rfl
 | true=>
 cases he:noE r.2.2.2 with
 | false=>
  rw[if_pos (.inr (.inr (.inl rfl)))];unfold noE at he;rw[he]; rfl
 | true=>
 unfold noE at he;rw[he];simp only[zb,zg,z7];have hB:∀i:Int,0<=i->i<5->inB i r.2.1.length=true:=fun i h1 h2=>qae.2 ⟨by omega,by omega⟩
 rw[gd_t (hB 0 (by omega) (by omega)),gd_t (hB 1 (by omega) (by omega)),gd_t (hB 2 (by omega) (by omega)),gd_t (hB 3 (by omega) (by omega)),gd_t (hB 4 (by omega) (by omega))]
 have hcut:cutG (some (.i64,5)) none r.2.1.length=true:=by simp[cutG,inR, *] <;> omega
 rw[gd_t hcut,qDu _ (by simp; omega),z7,show((r.2.1.getD 0 0,r.2.1.getD 1 0,r.2.1.getD 2 0,r.2.1.getD 3 0,r.2.1.getD 4 0,r.2.1.drop 5):Tel)=telOf r.2.1 from rfl,qAX,z7]
 cases hvt:qlv (telOf r.2.1) with
 | false=>rw[if_pos (.inr (.inr (.inr rfl)))]; rfl
 | true=>
 rw[if_neg (by simp[h5])]
 simp only[zg,zb];obtain⟨k,hk,hf⟩:=qEi (s:=(telOf r.2.1).1) hs (by omega)
 rw[show(r.2.1.getD 0 0)=(telOf r.2.1).1 from rfl,hf,z7,qxa hk]
 by_cases hc:k<l.length/\(l.getD k t0).1=(telOf r.2.1).1
 ·rw[if_pos hc,dec_t hc,zg,zb,gd_t (inB_t hc.1),z9,show((l.getD k (0,0,0,0,0,[])):Tel)=l.getD k t0 from rfl,qvW,z7]
  cases befT (l.getD k t0) (telOf r.2.1) with
  | false=>rfl
  | true=>simp only[zg,zb,if_true]; rw[gd_t (inB_t hc.1)]
 ·rw[if_neg hc,dec_f hc,zk1,za];unfold insT;have hkl:=hk.le;rw[dec_t (show(0:Int)<=(k:Int) by omega),dec_t (show(k:Int)<=(l.length:Int) by omega),qav (by omega),z9]; rfl
abbrev a0:Acc4:=([],0,0,0,0)
structure CnS(c:Cn):Prop where
 d:DkS c.1
 t:c.2.1.length<=10000
 tv:∀x∈c.2.1,x.2.2.2.2.2.length<=100000
 a:c.2.2.1.length<=10000
theorem qFa(l:List Tel)(h:l.length<=10000):qaI l=some l:=by
 unfold qaI;rw[gd_t (qav (by omega)),zC]
theorem qFb(l:List Acc4)(h:l.length<=10000):qaj l=some l:=by
 unfold qaj;rw[gd_t (qav (by omega)),zC]
theorem qFc{A:Type}(l:List A)(i:Nat)(d:A):l.set i (l.getD i d)=l:=by
 apply zF1;intro j;rw[List.getElem?_set]
 by_cases h:i=j
 ·subst h;rw[if_pos rfl];split
  ·rename_i hl; rw[zh,zl hl]; rfl
  ·rename_i hl; rw[zo1 (by omega)]
 ·rw[if_neg h]
theorem gmem{A:Type}{l:List A}{i:Nat}{d:A}(h:i<l.length):l.getD i d∈l:=by
 rw[zh,zl h];exact z53 h
theorem qyb{c:Cn}(h:CnS c):qdj c=some (c.2.2.2,c.1.1,c.1.2.1,c.1.2.2.1,c.1.2.2.2,c.2.1,c.2.2.1):=by
 unfold qdj;rw[show((c.1.1,c.1.2.1,c.1.2.2.1,c.1.2.2.2):Dk)=c.1 from rfl,qAK h.d,z7,qFa _ h.t,z7,qFb _ h.a,z7]
 have k1:=qbl (step:=fun x:Int×List Tel×List Vl×List Int×List Int×List Bool×List Acc4=>qgz c.2.1 x.1 x.2.1 x.2.2.1 x.2.2.2.1 x.2.2.2.2.1 x.2.2.2.2.2.1 x.2.2.2.2.2.2) c.2.1.length
  (fun i=>((i:Int),c.2.1,c.1.1,c.1.2.1,c.1.2.2.1,c.1.2.2.2,c.2.2.1)) (e:=(c.1.1,c.1.2.1,c.1.2.2.1,c.1.2.2.2,c.2.1,c.2.2.1)) (fun i hi=>by
   unfold qgz;simp only[dec_t (show(i:Int)<(c.2.1.length:Int) by omega),za,gd_t (inB_t hi),z9]
   rw[qDu _ (h.tv _ (gmem (d:=t0) hi)),z7,w1 hi (by have:=h.t; omega)]
   have e:c.2.1.set i (c.2.1.getD i t0)=c.2.1:=qFc _ _ _;exact congrArg some (congrArg Sum.inl (by rw[show((((c.2.1.getD i (0,(0,(0,(0,(0,[])))))).1,(((c.2.1.getD i (0,(0,(0,(0,(0,[])))))).2).1,((((c.2.1.getD i (0,(0,(0,(0,(0,[])))))).2).2).1,(((((c.2.1.getD i (0,(0,(0,(0,(0,[])))))).2).2).2).1,((((((c.2.1.getD i (0,(0,(0,(0,(0,[])))))).2).2).2).2).1,(((((c.2.1.getD i (0,(0,(0,(0,(0,[])))))).2).2).2).2).2)))))):Tel)=c.2.1.getD i t0 from rfl,e]))) (by
   unfold qgz;simp only[dec_f (show ¬(c.2.1.length:Int)<(c.2.1.length:Int) by omega),zb])
 rw[show((((0:Nat):Int),c.2.1,c.1.1,c.1.2.1,c.1.2.2.1,c.1.2.2.2,c.2.2.1):Int×List Tel×List Vl×List Int×List Int×List Bool×List Acc4)=(0,c.2.1,c.1.1,c.1.2.1,c.1.2.2.1,c.1.2.2.2,c.2.2.1) from rfl] at k1
 refine(congrArg (fun o=>Option.bind o _) k1).trans ?_
 rfl
theorem mg_eq(x:Int):mget keyI (mput keyI (mput keyI (mput keyI [] 1 1) 2 2) 3 3) x=if x=1 then some (1:Nat) else if x=2 then some 2 else if x=3 then some 3 else none:=by
 show mget keyI [((1:Int),(1:Nat)),(2,2),(3,3)] x=_;unfold mget keyI;by_cases h1:x=1
 ·subst h1; rfl
 ·by_cases h2:x=2
  ·subst h2; rfl
  ·by_cases h3:x=3
   ·subst h3; rfl
   ·have e:∀y:Int,(keyO (Ty.int IntKind.i64)).eq x y=decide (x=y):=fun y=>rfl
    simp[mget,e,h1,h2,h3]
def capp1(c:Cn)(r:Rec):Cn×Int:=if c.2.2.2=1000 then(c,4) else if(accS c.2.1 r).2=0 then((c.1,(accS c.2.1 r).1,c.2.2.1,c.2.2.2+1),0) else(c,(accS c.2.1 r).2)
theorem qA0(n:Net){c:Cn}(h:CnS c)(hs:SortT c.2.1)(hk:0<=c.2.2.2/\c.2.2.2<=100000){r:Rec}(hr:r.1=1)(hv:r.2.1.length<=100000):qd2 n c r=some (capp1 c r):=by
 unfold qd2 capp1;have hm:mget keyI (mput keyI (mput keyI (mput keyI [] 1 1) 2 2) 3 3) r.1=some (1:Nat):=by rw[mg_eq,if_pos hr]
 rw[hm,show(((c.1.1,c.1.2.1,c.1.2.2.1,c.1.2.2.2),c.2.1,c.2.2.1,c.2.2.2):Cn)=c from rfl,qyb h,z7]
 by_cases h1:c.2.2.2=1000
 ·rw[dec_t h1,if_pos h1]; rfl
 rw[dec_f h1,if_neg h1];simp only[zY2,zg,zb,zz2,zg2,za];rw[show((r.1,r.2.1,(r.2.2.1.1,r.2.2.1.2.1,r.2.2.1.2.2.1,r.2.2.1.2.2.2.1,r.2.2.1.2.2.2.2.1,r.2.2.1.2.2.2.2.2.1,r.2.2.1.2.2.2.2.2.2),r.2.2.2.1,r.2.2.2.2.1,r.2.2.2.2.2):Rec)=r from rfl,qba,z7,qAZ hs h.t _ _ _ _ _ _ _ _ hv,z7,z7]
 by_cases h0:(accS c.2.1 r).2=0
 ·rw[dec_t h0,if_pos h0,zg,zb];simp only;rw[wi (by omega)]
 ·rw[dec_f h0,if_neg h0]; rfl
/-! ### States are compared -/
theorem qEj{n:Net}{t:Int}(h0:qbi n=0)(hp:1<=n.2.1.length+n.2.2.1.length)(ht:1<=t/\t<=60):qjL n t=some (((List.replicate (n.2.1.length+n.2.2.1.length) (t,0,false,false),List.replicate n.2.1.length 0,List.replicate n.2.2.1.length 0,List.replicate n.2.2.2.1.length false),[],[],0),0):=by
 unfold qjL;rw[qba,qEg n t (fun _=>hp),z7]
 unfold idleS;rw[if_neg (fun h=>h h0),rg_t ht]; rfl
end Go.Proofs.YtmdijohmddokhaaGreatDoor
namespace Go.Proofs.YtmdijohmddokhaaGreatDoor.Ac
open Go Go.Sq
abbrev Acc:=List UInt8×Int×Int×Int×Int
abbrev Ent:=List UInt8×Int×Int
abbrev d0:Acc:=([],0,0,0,0)
abbrev e0:Ent:=([],0,0)
/-! ### The order of texts -/
theorem qsF(a b:UInt8)(x y:List UInt8):Op.bytesLess (a::x) (b::y)=true↔a.toNat<b.toNat\/(a=b/\Op.bytesLess x y=true):=by
 rw[show Op.bytesLess (a::x) (b::y)=(decide (a<b) || (a==b&&Op.bytesLess x y)) from rfl]
 simp only[zg1,z8,zi,zZ2,UInt8.lt_iff_toNat_lt]
theorem qyc(x:List UInt8):Op.bytesLess x []=false:=by cases x <;> rfl
theorem qmI:∀a:List UInt8,Op.bytesLess a a=false
 | []=>rfl
 | a::x=>by
  rw[<-zd2,qsF]
  rintro(h | ⟨_,h⟩)
  ·omega
  ·rw[qmI x] at h; cases h
theorem qkW:∀ {a b c:List UInt8},Op.bytesLess a b=true->Op.bytesLess b c=true->Op.bytesLess a c=true
 | _,[],_,h,_=>by rw[qyc] at h; cases h
 | _,_::_,[],_,h=>by rw[qyc] at h; cases h
 | [],_::_,_::_,_,_=>rfl
 | a::x,b::y,c::z,h,h'=>by
  rw[qsF] at h h' ⊢;rcases h with h | ⟨rfl,h⟩ <;> rcases h' with h' | ⟨rfl,h'⟩
  ·left; omega
  ·left; exact h
  ·left; exact h'
  ·right; exact⟨rfl,qkW h h'⟩
theorem qA1:∀a b:List UInt8,Op.bytesLess a b=true\/a=b\/Op.bytesLess b a=true
 | [],[]=>.inr (.inl rfl)
 | [],_::_=>.inl rfl
 | _::_,[]=>.inr (.inr rfl)
 | a::x,b::y=>by
  rw[qsF,qsF];rcases Nat.lt_trichotomy a.toNat b.toNat with h | h | h
  ·exact .inl (.inl h)
  ·have e:=UInt8.toNat_inj.1 h;subst e;rcases qA1 x y with h1 | h1 | h1
   ·exact .inl (.inr ⟨rfl,h1⟩)
   ·subst h1; exact .inr (.inl rfl)
   ·exact .inr (.inr (.inr ⟨rfl,h1⟩))
  ·exact .inr (.inr (.inl h))
theorem qA2{a b:List UInt8}(h:Op.bytesLess a b=true):Op.bytesLess b a=false:=by
 rw[<-zd2];intro h';have:=qkW h h';rw[qmI] at this; cases this
theorem bl_ne{a b:List UInt8}(h:Op.bytesLess a b=true):a≠b:=fun e=>by
 subst e; rw[qmI] at h; cases h
theorem qpL:∀a b:List UInt8,(Lib.compareBytes a b<0↔Op.bytesLess a b=true)/\(Lib.compareBytes a b=0↔a=b)
 | [],[]=>by simp[Lib.compareBytes,qyc]
 | [],_::_=>by simp[Lib.compareBytes]; rfl
 | _::_,[]=>by simp[Lib.compareBytes,qyc]
 | a::x,b::y=>by
  have ih:=qpL x y;unfold Lib.compareBytes;rw[qsF];simp only[UInt8.lt_iff_toNat_lt,List.cons.injEq];rcases Nat.lt_trichotomy a.toNat b.toNat with h | h | h
  ·have hne:a≠b:=fun e=>by subst e; omega
   simp[h,hne]
  ·have e:=UInt8.toNat_inj.1 h;subst e;simp only[Nat.lt_irrefl,if_false,false_or,true_and];exact ih
  ·have hne:a≠b:=fun e=>by subst e; omega
   rw[if_neg (by omega),if_pos h]
   constructor
   ·constructor
    ·intro h; omega
    ·rintro(h' | ⟨h',_⟩)
     ·omega
     ·exact absurd h' hne
   ·constructor
    ·intro h; omega
    ·rintro⟨h',_⟩; exact absurd h' hne
/-! ### Names -/
def qhj(c:Int):Int:=if 97<=c/\c<=122 then 1 else if(48<=c/\c<=57)\/c=45 then 2 else 0
theorem place_eq(c:Int):qfl c=some (qhj c):=by
 unfold qfl qhj;by_cases h1:97<=c
 ·by_cases h2:c<=122
  ·simp[h1,h2]
  ·simp[h1,h2,show ¬c<=57 by omega,show ¬c=45 by omega,show 48<=c by omega]
 ·by_cases h3:48<=c
  ·by_cases h4:c<=57
   ·simp[h1,h3,h4]
   ·simp[h1,h3,h4,show ¬c=45 by omega]
  ·by_cases h5:c=45
   ·simp[h5]
   ·simp[h1,h3,h5]
def qeW(s:List UInt8)(i:Nat):Int:=Int.ofNat (s.getD i 0).toNat
theorem qA3(s:List UInt8)(i:Nat):0<=qeW s i/\qeW s i<=255:=by
 unfold qeW;have:=(s.getD i 0).toNat_lt;constructor
 ·exact Int.natCast_nonneg _
 ·show((s.getD i 0).toNat:Int)<=255;omega
def nameP(s:List UInt8):Bool:=decide (1<=s.length)&&(decide (s.length<=12)&&(decide (qhj (qeW s 0)=1)&&(List.range s.length).all fun i=>decide (qhj (qeW s i)≠0)))
theorem name_eq(s:List UInt8):qcE s=some (nameP s):=by
 unfold qcE nameP;by_cases h1:s.length<1
 ·rw[dec_t (show(s.length:Int)<1 by omega),dec_f (show ¬1<=s.length by omega)]; rfl
 rw[dec_f (show ¬(s.length:Int)<1 by omega),dec_t (show 1<=s.length by omega)]
 by_cases h2:12<s.length
 ·rw[dec_t (show 12<(s.length:Int) by omega),dec_f (show ¬s.length<=12 by omega)]; rfl
 rw[dec_f (show ¬12<(s.length:Int) by omega),dec_t (show s.length<=12 by omega),gd_t (show inB 0 s.length=true from inB_t (i:=0) (by omega)),place_eq]
 simp only[zb,z7,zG];show(bif !decide (qhj (qeW s 0)=1) then some false else _)=_;by_cases h3:qhj (qeW s 0)=1
 ·rw[dec_t h3];have:=qbt (step:=fun x=>qcc s x) s.length (fun i=>(i:Int)) (fun i=>decide (qhj (qeW s i)≠0)) (fin:=.inl ()) (bad:=.inr false) (fun i hi _ hp=>by
    unfold qcc;simp only[dec_t (show(i:Int)<(s.length:Int) by omega),za,gd_t (inB_t hi),z9,place_eq,z7]
    show(bif decide (qhj (qeW s i)=0) then _ else _)=_;rw[dec_f (zj hp),wi (by omega)]; rfl) (fun i hi _ hp=>by
    unfold qcc;simp only[dec_t (show(i:Int)<(s.length:Int) by omega),za,gd_t (inB_t hi),z9,place_eq,z7]
    show(bif decide (qhj (qeW s i)=0) then _ else _)=_;rw[dec_t (by simpa using hp)]; rfl) (fun _=>by
    unfold qcc;simp only[dec_f (show ¬(s.length:Int)<(s.length:Int) by omega),zb])
  simp only[zg,zb,zG];rw[show(0:Int)=((0:Nat):Int) from rfl,this]
  cases(List.range s.length).all fun i=>decide (qhj (qeW s i)≠0) <;> rfl
 ·rw[dec_f h3]; rfl
theorem rname_eq(s:List UInt8):qcs s=some (nameP s):=by
 unfold qcs nameP;by_cases h1:s.length<1
 ·rw[dec_t (show(s.length:Int)<1 by omega),dec_f (show ¬1<=s.length by omega)]; rfl
 rw[dec_f (show ¬(s.length:Int)<1 by omega),dec_t (show 1<=s.length by omega)]
 by_cases h2:12<s.length
 ·rw[dec_t (show 12<(s.length:Int) by omega),dec_f (show ¬s.length<=12 by omega)]; rfl
 rw[dec_f (show ¬12<(s.length:Int) by omega),dec_t (show s.length<=12 by omega),gd_t (show inB 0 s.length=true from inB_t (i:=0) (by omega)),gd_t (show inB 0 s.length=true from inB_t (i:=0) (by omega))]
 have e0:(bif decide ((Int.ofNat (s.getD 0 0).toNat)<97) then some true else some (decide (122<(Int.ofNat (s.getD 0 0).toNat))))=some (!decide (qhj (qeW s 0)=1)):=by
  show(bif decide (qeW s 0<97) then some true else some (decide (122<qeW s 0)))=_;generalize qeW s 0=c;unfold qhj;by_cases a1:c<97
  ·rw[dec_t a1,if_neg (by omega)]
   split <;> rfl
  ·rw[dec_f a1];by_cases a2:122<c
   ·rw[dec_t a2,if_neg (by omega)]
    split <;> rfl
   ·rw[dec_f a2,if_pos (by omega)]; rfl
 rw[e0];simp only[zb,z7,zG];by_cases h3:qhj (qeW s 0)=1
 ·rw[dec_t h3];have step:∀i:Nat,i<s.length->qch s (i:Int)=bif decide (qhj (qeW s i)≠0) then some (.inl ((i+1:Nat):Int)) else some (.inr (.inr false)):=by
   intro i hi;have hb:=qA3 s i;unfold qch;simp only[dec_t (show(i:Int)<(s.length:Int) by omega),za,gd_t (inB_t hi),z9]
   simp only[show(Int.ofNat (s.getD i 0).toNat)=qeW s i from rfl]
   generalize qeW s i=c at hb;unfold qhj;rw[show wi64 ((i:Int)+1)=((i+1:Nat):Int) by rw[wi (by omega)]; rfl]
   by_cases a1:c<97
   ·by_cases a3:c<48
    ·by_cases a5:c=45
     ·simp[a5]
     ·simp[a1,a3,a5,show ¬97<=c by omega,show ¬48<=c by omega]
    ·by_cases a4:57<c
     ·simp[a1,a3,a4,show ¬97<=c by omega,show ¬c<=57 by omega,show ¬c=45 by omega]
     ·simp[a1,a3,a4,show ¬97<=c by omega,show 48<=c by omega,show c<=57 by omega]
   ·by_cases a2:122<c
    ·simp[a1,a2,show ¬c<=122 by omega,show ¬c<48 by omega,show 57<c by omega,show ¬c=45 by omega,show ¬c<=57 by omega]
    ·simp[a1,a2,show 97<=c by omega,show c<=122 by omega]
  have:=qbt (step:=fun x=>qch s x) s.length (fun i=>(i:Int)) (fun i=>decide (qhj (qeW s i)≠0)) (fin:=.inl ()) (bad:=.inr false) (fun i hi _ hp=>by
    rw[step i hi,hp]; rfl) (fun i hi _ hp=>by
    rw[step i hi,hp]; rfl) (fun _=>by
    unfold qch;simp only[dec_f (show ¬(s.length:Int)<(s.length:Int) by omega),zb])
  simp only[zg,zb,zG];rw[show(0:Int)=((0:Nat):Int) from rfl,this]
  cases(List.range s.length).all fun i=>decide (qhj (qeW s i)≠0) <;> rfl
 ·rw[dec_f h3]; rfl
/-! ### What is valid -/
def volP(n:Int):Bool:=decide (0<=n/\n<=1099511627776)
def sgnP(n:Int):Bool:=decide (-1099511627776<=n/\n<=1099511627776)
theorem qyd(n:Int):qcz n=some (volP n):=by
 unfold qcz volP;by_cases h:0<=n <;> simp[h]
theorem qDv(n:Int):qd1 n=some (sgnP n):=by
 unfold qd1 sgnP;by_cases h1 : -1099511627776<=n <;> by_cases h2:n<=1099511627776 <;> simp[h1,h2]
def accP(a:Acc):Bool:=volP a.2.1&&(volP a.2.2.1&&(volP a.2.2.2.1&&sgnP a.2.2.2.2))
theorem qA4(a:Acc):qcS a=some (accP a):=by
 unfold qcS accP;rw[qyd,qyd,qyd,qDv];cases volP a.2.1 <;> cases volP a.2.2.1 <;> cases volP a.2.2.2.1 <;> rfl
theorem quR(a:Acc):qgs a=some (accP a):=by
 unfold qgs accP volP sgnP;by_cases h1:0<=a.2.1
 ·by_cases h2:a.2.1<=1099511627776
  ·by_cases h3:0<=a.2.2.1
   ·by_cases h4:a.2.2.1<=1099511627776
    ·by_cases h5:0<=a.2.2.2.1
     ·by_cases h6:a.2.2.2.1<=1099511627776
      ·by_cases h7 : -1099511627776<=a.2.2.2.2 <;> simp[h1,h2,h3,h4,h5,h6,h7]
      ·simp[h1,h2,h3,h4,h5,h6]
     ·simp[h1,h2,h3,h4,h5]
    ·simp[h1,h2,h3,h4]
   ·simp[h1,h2,h3]
  ·simp[h1,h2]
 ·simp[h1]
def entP(e:Ent):Bool:=(decide (e.2.1=1\/e.2.1=2\/e.2.1=3)&&volP e.2.2 || decide (e.2.1=4)&&sgnP e.2.2)&&nameP e.1
theorem qFd(e:Ent):qeH e=some (entP e):=by
 unfold qeH entP;rw[qyd,qDv,name_eq];by_cases h1:e.2.1=1
 ·simp only[h1]; cases volP e.2.2 <;> simp
 ·by_cases h2:e.2.1=2
  ·simp only[h2]; cases volP e.2.2 <;> simp
  ·by_cases h3:e.2.1=3
   ·simp only[h3]; cases volP e.2.2 <;> simp
   ·by_cases h4:e.2.1=4
    ·simp only[h4]; cases sgnP e.2.2 <;> simp
    ·simp[h1,h2,h3,h4]
theorem qA5(e:Ent):qiM e=some (entP e):=by
 unfold qiM entP volP sgnP;rw[rname_eq];cases nameP e.1
 ·simp
 ·by_cases h1:e.2.1=1
  ·simp only[h1];by_cases a1:0<=e.2.2 <;> simp[a1]
  ·by_cases h2:e.2.1=2
   ·simp only[h2];by_cases a1:0<=e.2.2 <;> simp[a1]
   ·by_cases h3:e.2.1=3
    ·simp only[h3];by_cases a1:0<=e.2.2 <;> simp[a1]
    ·by_cases h4:e.2.1=4
     ·simp only[h4];by_cases a1 : -1099511627776<=e.2.2 <;> simp[a1]
     ·simp[h1,h2,h3,h4]
def okI(l:List Acc)(i:Nat):Bool:=accP (l.getD i d0)&&(nameP (l.getD i d0).1&&(decide (i=0) || Op.bytesLess (l.getD (i-1) d0).1 (l.getD i d0).1))
def qsG(l:List Acc):Bool:=decide (l.length<=64)&&(List.range l.length).all (okI l)
theorem valid_eq{l:List Acc}(hl:l.length<=1000000):qf5 l=some (qsG l):=by
 have step:∀i:Nat,i<l.length->qdy l (i:Int)=bif okI l i then some (.inl ((i+1:Nat):Int)) else some (.inr (.inr false)):=by
  intro i hi;unfold qdy okI;simp only[dec_t (show(i:Int)<(l.length:Int) by omega),za,gd_t (inB_t hi),z9]
  rw[show qcS ((l.getD i d0).1,((l.getD i d0).2).1,(((l.getD i d0).2).2).1,((((l.getD i d0).2).2).2).1,((((l.getD i d0).2).2).2).2)=some (accP (l.getD i d0)) from qA4 _,name_eq,
   show wi64 ((i:Int)+1)=((i+1:Nat):Int) by rw[wi (by omega)]; rfl]
  cases h1:accP (l.getD i d0)
  ·rfl
  ·cases h2:nameP (l.getD i d0).1
   ·rfl
   ·by_cases h0:i=0
    ·subst h0; rfl
    ·have e1:wi64 ((i:Int)-1)=((i-1:Nat):Int):=by rw[wi (by omega)]; omega
     rw[dec_t (show(0:Int)<(i:Int) by omega),e1,gd_t (inB_t (show i-1<l.length by omega)),z9,dec_f h0]
     simp only[z7,zg,zb,za,zG,zt2];rcases qA1 (l.getD (i-1) d0).1 (l.getD i d0).1 with h | h | h
     ·rw[h,qA2 h,dec_f (fun e=>bl_ne h e.symm)]; rfl
     ·rw[h,qmI,dec_t rfl]; rfl
     ·rw[h,qA2 h]; rfl
 have:=qbt (step:=fun x=>qdy l x) l.length (fun i=>(i:Int)) (okI l) (fin:=.inl ()) (bad:=.inr false) (fun i hi _ hp=>by
   rw[step i hi,hp]; rfl) (fun i hi _ hp=>by
   rw[step i hi,hp]; rfl) (fun _=>by
   unfold qdy;simp only[dec_f (show ¬(l.length:Int)<(l.length:Int) by omega),zb])
 unfold qf5 qsG;rw[show(0:Int)=((0:Nat):Int) from rfl,this]
 cases(List.range l.length).all (okI l)
 ·simp
 ·by_cases h:l.length<=64
  ·rw[dec_t h,show(bif true then(Sum.inl ():Unit⊕Bool) else .inr false)=.inl () from rfl]
   simp only[z7,zb1,dec_t (show(l.length:Int)<=64 by omega)]; rfl
  ·rw[dec_f h,show(bif true then(Sum.inl ():Unit⊕Bool) else .inr false)=.inl () from rfl]
   simp only[z7,zb1,dec_f (show ¬(l.length:Int)<=64 by omega)]; rfl
theorem rvalid_eq{l:List Acc}(hl:l.length<=1000000):qkQ l=some (qsG l):=by
 unfold qkQ qsG;by_cases h64:l.length<=64
 ·rw[dec_f (show ¬(64:Int)<(l.length:Int) by omega),dec_t h64]
  have step:∀i:Nat,i<l.length->qeS l (i:Int)=bif okI l i then some (.inl ((i+1:Nat):Int)) else some (.inr (.inr false)):=by
   intro i hi;unfold qeS okI;simp only[dec_t (show(i:Int)<(l.length:Int) by omega),za,gd_t (inB_t hi),z9]
   rw[show qgs (l.getD i d0)=some (accP (l.getD i d0)) from quR _,rname_eq,
    show wi64 ((i:Int)+1)=((i+1:Nat):Int) by rw[wi (by omega)]; rfl]
   cases h2:nameP (l.getD i d0).1
   ·cases accP (l.getD i d0) <;> rfl
   ·cases h1:accP (l.getD i d0)
    ·rfl
    ·by_cases h0:i=0
     ·subst h0; rfl
     ·have e1:wi64 ((i:Int)-1)=((i-1:Nat):Int):=by rw[wi (by omega)]; omega
      rw[dec_t (show(0:Int)<(i:Int) by omega),e1,gd_t (inB_t (show i-1<l.length by omega)),z9,dec_f h0]
      cases Op.bytesLess (l.getD (i-1) d0).1 (l.getD i d0).1 <;> rfl
  have:=qbt (step:=fun x=>qeS l x) l.length (fun i=>(i:Int)) (okI l) (fin:=.inl ()) (bad:=.inr false) (fun i hi _ hp=>by
    rw[step i hi,hp]; rfl) (fun i hi _ hp=>by
    rw[step i hi,hp]; rfl) (fun _=>by
    unfold qeS;simp only[dec_f (show ¬(l.length:Int)<(l.length:Int) by omega),zb])
  rw[show(0:Int)=((0:Nat):Int) from rfl,this]
  cases(List.range l.length).all (okI l) <;> rfl
 ·rw[dec_t (show(64:Int)<(l.length:Int) by omega),dec_f h64]; rfl
structure ValidP(l:List Acc):Prop where
 n:l.length<=64
 acc:∀a∈l,accP a=true
 nm:∀a∈l,nameP a.1=true
 lt:∀i k,i<k->k<l.length->Op.bytesLess (l.getD i d0).1 (l.getD k d0).1=true
theorem validB_iff{l:List Acc}:qsG l=true↔ValidP l:=by
 unfold qsG;rw[z8,zi,qoQ];constructor
 ·rintro⟨h1,h2⟩
  have h3:∀i,i<l.length->accP (l.getD i d0)=true/\nameP (l.getD i d0).1=true/\(i≠0->Op.bytesLess (l.getD (i-1) d0).1 (l.getD i d0).1=true):=fun i hi=>by
   have:=h2 i hi;simp only[okI,z8,zg1,zi] at this;exact⟨this.1,this.2.1,fun h=>this.2.2.resolve_left h⟩
  refine⟨h1,fun a ha=>?_,fun a ha=>?_,fun i k hik hk=>?_⟩
  ·obtain⟨k,hk,rfl⟩:=qoR d0 ha;exact(h3 k hk).1
  ·obtain⟨k,hk,rfl⟩:=qoR d0 ha;exact(h3 k hk).2.1
  ·induction k with
   | zero=>omega
   | succ k ih=>
    have hs:=(h3 (k+1) hk).2.2 (by omega)
    rw[Nat.add_sub_cancel] at hs;by_cases e:i=k
    ·subst e; exact hs
    ·exact qkW (ih (by omega) (by omega)) hs
 ·intro h;refine⟨h.n,fun i hi=>?_⟩
  simp only[okI,z8,zg1,zi];refine⟨h.acc _ (qbc hi),h.nm _ (qbc hi),?_⟩
  by_cases h0:i=0
  ·exact .inl h0
  ·exact .inr (h.lt _ _ (by omega) hi)
theorem qCG{i j:Nat}(h:i+j<=4611686018427387904):wi64 (Int.fdiv (wu64 (wi64 ((i:Int)+(j:Int)))) (2^shAmt .u64 1))=(((i+j)/2:Nat):Int):=by
 have e0:wi64 ((i:Int)+(j:Int))=(i:Int)+(j:Int):=wi (by omega)
 have e1:wu64 ((i:Int)+(j:Int))=(i:Int)+(j:Int):=by
  show IntKind.u64.wrap _=_;rw[show IntKind.u64.wrap ((i:Int)+(j:Int))=((i:Int)+(j:Int))%18446744073709551616 from rfl]
  omega
 have e2:(2:Int)^shAmt .u64 1=2:=by kernel_rfl
 rw[e0,e1,e2,Int.fdiv_eq_ediv_of_nonneg _ (by omega),wi (by omega)]
 omega
theorem qA6{i j:Nat}(h:i+j<=4611686018427387904):wi64 (Int.fdiv (wu64 (wi64 ((i:Int)+(j:Int)))) (2^shAmt .u64 1))=(((i+j)/2:Nat):Int):=qCG h
structure LbP(l:List Acc)(s:List UInt8)(k:Nat):Prop where
 le:k<=l.length
 lt:∀j,j<k->Op.bytesLess (l.getD j d0).1 s=true
 ge:∀j,k<=j->j<l.length->Op.bytesLess (l.getD j d0).1 s=false
theorem qEk{l:List Acc}{s:List UInt8}(hv:ValidP l):∃k:Nat,LbP l s k/\qi7 l s=some ((k:Int),decide (k<l.length/\(l.getD k d0).1=s)):=by
 have hn:=hv.n;have key:∃e,iter (fun x2:Int×Int=>qau l s (fun h=>(qeI h.1 h.2.1).bind fun y=>some y) x2.1 x2.2) (0,(l.length:Int))=some e/\∃k:Nat,e=(k:Int)/\LbP l s k:=by
  refine qq5 (fun x=>∃i j:Nat,x=((i:Int),(j:Int))/\i<=j/\j<=l.length/\(∀q,q<i->Op.bytesLess (l.getD q d0).1 s=true)/\(∀q,j<=q->q<l.length->Op.bytesLess (l.getD q d0).1 s=false)) (fun x=>(x.2-x.1).toNat) _ ?_ ⟨0,l.length,rfl,by omega,by omega,by omega,by omega⟩
  rintro _ ⟨i,j,rfl,h1,h2,h3,h4⟩
  unfold qau;simp only;by_cases hij:i<j
  ·right;have hm:(i+j)/2<l.length:=by omega
   simp only[dec_t (show(i:Int)<(j:Int) by omega),za,qA6 (i:=i) (j:=j) (by omega),gd_t (inB_t hm),z9]
   rw[show(qeI (l.getD ((i+j)/2) d0) s).bind (fun y=>some y)=some (Lib.compareBytes (l.getD ((i+j)/2) d0).1 s) from rfl]
   simp only[z7];by_cases hc:Op.bytesLess (l.getD ((i+j)/2) d0).1 s=true
   ·rw[dec_t ((qpL _ _).1.2 hc),wi (by omega)]
    refine⟨_,rfl,⟨(i+j)/2+1,j,rfl,by omega,h2,fun q hq=>?_,h4⟩,by simp only; omega⟩
    by_cases e:q=(i+j)/2
    ·rw[e]; exact hc
    ·by_cases e2:q<(i+j)/2
     ·exact qkW (hv.lt q _ e2 hm) hc
     ·omega
   ·rw[dec_f (fun h=>hc ((qpL _ _).1.1 h))]
    refine⟨_,rfl,⟨i,(i+j)/2,rfl,by omega,by omega,h3,fun q hq hql=>?_⟩,by simp only; omega⟩
    rw[<-zd2];intro hb;by_cases e:q=(i+j)/2
    ·rw[e] at hb; exact hc hb
    ·exact hc (qkW (hv.lt _ q (by omega) hql) hb)
  ·left;obtain rfl:i=j:=by omega
   exact⟨(i:Int),by simp only[dec_f (show ¬(i:Int)<(i:Int) by omega),zb],i,rfl,h2,h3,h4⟩
 obtain⟨_,q,k,rfl,hk⟩:=key;refine⟨k,hk,?_⟩
 unfold qi7 qaA;rw[q];simp only[z7];by_cases hkl:k<l.length
 ·rw[dec_t (show(k:Int)<(l.length:Int) by omega),gd_t (inB_t hkl),z9,show(qeI (l.getD k d0) s).bind (fun y=>some y)=some (Lib.compareBytes (l.getD k d0).1 s) from rfl]
  simp only[za,z7];congr 2;by_cases e:(l.getD k d0).1=s
  ·rw[dec_t ((qpL _ _).2.2 e),dec_t ⟨hkl,e⟩]
  ·rw[dec_f (fun h=>e ((qpL _ _).2.1 h)),dec_f (fun h=>e h.2)]
 ·rw[dec_f (show ¬(k:Int)<(l.length:Int) by omega),dec_f (fun h=>hkl h.1)]; rfl
theorem qCH{l:List Acc}{e:Ent}(hv:ValidP l){k:Nat}(hk:LbP l e.1 k):iter (fun x=>qgb l e x) 0=some (k:Int):=by
 have hn:=hv.n;have hkl:=hk.le;have:=qbl (step:=fun x=>qgb l e x) k (fun i=>(i:Int)) (e:=(k:Int)) (fun i hi=>by
   unfold qgb;simp only[dec_t (show(i:Int)<(l.length:Int) by omega),za,gd_t (inB_t (show i<l.length by omega)),z9,hk.lt i hi,z7]
   rw[wi (by omega)]; rfl) (by
   unfold qgb;by_cases h:k<l.length
   ·simp only[dec_t (show(k:Int)<(l.length:Int) by omega),za,gd_t (inB_t h),z9,hk.ge k (zZ _) h,z7,zb]
   ·simp only[dec_f (show ¬(k:Int)<(l.length:Int) by omega),zb,z7])
 simpa using this
def qbb(a:Acc)(e:Ent):Acc:=
 if e.2.1=1 then(a.1,wi64 (a.2.1+e.2.2),a.2.2) else if e.2.1=2 then(a.1,a.2.1,wi64 (a.2.2.1+e.2.2),a.2.2.2)
 else if e.2.1=3 then(a.1,a.2.1,a.2.2.1,wi64 (a.2.2.2.1+e.2.2),a.2.2.2.2) else if e.2.1=4 then(a.1,a.2.1,a.2.2.1,a.2.2.2.1,wi64 (a.2.2.2.2+e.2.2)) else a
theorem qvY(a:Acc)(e:Ent):qdD a e=some (qbb a e):=by
 unfold qdD qbb;by_cases h1:e.2.1=1
 ·simp[h1]
 ·by_cases h2:e.2.1=2
  ·simp[h2]
  ·by_cases h3:e.2.1=3
   ·simp[h3]
   ·by_cases h4:e.2.1=4
    ·simp[h4]
    ·simp[h1,h2,h3,h4]
theorem qpM(a:Acc)(e:Ent):(qbb a e).1=a.1:=by
 unfold qbb;split
 ·rfl
 ·split
  ·rfl
  ·split
   ·rfl
   ·split <;> rfl
theorem qCI{s:List Acc}(h:s.length<=1000000):qaj s=some s:=by
 unfold qaj;have hf:fits (0+s.length) 48=true:=qav (by omega)
 rw[hf]; rfl
structure PostP(l:List Acc)(e:Ent)(r:List Acc×Int):Prop where
 bad:¬(ValidP l/\entP e=true)->r=(l,27)
 good:ValidP l->entP e=true->∃k,LbP l e.1 k∧
  ((k<l.length/\(l.getD k d0).1=e.1/\r=if accP (qbb (l.getD k d0) e)=true then(l.set k (qbb (l.getD k d0) e),0) else(l,4))∨
   (¬(k<l.length/\(l.getD k d0).1=e.1)/\r=if accP (qbb (e.1,(0,(0,(0,0)))) e)=true/\l.length≠64 then(l.take k++qbb (e.1,(0,(0,(0,0)))) e::l.drop k,0) else(l,4)))
theorem qEl{A:Type}(P Q:List A)(x y:A):(P++x::Q).set P.length y=P++y::Q:=by
 induction P with
 | nil=>rfl
 | cons a P ih=>simp only[zh1,zf,List.set_cons_succ,ih]
theorem qA7(P Q:List Acc)(x:Acc):(P++x::Q).getD P.length d0=x:=by
 rw[qxP,if_neg (Nat.lt_irrefl _),Nat.sub_self]; rfl
theorem qA8{l:List Acc}{e:Ent}(hl:l.length<=100000):∃r:List Acc×Int,qhc l e=some (r.2,r.1)/\qgt l e=some r/\PostP l e r:=by
 unfold qhc qgt;rw[qCI (by omega),valid_eq (by omega),rvalid_eq (by omega)]
 simp only[z7];rw[show qeH (e.1,e.2.1,e.2.2)=some (entP e) from qFd e,show qiM (e.1,e.2.1,e.2.2)=some (entP e) from qA5 e]
 by_cases hv:qsG l=true
 ·have hv':=validB_iff.1 hv;rw[hv];by_cases he:entP e=true
  ·rw[he];obtain⟨k,hk,hf⟩:=qEk (s:=e.1) hv';have hn:=hv'.n;have hkl:=hk.le;have hL:=qCH hv' hk;have hkinds:e.2.1=1\/e.2.1=2\/e.2.1=3\/e.2.1=4:=by
    simp only[entP,z8,zg1,zi] at he;rcases he.1 with h | h
    ·rcases h.1 with h | h | h
     ·exact .inl h
     ·exact .inr (.inl h)
     ·exact .inr (.inr (.inl h))
    ·exact .inr (.inr (.inr h.1))
   have hset:∀(s5:List Acc),k<s5.length->(bif decide (e.2.1=1) then
     gd (inB (k:Int) s5.length)<|gd (inB (k:Int) s5.length)<|some (s5.set (k:Int).toNat ((s5.getD (k:Int).toNat ([],0,0,0,0)).1,wi64 ((((s5.getD (k:Int).toNat ([],0,0,0,0)).2).1)+e.2.2),((s5.getD (k:Int).toNat ([],0,0,0,0)).2).2))
    else Option.bind (α:=List Acc) (bif decide (e.2.1=2) then
      gd (inB (k:Int) s5.length)<|gd (inB (k:Int) s5.length)<|some (s5.set (k:Int).toNat ((s5.getD (k:Int).toNat ([],0,0,0,0)).1,((s5.getD (k:Int).toNat ([],0,0,0,0)).2).1,wi64 (((((s5.getD (k:Int).toNat ([],0,0,0,0)).2).2).1)+e.2.2),(((s5.getD (k:Int).toNat ([],0,0,0,0)).2).2).2))
     else Option.bind (α:=List Acc) (bif decide (e.2.1=3) then
       gd (inB (k:Int) s5.length)<|gd (inB (k:Int) s5.length)<|some (s5.set (k:Int).toNat ((s5.getD (k:Int).toNat ([],0,0,0,0)).1,((s5.getD (k:Int).toNat ([],0,0,0,0)).2).1,(((s5.getD (k:Int).toNat ([],0,0,0,0)).2).2).1,wi64 ((((((s5.getD (k:Int).toNat ([],0,0,0,0)).2).2).2).1)+e.2.2),((((s5.getD (k:Int).toNat ([],0,0,0,0)).2).2).2).2))
      else
       gd (inB (k:Int) s5.length)<|gd (inB (k:Int) s5.length)<|some (s5.set (k:Int).toNat ((s5.getD (k:Int).toNat ([],(0,(0,(0,0))))).1,(((s5.getD (k:Int).toNat ([],(0,(0,(0,0))))).2).1,((((s5.getD (k:Int).toNat ([],(0,(0,(0,0))))).2).2).1,(((((s5.getD (k:Int).toNat ([],(0,(0,(0,0))))).2).2).2).1,wi64 ((((((s5.getD (k:Int).toNat ([],(0,(0,(0,0))))).2).2).2).2)+e.2.2))))))) fun s6=>some s6) fun s7=>some s7)=some (s5.set k (qbb (s5.getD k d0) e)):=by
    intro s5 hk5;simp only[gd_t (inB_t hk5),z9];unfold qbb;rcases hkinds with h | h | h | h
    ·simp[h]
    ·simp[h]
    ·simp[h]
    ·simp[h]
   simp only[zg,zb,za,z7,hf,hL];rw[gd_t (show fits (0+l.length) 48=true from qav (by omega))]
   by_cases hfd:k<l.length/\(l.getD k d0).1=e.1
   ·-- there is an account
    rw[dec_t hfd];have e1:(bif decide ((k:Int)=(l.length:Int)) then some (true,[]++l) else gd (inB (k:Int) l.length)<|some ((!decide ((l.getD (k:Int).toNat ([],0,0,0,0)).1=e.1)),[]++l))=some (false,l):=by
     rw[dec_f (show ¬(k:Int)=(l.length:Int) by omega),gd_t (inB_t hfd.1),z9,dec_t hfd.2]; rfl
    refine⟨if accP (qbb (l.getD k d0) e)=true then(l.set k (qbb (l.getD k d0) e),0) else(l,4),?_,?_,?_⟩
    ·simp only[za,gd_t (inB_t hfd.1),z9,z7];rw[show qdD ((l.getD k d0).1,((l.getD k d0).2).1,(((l.getD k d0).2).2).1,((((l.getD k d0).2).2).2).1,((((l.getD k d0).2).2).2).2) (e.1,e.2.1,e.2.2)=some (qbb (l.getD k d0) e) from qvY _ _]
     simp only[z7];rw[show ∀q:Acc,qcS (q.1,q.2.1,q.2.2.1,q.2.2.2.1,q.2.2.2.2)=some (accP q) from fun q=>qA4 q]
     cases accP (qbb (l.getD k d0) e)
     ·rfl
     ·simp only[z7,zg,zb,gd_t (inB_t hfd.1)];rfl
    ·rw[e1];simp only[z7,zb];rw[hset l hfd.1];simp only[z7,zS];rw[dec_f (show ¬(64:Int)<(l.length:Int) by omega),gd_t (inB_t hfd.1),z9,qhC,if_pos ⟨rfl,hfd.1⟩,quR]
     cases accP (qbb (l.getD k d0) e)
     ·rfl
     ·rfl
    ·exact⟨fun h=>absurd ⟨hv',he⟩ h,fun _ _=>⟨k,hk,.inl ⟨hfd.1,hfd.2,rfl⟩⟩⟩
   ·-- there is none
    rw[dec_f hfd];have e1:(bif decide ((k:Int)=(l.length:Int)) then some (true,[]++l) else gd (inB (k:Int) l.length)<|some ((!decide ((l.getD (k:Int).toNat ([],0,0,0,0)).1=e.1)),[]++l))=some (true,l):=by
     by_cases hkn:k=l.length
     ·rw[dec_t (show(k:Int)=(l.length:Int) by omega)]; rfl
     ·rw[dec_f (show ¬(k:Int)=(l.length:Int) by omega),gd_t (inB_t (show k<l.length by omega)),z9,dec_f (fun h=>hfd ⟨by omega,h⟩)]; rfl
    have htl:(l.take k).length=k:=by rw[zo]; omega
    refine⟨if accP (qbb (e.1,0,0,0,0) e)=true/\l.length≠64 then(l.take k++qbb (e.1,0,0,0,0) e::l.drop k,0) else(l,4),?_,?_,?_⟩
    ·simp only[zb,z7,zk1,za];rw[show qdD (e.1,0,0,0,0) (e.1,e.2.1,e.2.2)=some (qbb (e.1,0,0,0,0) e) from qvY _ _]
     simp only[z7];rw[show ∀q:Acc,qcS (q.1,q.2.1,q.2.2.1,q.2.2.2.1,q.2.2.2.2)=some (accP q) from fun q=>qA4 q]
     cases ha:accP (qbb (e.1,0,0,0,0) e)
     ·simp only[z7,zk1,za];rw[if_neg (fun h=>by cases h.1)]
     ·simp only[z7,zg,zb];by_cases h64:l.length=64
      ·rw[dec_t (show(l.length:Int)=64 by omega),if_neg (fun h=>h.2 h64)]; rfl
      ·rw[dec_f (show ¬(l.length:Int)=64 by omega),if_pos (by exact⟨trivial,h64⟩)]
       simp only[zb,zg2,zG,z9];rw[gd_t (show cutG none (some (.i64,(k:Int))) l.length=true by unfold cutG; simp only[z8,zi]; omega),
        gd_t (show cutG (some (.i64,(k:Int))) none l.length=true by unfold cutG; simp only[z8,zi]; omega),gd_t (qav (by rw[htl]; omega)),gd_t (qav (by simp; omega))]
       simp only[zp,zh1,zC]
    ·rw[e1];simp only[z7,za,z9,zC]
     rw[gd_t (show cutG none (some (.i64,(k:Int))) l.length=true by unfold cutG; simp only[z8,zi]; omega),gd_t (qav (by rw[htl]; omega)),gd_t (qav (by rw[htl]; omega)),
        gd_t (show cutG (some (.i64,(k:Int))) none l.length=true by unfold cutG; simp only[z8,zi]; omega),gd_t (qav (by simp; omega))]
     simp only[z7,zp,zh1,zC];have hlen:(l.take k++(e.1,0,0,0,0)::l.drop k).length=l.length+1:=by simp; omega
     have hg:(l.take k++(e.1,0,0,0,0)::l.drop k).getD k d0=(e.1,0,0,0,0):=by
      have:=qA7 (l.take k) (l.drop k) (e.1,0,0,0,0);rwa[htl] at this
     have hs:=qEl (l.take k) (l.drop k) (e.1,0,0,0,0) (qbb (e.1,0,0,0,0) e);rw[htl] at hs;have h5:=hset (l.take k++(e.1,0,0,0,0)::l.drop k) (by omega)
     rw[hg,hs] at h5;simp only[z9] at h5;rw[h5];have hlen2:(l.take k++qbb (e.1,0,0,0,0) e::l.drop k).length=l.length+1:=by simp; omega
     have hg2:(l.take k++qbb (e.1,0,0,0,0) e::l.drop k).getD k d0=qbb (e.1,0,0,0,0) e:=by
      have:=qA7 (l.take k) (l.drop k) (qbb (e.1,0,0,0,0) e);rwa[htl] at this
     simp only[z7,hlen2];by_cases h64:l.length=64
     ·rw[dec_t (show(64:Int)<((l.length+1:Nat):Int) by omega),if_neg (fun h=>h.2 h64)]; rfl
     ·rw[dec_f (show ¬(64:Int)<((l.length+1:Nat):Int) by omega),gd_t (inB_t (show k<l.length+1 by omega)),hg2,quR]
      cases ha:accP (qbb (e.1,0,0,0,0) e)
      ·rw[if_neg (fun h=>by cases h.1)]; rfl
      ·rw[if_pos ⟨rfl,h64⟩]; rfl
    ·exact⟨fun h=>absurd ⟨hv',he⟩ h,fun _ _=>⟨k,hk,.inr ⟨hfd,rfl⟩⟩⟩
  ·rw[zd2] at he;rw[he];exact⟨(l,27),rfl,rfl,fun _=>rfl,fun _ h=>by rw[he] at h; cases h⟩
 ·have hv2:=hv;rw[zd2] at hv;rw[hv];exact⟨(l,27),rfl,rfl,fun _=>rfl,fun h=>absurd (validB_iff.2 h) hv2⟩
noncomputable def postF(l:List Acc)(e:Ent):List Acc×Int:=(qgt l e).getD ([],0)
theorem post_eq{l:List Acc}{e:Ent}(hl:l.length<=100000):qhc l e=some ((postF l e).2,(postF l e).1)/\qgt l e=some (postF l e)/\PostP l e (postF l e):=by
 obtain⟨r,h1,h2,h3⟩:=qA8 (e:=e) hl;have:postF l e=r:=by unfold postF; rw[h2]; rfl
 rw[this]; exact⟨h1,h2,h3⟩
theorem post_len{l:List Acc}{e:Ent}(hl:l.length<=100000):(postF l e).1.length<=l.length+1:=by
 obtain⟨_,_,h⟩:=post_eq (e:=e) hl;by_cases hg:ValidP l/\entP e=true
 ·obtain⟨k,hk,⟨_,_,h3⟩ | ⟨_,h3⟩⟩:=h.good hg.1 hg.2
  ·rw[h3]; split <;> simp
  ·have:=hk.le;rw[h3]; split
   ·simp; omega
   ·simp
 ·rw[h.bad hg]; simp
noncomputable def bookF:List Ent->List Acc->List Acc×Int
 | [],a=>(a,0)
 | e::r,a=>if(postF a e).2=0 then bookF r (postF a e).1 else([],(postF a e).2)
end Go.Proofs.YtmdijohmddokhaaGreatDoor.Ac
namespace Go.Proofs.YtmdijohmddokhaaGreatDoor
open Go Go.Sq
set_option linter.unusedVariables false
noncomputable def cmdS(n:Net)(d:Dk)(r:Rec):Dk×Int:=if 0<r.2.1.length\/noE r.2.2.2=false then(d,28) else appS n d r.2.2.1
noncomputable def postS(a:List Acc4)(r:Rec):List Acc4×Int:=if 0<r.2.1.length\/noB r.2.2.1=false then(a,28) else Ac.postF a r.2.2.2
theorem qy4(n:Net)(r:Rec)(c:Int){d:Dk}(h:DkS d)(c6:List Tel)(c7:List Acc4):qgB n r c d.1 d.2.1 d.2.2.1 d.2.2.2 c6 c7=some ((cmdS n d r).2,c,(cmdS n d r).1.1,(cmdS n d r).1.2.1,(cmdS n d r).1.2.2.1,(cmdS n d r).1.2.2.2,c6,c7):=by
 unfold qgB cmdS;by_cases h5:0<r.2.1.length
 ·rw[dec_t (show(0:Int)<(r.2.1.length:Int) by omega),if_pos (.inl h5)]; rfl
 rw[dec_f (show ¬(0:Int)<(r.2.1.length:Int) by omega)]
 cases he:noE r.2.2.2 with
 | false=>
  rw[if_pos (.inr rfl)];unfold noE at he;rw[he]; rfl
 | true=>
 rw[if_neg (by simp[h5])]
 unfold noE at he;rw[he];simp only[zb,zg,z7];rw[qba,show((d.1,d.2.1,d.2.2.1,d.2.2.2):Dk)=d from rfl,show((r.2.2.1.1,r.2.2.1.2.1,r.2.2.1.2.2.1,r.2.2.1.2.2.2.1,r.2.2.1.2.2.2.2.1,r.2.2.1.2.2.2.2.2.1,r.2.2.1.2.2.2.2.2.2):Stp)=r.2.2.1 from rfl,qCC h,z7]
theorem post_eq'(n:Net)(r:Rec)(c:Int)(c2:List Vl)(c3 c4:List Int)(c5:List Bool)(c6:List Tel){a:List Acc4}(h:a.length<=10000):qkB n r c c2 c3 c4 c5 c6 a=some ((postS a r).2,c,c2,c3,c4,c5,c6,(postS a r).1):=by
 unfold qkB postS;rw[show((r.2.2.1.1,r.2.2.1.2.1,r.2.2.1.2.2.1,r.2.2.1.2.2.2.1,r.2.2.1.2.2.2.2.1,r.2.2.1.2.2.2.2.2.1,r.2.2.1.2.2.2.2.2.2):Stp)=r.2.2.1 from rfl,qvX,z7]
 by_cases h5:0<r.2.1.length
 ·rw[dec_t (show(0:Int)<(r.2.1.length:Int) by omega),if_pos (.inl h5)]; rfl
 rw[dec_f (show ¬(0:Int)<(r.2.1.length:Int) by omega)]
 cases hb:noB r.2.2.1 with
 | false=>rw[if_pos (.inr rfl)]; rfl
 | true=>
 rw[if_neg (by simp[h5])]
 simp only[zb,zg,z7];rw[show((r.2.2.2.1,r.2.2.2.2.1,r.2.2.2.2.2):Ent3)=r.2.2.2 from rfl,(Ac.post_eq (by omega)).1]; rfl
noncomputable def capp2(n:Net)(c:Cn)(r:Rec):Cn×Int:=if c.2.2.2=1000 then(c,4) else if(cmdS n c.1 r).2=0 then(((cmdS n c.1 r).1,c.2.1,c.2.2.1,c.2.2.2+1),0) else(c,(cmdS n c.1 r).2)
noncomputable def capp3(c:Cn)(r:Rec):Cn×Int:=if c.2.2.2=1000 then(c,4) else if(postS c.2.2.1 r).2=0 then((c.1,c.2.1,(postS c.2.2.1 r).1,c.2.2.2+1),0) else(c,(postS c.2.2.1 r).2)
noncomputable def capp(n:Net)(c:Cn)(r:Rec):Cn×Int:=if r.1=1 then capp1 c r else if r.1=2 then capp2 n c r else if r.1=3 then capp3 c r else(c,if c.2.2.2=1000 then 4 else 28)
theorem apply_eq'(n:Net){c:Cn}(h:CnS c)(hs:SortT c.2.1)(hk:0<=c.2.2.2/\c.2.2.2<=100000)(r:Rec)(hv:r.2.1.length<=100000):qd2 n c r=some (capp n c r):=by
 unfold capp;by_cases k1:r.1=1
 ·rw[if_pos k1]; exact qA0 n h hs hk k1 hv
 rw[if_neg k1];unfold qd2;rw[show(((c.1.1,c.1.2.1,c.1.2.2.1,c.1.2.2.2),c.2.1,c.2.2.1,c.2.2.2):Cn)=c from rfl,qyb h,z7,mg_eq,if_neg k1]
 rw[show((r.1,r.2.1,(r.2.2.1.1,r.2.2.1.2.1,r.2.2.1.2.2.1,r.2.2.1.2.2.2.1,r.2.2.1.2.2.2.2.1,r.2.2.1.2.2.2.2.2.1,r.2.2.1.2.2.2.2.2.2),r.2.2.2.1,r.2.2.2.2.1,r.2.2.2.2.2):Rec)=r from rfl,qba]
 by_cases k2:r.1=2
 ·rw[if_pos k2,if_pos k2];unfold capp2;by_cases h1:c.2.2.2=1000
  ·rw[dec_t h1,if_pos h1]; rfl
  rw[dec_f h1,if_neg h1];simp only[zY2,zg,zb,zz2,z7,show decide ((2:Nat)=1)=false from rfl,show decide ((2:Nat)=2)=true from rfl,za]
  rw[qy4 n r _ h.d,z7];by_cases h0:(cmdS n c.1 r).2=0
  ·rw[dec_t h0,if_pos h0,zg,zb];simp only;rw[wi (by omega)]; rfl
  ·rw[dec_f h0,if_neg h0]; rfl
 rw[if_neg k2,if_neg k2];by_cases k3:r.1=3
 ·rw[if_pos k3,if_pos k3];unfold capp3;by_cases h1:c.2.2.2=1000
  ·rw[dec_t h1,if_pos h1]; rfl
  rw[dec_f h1,if_neg h1];simp only[zY2,zg,zb,zz2,z7,show decide ((3:Nat)=1)=false from rfl,show decide ((3:Nat)=2)=false from rfl,show decide ((3:Nat)=3)=true from rfl,za]
  rw[post_eq' n r _ _ _ _ _ _ h.a,z7];by_cases h0:(postS c.2.2.1 r).2=0
  ·rw[dec_t h0,if_pos h0,zg,zb];simp only;rw[wi (by omega)]; rfl
  ·rw[dec_f h0,if_neg h0]; rfl
 rw[if_neg k3,if_neg k3];by_cases h1:c.2.2.2=1000
 ·rw[dec_t h1,if_pos h1]; rfl
 ·rw[dec_f h1,if_neg h1]; rfl
/-! ### The idle desk of the document -/
theorem qCJ{n:Net}{t:Int}(h0:qbi n=0)(hp:n.2.1.length+n.2.2.1.length<=1000/\n.2.2.2.1.length<=1000)(ht:1<=t/\t<=60):
  qm1 n t=some ((List.replicate (n.2.1.length+n.2.2.1.length) (t,0,false,false),List.replicate n.2.1.length 0,List.replicate n.2.2.1.length 0,List.replicate n.2.2.2.1.length false),0):=by
 unfold qm1;rw[qba,qiO,z7,dec_t h0,zg,zb,dec_f (show ¬t<1 by omega),dec_f (show ¬60<t by omega)]
 simp only[zb,z7];rw[gd_t (qhl (by omega)),gd_t (qhl (by omega)),gd_t (qhl (by omega))]
 simp only[z9];generalize List.replicate n.2.1.length (0:Int)=A;generalize List.replicate n.2.2.1.length (0:Int)=B;generalize List.replicate n.2.2.2.1.length false=C;have k1:=qbl (step:=fun x:Int×List Vl×List Int×List Int×List Bool=>qh0 n t x.1 x.2.1 x.2.2.1 x.2.2.2.1 x.2.2.2.2) (n.2.1.length+n.2.2.1.length)
  (fun i=>((i:Int),List.replicate i (t,0,false,false),A,B,C)) (e:=(List.replicate (n.2.1.length+n.2.2.1.length) (t,0,false,false),A,B,C)) (fun i hi=>by
   unfold qh0 qdm;simp only[z7];rw[wi (by omega),dec_t (by omega),za,gd_t (qav (by rw[zq2]; omega)),w1 hi (by omega),List.replicate_succ' (n:=i)]) (by
   unfold qh0 qdm;simp only[z7];rw[wi (by omega),dec_f (by omega),zb])
 refine(congrArg (fun o=>Option.bind o _) k1).trans ?_
 rfl
theorem qtD{a b c:Tel}(h:befT a b=true)(h':befT b c=true):befT a c=true:=by
 rw[qCF] at h h' ⊢;omega
structure Put(l:List Tel)(t:Tel)(l':List Tel):Prop where
 srt:SortT l'
 mem:t∈l'
 frm:∀x∈l',x=t\/x∈l/\x.1≠t.1
 kep:∀x∈l,x.1≠t.1->x∈l'
 bef:∀x∈l,x.1=t.1->befT x t=true
 len:l'.length<=l.length+1
theorem qpN:∀ {l:List Tel} {t:Tel} {l':List Tel},SortT l->putT l t=some l'->Put l t l'
 | [],t,l',_,h=>by
  cases h
  exact⟨by unfold SortT; simp,by simp,fun x hx=>.inl (by simpa using hx),fun x hx=>(by cases hx),fun x hx=>(by cases hx),by simp⟩
 | x::r,t,l',hs,h=>by
  unfold putT at h;have hs':=z32.1 hs;by_cases h1:x.1<t.1
  ·rw[if_pos h1] at h;obtain⟨r',hr,rfl⟩:=zc1.1 h;have ih:=qpN hs'.2 hr;refine⟨z32.2 ⟨fun y hy=>?_,ih.srt⟩,zR _ ih.mem,fun y hy=>?_,fun y hy hn=>?_,fun y hy he=>?_,by have:=ih.len; simp; omega⟩
   ·rcases ih.frm y hy with rfl | ⟨h2,_⟩
    ·exact h1
    ·exact hs'.1 y h2
   ·rcases zr.1 hy with rfl | hy
    ·exact .inr ⟨zo2,by omega⟩
    ·exact(ih.frm y hy).imp id fun h=>⟨zR _ h.1,h.2⟩
   ·rcases zr.1 hy with rfl | hy
    ·exact zo2
    ·exact zR _ (ih.kep y hy hn)
   ·rcases zr.1 hy with rfl | hy
    ·omega
    ·exact ih.bef y hy he
  ·rw[if_neg h1] at h;by_cases h2:x.1=t.1
   ·rw[if_pos h2] at h;cases hb:befT x t with
    | false=>rw[hb] at h; cases h
    | true=>
     rw[hb] at h;cases h
     refine⟨z32.2 ⟨fun y hy=>by have:=hs'.1 y hy; omega,hs'.2⟩,zo2,fun y hy=>?_,fun y hy hn=>?_,fun y hy he=>?_,by simp⟩
     ·rcases zr.1 hy with rfl | hy
      ·exact .inl rfl
      ·exact .inr ⟨zR _ hy,by have:=hs'.1 y hy; omega⟩
     ·rcases zr.1 hy with rfl | hy
      ·exact absurd h2 hn
      ·exact zR _ hy
     ·rcases zr.1 hy with rfl | hy
      ·exact hb
      ·have:=hs'.1 y hy; omega
   ·rw[if_neg h2] at h;cases h
    refine⟨z32.2 ⟨fun y hy=>?_,hs⟩,zo2,fun y hy=>?_,fun y hy hn=>zR _ hy,fun y hy he=>?_,by simp⟩
    ·rcases zr.1 hy with rfl | hy
     ·omega
     ·have:=hs'.1 y hy; omega
    ·rcases zr.1 hy with rfl | hy
     ·exact .inl rfl
     ·refine .inr ⟨hy,?_⟩
      rcases zr.1 hy with rfl | hy
      ·exact h2
      ·have:=hs'.1 y hy; omega
    ·rcases zr.1 hy with rfl | hy
     ·exact absurd he h2
     ·have:=hs'.1 y hy; omega
theorem qvZ:∀ {l:List Tel} {t:Tel},putT l t=none->∃x∈l,x.1=t.1/\befT x t=false
 | [],t,h=>by cases h
 | x::r,t,h=>by
  unfold putT at h;by_cases h1:x.1<t.1
  ·rw[if_pos h1] at h;obtain⟨y,hy,h2⟩:=qvZ (Option.map_eq_none_iff.1 h);exact⟨y,zR _ hy,h2⟩
  ·rw[if_neg h1] at h;by_cases h2:x.1=t.1
   ·rw[if_pos h2] at h;cases hb:befT x t with
    | false=>exact⟨x,zo2,h2,hb⟩
    | true=>rw[hb] at h; cases h
   ·rw[if_neg h2] at h; cases h
structure Lst(all l:List Tel):Prop where
 srt:SortT l
 up:∀o∈all,∃x∈l,x.1=o.1/\(x=o\/befT o x=true)
 frm:∀x∈l,x∈all
def nwB(all:List Tel)(t:Tel):Bool:=all.all fun o=>!decide (o.1=t.1) || befT o t
theorem Lst.new{all l:List Tel}(h:Lst all l){t:Tel}:nwB all t=(putT l t).isSome:=by
 unfold nwB;cases hp:putT l t with
 | none=>
  obtain⟨x,hx,h1,h2⟩:=qvZ hp;refine zK.2 fun he=>?_
  have:=zm.1 he x (h.frm x hx);rw[z41 h1,h2] at this;cases this
 | some l'=>
  refine zm.2 fun o ho=>?_
  by_cases h1:o.1=t.1
  ·obtain⟨x,hx,h2,h3⟩:=h.up o ho;have h4:=(qpN h.srt hp).bef x hx (by omega)
   rw[show befT o t=true from h3.elim (fun e=>e ▸ h4) (fun h3=>qtD h3 h4),Bool.or_true]
  ·rw[zH2 h1]; rfl
theorem Lst.put{all l l':List Tel}(h:Lst all l){t:Tel}(hp:putT l t=some l'):Lst (all++[t]) l':=by
 have hq:=qpN h.srt hp;refine⟨hq.srt,fun o ho=>?_,fun x hx=>?_⟩
 ·rcases zA.1 ho with ho | ho
  ·obtain⟨x,hx,h2,h3⟩:=h.up o ho;by_cases h1:x.1=t.1
   ·have h4:=hq.bef x hx h1;exact⟨t,hq.mem,by omega,.inr (h3.elim (fun e=>e ▸ h4) fun h3=>qtD h3 h4)⟩
   ·exact⟨x,hq.kep x hx h1,h2,h3⟩
  ·rw[zO.1 ho]; exact⟨t,hq.mem,rfl,.inl rfl⟩
 ·rcases hq.frm x hx with rfl | ⟨h1,_⟩
  ·simp
  ·exact List.mem_append_left _ (h.frm x h1)
theorem qEm:∀v∈[(0:Int),(-1),62,63,(-63),(-62),9007199254740992,(-9007199254740992),126,1000],rv v=true:=by decide
theorem qFe{st:Int}(h0:0<=st/\st<=255){s:List Int}{q:Int}(h:SrcOk s q):Ok (qeo st s q) fun z=>SrcOk z.2.1 z.2.2/\z.1.1=st/\qlv z.1=true/\z.1.2.2.2.2.2.length<=3:=by
 unfold qeo;refine Ok.bind (sN h (n:=3) (by omega) (by omega)) fun r hr=>?_
 refine Ok.bind (sN hr.1 (n:=6) (by omega) (by omega)) fun r2 hr2=>?_
 refine Ok.bind (sP hr2.1 (by simp) (by simp)) fun r3 hr3=>?_
 refine Ok.bind (sN hr3.1 (n:=64) (by omega) (by omega)) fun r4 hr4=>?_
 refine Ok.bind (sN hr4.1 (n:=4) (by omega) (by omega)) fun r5 hr5=>?_
 have h3:=hr3.2;simp only[zr,zC2,or_false] at h3;refine Ok.bind (Q:=fun z:List Int×Int×List Int=>SrcOk z.1 z.2.1/\z.2.2.length<=3/\z.2.2.all rv=true) ?_ fun z hz=>?_
 ·refine Ok.loop (fun x:Int×List Int×Int×List Int=>0<=x.1/\x.1+x.2.2.2.length<=3/\SrcOk x.2.1 x.2.2.1/\x.2.2.2.all rv=true) (fun x=>x.1.toNat) ⟨hr5.2.1,by simp; omega,hr5.1,rfl⟩ ?_
  rintro⟨i,s',q',t⟩ ⟨h1,h2,h4,h5⟩
  simp only at h1 h2 h4 h5;show Ok (qex i s' q' t) _;unfold qex;refine Ok.bif (fun hc=>?_) fun hc=>.ret ⟨h4,by simp only; omega,h5⟩
  have hc:=zj hc;refine Ok.bind (sP h4 (by simp) (by simp)) fun r6 hr6=>?_
  refine Ok.gd (qav (by omega)) (.ret ?_)
  rw[wi (by omega)]
  refine⟨⟨by simp only; omega,by simp only[zd,zE]; omega,hr6.1,?_⟩,by simp only; omega⟩
  simp only[List.all_append,h5,z31,List.all_nil,qEm _ hr6.2,Bool.and_self]
 ·refine .ret ⟨hz.1,rfl,?_,hz.2.1⟩
  unfold qlv;simp only;rw[rg_t h0,rg_t ⟨hr.2.1,by omega⟩,rg_t ⟨hr2.2.1,by omega⟩,rg_t (lo:=0) (hi:=1099511627776) (by omega),rg_t ⟨hr4.2.1,by omega⟩,hz.2.2,dec_t (show z.2.2.length<=16 by omega)]; rfl
structure RepI(c:Cn)(all:List Tel)(k:Nat):Prop where
 d:DkS c.1
 a:c.2.2.1=[]
 n:c.2.2.2=(all.length:Int)
 l:all.length<=k
 m:c.2.1.length<=k
 tv:∀x∈c.2.1,x.2.2.2.2.2.length<=100000
 lst:Lst all c.2.1
theorem RepI.cns{c:Cn}{all:List Tel}{k:Nat}(h:RepI c all k)(hk:k<=100):CnS c:=⟨h.d,by have:=h.m; omega,h.tv,by rw[h.a]; simp⟩
structure RecP(r:Rec):Prop where
 v:r.2.1.length<=100
 h:r.2.2.1.2.2.2.2.2.1.length<=100
theorem qEn{s:List Int}{q:Int}(h:SrcOk s q):Ok (qh1 ([[97],[98,111],[99,51],[100,101,108,116,97],[101]]:List (List UInt8)) s q) fun z=>SrcOk z.2.1 z.2.2:=by
 unfold qh1;refine Ok.bind (sN h (by simp) (by simp)) fun r hr=>?_
 exact Ok.gd (qae.2 ⟨hr.2.1,hr.2.2⟩) (.ret hr.1)
theorem qEo{s:List Int}{q:Int}(h:SrcOk s q):Ok (qgH 2 s q) fun z=>SrcOk z.1 z.2.1/\z.2.2.length<=2:=by
 unfold qgH;rw[wi (by omega)]
 refine Ok.bind (sN h (n:=2+1) (by omega) (by omega)) fun r hr=>?_
 refine Ok.bind (Q:=fun z:List Int×Int×List Ent3=>SrcOk z.1 z.2.1/\z.2.2.length<=2) ?_ fun z hz=>.ret hz
 refine Ok.loop (fun x:Int×List Int×Int×List Ent3=>0<=x.1/\x.1+x.2.2.2.length<=2/\SrcOk x.2.1 x.2.2.1) (fun x=>x.1.toNat) ⟨hr.2.1,by simp; omega,hr.1⟩ ?_
 rintro⟨i,s',q',t⟩ ⟨h1,h2,h4⟩
 simp only at h1 h2 h4;show Ok (qgq i s' q' t) _;unfold qgq;refine Ok.bif (fun hc=>?_) fun hc=>.ret ⟨h4,by simp only; omega⟩
 have hc:=zj hc;refine Ok.bind (qEn h4) fun r2 h5=>?_
 refine Ok.bind (sN h5 (n:=4) (by omega) (by omega)) fun r3 h6=>?_
 refine Ok.bind (sN h6.1 (n:=1000) (by omega) (by omega)) fun r4 h7=>?_
 refine Ok.bind (sP h7.1 (by simp) (by simp)) fun r5 h8=>?_
 refine Ok.bind (Q:=fun z:Bool×List Int×Int×List Ent3=>SrcOk z.2.1 z.2.2.1/\z.2.2.2=t) ?_ ?_
 ·exact Ok.bif (fun _=>Ok.bind (sN h8.1 (n:=2) (by omega) (by omega)) fun r6 h9=>.ret ⟨h9.1,rfl⟩) fun _=>.ret ⟨h8.1,rfl⟩
 rintro⟨b,s5,q5,t5⟩ ⟨h9,h10⟩
 have h10:t5=t:=h10;subst h10;simp only at h9;refine Ok.bind (Q:=fun z:Int×List Ent3=>z.2=t5) (Ok.bif (fun _=>.ret rfl) fun _=>.ret rfl) ?_
 rintro⟨v,t6⟩ h11
 have h11:t6=t5:=h11;subst h11;refine Ok.gd (qav (by simp only; omega)) (.ret ?_)
 rw[wi (by omega)]
 exact⟨⟨by simp only; omega,by simp only[zd,zE]; omega,h9⟩,by simp only; omega⟩
theorem qDw{n:Net}(hn:GN n){c:Cn}(hd:c.1.1.length<=100000){s:List Int}{q:Int}(h:SrcOk s q):Ok (qf9 n c s q) fun z=>SrcOk z.2.1 z.2.2/\RecP z.1:=by
 unfold qf9;refine Ok.bind (sN h (n:=4) (by omega) (by omega)) fun r hr=>?_
 refine Ok.bif (fun _=>?_) fun _=>Ok.bif (fun _=>?_) fun _=>?_
 ·refine Ok.bind (sN hr.1 (n:=4) (by omega) (by omega)) fun r2 h2=>?_
  refine Ok.bind (qFe ⟨h2.2.1,by omega⟩ h2.1) fun r3 h3=>?_
  have:=h3.2.2.2;exact Ok.gd (qav (by omega)) (.ret ⟨h3.1,⟨by simp; omega,by simp⟩⟩)
 ·refine Ok.bind (qEo hr.1) fun r4 h4=>?_
  refine Ok.bif (fun _=>Ok.bind (sN h4.1 (n:=5) (by omega) (by omega)) fun r5 h5=>.ret ⟨h5.1,⟨by simp,by simp⟩⟩) fun hc=>?_
  have hc:=zQ hc;exact Ok.gd (qae.2 ⟨by omega,by omega⟩) (.ret ⟨h4.1,⟨by simp,by simp⟩⟩)
 ·rw[qba,show((c.1.1,c.1.2.1,c.1.2.2.1,c.1.2.2.2):Dk)=c.1 from rfl]
  exact Ok.bind (qCE hn hd hr.1) fun r6 h6=>.ret ⟨h6.1,⟨by simp,h6.2⟩⟩
/-! ### What a state is, and what a record makes of it -/
structure CnI(n:Net)(c:Cn)(k:Nat):Prop where
 d:DkN n c.1
 t:c.2.1.length<=k
 tv:∀x∈c.2.1,x.2.2.2.2.2.length<=100000
 srt:SortT c.2.1
 a:c.2.2.1.length<=k
 n0:0<=c.2.2.2
 n1:c.2.2.2<=k
theorem CnI.cns{n:Net}(hn:GN n){c:Cn}{k:Nat}(h:CnI n c k)(hk:k<=10000):CnS c:=⟨h.d.small hn,by have:=h.t; omega,h.tv,by have:=h.a; omega⟩
theorem CnI.up{n:Net}{c:Cn}{k:Nat}(h:CnI n c k):CnI n c (k+1):=⟨h.d,zD1 h.t,h.tv,h.srt,zD1 h.a,h.n0,by have:=h.n1; omega⟩
theorem qsH{n:Net}{c:Cn}{r:Rec}{k:Nat}(hi:CnI n c k)(hk:k<=10000)(hr:RecP r)(h:(capp n c r).2=0):CnI n (capp n c r).1 (k+1)/\(capp n c r).1.2.2.2=c.2.2.2+1∧
  (if r.1=2 then appS n c.1 r.2.2.1=((capp n c r).1.1,0) else(capp n c r).1.1=c.1)/\(if r.1=3 then Ac.postF c.2.2.1 r.2.2.2=((capp n c r).1.2.2.1,0) else(capp n c r).1.2.2.1=c.2.2.1):=by
 have hn0:=hi.n0; have hn1:=hi.n1;unfold capp at h ⊢;by_cases k1:r.1=1
 ·rw[if_pos k1] at h ⊢;rw[if_neg (by omega),if_neg (by omega)]
  unfold capp1 at h ⊢;by_cases h1:c.2.2.2=1000
  ·rw[if_pos h1] at h; cases h
  rw[if_neg h1] at h ⊢;by_cases h2:(accS c.2.1 r).2=0
  ·rw[if_pos h2];refine⟨?_,rfl,rfl,rfl⟩
   unfold accS at h2 ⊢;by_cases h3:r.2.1.length<5\/noB r.2.2.1=false\/noE r.2.2.2=false\/qlv (telOf r.2.1)=false
   ·rw[if_pos h3] at h2; cases h2
   rw[if_neg h3] at h2 ⊢;cases hp:putT c.2.1 (telOf r.2.1) with
   | none=>rw[hp] at h2; cases h2
   | some l'=>
    have hq:=qpN hi.srt hp;refine⟨hi.d,zF hq.len (by have:=hi.t; omega),fun x hx=>?_,hq.srt,zD1 hi.a,by simp only; omega,by simp only; omega⟩
    rcases hq.frm x hx with rfl | ⟨hx,_⟩
    ·have:=hr.v; show(List.drop 5 _).length<=_; simp; omega
    ·exact hi.tv x hx
  ·rw[if_neg h2] at h; exact absurd h h2
 rw[if_neg k1] at h ⊢;by_cases k2:r.1=2
 ·rw[if_pos k2] at h ⊢;rw[if_pos k2,if_neg (by omega)]
  unfold capp2 at h ⊢;by_cases h1:c.2.2.2=1000
  ·rw[if_pos h1] at h; cases h
  rw[if_neg h1] at h ⊢;by_cases h2:(cmdS n c.1 r).2=0
  ·rw[if_pos h2];unfold cmdS at h2 ⊢;by_cases h3:0<r.2.1.length\/noE r.2.2.2=false
   ·rw[if_pos h3] at h2; cases h2
   rw[if_neg h3] at h2 ⊢;exact⟨⟨hi.d.ln (qE4 _ _),zD1 hi.t,hi.tv,hi.srt,zD1 hi.a,by simp only; omega,by simp only; omega⟩,rfl,Prod.ext rfl h2,rfl⟩
  ·rw[if_neg h2] at h; exact absurd h h2
 rw[if_neg k2] at h ⊢;rw[if_neg k2];by_cases k3:r.1=3
 ·rw[if_pos k3] at h ⊢;rw[if_pos k3];unfold capp3 at h ⊢;by_cases h1:c.2.2.2=1000
  ·rw[if_pos h1] at h; cases h
  rw[if_neg h1] at h ⊢;by_cases h2:(postS c.2.2.1 r).2=0
  ·rw[if_pos h2];unfold postS at h2 ⊢;by_cases h3:0<r.2.1.length\/noB r.2.2.1=false
   ·rw[if_pos h3] at h2; cases h2
   rw[if_neg h3] at h2 ⊢;have ha:=hi.a;exact⟨⟨hi.d,zD1 hi.t,hi.tv,hi.srt,zF (Ac.post_len (by omega)) (by omega),by simp only; omega,by simp only; omega⟩,rfl,rfl,Prod.ext rfl h2⟩
  ·rw[if_neg h2] at h; exact absurd h h2
 ·rw[if_neg k3] at h;exfalso;revert h;simp only;split <;> simp
theorem qv0{n:Net}(s:Stp):∀(l:List Stp) (d:Dk) (i:Int) {d' d'':Dk} {j:Int},runL n d i l=(d',j,0)->appS n d' s=(d'',0)->runL n d i (l++[s])=(d'',j+1,0)
 | [],d,i,d',d'',j,h,h2=>by
  rw[runL] at h;injection h with e1 e2; injection e2 with e2 _; subst e1 e2
  show runL n d i [s]=_;unfold runL;rw[h2,if_neg (by simp)]; rfl
 | x::l,d,i,d',d'',j,h,h2=>by
  show runL n d i (x::(l++[s]))=_;unfold runL at h ⊢;by_cases hc:(appS n d x).2≠0
  ·rw[if_pos hc] at h;injection h with _ h; injection h with _ h; exact absurd h hc
  ·rw[if_neg hc] at h ⊢;exact qv0 s l _ _ h h2
theorem qtE(e:Ent3):∀(l:List Ent3) (a:List Acc4) {a' a'':List Acc4},Ac.bookF l a=(a',0)->Ac.postF a' e=(a'',0)->Ac.bookF (l++[e]) a=(a'',0)
 | [],a,a',a'',h,h2=>by
  rw[Ac.bookF] at h;injection h with e1; subst e1
  show Ac.bookF [e] a=_;unfold Ac.bookF;rw[h2,if_pos rfl]; rfl
 | x::l,a,a',a'',h,h2=>by
  show Ac.bookF (x::(l++[e])) a=_;unfold Ac.bookF at h ⊢;by_cases hc:(Ac.postF a x).2=0
  ·rw[if_pos hc] at h ⊢;exact qtE e l _ h h2
  ·rw[if_neg hc] at h;injection h with _ h; exact absurd h hc
structure FolI(n:Net)(d0:Dk)(c:Cn)(steps:List Stp)(ents:List Ent3)(k:Nat):Prop where
 ci:CnI n c k
 sl:steps.length<=k
 el:ents.length<=k
 sh:∀s∈steps,s.2.2.2.2.2.1.length<=100000
 run:runL n d0 0 steps=(c.1,(steps.length:Int),0)
 book:Ac.bookF ents []=(c.2.2.1,0)
theorem FolI.up{n:Net}{d0:Dk}{c:Cn}{steps:List Stp}{ents:List Ent3}{k:Nat}(h:FolI n d0 c steps ents k):FolI n d0 c steps ents (k+1):=⟨h.ci.up,zD1 h.sl,zD1 h.el,h.sh,h.run,h.book⟩
theorem FolI.put{n:Net}{d0:Dk}{c:Cn}{steps:List Stp}{ents:List Ent3}{k:Nat}(h:FolI n d0 c steps ents k)(hk:k<=100){r:Rec}(hr:RecP r)(h0:(capp n c r).2=0):
  FolI n d0 (capp n c r).1 (if r.1=2 then steps++[r.2.2.1] else steps) (if r.1=3 then ents++[r.2.2.2] else ents) (k+1):=by
 obtain⟨h1,h2,h3,h4⟩:=qsH h.ci (by omega) hr h0
 have hsl:=h.sl; have hel:=h.el;refine⟨h1,?_,?_,fun s hs=>?_,?_,?_⟩
 ·split <;> (try rw[zd,zE]) <;> omega
 ·split <;> (try rw[zd,zE]) <;> omega
 ·split at hs
  ·rcases zA.1 hs with hs | hs
   ·exact h.sh s hs
   ·rw[zO.1 hs]; have:=hr.h; omega
  ·exact h.sh s hs
 ·by_cases k2:r.1=2
  ·rw[if_pos k2] at h3 ⊢;have:=qv0 r.2.2.1 steps d0 0 h.run h3;rw[this,zd]; rfl
  ·rw[if_neg k2] at h3 ⊢;rw[h3]; exact h.run
 ·by_cases k3:r.1=3
  ·rw[if_pos k3] at h4 ⊢;exact qtE r.2.2.2 ents [] h.book h4
  ·rw[if_neg k3] at h4 ⊢;rw[h4]; exact h.book
theorem qy5(a b:Tel):qjd a b=some (befT a b):=qvW a b
theorem qEp(n m:Int):qkJ n m=some (rg 0 m n):=tv1 n m
theorem qy6(t:Tel)(h:t.2.2.2.2.2.length<=100000):qiI t=some (qlv t):=by
 have k:=qbt (ε:=Unit⊕Bool) (step:=fun x=>qeQ t x) t.2.2.2.2.2.length (fun i=>(i:Int)) (fun i=>rv (t.2.2.2.2.2.getD i 0)) (fin:=.inl ()) (bad:=.inr false) (fun i hi _ hq=>?_) (fun i hi _ hq=>?_) (fun _=>?_)
 ·have hall:(List.range t.2.2.2.2.2.length).all (fun i=>rv (t.2.2.2.2.2.getD i 0))=t.2.2.2.2.2.all rv:=qsw t.2.2.2.2.2 0 rv
  rw[hall] at k;unfold qiI;refine(congrArg (fun o=>Option.bind o _) k).trans ?_
  unfold qlv;cases ha:t.2.2.2.2.2.all rv with
  | false=>simp
  | true=>
   simp only[za,z7,zb1,qEp,zu2];have hd:decide ((t.2.2.2.2.2.length:Int)<=16)=decide (t.2.2.2.2.2.length<=16):=by
    by_cases h:t.2.2.2.2.2.length<=16
    ·rw[dec_t h,dec_t (by omega)]
    ·rw[dec_f h,dec_f (by omega)]
   rw[hd];generalize decide (t.2.2.2.2.2.length<=16)=e;cases rg 0 255 t.1 <;> cases rg 0 255 t.2.1 <;> cases rg 0 2147483648 t.2.2.1 <;> cases rg 0 1099511627776 t.2.2.2.1 <;> cases rg 0 63 t.2.2.2.2.1 <;> cases e <;> rfl
 ·unfold qeQ;have hq:=(tv2 (t.2.2.2.2.2.getD i 0)).symm;rename_i hq0;rw[hq0] at hq;unfold qbz at hq;simp only[z9];rw[dec_t (show(i:Int)<(t.2.2.2.2.2.length:Int) by omega),za,gd_t (inB_t hi),gd_t (inB_t hi),<-hq,z7]
  simp only[zg,zb];rw[w1 hi (by omega)]
 ·unfold qeQ;have hq:=(tv2 (t.2.2.2.2.2.getD i 0)).symm;rename_i hq0;rw[hq0] at hq;unfold qbz at hq;simp only[z9];rw[dec_t (show(i:Int)<(t.2.2.2.2.2.length:Int) by omega),za,gd_t (inB_t hi),gd_t (inB_t hi),<-hq,z7]; rfl
 ·unfold qeQ;rw[dec_f (show ¬(t.2.2.2.2.2.length:Int)<(t.2.2.2.2.2.length:Int) by omega)]; rfl
theorem qy7{l:List Tel}(hs:SortT l)(hn:l.length<=10000)(t:Tel):qhe t l=some ((putT l t).isSome,(putT l t).getD []):=by
 have key:∃s,iter (fun x:Int×List Tel=>qiJ t x.1 x.2) (0,l)=some s/\∃k:Nat,s=((k:Int),l)/\LbT l t.1 k:=by
  refine qq5 (fun x=>∃k:Nat,x=((k:Int),l)/\k<=l.length/\∀j,j<k->(l.getD j t0).1<t.1) (fun x=>((l.length:Int)-x.1).toNat) _ ?_ ⟨0,rfl,by omega,fun j hj=>by omega⟩
  rintro _ ⟨k,rfl,h1,h2⟩
  unfold qiJ;simp only[z9];by_cases hk:k<l.length
  ·rw[dec_t (show(k:Int)<(l.length:Int) by omega),za,gd_t (inB_t hk),z7]
   by_cases hc:(l.getD k t0).1<t.1
   ·right;rw[dec_t (show(l.getD k (0,0,0,0,0,[])).1<t.1 from hc)]
    simp only[za];rw[w1 hk (by omega)]
    refine⟨_,rfl,⟨k+1,rfl,by omega,fun j hj=>?_⟩,by simp only; omega⟩
    by_cases e:j=k
    ·rw[e]; exact hc
    ·exact h2 j (by omega)
   ·left;rw[dec_f (show ¬(l.getD k (0,0,0,0,0,[])).1<t.1 from hc)]
    refine⟨_,rfl,k,rfl,h1,h2,fun j hj hjl=>?_⟩
    by_cases e:j=k
    ·rw[e]; omega
    ·have:=gDp hs (i:=k) (j:=j) (by omega) hjl; omega
  ·left;rw[dec_f (show ¬(k:Int)<(l.length:Int) by omega)]
   exact⟨_,rfl,k,rfl,h1,h2,fun j hj hjl=>by omega⟩
 obtain⟨_,q1,k,rfl,hk⟩:=key;have hkl:=hk.le;unfold qhe;rw[q1,qxa hk];simp only[z7,z9,zC];have tail:∀(c:Bool),c=false->(bif c then(gd (inB (k:Int) l.length)<|(qjd (l.getD k (0,0,0,0,0,[])) t).bind fun r=>bif !r then some (false,[]) else gd (inB (k:Int) l.length)<|some (true,l.set k t)) else(gd (cutG none (some (.i64,(k:Int))) l.length)<|gd (fits (0+(l.take k).length) 64)<|gd (fits ((l.take k).length+1) 64)<|gd (cutG (some (.i64,(k:Int))) none l.length)<|gd (fits ((l.take k++[t]).length+(l.drop k).length) 64)<|some (true,l.take k++[t]++l.drop k)))=some (true,l.take k++[t]++l.drop k):=by
  intro c hc;subst hc;rw[zb,gd_t (by unfold cutG; simp; omega),gd_t (qav (by rw[zo]; omega)),gd_t (qav (by rw[zo]; omega)),gd_t (by unfold cutG; simp; omega),gd_t (qav (by simp only[zd,zo,zU,zf,zx]; omega))]
 by_cases hl:k<l.length
 ·rw[dec_t (show(k:Int)<(l.length:Int) by omega),za,gd_t (inB_t hl),z7]
  by_cases he:(l.getD k t0).1=t.1
  ·rw[if_pos ⟨hl,he⟩,dec_t (show(l.getD k (0,0,0,0,0,[])).1=t.1 from he)]
   simp only[za];rw[gd_t (inB_t hl),qy5,z7];cases hb:befT (l.getD k t0) t with
   | true=>
    simp only[zg,zb];rw[gd_t (inB_t hl)]; rfl
   | false=>
    rfl
  ·rw[if_neg (fun h=>he h.2)]
   exact tail _ (dec_f (show ¬(l.getD k (0,0,0,0,0,[])).1=t.1 from he))
 ·rw[dec_f (show ¬(k:Int)<(l.length:Int) by omega),if_neg (fun h=>hl h.1)]
  exact tail _ rfl
theorem qCK(t:Tel)(h:t.2.2.2.2.2.length<=100000):qdL t=some t:=by
 unfold qdL;rw[gd_t (qav (by omega)),zC]
theorem qA9{c:Cn}(h:CnS c):qm4 c=some (c.2.2.2,c.1.1,c.1.2.1,c.1.2.2.1,c.1.2.2.2,c.2.1,c.2.2.1):=by
 unfold qm4;rw[show((c.1.1,c.1.2.1,c.1.2.2.1,c.1.2.2.2):Dk)=c.1 from rfl,qpJ h.d,z7,gd_t (qav (by have:=h.a; omega)),zC]
 have k1:=qbl (step:=fun x:Int×List Vl×List Int×List Int×List Bool×List Tel×List Acc4=>qh3 c x.1 x.2.1 x.2.2.1 x.2.2.2.1 x.2.2.2.2.1 x.2.2.2.2.2.1 x.2.2.2.2.2.2) (e:=(c.1.1,c.1.2.1,c.1.2.2.1,c.1.2.2.2,c.2.1,c.2.2.1)) c.2.1.length
  (fun i=>((i:Int),c.1.1,c.1.2.1,c.1.2.2.1,c.1.2.2.2,c.2.1.take i,c.2.2.1)) (fun i hi=>by
   have ht:=h.t;unfold qh3;simp only[z9];rw[dec_t (show(i:Int)<(c.2.1.length:Int) by omega),za,gd_t (inB_t hi),qCK _ (h.tv _ (gmem (d:=t0) hi)),z7,gd_t (qav (by rw[zo]; omega)),w1 hi (by omega)]
   rw[zB2 hi,<-gD_eq (d:=t0) hi]) (by
   unfold qh3;simp only;rw[dec_f (show ¬(c.2.1.length:Int)<(c.2.1.length:Int) by omega),zb,z02])
 refine(congrArg (fun o=>Option.bind o _) k1).trans ?_
 rfl
theorem ralike0(p:Pth):qiH p (0,0,[],0)=some (decide (p.1=0)&&(decide (p.2.1=0)&&decide (p.2.2.1.length=0))):=by
 unfold qiH;simp only;by_cases h1:p.1=0
 ·rw[dec_t h1];by_cases h2:p.2.1=0
  ·rw[dec_t h2];by_cases h3:p.2.2.1.length=0
   ·rw[dec_t h3,dec_t (show(p.2.2.1.length:Int)=(([]:List (Int×Bool)).length:Int) by rw[h3]; rfl)]
    simp only[zg,zb,z7];have k:iter (fun x=>qjs p (0,0,[],0) x) 0=some (.inl ()):=qaS (by
     unfold qjs;rw[dec_f (show ¬(0:Int)<(p.2.2.1.length:Int) by omega)]; rfl)
    rw[k]; rfl
   ·rw[dec_f h3,dec_f (show ¬(p.2.2.1.length:Int)=(([]:List (Int×Bool)).length:Int) by simp; exact fun e=>h3 (by rw[e]; rfl))]; rfl
  ·rw[dec_f h2]; rfl
 ·rw[dec_f h1]; rfl
theorem qqi(s:Stp):qfz s=some (noB s):=by
 unfold qfz qcm noB;simp only;have ha:qiH (s.2.2.2.1,s.2.2.2.2.1,s.2.2.2.2.2.1,s.2.2.2.2.2.2) (0,0,[],0)=some (decide (s.2.2.2.1=0)&&(decide (s.2.2.2.2.1=0)&&decide (s.2.2.2.2.2.1.length=0))):=ralike0 s.2.2.2;simp only[ha];have e:∀(a b c d i o h:Bool),((bif a then bif b then bif c then bif d then(some (i&&(o&&h)):Option Bool).bind fun r=>some r else some false else some false else some false else some false).bind fun r=>some r)=some (a&&(b&&(c&&(i&&(o&&(d&&h)))))):=by
  intro a b c d i o h;cases a <;> cases b <;> cases c <;> cases d <;> cases i <;> cases o <;> cases h <;> rfl
 exact e _ _ _ _ _ _ _
theorem qy8(n:Net){c:Cn}(h:CnS c)(hs:SortT c.2.1)(hk:0<=c.2.2.2/\c.2.2.2<=100000)(r:Rec)(hv:r.2.1.length<=100000)(hh:r.2.2.1.2.2.2.2.2.1.length<=100000):qkR n c r=some (capp n c r):=by
 unfold qkR capp;have hc:(((c.1.1,c.1.2.1,c.1.2.2.1,c.1.2.2.2),c.2.1,c.2.2.1,c.2.2.2):Cn)=c:=rfl;have hst:((r.2.2.1.1,r.2.2.1.2.1,r.2.2.1.2.2.1,r.2.2.1.2.2.2.1,r.2.2.1.2.2.2.2.1,r.2.2.1.2.2.2.2.2.1,r.2.2.1.2.2.2.2.2.2):Stp)=r.2.2.1:=rfl;by_cases h0:c.2.2.2=1000
 ·rw[dec_t h0];simp only[za];unfold capp1 capp2 capp3;simp only[if_pos h0];split
  ·rfl
  ·split
   ·rfl
   ·split <;> rfl
 ·rw[dec_f h0];simp only[zb];rw[qA9 h];simp only[z7];have hw:wi64 (c.2.2.2+1)=c.2.2.2+1:=wi (by omega)
  by_cases h1:r.1=1
  ·rw[dec_t h1,if_pos h1];simp only[za];unfold capp1;rw[if_neg h0];have bad:accS c.2.1 r=(c.2.1,28)->(if(accS c.2.1 r).2=0 then((c.1,(accS c.2.1 r).1,c.2.2.1,c.2.2.2+1),(0:Int)) else(c,(accS c.2.1 r).2))=(c,28):=fun e=>by rw[e]; rfl
   by_cases l5:r.2.1.length<5
   ·rw[dec_t (show(r.2.1.length:Int)<5 by omega),bad (if_pos (.inl l5))]; rfl
   ·rw[dec_f (show ¬(r.2.1.length:Int)<5 by omega)]
    simp only[zb];rw[qqi];simp only[z7];have hnb:noB (r.2.2.1.1,r.2.2.1.2.1,r.2.2.1.2.2.1,r.2.2.1.2.2.2.1,r.2.2.1.2.2.2.2.1,r.2.2.1.2.2.2.2.2.1,r.2.2.1.2.2.2.2.2.2)=noB r.2.2.1:=rfl;rw[hnb];cases hb:noB r.2.2.1 with
    | false=>rw[bad (if_pos (.inr (.inl hb)))]; rfl
    | true=>
     simp only[zg,zb,z7];have hne:(decide (r.2.2.2.1=[])&&(decide (r.2.2.2.2.1=0)&&decide (r.2.2.2.2.2=0)))=noE r.2.2.2:=rfl;rw[hne];cases he:noE r.2.2.2 with
     | false=>rw[bad (if_pos (.inr (.inr (.inl he))))]; rfl
     | true=>
      simp only[zg,zb];rw[gd_t (qae.2 ⟨by omega,by omega⟩),gd_t (qae.2 ⟨by omega,by omega⟩),gd_t (qae.2 ⟨by omega,by omega⟩),gd_t (qae.2 ⟨by omega,by omega⟩),gd_t (qae.2 ⟨by omega,by omega⟩),gd_t (by unfold cutG; simp; omega),gd_t (qav (by rw[zU]; omega))]
      simp only[zC];have hvt:qiI (r.2.1.getD 0 0,r.2.1.getD 1 0,r.2.1.getD 2 0,r.2.1.getD 3 0,r.2.1.getD 4 0,r.2.1.drop 5)=some (qlv (telOf r.2.1)):=qy6 (telOf r.2.1) (by show(r.2.1.drop 5).length<=100000; rw[zU]; omega)
      rw[hvt];simp only[z7];cases hvd:qlv (telOf r.2.1) with
      | false=>rw[bad (if_pos (.inr (.inr (.inr hvd))))]; rfl
      | true=>
       simp only[zg,zb];have hsd:qhe (r.2.1.getD 0 0,r.2.1.getD 1 0,r.2.1.getD 2 0,r.2.1.getD 3 0,r.2.1.getD 4 0,r.2.1.drop 5) c.2.1=some ((putT c.2.1 (telOf r.2.1)).isSome,(putT c.2.1 (telOf r.2.1)).getD []):=qy7 hs h.t (telOf r.2.1);rw[hsd];have hno:¬(r.2.1.length<5\/noB r.2.2.1=false\/noE r.2.2.2=false\/qlv (telOf r.2.1)=false):=fun e=>by
        rcases e with e | e | e | e
        ·exact l5 e
        ·rw[hb] at e; cases e
        ·rw[he] at e; cases e
        ·rw[hvd] at e; cases e
       unfold accS;rw[if_neg hno];cases putT c.2.1 (telOf r.2.1) with
       | none=>rfl
       | some l'=>
        simp only[z7,zY2,zg,zb,hw]; rfl
  ·rw[dec_f h1,if_neg h1];simp only[zb];by_cases h2:r.1=2
   ·rw[dec_t h2,if_pos h2];simp only[za];unfold capp2;rw[if_neg h0];have bad:cmdS n c.1 r=(c.1,28)->(if(cmdS n c.1 r).2=0 then(((cmdS n c.1 r).1,c.2.1,c.2.2.1,c.2.2.2+1),(0:Int)) else(c,(cmdS n c.1 r).2))=(c,28):=fun e=>by rw[e]; rfl
    by_cases l0:0<r.2.1.length
    ·rw[dec_t (show 0<(r.2.1.length:Int) by omega),bad (if_pos (.inl l0))]; rfl
    ·rw[dec_f (show ¬0<(r.2.1.length:Int) by omega)]
     simp only[zb,z7];have hne:(decide (r.2.2.2.1=[])&&(decide (r.2.2.2.2.1=0)&&decide (r.2.2.2.2.2=0)))=noE r.2.2.2:=rfl;rw[hne];cases he:noE r.2.2.2 with
     | false=>rw[bad (if_pos (.inr he))]; rfl
     | true=>
      rw[show cmdS n c.1 r=appS n c.1 r.2.2.1 from if_neg (fun e=>e.elim l0 (fun e=>by rw[he] at e; cases e))]
      simp only[zg,zb];have ha:qiL (Y6 n) (c.1.1,c.1.2.1,c.1.2.2.1,c.1.2.2.2) (r.2.2.1.1,r.2.2.1.2.1,r.2.2.1.2.2.1,r.2.2.1.2.2.2.1,r.2.2.1.2.2.2.2.1,r.2.2.1.2.2.2.2.2.1,r.2.2.1.2.2.2.2.2.2)=some (appS n c.1 r.2.2.1):=qAV r.2.2.1 hh;rw[ha];simp only[z7];by_cases h3:(appS n c.1 r.2.2.1).2=0
      ·rw[dec_t h3,if_pos h3]; simp only[zg,zb,hw]
      ·rw[dec_f h3,if_neg h3]; rfl
   ·rw[dec_f h2,if_neg h2];simp only[zb];by_cases h3:r.1=3
    ·rw[dec_t h3,if_pos h3];simp only[za];unfold capp3;rw[if_neg h0];have bad:postS c.2.2.1 r=(c.2.2.1,28)->(if(postS c.2.2.1 r).2=0 then((c.1,c.2.1,(postS c.2.2.1 r).1,c.2.2.2+1),(0:Int)) else(c,(postS c.2.2.1 r).2))=(c,28):=fun e=>by rw[e]; rfl
     by_cases l0:0<r.2.1.length
     ·rw[dec_t (show 0<(r.2.1.length:Int) by omega),bad (if_pos (.inl l0))]; rfl
     ·rw[dec_f (show ¬0<(r.2.1.length:Int) by omega)]
      simp only[zb];rw[qqi];simp only[z7];have hnb:noB (r.2.2.1.1,r.2.2.1.2.1,r.2.2.1.2.2.1,r.2.2.1.2.2.2.1,r.2.2.1.2.2.2.2.1,r.2.2.1.2.2.2.2.2.1,r.2.2.1.2.2.2.2.2.2)=noB r.2.2.1:=rfl;rw[hnb];cases hb:noB r.2.2.1 with
      | false=>rw[bad (if_pos (.inr hb))]; rfl
      | true=>
       rw[show postS c.2.2.1 r=Ac.postF c.2.2.1 r.2.2.2 from if_neg (fun e=>e.elim l0 (fun e=>by rw[hb] at e; cases e))]
       simp only[zg,zb];have ha:qgt c.2.2.1 (r.2.2.2.1,r.2.2.2.2.1,r.2.2.2.2.2)=some (Ac.postF c.2.2.1 r.2.2.2):=(Ac.post_eq (l:=c.2.2.1) (e:=r.2.2.2) (by have:=h.a; omega)).2.1
       rw[ha];simp only[z7];by_cases h4:(Ac.postF c.2.2.1 r.2.2.2).2=0
       ·rw[dec_t h4,if_pos h4]; simp only[zg,zb,hw]
       ·rw[dec_f h4,if_neg h4]; rfl
    ·rw[dec_f h3,if_neg h3,if_neg h0]; rfl
structure CnG(c:Cn)(k:Nat):Prop where
 d:DkS c.1
 t:c.2.1.length<=k
 tv:∀x∈c.2.1,x.2.2.2.2.2.length<=100000
 srt:SortT c.2.1
 a:c.2.2.1.length<=k
 n0:0<=c.2.2.2
 n1:c.2.2.2<=k
theorem CnG.cns{c:Cn}{k:Nat}(h:CnG c k)(hk:k<=10000):CnS c:=⟨h.d,by have:=h.t; omega,h.tv,by have:=h.a; omega⟩
theorem CnG.up{c:Cn}{k:Nat}(h:CnG c k):CnG c (k+1):=⟨h.d,zD1 h.t,h.tv,h.srt,zD1 h.a,h.n0,by have:=h.n1; omega⟩
theorem bif_z{c:Bool}{d:Dk}{k:Int}{y:Dk×Int}(hx:k≠0)(h:(bif c then(d,k) else y).2=0):c=false/\(bif c then(d,k) else y)=y:=by
 cases c
 ·exact⟨rfl,rfl⟩
 ·exact absurd h hx
section
variable {n:Net}
theorem qqj{d:Dk}:rdyB d=true↔∀i,i<(need d.2).length->(need d.2).getD i false=true->qcp (d.1.getD i v0)=true:=by
 unfold rdyB;rw[qoQ];refine forall_congr' fun i=>forall_congr' fun _=>?_
 cases(need d.2).getD i false <;> simp
theorem qCL{p:Pl}{i:Nat}(h:i<p.1.length):(need p).getD i false=!decide (p.1.getD i 0=0):=by
 unfold need;rw[qxP,if_pos (by rw[qhL]; exact h)]
 exact qlM (fun r:Int=>!decide (r=0)) p.1 i 0 false h
theorem qv1{p:Pl}{i:Nat}(h:i<p.2.1.length):(need p).getD (p.1.length+i) false=!decide (p.2.1.getD i 0=0):=by
 unfold need;rw[qxP,if_neg (by rw[qhL]; omega),qhL,show p.1.length+i-p.1.length=i by omega]
 exact qlM (fun r:Int=>!decide (r=0)) p.2.1 i 0 false h
theorem qv2(v:Vl)(w:Bool):qca (cmdV v w)=qca v:=rfl
theorem qye{l:List Vl}{p:Vl->Bool}:l.all p=true↔∀i,i<l.length->p (l.getD i v0)=true:=by
 rw[<-qsw l v0 p,qoQ]
theorem qy9{d:Dk}(hd:VDk n d){s:Stp}(hk:(decide (s.1=1) || decide (s.1=2))=true)(h:(turnS n d s).2=0):VDk n (turnS n d s).1:=by
 unfold turnS at h ⊢;obtain⟨c1,e1⟩:=bif_z (by decide) h
 rw[e1] at h ⊢;obtain⟨c2,e2⟩:=bif_z (by decide) h
 rw[e2];have hb:(decide (0<=s.2.1)&&decide (s.2.1<(d.1.length:Int)))=true:=by simpa using c1
 have hb:=qqh.1 hb;refine⟨hd.net,(zS ..).trans hd.len,?_,hd.pl,?_,hd.idl⟩
 ·have hv:=qye.1 hd.val;refine qye.2 fun i hi=>?_
  rw[zS] at hi;rw[qhC];split
  ·rw[qv2]; exact hv _ (by omega)
  ·exact hv i hi
 ·have hr:=qqj.1 hd.rdy;refine qqj.2 fun i hi hn=>?_
  have h1:=hr i hi hn;show qcp ((d.1.set s.2.1.toNat (cmdV (d.1.getD s.2.1.toNat v0) (decide (s.1=1)))).getD i v0)=true;rw[qhC];split
  ·rename_i hc;rw[Bool.and_eq_false_iff] at c2;rw[hc.1] at c2;have h2:decide (s.1=2)=false:=c2.resolve_right (by rw[hn]; simp)
   rw[h2,Bool.or_false] at hk;rw[hk,hc.1];unfold qcp at h1 ⊢;rw[qv2];rw[z8,z8] at h1 ⊢;exact⟨h1.1,h1.2.1,rfl⟩
  ·exact h1
theorem qBa{d:Dk}(hd:VDk n d){s:Stp}(h:(runS n d s).2=0):VDk n (runS n d s).1:=by
 unfold runS at h ⊢;obtain⟨c1,e1⟩:=bif_z (by decide) h
 rw[e1] at h ⊢;obtain⟨c2,e2⟩:=bif_z (by decide) h
 rw[e2];have hb:(decide (0<=s.2.1)&&decide (s.2.1<(n.2.2.2.1.length:Int)))=true:=by simpa using c1
 have hb:=qqh.1 hb;exact⟨hd.net,hd.len,hd.val,by rw[qx9]; exact hd.pl,hd.rdy,by rw[qvU hd (by omega)]; exact c2⟩
structure Chg(n:Net)(d:Dk)(s:Stp):Prop where
 v : -1000<=s.2.2.1/\s.2.2.1<=1000
 pa:pathB n (absP s)=true
 gr:growB n d (absP s) s.2.2.1=true
 pl:qa0 n (growP (absP s) s.2.2.1 d.2)=0
 id:idleB n (growP (absP s) s.2.2.1 d.2)=false
theorem qFf{d:Dk}{s:Stp}(h:(chgS n d s).2=0):Chg n d s/\chgS n d s=((d.1,growP (absP s) s.2.2.1 d.2),0):=by
 unfold chgS at h ⊢;obtain⟨c1,e1⟩:=bif_z (by decide) h
 rw[e1] at h ⊢;obtain⟨c2,e2⟩:=bif_z (by decide) h
 rw[e2] at h ⊢;obtain⟨c3,e3⟩:=bif_z (by decide) h
 rw[e3] at h ⊢;by_cases hp:qa0 n (growP (absP s) s.2.2.1 d.2)=0
 ·rw[if_neg (fun e=>e hp)] at h ⊢
  obtain⟨c4,e4⟩:=bif_z (by decide) h
  rw[e4];exact⟨⟨qhK.1 (by simpa using c1),by simpa using c2,by simpa using c3,hp,c4⟩,rfl⟩
 ·rw[if_pos hp] at h; exact absurd h hp
theorem qBb{d:Dk}(hd:VDk n d){s:Stp}(h:(chgS n d s).2=0):VDk n (chgS n d s).1:=by
 obtain⟨hc,e⟩:=qFf h;rw[e];show VDk n (d.1,growP (absP s) s.2.2.1 d.2);have hx:=VPa.of hc.pa;have hz:=hd.sz;have hg:=hc.gr;unfold growB qqH at hg;simp only[z8,zm] at hg;obtain⟨⟨g1,g2,g3⟩,_⟩:=hg;have hr:=qqj.1 hd.rdy;have hs':=(VPl.of hc.pl).len;refine⟨hd.net,hd.len,hd.val,hc.pl,?_,hc.id⟩
 refine qqj.2 fun i hi hn=>?_
 replace hi:i<(need (growP (absP s) s.2.2.1 d.2)).length:=hi;replace hn:(need (growP (absP s) s.2.2.1 d.2)).getD i false=true:=hn;show qcp (d.1.getD i v0)=true;rw[qpI (VPl.of hc.pl).sz] at hi;have hnl:=qpI (VPl.of hd.pl).sz;rcases zm2 i n.2.1.length with hlt | hge
 ·by_cases hin:∃h∈(absP s).2.2.1,h.1.toNat=i
  ·obtain⟨h,hm,rfl⟩:=hin; exact g3 h hm
  ·refine hr i (by omega) ?_
   rw[qCL (by omega)] at hn ⊢
   rw[show(growP (absP s) s.2.2.1 d.2).1=growR (absP s).2.2.1 s.2.2.1 d.2.1 from rfl,qot _ _ _ fun h hm e=>hin ⟨h,hm,e⟩] at hn
   exact hn
 ·obtain⟨j,rfl⟩:∃j,i=n.2.1.length+j:=⟨i-n.2.1.length,by omega⟩
  by_cases h1:(absP s).1.toNat=j
  ·rw[<-h1]; exact g1
  by_cases h2:(absP s).2.1.toNat=j
  ·rw[<-h2]; exact g2
  ·refine hr _ (by omega) ?_
   have hn':=hn;rw[show n.2.1.length+j=(growP (absP s) s.2.2.1 d.2).1.length+j by rw[hs'.1],qv1 (by omega)] at hn'
   rw[show n.2.1.length+j=d.2.1.length+j by rw[hz.1],qv1 (by omega)]
   rw[show(growP (absP s) s.2.2.1 d.2).2.1=growQ (absP s) s.2.2.1 d.2.2.1 from rfl] at hn'
   unfold growQ at hn';rw[qhC,if_neg (fun h=>h2 h.1),qhC,if_neg (fun h=>h1 h.1)] at hn'
   exact hn'
theorem qBc{v:Vl}(h:qcp v=true){t:Int}(ht:0<=t):qcp (movV v t)=true:=by
 unfold qcp at h ⊢;rw[z8,z8,zz] at h;obtain⟨h1,h2,h3⟩:=h;have hv:=qka.1 h1;have e:movO v t=v.2.1:=by
  unfold movO;rw[h3];cases v.2.2.2 <;> simp only[za,zb]
  rw[if_neg (by omega)]; omega
 rw[show movV v t=v by unfold movV; rw[e]]
 rw[h1,h3,dec_t h2]; rfl
theorem qza{d:Dk}(hd:VDk n d){s:Stp}(h:(waitS d s).2=0):VDk n (waitS d s).1:=by
 unfold waitS at h ⊢;obtain⟨c1,e1⟩:=bif_z (by decide) h
 rw[e1];have ht:=qhK.1 (show rg 1 100 s.2.2.1=true by simpa using c1)
 have hv:=qye.1 hd.val;refine⟨hd.net,(z51 ..).trans hd.len,?_,hd.pl,?_,hd.idl⟩
 ·refine qye.2 fun i hi=>?_
  rw[z51] at hi;rw[qlM _ _ _ v0 _ hi];exact qvV (hv i hi) (by omega)
 ·have hr:=qqj.1 hd.rdy;refine qqj.2 fun i hi hn=>?_
  have hl:i<d.1.length:=by rw[<-hd.needl]; exact hi
  show qcp ((d.1.map fun v=>movV v s.2.2.1).getD i v0)=true
  rw[qlM _ _ _ v0 _ hl];exact qBc (hr i hi hn) (by omega)
theorem blank6{s:Stp}(h:qlu s=true)(h1:(decide (s.1=1) || decide (s.1=2))=false)(h3:(decide (s.1=3) || decide (s.1=4))=false)(h5:decide (s.1=5)=false):s.1=6:=by
 unfold qlu at h;rw[z62] at h1 h3;rw[h1.1,h1.2,h3.1,h3.2,h5] at h;cases h6:decide (s.1=6) with
 | true=>exact zj h6
 | false=>rw[h6] at h; cases h
theorem qzb{d:Dk}{s:Stp}(h:(stepS n d s).2=0):qlu s=true/\(((s.1=1\/s.1=2)/\stepS n d s=turnS n d s)\/((s.1=3\/s.1=4)/\stepS n d s=runS n d s)\/(s.1=5/\stepS n d s=chgS n d s)\/(s.1=6/\stepS n d s=waitS d s)):=by
 unfold stepS at h ⊢;obtain⟨c1,e1⟩:=bif_z (by decide) h
 rw[e1];have c1:qlu s=true:=by simpa using c1
 refine⟨c1,?_⟩
 cases h1:(decide (s.1=1) || decide (s.1=2)) with
 | true=>left; exact⟨by simpa using h1,rfl⟩
 | false=>
  cases h3:(decide (s.1=3) || decide (s.1=4)) with
  | true=>right; left; exact⟨by simpa using h3,rfl⟩
  | false=>
   cases h5:decide (s.1=5) with
   | true=>right; right; left; exact⟨zj h5,rfl⟩
   | false=>right; right; right; exact⟨blank6 c1 h1 h3 h5,rfl⟩
theorem qFg{d:Dk}{s:Stp}(h:(appS n d s).2=0):VDk n d/\appS n d s=stepS n d s:=by
 unfold appS at h ⊢;by_cases hc:qdq n d=0
 ·rw[if_neg (fun e=>e hc)]; exact⟨VDk.of hc,rfl⟩
 ·rw[if_pos hc] at h; exact absurd h hc
theorem qBd{d:Dk}{s:Stp}(h:(appS n d s).2=0):VDk n (appS n d s).1:=by
 obtain⟨hd,e⟩:=qFg h;rw[e] at h ⊢;obtain⟨_,⟨k,e⟩ | ⟨k,e⟩ | ⟨k,e⟩ | ⟨k,e⟩⟩:=qzb h
 ·rw[e] at h ⊢; exact qy9 hd (by simpa using k) h
 ·rw[e] at h ⊢; exact qBa hd h
 ·rw[e] at h ⊢; exact qBb hd h
 ·rw[e] at h ⊢; exact qza hd h
end
/-! ### The idle desk -/
theorem rep0(k i:Nat):(List.replicate k (0:Int)).getD i 0=0:=by
 rw[zh,zG2]; split <;> rfl
theorem repF(k i:Nat):(List.replicate k false).getD i false=false:=by
 rw[zh,zG2]; split <;> rfl
section
variable {n:Net} {a b c:Nat}
abbrev zP(a b c:Nat):Pl:=(List.replicate a 0,List.replicate b 0,List.replicate c false)
theorem qv3:∀(f j:Nat),j+f=n.1.length->(topo n (zP a b c) f (List.replicate j true++List.replicate f false)).length=f
 | 0,_,_=>rfl
 | f+1,j,h=>by
  unfold topo;have hfree:∀k,freeB n (zP a b c) (List.replicate j true++List.replicate (f+1) false) k=!(List.replicate j true++List.replicate (f+1) false).getD k false:=fun k=>by
   unfold freeB;have:(List.range n.2.1.length).any (blk n (zP a b c) (List.replicate j true++List.replicate (f+1) false) k)=false:=by
    rw[zQ1];intro i _;unfold blk rate;rw[rep0,z41 rfl]; simp
   rw[this]; simp
  have hnext:nextF n (zP a b c) (List.replicate j true++List.replicate (f+1) false)=some j:=by
   unfold nextF;rw[List.find?_range_eq_some]
   refine⟨?_,?_,fun i hi=>?_⟩
   ·rw[hfree,zh,zY (by simp)]; simp
   ·rw[zM]; omega
   ·rw[hfree,zh,zT (by simp; omega),zG2,if_pos hi]; rfl
  rw[hnext];have hset:(List.replicate j true++List.replicate (f+1) false).set j true=List.replicate (j+1) true++List.replicate f false:=by
   rw[List.set_append_right _ _ (by simp)]
   simp only[zq2,Nat.sub_self,List.replicate_succ,List.set_cons_zero];rw[<-List.replicate_succ,List.replicate_succ' (n:=j),zp]; rfl
  simp only[hset,zf];rw[qv3 f (j+1) (by omega)]
theorem qBe(h0:qbi n=0):qa0 n (zP n.2.1.length n.2.2.1.length n.2.2.2.1.length)=0:=by
 have hn:=VNet.of h0;unfold qa0;rw[if_neg (fun e=>e h0)]
 have h1:szB n (zP n.2.1.length n.2.2.1.length n.2.2.2.1.length)=true:=qqg.2 ⟨by simp,by simp,by simp⟩
 have h2:qn5 n (zP n.2.1.length n.2.2.1.length n.2.2.2.1.length)=true:=by
  unfold qn5;rw[zm];intro i hi;have:=quM hn (zM.1 hi);unfold rtB rate;rw[rep0];exact qhK.2 ⟨by omega,by omega⟩
 have h3:qjy (zP n.2.1.length n.2.2.1.length n.2.2.2.1.length)=true:=by
  unfold qjy;rw[zm];intro x hx;rw[List.eq_of_mem_replicate hx]; rfl
 have h4:balB n (zP n.2.1.length n.2.2.1.length n.2.2.2.1.length)=true:=by
  unfold balB;rw[zm];intro k _;refine z41 ?_
  have z1:comeF n (zP n.2.1.length n.2.2.1.length n.2.2.2.1.length) (k:Int)=0:=by
   unfold comeF;rw[qet _ fun i _=>?_,qet _ fun i _=>?_]; rfl
   ·unfold qhJ prate; rw[rep0]; split <;> rfl
   ·unfold segIn rate amt; rw[rep0]; split <;> rfl
  have z2:qj9 n (zP n.2.1.length n.2.2.1.length n.2.2.2.1.length) (k:Int)=0:=by
   unfold qj9;rw[qet _ fun i _=>?_,qet _ fun i _=>?_]; rfl
   ·unfold qey prate; rw[rep0]; split <;> rfl
   ·unfold qco rate amt; rw[rep0]; split <;> rfl
  rw[z1,z2]
 have h5:(ordL n (zP n.2.1.length n.2.2.1.length n.2.2.2.1.length)).length=n.1.length:=by
  unfold ordL;exact qv3 n.1.length 0 (by omega)
 rw[h1,h2,h3,h4,h5];simp
theorem qBf(h0:qbi n=0){t:Int}(ht:1<=t/\t<=60):qdq n (List.replicate (n.2.1.length+n.2.2.1.length) (t,0,false,false),zP n.2.1.length n.2.2.1.length n.2.2.2.1.length)=0:=by
 unfold qdq;rw[if_neg (fun e=>e h0),if_neg (fun e=>e (qBe h0))]
 have h1:vlB n (List.replicate (n.2.1.length+n.2.2.1.length) (t,0,false,false))=true:=by
  unfold vlB;rw[z41 (by simp),zG,zm]
  intro x hx;rw[List.eq_of_mem_replicate hx];unfold qca;rw[rg_t ht,show rg 0 t 0=true from rg_t ⟨by omega,by omega⟩]; rfl
 have h2:rdyB (List.replicate (n.2.1.length+n.2.2.1.length) (t,0,false,false),zP n.2.1.length n.2.2.1.length n.2.2.2.1.length)=true:=by
  unfold rdyB need nz;simp only[List.map_replicate,zg2,zg];rw[List.replicate_append_replicate,zm];intro i _;rw[repF]; rfl
 have h3:idleB n (zP n.2.1.length n.2.2.1.length n.2.2.2.1.length)=false:=by
  unfold idleB;rw[zQ1];intro i _;unfold qlt;rw[repF]; simp
 rw[h1,h2,h3]; rfl
end
theorem qBg{n:Net}{c:Cn}{r:Rec}(hv:qdq n c.1=0)(h:(capp n c r).2=0):qdq n (capp n c r).1.1=0:=by
 unfold capp at h ⊢;by_cases k1:r.1=1
 ·rw[if_pos k1];unfold capp1;split
  ·exact hv
  ·split <;> exact hv
 rw[if_neg k1] at h ⊢;by_cases k2:r.1=2
 ·rw[if_pos k2] at h ⊢;unfold capp2 at h ⊢;by_cases h1:c.2.2.2=1000
  ·rw[if_pos h1] at h; cases h
  rw[if_neg h1] at h ⊢;by_cases h2:(cmdS n c.1 r).2=0
  ·rw[if_pos h2];unfold cmdS at h2 ⊢;by_cases h3:0<r.2.1.length\/noE r.2.2.2=false
   ·rw[if_pos h3] at h2; cases h2
   rw[if_neg h3] at h2 ⊢;exact(qBd h2).to
  ·rw[if_neg h2] at h; exact absurd h h2
 rw[if_neg k2];by_cases k3:r.1=3
 ·rw[if_pos k3];unfold capp3;split
  ·exact hv
  ·split <;> exact hv
 ·rw[if_neg k3]; exact hv
def dig(b:UInt8):Bool:=Nat.ble 48 b.toNat&&Nat.ble b.toNat 57
def valD:Nat->List UInt8->Nat
 | acc,[]=>acc
 | acc,c::r=>valD (acc*10+(c.toNat-48)) r
def mns:List UInt8->Bool
 | []=>false
 | c::_=>c==45
def dgs:List UInt8->List UInt8
 | []=>[]
 | c::r=>bif c==45 then r else c::r
theorem quS(c:UInt8)(r:List UInt8):dgs (c::r)=bif c==45 then r else c::r:=rfl
theorem qBh:∀(l:List UInt8) (acc:Nat),acc<=valD acc l
 | [],_=>zZ _
 | c::r,acc=>by have:=qBh r (acc*10+(c.toNat-48)); unfold valD; omega
theorem pu_eq:∀(l:List UInt8) (acc:Nat),acc<18446744073709551616->l.all dig=true->Lib.parseUint10 acc l=if valD acc l<18446744073709551616 then .ok (valD acc l) else .range
 | [],acc,h,_=>by unfold valD Lib.parseUint10; rw[if_pos h]
 | c::r,acc,h,hd=>by
  simp only[z31,z8,dig,zf1] at hd;unfold Lib.parseUint10;rw[if_pos hd.1];have hge:=qBh r (acc*10+(c.toNat-48));by_cases h1:1844674407370955162<=acc
  ·rw[if_pos h1];unfold valD; rw[if_neg (by omega)]
  ·rw[if_neg h1];by_cases h2:18446744073709551616<=acc*10+(c.toNat-48)
   ·rw[if_pos h2];unfold valD; rw[if_neg (by omega)]
   ·rw[if_neg h2,pu_eq r _ (by omega) (by simpa[dig] using hd.2)]
    rfl
theorem qEq(s:List UInt8)(h0:dgs s≠[])(hd:(dgs s).all dig=true):Lib.atoiAll s=(if valD 0 (dgs s)<18446744073709551616 then
  (if ¬mns s=true/\9223372036854775808<=valD 0 (dgs s) then .range else if mns s=true/\9223372036854775808<valD 0 (dgs s) then .range else .ok (if mns s=true then -(valD 0 (dgs s):Int) else valD 0 (dgs s))) else .range):=by
 cases s with
 | nil=>exact absurd rfl h0
 | cons c r=>
  have hc45:(c.toNat=45)↔(c==45)=true:=by
   rw[zZ2];constructor
   ·intro h; exact UInt8.toNat_inj.1 h
   ·rintro rfl; rfl
  have key:Lib.parseMag (if c.toNat=43\/c.toNat=45 then r else c::r)=if valD 0 (dgs (c::r))<18446744073709551616 then .ok (valD 0 (dgs (c::r))) else .range:=by
   by_cases h45:c.toNat=45
   ·have hb:=hc45.1 h45;have e:dgs (c::r)=r:=by rw[quS,hb]; rfl
    rw[e] at h0 hd ⊢;rw[if_pos (.inr h45)];unfold Lib.parseMag;rw[if_neg h0];exact pu_eq r 0 (by decide) hd
   ·have hb:(c==45)=false:=zK.2 fun h=>h45 (hc45.2 h)
    have e:dgs (c::r)=c::r:=by rw[quS,hb]; rfl
    rw[e] at h0 hd ⊢;have h43:c.toNat≠43:=by
     simp only[z31,z8,dig,zf1] at hd;omega
    rw[if_neg (by omega)]
    unfold Lib.parseMag;rw[if_neg h0];exact pu_eq _ 0 (by decide) hd
  unfold Lib.atoiAll;simp only[hc45] at key ⊢;rw[key];by_cases hv:valD 0 (dgs (c::r))<18446744073709551616
  ·rw[if_pos hv,if_pos hv]; rfl
  ·rw[if_neg hv,if_neg hv]
theorem quT(s:List UInt8)(h:s.length<=281474976710656):atoiT s=some (match Lib.atoiAll s with
  | .ok v=>(v,false)
  | .range=>(Lib.atoiSat s,true)
  | _=>(0,true)):=by
 unfold atoiT;rw[zC1 h]; rfl
theorem qyf(c:UInt8):∀(l:List UInt8) (acc:Nat),valD acc (l++[c])=valD acc l*10+(c.toNat-48)
 | [],_=>rfl
 | _::r,_=>qyf c r _
structure Digs(n:Nat)(D:List UInt8):Prop where
 ne:D≠[]
 all:D.all dig=true
 val:valD 0 D=n
 hd:0<n->D.headD 0≠48
 z:n=0->D=[48]
def chr(n:Nat):UInt8:=UInt8.ofNat (48+n%10)
theorem qxb(n:Nat):(chr n).toNat=48+n%10:=by unfold chr; rw[UInt8.toNat_ofNat']; omega
theorem qBi(n:Nat):dig (chr n)=true:=by
 simp only[dig,z8,zf1,qxb]; omega
theorem Digs.head{n:Nat}{D:List UInt8}(h:Digs n D):∃a r,D=a::r/\dig a=true:=by
 have h1:=h.ne;have h2:=h.all;cases D with
 | nil=>exact absurd rfl h1
 | cons a r=>exact⟨a,r,rfl,by simp only[z31,z8] at h2; exact h2.1⟩
theorem qDx{a:UInt8}(h:dig a=true):(a==45)=false:=by
 rw[zK];intro e;rw[zZ2] at e;subst e; cases h
theorem qEr{D X:List UInt8}{n:Nat}(h:Digs n D):dgs (D++X)=D++X/\mns (D++X)=false:=by
 obtain⟨a,r,rfl,ha⟩:=h.head;exact⟨by rw[zh1,quS,qDx ha]; rfl,qDx ha⟩
def splB(c:UInt8):Str->List Str
 | []=>[[]]
 | x::l=>bif x==c then []::splB c l else match splB c l with
  | []=>[[x]]
  | h::t=>(x::h)::t
theorem qEs(c:UInt8)(s:Str):splB c s≠[]:=by
 cases s with
 | nil=>simp[splB]
 | cons x l=>
  unfold splB;cases x==c with
  | true=>simp
  | false=>simp only[zb]; split <;> simp
theorem quU{c:UInt8}:∀ {X:Str},c∉X->splB c X=[X]
 | [],_=>rfl
 | x::l,h=>by
  simp only[zr,not_or] at h;unfold splB;rw[show(x==c)=false by rw[zU2]; exact fun e=>h.1 e.symm,zb,quU h.2]
theorem qpO{c:UInt8}(r:Str):∀ {X:Str},c∉X->splB c (X++c::r)=X::splB c r
 | [],_=>by simp[splB]
 | x::l,h=>by
  simp only[zr,not_or] at h;rw[zh1]
  conv=>lhs; unfold splB
  rw[show(x==c)=false by rw[zU2]; exact fun e=>h.1 e.symm,zb,qpO r h.2]
theorem quV(c:UInt8):∀s:Str,(splB c s).length=s.count c+1
 | []=>rfl
 | x::l=>by
  unfold splB;rw[List.count_cons];have ih:=quV c l;cases hx:x==c with
  | true=>simp[ih]
  | false=>
   simp only[zb,zU1,if_false,zG1];split
   ·rename_i h; exact absurd h (qEs c l)
   ·rename_i h t hs;rw[hs] at ih;exact ih
theorem quW(c:UInt8):∀s:Str,(c∉s/\Lib.indexByte s c=-1)\/∃X r,s=X++c::r/\c∉X/\Lib.indexByte s c=(X.length:Int)
 | []=>.inl ⟨by simp,rfl⟩
 | b::l=>by
  unfold Lib.indexByte;cases hb:b==c with
  | true=>
   rw[zZ2] at hb; subst hb;exact .inr ⟨[],l,rfl,by simp,by simp⟩
  | false=>
   rw[zU2] at hb;simp only[zU1,if_false];rcases quW c l with⟨h1,h2⟩ | ⟨X,r,rfl,h2,h3⟩
   ·refine .inl ⟨by simp only[zr,not_or]; exact⟨fun e=>hb e.symm,h1⟩,by rw[h2]; rfl⟩
   ·refine .inr ⟨b::X,r,rfl,by simp only[zr,not_or]; exact⟨fun e=>hb e.symm,h2⟩,?_⟩
    rw[h3];have:((X.length:Int) == -1)=false:=by rw[zU2]; omega
    rw[this];simp
theorem c_eq(c:UInt8):(Int.ofNat (([c]:Str).getD 0 0).toNat).toNat.toUInt8=c:=by
 show c.toNat.toUInt8=c;simp
theorem qyg(s:Str)(c:UInt8):qbd s [c]=some (Lib.indexByte s c):=by
 unfold qbd qbP idxB;rw[dec_f (show ¬((([c]:Str).length:Int)=0) by simp),zb,z7]
 by_cases h:[c]=s
 ·rw[dec_t h,za,<-h];unfold Lib.indexByte;simp
 ·rw[dec_f h,zb,dec_t (show(([c]:Str).length:Int)=1 by simp),za,gd_t (inB0 (by simp)),c_eq]; rfl
theorem qv4(s:Str)(c:UInt8):qfN s [c]=some ((s.count c:Nat):Int):=by
 unfold qfN cntB;rw[dec_f (show ¬((([c]:Str).length:Int)=0) by simp),zb,dec_t (show(([c]:Str).length:Int)=1 by simp),za,gd_t (inB0 (by simp)),c_eq]
 rfl
theorem qEt{X r:Str}(h:(10:UInt8)∉X)(hl:(X++10::r).length<=4611686018427387904):qkl (X++10::r) [10]=some (X,r,true):=by
 unfold qkl qc7;have hi:Lib.indexByte (X++10::r) 10=(X.length:Int):=by
  rcases quW 10 (X++10::r) with⟨h1,_⟩ | ⟨Y,q,e,h2,h3⟩
  ·simp at h1
  ·have:splB 10 (X++10::r)=splB 10 (Y++10::q):=by rw[e]
   rw[qpO _ h,qpO _ h2] at this;injection this with e1 _
   rw[h3,e1]
 simp only[zd,zf] at hl;rw[qyg,hi,z7,dec_t (show(0:Int)<=(X.length:Int) by omega),za]
 have e1:wi64 ((X.length:Int)+(([10]:Str).length:Int))=((X.length+1:Nat):Int):=by
  rw[show(([10]:Str).length:Int)=1 from rfl,wi (by omega)]; omega
 have e2:(X++10::r).take X.length=X:=zb2;have e3:(X++10::r).drop (X.length+1)=r:=by simp[zT1]
 rw[e1,gd_t (by simp[cutG]; omega),gd_t (by simp[cutG]; omega),z9,z9,e2,e3]; rfl
theorem ok_eq{A:Type}{x:Option A}{v:A}(h:Ok x (fun y=>y=v)):x=some v:=by obtain⟨a,h1,rfl⟩:=h; exact h1
theorem qyh{A:Type}(a:List A)(k:Nat)(x:A)(h:k+1=a.length):a.set k x=a.take k++[x]:=by
 rw[zy2,if_pos (by omega),z11 (by omega)]
theorem qCM{A:Type}(a:List A)(k:Nat)(x:A)(h:k<a.length):(a.set k x).take (k+1)=a.take k++[x]:=by
 rw[List.take_set,qyh _ _ _ (by simp; omega),zz1,z61 (by omega)]
theorem qCN{c:UInt8}{s:Str}(h:(splB c s).length=1):splB c s=[s]:=by
 rw[quV] at h;exact quU (List.count_eq_zero.1 (by omega))
theorem qCO(s:Str)(hl:s.length<=1000000):qhQ s [32]=some (splB 32 s):=by
 have hP:=quV 32 s;have hcnt:s.count 32<=s.length:=List.count_le_length;unfold qhQ qhq;rw[dec_f (by decide),zb,dec_f (by simp),zb,dec_t (by decide),za,qv4,z7,z7]
 have e1:wi64 (((s.count 32:Nat):Int)+1)=((s.count 32+1:Nat):Int):=w1 (n:=1000001) (by omega) (by omega)
 have e2:wi64 ((s.length:Int)+1)=((s.length+1:Nat):Int):=w1 (n:=1000001) (by omega) (by omega)
 have e3:min ((s.count 32+1:Nat):Int) ((s.length+1:Nat):Int)=((s.count 32+1:Nat):Int):=by omega
 rw[e1,e2,e3,gd_t (qhl (by omega))]
 suffices h:Ok (iter (fun x=>qfm s [32] 0 ((s.count 32+1:Nat):Int) x.1 x.2.1 x.2.2) (s,0,List.replicate ((s.count 32+1:Nat):Int).toNat [])) (fun e=>e.2.1=((s.count 32:Nat):Int)/\splB 32 e.1=(splB 32 s).drop (s.count 32)/\e.2.2.length=s.count 32+1/\e.2.2.take (s.count 32)=(splB 32 s).take (s.count 32)) by
  obtain⟨e,h1,h2,h3,h4,h5⟩:=h;obtain⟨s3,i,a⟩:=e;simp only at h2 h3 h4 h5;subst h2;rw[h1,z7];simp only;rw[gd_t (inB_t (by omega)),w1 (n:=1000001) (by omega) (by omega),gd_t (by simp[cutG]; omega),z9,z9,qyh a _ s3 (by omega),h5]
  have h6:splB 32 s3=[s3]:=qCN (by rw[h3,zU]; omega)
  rw[<-h6,h3,zp1,zB (by omega)]; rfl
 refine Ok.loop (fun x:Str×Int×List Str=>∃k:Nat,x.2.1=(k:Int)/\k<=s.count 32/\splB 32 x.1=(splB 32 s).drop k/\x.2.2.length=s.count 32+1/\x.2.2.take k=(splB 32 s).take k/\x.1.length<=s.length) (fun x=>s.count 32-x.2.1.toNat)
  ⟨0,rfl,by omega,by simp,by simp,by simp,zZ _⟩ ?_
 rintro⟨s3,i,a⟩ ⟨k,hk,hk1,h1,h2,h3,h4⟩
 simp only at hk h1 h2 h3 h4;subst hk;unfold qfm;simp only;have e4:wi64 ((min ((s.count 32+1:Nat):Int) (wi64 ((s.length:Int)+1)))-1)=((s.count 32:Nat):Int):=by rw[e2,e3,wi (by omega)]; omega
 rw[e4];refine Ok.bif (fun hc=>?_) fun hc=>?_
 ·have hc:=zj hc;have hk2:k<s.count 32:=by omega
  rcases quW 32 s3 with⟨hn,_⟩ | ⟨X,r,rfl,hX,hidx⟩
  ·exfalso;have:=congrArg List.length h1;rw[quU hn,zU] at this;simp at this; omega
  ·rw[show qfM (X++32::r) [32]=some (X.length:Int) by unfold qfM; rw[qyg,hidx]; rfl,z7]
   simp only[zd,zf] at h4;rw[dec_f (show ¬(X.length:Int)<0 by omega),zb]
   have e5:wi64 ((X.length:Int)+0)=(X.length:Int):=by rw[wi (by omega)]; omega
   have e6:wi64 ((X.length:Int)+(([32]:Str).length:Int))=((X.length+1:Nat):Int):=w1 (n:=1000001) (by omega) (by omega)
   rw[e5,e6,gd_t (by simp[cutG]; omega),gd_t (inB_t (by omega)),gd_t (by simp[cutG]; omega),w1 (n:=1000001) (by omega) (by omega),z9,z9,z9]
   have e7:(X++32::r).take X.length=X:=zb2;have e8:(X++32::r).drop (X.length+1)=r:=by simp[zT1]
   rw[e7,e8];rw[qpO _ hX] at h1;have hkl:k<(splB 32 s).length:=by omega
   rw[z71 hkl] at h1;injection h1 with h5 h6
   refine .ret ⟨⟨k+1,rfl,by omega,h6,by simp[h2],?_,by simp; omega⟩,?_⟩
   ·rw[qCM _ _ _ (by omega),h3,qez [] hkl,gD_eq hkl,h5]
   ·simp only[z9]; omega
 ·have hc:=zQ hc;have:k=s.count 32:=by omega
  subst this;exact .ret ⟨rfl,h1,h2,h3⟩
def wch(b:UInt8):Bool:=Nat.ble 33 b.toNat&&Nat.ble b.toNat 126
def wordB(s:Str):Bool:=s.all wch&&!s.isEmpty
theorem qBj(t:Str)(h:t≠[])(hl:t.length<=1000000):qeh t [10]=some (decide (t.getLast? = some 10)):=by
 unfold qeh qbQ;have hp:0<t.length:=by cases t with | nil=>exact absurd rfl h | cons=>simp
 rw[dec_t (show(([10]:Str).length:Int)<=(t.length:Int) by simp; omega),za]
 have e:wi64 ((t.length:Int)-(([10]:Str).length:Int))=((t.length-1:Nat):Int):=by
  rw[show(([10]:Str).length:Int)=1 from rfl,wi (by omega)]; omega
 rw[e,gd_t (by simp[cutG]),z7,z9]
 congr 1;rw[zX,zz,zz];have e2:t.drop (t.length-1)=[t.getLast h]:=by
  conv=>lhs; rw[<-List.dropLast_concat_getLast h]
  rw[zS1 (by simp)]
  simp
 rw[e2,List.getLast?_eq_some_getLast h]
 simp
abbrev joinS(w:List Str):Str:=Lib.join w [32]
theorem qbw(a b:Str)(r:List Str):joinS (a::b::r)=a++32::joinS (b::r):=by
 simp[joinS,Lib.join,List.intercalate]
theorem qtF(x:Str):∀ {l:List Str},l≠[]->joinS (l++[x])=joinS l++32::x
 | [],h=>absurd rfl h
 | [a],_=>by
  show joinS (a::x::[])=_;rw[qbw];simp[joinS,Lib.join,List.intercalate]
 | a::b::r,_=>by
  show joinS (a::b::(r++[x]))=_;rw[qbw,qbw,show b::(r++[x])=(b::r)++[x] from rfl,qtF x (by simp),zp]; rfl
def sumL(w:List Str):Nat:=(w.map List.length).sum
theorem qsI{w:List Str}{n:Nat}(h:∀s∈w,s.length<=n):sumL w<=w.length*n:=by
 induction w with
 | nil=>simp[sumL]
 | cons a r ih=>
  have h1:=h a (by simp)
  have h2:=ih (fun s hs=>h s (by simp[hs]))
  have:sumL (a::r)=a.length+sumL r:=by simp[sumL]
  rw[this,zf,z21]; omega
theorem qv5:∀ {w:List Str},w≠[]->(joinS w).length+1=sumL w+w.length
 | [],h=>absurd rfl h
 | [a],_=>by simp[joinS,Lib.join,List.intercalate,sumL]
 | a::b::r,_=>by
  rw[qbw];have ih:=qv5 (w:=b::r) (by simp)
  have:sumL (a::b::r)=a.length+sumL (b::r):=by simp[sumL]
  rw[this];simp only[zd,zf] at ih ⊢;omega
theorem qpP(w:List Str):(joinS w).length<=sumL w+w.length:=by
 cases w with
 | nil=>simp[joinS,Lib.join,List.intercalate]
 | cons a r=>have:=qv5 (w:=a::r) (by simp); omega
theorem qmJ(x:Str):qbC (qaG x)=x:=by
 unfold qbC qaG;rw[List.map_map]
 conv=>rhs; rw[<-List.map_id x]
 refine z82 fun b _=>?_
 show UInt8.ofNat (Int.toNat (b.toNat:Int))=b;rw[z9];exact UInt8.ofNat_toNat
theorem qxc(a b:Str):qaG (a++b)=qaG a++qaG b:=by simp[qaG]
theorem qDy{b:UInt8}(h:wch b=true):b≠10/\b≠32:=by
 constructor <;> (rintro rfl; cases h)
theorem qqk{x:Str}(h:wordB x=true):(10:UInt8)∉x/\(32:UInt8)∉x/\x≠[]:=by
 unfold wordB at h;rw[z8,zm] at h;exact⟨fun hm=>(qDy (h.1 _ hm)).1 rfl,fun hm=>(qDy (h.1 _ hm)).2 rfl,fun e=>by rw[e] at h; cases h.2⟩
theorem qyi:∀ {w:List Str},(∀x∈w,wordB x=true)->(10:UInt8)∉joinS w
 | [],_=>by simp[joinS,Lib.join,List.intercalate]
 | [a],h=>by
  have:=(qqk (h a (by simp))).1
  simpa[joinS,Lib.join,List.intercalate] using this
 | a::b::r,h=>by
  rw[qbw];simp only[zA,zr,not_or];exact⟨(qqk (h a (by simp))).1,by decide,qyi (fun x hx=>h x (zR _ hx))⟩
theorem qv6:∀ {w:List Str},w≠[]->(∀x∈w,wordB x=true)->splB 32 (joinS w)=w
 | [],h,_=>absurd rfl h
 | [a],_,h=>by
  have:=quU (qqk (h a (by simp))).2.1
  simpa[joinS,Lib.join,List.intercalate] using this
 | a::b::r,_,h=>by
  rw[qbw,qpO _ (qqk (h a (by simp))).2.1,qv6 (by simp) (fun x hx=>h x (zR _ hx))]
theorem quX:∀u:Nat,Digs u (Lib.decDigits u):=by
 intro u;induction u using Nat.strongRecOn with
 | ind u ih=>
  by_cases h:u<10
  ·rw[Lib.decDigits_one h,show UInt8.ofNat (48+u)=chr u by unfold chr; rw[Nat.mod_eq_of_lt h]]
   have hn:=qxb u;rw[Nat.mod_eq_of_lt h] at hn;refine⟨by simp,by simp[qBi],?_,fun h0 e=>?_,fun h0=>by subst h0; rfl⟩
   ·show 0*10+((chr u).toNat-48)=u;omega
   ·have e':chr u=48:=e;rw[e'] at hn;have:(48:UInt8).toNat=48:=rfl;omega
  ·have h10:=ih (u/10) (by omega)
   rw[Lib.decDigits,dif_neg h];refine⟨by simp,?_,?_,fun h0=>?_,fun h0=>by omega⟩
   ·rw[List.all_append,h10.all];have:=qBi u;unfold chr at this;rw[z31,this]; rfl
   ·rw[qyf,h10.val];have:=qxb u;unfold chr at this;rw[this]; omega
   ·have:=h10.hd (by omega)
    obtain⟨a,r,e,_⟩:=h10.head;rw[e] at this ⊢;exact this
theorem qsJ:∀(m u:Nat),u<10^(m+1)->(Lib.decDigits u).length<=m+1
 | 0,u,h=>by rw[Lib.decDigits_one (by omega)]; simp
 | m+1,u,h=>by
  by_cases h10:u<10
  ·rw[Lib.decDigits_one h10]; simp
  ·rw[Lib.decDigits,dif_neg h10,zd];have:=qsJ m (u/10) (by rw[Nat.pow_succ] at h; omega)
   simp; omega
theorem qEu{b:UInt8}(h:dig b=true):wch b=true:=by
 unfold dig at h;unfold wch;simp only[z8,zf1] at h ⊢;omega
theorem qEv{b:UInt8}(h:nch b=true):wch b=true:=by
 unfold nch fch at h;unfold wch;simp only[z8,zg1,zf1,zZ2] at h ⊢;rcases h with(h | h) | h
 ·omega
 ·omega
 ·subst h; decide
/-! ### A product as a line -/
theorem qsK{s:Str}(h:nameB s=true):wordB s=true/\s.length<=12:=by
 unfold nameB at h;simp only[z8,zf1] at h;refine⟨?_,h.1.1.2⟩
 unfold wordB;rw[z8,zm];refine⟨fun b hb=>qEv (zm.1 h.2 b hb),?_⟩
 cases s with
 | nil=>have:=h.1.1.1; simp at this
 | cons=>rfl
def smI(n:Int):Bool:=decide (-9007199254740992<=n)&&decide (n<=9007199254740992)
theorem smI_t{n:Int}(h:smI n=true) : -9007199254740992<=n/\n<=9007199254740992:=by
 unfold smI at h;simpa using h
theorem qne(n:Int):Lib.itoa n=if n<0 then 45::Lib.decDigits n.natAbs else Lib.decDigits n.natAbs:=by
 unfold Lib.itoa;by_cases h:n<0
 ·rw[if_pos h,if_pos h]
 ·rw[if_neg h,if_neg h,show n.toNat=n.natAbs by omega]
theorem qql(n:Int):wordB (Lib.itoa n)=true:=by
 rw[qne];have h:=quX n.natAbs;have ha:∀b∈Lib.decDigits n.natAbs,wch b=true:=fun b hb=>qEu (zm.1 h.all b hb)
 obtain⟨a,r,e,_⟩:=h.head;unfold wordB;rw[z8,zm];by_cases hn:n<0
 ·rw[if_pos hn];refine⟨fun b hb=>?_,rfl⟩
  rcases zr.1 hb with rfl | hb
  ·decide
  ·exact ha b hb
 ·rw[if_neg hn];exact⟨ha,by rw[e]; rfl⟩
theorem qdB{n:Int}(h:smI n=true):(Lib.itoa n).length<=17:=by
 obtain⟨h1,h2⟩:=smI_t h;have:=qsJ 15 n.natAbs (by omega)
 rw[qne];split
 ·rw[zf]; omega
 ·omega
theorem qCP(n:Int):dgs (Lib.itoa n)=Lib.decDigits n.natAbs/\mns (Lib.itoa n)=decide (n<0):=by
 have h:=quX n.natAbs;rw[qne];by_cases hn:n<0
 ·rw[if_pos hn,dec_t hn]; exact⟨rfl,rfl⟩
 ·rw[if_neg hn,dec_f hn];have:=qEr (X:=[]) h;rw[zJ] at this;exact this
theorem qBk{n:Int}(h:smI n=true):atoiT (Lib.itoa n)=some (n,false):=by
 obtain⟨h1,h2⟩:=smI_t h;have hl:=qdB h;have hd:=quX n.natAbs;obtain⟨e1,e2⟩:=qCP n;rw[quT _ (by omega),qEq _ (by rw[e1]; exact hd.ne) (by rw[e1]; exact hd.all),e1,e2,hd.val,if_pos (by omega)]
 by_cases hn:n<0
 ·rw[dec_t hn,if_neg (by simp),if_neg (by omega)]
  simp only[if_true];rw[show -(n.natAbs:Int)=n by omega]
 ·rw[dec_f hn,if_neg (by omega),if_neg (by simp)]
  simp only[zU1,if_false];rw[show(n.natAbs:Int)=n by omega]
theorem qdN{a b:Bool}{x:Option Bool}(h:x=some b):(bif a then some true else x)=some (a || b):=by subst h; cases a <;> rfl
theorem qkX{a b:Bool}{x:Option Bool}(h:x=some b):(bif a then x else some false)=some (a&&b):=by subst h; cases a <;> rfl
theorem qhA{A:Type}{a b:Bool}{w:A}{x:Option (Bool×A)}(h:x=some (b,w)):(bif a then some (true,w) else x)=some (a || b,w):=by subst h; cases a <;> rfl
theorem quY{A:Type}{a b:Bool}{w:A}{x:Option (Bool×A)}(h:x=some (b,w)):(bif a then x else some (false,w))=some (a&&b,w):=by subst h; cases a <;> rfl
theorem dlt_n(a b:Int):decide (a<b)=!decide (b<=a):=by
 rw[<-zJ2]; exact zB1.2 (by omega)
theorem dlen0{A:Type}(l:List A):decide ((l.length:Int)=0)=decide (l.length=0):=zB1.2 (by omega)
def ixB(i:Int)(n:Nat):Bool:=decide (0<=i)&&decide (i<(n:Int))
theorem ixB_t{i:Int}{n:Nat}(h:ixB i n=true):0<=i/\i<n:=by unfold ixB at h; simpa using h
theorem qsL{i:Int}{n:Nat}(h:ixB i n=true):inB i n=true:=qae.2 (ixB_t h)
theorem qBl{n:Int}(h:i64P n):itoaT n=some (Lib.itoa n):=by
 unfold itoaT;rw[dec_t h.1,dec_t h.2]; rfl
/-! ### The words -/
abbrev qlw:Str:=[101,110,116,114,121]
abbrev cTele:Str:=[116,101,108,101,103,114,97,109]
abbrev cFlow:Str:=[102,108,111,119]
abbrev cWait:Str:=[119,97,105,116]
abbrev cStop:Str:=[115,116,111,112]
abbrev qsM:Str:=[115,116,97,114,116]
abbrev qv7:Str:=[99,108,111,115,101]
abbrev cOpen:Str:=[111,112,101,110]
abbrev kindL:List Str:=[[],[114,101,99,101,105,118,101,100],[100,101,108,105,118,101,114,101,100],[115,108,111,112],[115,104,97,114,101]]
def segN(n:Net)(i:Int):Str:=(n.2.1.getD i.toNat sg0).1
def portN(n:Net)(i:Int):Str:=(n.2.2.1.getD i.toNat po0).1
def staN(n:Net)(i:Int):Str:=(n.2.2.2.1.getD i.toNat sta0).1
def hopV(n:Net)(h:Hop):Str:=bif h.2 then 45::segN n h.1 else segN n h.1
def hopsV(n:Net):List Hop->List Str
 | []=>[]
 | h::r=>bif ixB h.1 n.2.1.length then hopV n h::hopsV n r else []
def hopsB(n:Net)(l:List Hop):Bool:=l.all fun h=>ixB h.1 n.2.1.length
def portV(n:Net)(i:Int):List Str:=bif ixB i n.2.2.1.length then [portN n i] else []
def staV(n:Net)(i:Int):List Str:=bif ixB i n.2.2.2.1.length then [staN n i] else []
def flowV(n:Net)(s:Stp):List Str:=cFlow::Lib.itoa s.2.2.1::(portV n s.2.2.2.1++(portV n s.2.2.2.2.1++hopsV n s.2.2.2.2.2.1))
def flowB(n:Net)(s:Stp):Bool:=smI s.2.2.1&&(decide (s.2.1=0)&&(decide (s.2.2.2.2.2.1.length<=32)&&(ixB s.2.2.2.1 n.2.2.1.length&&(ixB s.2.2.2.2.1 n.2.2.1.length&&hopsB n s.2.2.2.2.2.1))))
def bareB(s:Stp):Bool:=decide (s.2.2.2.1=0)&&(decide (s.2.2.2.2.1=0)&&decide (s.2.2.2.2.2.1.length=0))
def stepV(n:Net)(s:Stp):List Str:=
 if s.1=1 then [cOpen,Lib.itoa s.2.1] else if s.1=2 then [qv7,Lib.itoa s.2.1] else
 if s.1=3 then qsM::staV n s.2.1 else if s.1=4 then cStop::staV n s.2.1 else
 if s.1=5 then flowV n s else if s.1=6 then [cWait,Lib.itoa s.2.2.1] else []
def qhk(n:Net)(s:Stp):Bool:=
 if s.1=1\/s.1=2 then ixB s.2.1 (n.2.1.length+n.2.2.1.length)&&(smI s.2.1&&decide (s.2.2.1=0)) else
 if s.1=3\/s.1=4 then ixB s.2.1 n.2.2.2.1.length&&decide (s.2.2.1=0) else
 if s.1=5 then flowB n s else if s.1=6 then smI s.2.2.1&&decide (s.2.1=0) else false
def stepB(n:Net)(s:Stp):Bool:=(decide (s.2.2.2.2.2.2=0)&&(decide (s.1=5) || bareB s))&&qhk n s
/-! ### The writer -/
theorem qlx(s:Str)(f:Bool){w:List Str}(hw:w.length<=1000000):qak s f w=some (f,w++[s]):=by
 unfold qak;rw[gd_t (qav (by omega))]
theorem num_w{n:Int}(hn:i64P n)(f:Bool){w:List Str}(hw:w.length<=1000000):qaP n f w=some (f || !smI n,w++[Lib.itoa n]):=by
 have h:(bif f then some (true,w) else(bif decide (n<(-9007199254740992)) then some (true,w) else some (decide (9007199254740992<n),w)))=some (f || !smI n,w):=by
  rw[show(!smI n)=(decide (n<(-9007199254740992)) || decide (9007199254740992<n)) by
   unfold smI; rw[dlt_n,dlt_n,Bool.not_and]]
  exact qhA (qhA rfl)
 unfold qaP;rw[h,z7,qBl hn,z7,qlx _ _ hw]; rfl
theorem ix_w(i:Int)(c:Nat)(f:Bool)(w:List Str):qaZ i (c:Int) f w=some (ixB i c,f || !ixB i c,w):=by
 have h:(bif decide (0<=i) then some (decide (i<(c:Int)),w) else some (false,w))=some (ixB i c,w):=quY rfl;unfold qaZ;rw[h];cases f <;> rfl
theorem qDz(n:Net)(s:Stp)(f:Bool){w:List Str}(hw:w.length<=1000)(k:Nat)(hk:k<2):qbj n s (k:Int) f w=
  some (.inl (((k+1:Nat):Int),f || !ixB ([s.2.2.2.1,s.2.2.2.2.1].getD k 0) n.2.2.1.length,w++portV n ([s.2.2.2.1,s.2.2.2.2.1].getD k 0))):=by
 unfold qbj;rw[dec_t (by simp; omega),za,gd_t (inB_t (show k<[s.2.2.2.1,s.2.2.2.2.1].length from hk)),z9,ix_w,z7,w1 hk (by omega)]
 generalize [s.2.2.2.1,s.2.2.2.2.1].getD k 0=i;unfold portV;cases hb:ixB i n.2.2.1.length
 ·rw[zb,z7,zb,zJ]
 ·rw[za,gd_t (qsL hb),qlx _ _ (by simp only; omega),za]; rfl
theorem qDA(n:Net)(s:Stp)(f:Bool)(hl:s.2.2.2.2.2.1.length<=100000)(hN:∀i,(segN n i).length<=1000):∀(r:List Hop) (k:Nat) (w:List Str),s.2.2.2.2.2.1.drop k=r->k+r.length=s.2.2.2.2.2.1.length->w.length<=1000+k->
  ∃e,iter (fun x2=>qbk n s x2.1 x2.2.1 x2.2.2) ((k:Int),f,w)=some e/\Sum.elim id id e=(f || !hopsB n r,w++hopsV n r)
 | [],k,w,h,h2,hw=>by
  refine⟨.inl (f,w),qaS ?_,?_⟩
  ·show qbk n s (k:Int) f w=_;unfold qbk;rw[dec_f (by simp at h2; omega)]; rfl
  ·show(f,w)=_;unfold hopsV hopsB;rw[zJ]; cases f <;> rfl
 | h::r,k,w,he,h2,hw=>by
  have h2':k+r.length+1=s.2.2.2.2.2.1.length:=by rw[zf] at h2; omega
  have hk:k<s.2.2.2.2.2.1.length:=by omega
  have hg:s.2.2.2.2.2.1.getD k (0,false)=h:=by
   rw[zh,zl hk];have:=z71 hk;rw[he] at this;exact(zP1 this).1.symm
  have hr:s.2.2.2.2.2.1.drop (k+1)=r:=by rw[<-zH1,he]; rfl
  have hs:qbk n s (k:Int) f w=(bif ixB h.1 n.2.1.length then some (.inl (((k+1:Nat):Int),f,w++[hopV n h])) else some (.inr (.inr (true,w)))):=by
   unfold qbk;rw[dec_t (by omega),za,gd_t (inB_t hk),z9,hg,ix_w,z7,w1 hk (by omega)]
   cases hb:ixB h.1 n.2.1.length
   ·rw[show(f || !false)=true by cases f <;> rfl]; rfl
   ·rw[show(f || !true)=f by cases f <;> rfl]
    show gd _ _=some _;rw[gd_t (qsL hb)];have h3:(n.2.1.getD (h.1).toNat ([],0,0,0,0,0,[])).1.length<=1000:=hN h.1;rw[show(bif h.2 then gd (Nat.ble ([45].length+((n.2.1.getD (h.1).toNat ([],0,0,0,0,0,[])).1).length) 9223372036854775807)<|some ([45]++((n.2.1.getD (h.1).toNat ([],0,0,0,0,0,[])).1),w) else some ((n.2.1.getD (h.1).toNat ([],0,0,0,0,0,[])).1,w))=some (hopV n h,w) by
     unfold hopV segN;cases h.2
     ·rfl
     ·rw[za,gd_t (zC1 (by simp only[zE]; omega))]; rfl]
    rw[z7,qlx _ _ (by simp only; omega)]; rfl
  unfold hopsV hopsB;rw[z31];cases hb:ixB h.1 n.2.1.length
  ·rw[hb] at hs;refine⟨.inr (true,w),qaS hs,?_⟩
   show(true,w)=_;rw[zb,zJ]; cases f <;> rfl
  ·rw[hb] at hs;obtain⟨e,e1,e2⟩:=qDA n s f hl hN r (k+1) (w++[hopV n h]) hr (by omega) (by simp only[zd,zE]; omega)
   refine⟨e,(qbs hs).trans e1,e2.trans ?_⟩
   rw[zp]; rfl
theorem flB:∀f a1 a2 a3 a4 a5 a6:Bool,(f || !a1 || (!a2 || !a3) || !a4 || !a5 || !a6)=(f || !(a1&&(a2&&(a3&&(a4&&(a5&&a6)))))):=by decide
theorem qFh(n:Net){s:Stp}(hi:i64P s.2.2.1)(hl:s.2.2.2.2.2.1.length<=100000)(hN:∀i,(segN n i).length<=1000)(f:Bool){w:List Str}(hw:w.length<=100):qdg n s f w=some (f || !flowB n s,w++flowV n s):=by
 have hA:(w++[cFlow]++[Lib.itoa s.2.2.1]).length<=102:=by simp; omega
 have hp:∀i,(portV n i).length<=1:=fun i=>by unfold portV; cases ixB i n.2.2.1.length <;> simp
 unfold qdg;rw[qlx _ _ (by omega),z7]
 simp only;rw[num_w hi _ (by simp; omega),z7]
 simp only;have h1:(bif (f || !smI s.2.2.1) then some (true,w++[cFlow]++[Lib.itoa s.2.2.1]) else(bif !decide (s.2.1=0) then some (true,w++[cFlow]++[Lib.itoa s.2.2.1]) else some (decide (32<(s.2.2.2.2.2.1.length:Int)),w++[cFlow]++[Lib.itoa s.2.2.1])))=
   some ((f || !smI s.2.2.1) || (!decide (s.2.1=0) || decide (32<(s.2.2.2.2.2.1.length:Int))),w++[cFlow]++[Lib.itoa s.2.2.1]):=qhA (qhA rfl)
 rw[h1,z7];simp only;generalize hg:((f || !smI s.2.2.1) || (!decide (s.2.1=0) || decide (32<(s.2.2.2.2.2.1.length:Int))))=g;have h2:iter (fun x=>qbj n s x.1 x.2.1 x.2.2) (0,g,w++[cFlow]++[Lib.itoa s.2.2.1])=some (g || !ixB s.2.2.2.1 n.2.2.1.length || !ixB s.2.2.2.2.1 n.2.2.1.length,w++[cFlow]++[Lib.itoa s.2.2.1]++portV n s.2.2.2.1++portV n s.2.2.2.2.1):=by
  refine(qbs (qDz n s g (zF hA (by decide)) 0 (by omega))).trans ?_
  refine(qbs (qDz n s _ (by have:=hp s.2.2.2.1; simp only[zd,List.getD_cons_zero] at hA ⊢; omega) 1 (by omega))).trans ?_
  refine qaS ?_
  show qbj n s 2 _ _=_;unfold qbj;rw[dec_f (by simp)]; rfl
 rw[h2,z7];simp only;obtain⟨e,e1,e2⟩:=qDA n s (g || !ixB s.2.2.2.1 n.2.2.1.length || !ixB s.2.2.2.2.1 n.2.2.1.length) hl hN s.2.2.2.2.2.1 0 (w++[cFlow]++[Lib.itoa s.2.2.1]++portV n s.2.2.2.1++portV n s.2.2.2.2.1) rfl (by omega)
  (by have h3:=hp s.2.2.2.1; have h4:=hp s.2.2.2.2.1; simp only[zd] at hA ⊢; omega)
 refine(congrArg (fun z=>Option.bind z _) e1).trans ?_
 have e3:∀z:(Bool×List Str)⊕(Bool×List Str),z.elim (fun s7=>some (s7.1,s7.2)) (fun s8=>some (s8.1,s8.2))=some (Sum.elim id id z):=fun z=>by cases z <;> rfl
 refine(e3 e).trans ?_
 rw[e2,<-hg];refine congrArg some (Prod.ext ?_ ?_)
 ·unfold flowB;rw[show decide (32<(s.2.2.2.2.2.1.length:Int))=!decide (s.2.2.2.2.2.1.length<=32) by rw[<-zJ2]; exact zB1.2 (by omega)]
  generalize smI s.2.2.1=a1;generalize decide (s.2.1=0)=a2;generalize decide (s.2.2.2.2.2.1.length<=32)=a3;generalize ixB s.2.2.2.1 n.2.2.1.length=a4;generalize ixB s.2.2.2.2.1 n.2.2.1.length=a5;generalize hopsB n s.2.2.2.2.2.1=a6;exact flB f a1 a2 a3 a4 a5 a6
 ·unfold flowV;simp only[zp,zh1,zC]
structure NB(n:Net):Prop where
 s:n.2.1.length<=1000
 p:n.2.2.1.length<=1000
 a:n.2.2.2.1.length<=1000
 sn:∀i,(segN n i).length<=1000
 pn:∀i,(portN n i).length<=1000
 an:∀i,(staN n i).length<=1000
theorem pB1:∀f c d b:Bool,(f || (!c || (bif !d then !b else false)))=(f || !(c&&(d || b))):=by decide
theorem pB2:∀f p i m v:Bool,((((f || !p) || !i) || !m) || !v)=(f || !(p&&(i&&(m&&v)))):=by decide
theorem pB3:∀f p i v:Bool,(((f || !p) || !i) || !v)=(f || !(p&&(i&&v))):=by decide
theorem pB4:∀f p i:Bool,((f || !p) || !i)=(f || !(p&&i)):=by decide
theorem pB5:∀f p:Bool,true=(f || !(p&&false)):=by decide
def preB(s:Stp):Bool:=decide (s.2.2.2.2.2.2=0)&&(decide (s.1=5) || bareB s)
theorem qEw(n:Net)(i:Int):(staV n i).length<=1:=by unfold staV; cases ixB i n.2.2.2.1.length <;> simp
theorem qFi{n:Net}(hn:NB n){s:Stp}(hi:i64P s.2.1)(hv:i64P s.2.2.1)(hl:s.2.2.2.2.2.1.length<=100000)(f:Bool){w:List Str}(hw:w.length<=90):qdh n s f w=some (f || !stepB n s,w++stepV n s):=by
 have hn1:=hn.s; have hn2:=hn.p;refine ok_eq ?_
 unfold qdh;refine Ok.eq (a:=(bareB s,w)) (by rw[dlen0]; exact quY (quY rfl)) ?_
 refine Ok.eq (a:=(f || !preB s,w)) ?_ ?_
 ·refine Eq.trans (b:=some (f || (!decide (s.2.2.2.2.2.2=0) || (bif !decide (s.1=5) then !bareB s else false)),w)) (qhA (qhA ?_)) (by rw[pB1]; rfl)
  cases decide (s.1=5) <;> rfl
 have e0:stepB n s=(preB s&&qhk n s):=rfl;rw[e0];refine Ok.eq (a:=(decide (s.1=1) || decide (s.1=2),w)) (by cases decide (s.1=1) <;> rfl) ?_
 refine Ok.bif (fun h12=>?_) fun h12=>?_
 ·have hk:s.1=1\/s.1=2:=by simpa using h12
  refine Ok.gd (qae.2 (by rcases hk with h | h <;> rw[h] <;> decide)) ?_
  refine Ok.eq (qlx _ _ (zF hw (by decide))) ?_
  rw[show wi64 ((n.2.1.length:Int)+(n.2.2.1.length:Int))=((n.2.1.length+n.2.2.1.length:Nat):Int) by rw[wi (by omega)]; omega]
  refine Ok.eq (ix_w _ _ _ _) ?_
  refine Ok.eq (num_w hi _ (by simp; omega)) ?_
  refine⟨_,qhA rfl,Prod.ext ?_ ?_⟩
  ·unfold qhk;rw[if_pos hk];exact pB2 _ _ _ _ _
  ·unfold stepV;simp only[zp];rcases hk with h | h
   ·rw[if_pos h,h]; rfl
   ·rw[if_neg (by omega),if_pos h,h]; rfl
 have hk:¬(s.1=1\/s.1=2):=by simpa using h12
 refine Ok.eq (a:=(decide (s.1=3) || decide (s.1=4),w)) (by cases decide (s.1=3) <;> rfl) ?_
 refine Ok.bif (fun h34=>?_) fun h34=>?_
 ·have hk3:s.1=3\/s.1=4:=by simpa using h34
  have h1:=qEw n s.2.1;refine Ok.gd (qae.2 (by rcases hk3 with h | h <;> rw[h] <;> decide)) ?_
  refine Ok.eq (qlx _ _ (zF hw (by decide))) ?_
  refine Ok.eq (ix_w _ _ _ _) ?_
  refine Ok.eq (a:=((f || !preB s) || !ixB s.2.1 n.2.2.2.1.length,w++[([[],[],[],[115,116,97,114,116],[115,116,111,112]]:List (List UInt8)).getD s.1.toNat []]++staV n s.2.1)) ?_ ?_
  ·unfold staV;show(bif ixB s.2.1 n.2.2.2.1.length then _ else _)=_;cases hb:ixB s.2.1 n.2.2.2.1.length
   ·rw[zb,zb,zJ]
   ·rw[za,za];exact ok_eq (Ok.gd (qsL hb) (Ok.eq (qlx _ _ (by simp only[zd,zE]; omega)) (.ret rfl)))
  refine⟨_,qhA rfl,Prod.ext ?_ ?_⟩
  ·unfold qhk;rw[if_neg hk,if_pos hk3];exact pB3 _ _ _ _
  ·unfold stepV;simp only[zp];rcases hk3 with h | h
   ·rw[if_neg (by omega),if_neg (by omega),if_pos h,h]; rfl
   ·rw[if_neg (by omega),if_neg (by omega),if_neg (by omega),if_pos h,h]; rfl
 have hk3:¬(s.1=3\/s.1=4):=by simpa using h34
 unfold qhk stepV;rw[if_neg hk,if_neg hk3,if_neg (show ¬s.1=1 by omega),if_neg (show ¬s.1=2 by omega),if_neg (show ¬s.1=3 by omega),if_neg (show ¬s.1=4 by omega)]
 refine Ok.bif (fun h5=>?_) fun h5=>?_
 ·have h5:=zj h5;rw[if_pos h5,if_pos h5];exact Ok.eq (qFh n hv hl hn.sn _ (zF hw (by decide))) (.ret (Prod.ext (pB4 _ _ _) rfl))
 have h5:=zQ h5;rw[if_neg h5,if_neg h5];refine Ok.bif (fun h6=>?_) fun h6=>?_
 ·have h6:=zj h6;rw[if_pos h6,if_pos h6];refine Ok.eq (qlx _ _ (zF hw (by decide))) ?_
  refine Ok.eq (num_w hv _ (by simp; omega)) ?_
  refine⟨_,qhA rfl,Prod.ext ?_ ?_⟩
  ·exact pB3 _ _ _ _
  ·simp only[zp]; rfl
 have h6:=zQ h6;rw[if_neg h6,if_neg h6];exact .ret (Prod.ext (pB5 _ _) (zJ w).symm)
/-! ### A record -/
def entB(e:Ent3):Bool:=ixB (e.2.1-1) 4&&(Ac.nameP e.1&&smI e.2.2)
def entV(e:Ent3):List Str:=qlw::((bif ixB (e.2.1-1) 4 then [kindL.getD e.2.1.toNat []] else [])++[e.1,Lib.itoa e.2.2])
def recV(n:Net)(r:Rec):List Str:=
 if r.1=1 then cTele::r.2.1.map Lib.itoa else if r.1=2 then stepV n r.2.2.1 else if r.1=3 then entV r.2.2.2 else []
def recB(n:Net)(r:Rec):Bool:=
 if r.1=1 then(noB r.2.2.1&&noE r.2.2.2)&&(decide (5<=r.2.1.length)&&(decide (r.2.1.length<=21)&&r.2.1.all smI)) else
 if r.1=2 then(decide (r.2.1.length=0)&&noE r.2.2.2)&&stepB n r.2.2.1 else
 if r.1=3 then(decide (r.2.1.length=0)&&noB r.2.2.1)&&entB r.2.2.2 else false
structure RcI(r:Rec):Prop where
 v:r.2.1.length<=100000
 vi:∀x∈r.2.1,i64P x
 i:i64P r.2.2.1.2.1
 w:i64P r.2.2.1.2.2.1
 h:r.2.2.1.2.2.2.2.2.1.length<=100000
 n:r.2.2.2.1.length<=100000
 k:i64P r.2.2.2.2.1
 e:i64P r.2.2.2.2.2
theorem qBm(s:Stp):qej s=some (noB s):=by
 unfold qej noB;rw[dlen0];exact qkX (qkX (qkX (qkX (qkX (qkX rfl)))))
def headB(r:Rec):Bool:=(!decide (r.1=1)&&decide (0<(r.2.1.length:Int))) || ((!decide (r.1=2)&&!noB r.2.2.1) || (!decide (r.1=3)&&!noE r.2.2.2))
theorem qDB(r:Rec)(f:Bool)(hv:r.2.1.length<=100000)(hi:∀x∈r.2.1,i64P x):∀(t:List Int) (k:Nat) (f:Bool) (w:List Str),r.2.1.drop k=t->k+t.length=r.2.1.length->w.length<=1000+k->
  iter (fun x=>qa2 r x.1 x.2.1 x.2.2) ((k:Int),f,w)=some (f || !t.all smI,w++t.map Lib.itoa)
 | [],k,f,w,h,h2,hw=>by
  refine qaS ?_
  show qa2 r (k:Int) f w=_;unfold qa2;rw[dec_f (by simp at h2; omega),zI1,zJ,List.all_nil]; cases f <;> rfl
 | x::t,k,f,w,he,h2,hw=>by
  have h2':k+t.length+1=r.2.1.length:=by rw[zf] at h2; omega
  have hk:k<r.2.1.length:=by omega
  have hd:=z71 hk;rw[he] at hd;have hg:r.2.1.getD k 0=x:=by
   rw[zh,zl hk];exact(zP1 hd).1.symm
  have hs:qa2 r (k:Int) f w=some (.inl (((k+1:Nat):Int),f || !smI x,w++[Lib.itoa x])):=by
   unfold qa2;rw[dec_t (by omega),za,gd_t (inB_t hk),z9,hg,num_w (hi x (by rw[<-hg]; exact gmem hk)) _ (by omega),z7,w1 hk (by omega)]
  refine(qbs hs).trans ?_
  rw[qDB r f hv hi t (k+1) _ _ (zP1 hd).2.symm (by omega) (by simp only[zd,zE]; omega),z31,za1,zp]
  refine congrArg some (Prod.ext ?_ rfl)
  show(f || !smI x || !t.all smI)=(f || !(smI x&&t.all smI));cases f <;> cases smI x <;> rfl
theorem ix4{k:Int}(h:i64P k):ixB (wi64 (k-1)) 4=ixB (k-1) 4:=by
 obtain⟨h1,h2⟩:=h;by_cases hk:k=-9223372036854775808
 ·subst hk; decide
 ·rw[wi (by omega)]
theorem rB1:∀a b l5 l21 sm:Bool,(false || ((!a || !b) || (!l5 || !l21)) || !sm)=!((a&&b)&&(l5&&(l21&&sm))):=by decide
theorem dpos{A:Type}(l:List A):decide (0<(l.length:Int))=!decide (l.length=0):=by
 rw[<-zJ2]; exact zB1.2 (by omega)
theorem qCQ{n:Net}(hn:NB n){r:Rec}(hr:RcI r):qcQ n r false []=some (!recB n r,recV n r):=by
 refine ok_eq ?_
 unfold qcQ;have hb:qej (r.2.2.1.1,r.2.2.1.2.1,r.2.2.1.2.2.1,r.2.2.1.2.2.2.1,r.2.2.1.2.2.2.2.1,r.2.2.1.2.2.2.2.2.1,r.2.2.1.2.2.2.2.2.2)=some (noB r.2.2.1):=qBm _;refine Ok.eq (a:=(headB r,[])) ?_ ?_
 ·rw[hb];unfold headB noE;generalize noB r.2.2.1=nb;generalize (decide (r.2.2.2.1=[])&&(decide (r.2.2.2.2.1=0)&&decide (r.2.2.2.2.2=0)))=ne;generalize decide (r.1=1)=d1;generalize decide (r.1=2)=d2;generalize decide (r.1=3)=d3;generalize decide (0<(r.2.1.length:Int))=dl;cases d1 <;> cases d2 <;> cases d3 <;> cases dl <;> cases nb <;> cases ne <;> rfl
 unfold recB recV headB;rw[dpos];refine Ok.bif (fun h1=>?_) fun h1=>?_
 ·have h1:=zj h1;rw[if_pos h1,if_pos h1,dec_t h1,dec_f (show ¬r.1=2 by omega),dec_f (show ¬r.1=3 by omega)]
  refine Ok.eq (qlx _ _ (by simp)) ?_
  refine Ok.eq (a:=((!noB r.2.2.1 || !noE r.2.2.2) || (!decide (5<=r.2.1.length) || !decide (r.2.1.length<=21)),[cTele])) ?_ ?_
  ·refine(qhA (qhA rfl)).trans ?_
   rw[show decide ((r.2.1.length:Int)<5)=!decide (5<=r.2.1.length) by rw[<-zJ2]; exact zB1.2 (by omega),
    show decide (21<(r.2.1.length:Int))=!decide (r.2.1.length<=21) by rw[<-zJ2]; exact zB1.2 (by omega)]
   rfl
  refine Ok.eq (qDB r true hr.v hr.vi r.2.1 0 _ [cTele] rfl (by omega) (by simp)) (.ret (Prod.ext ?_ rfl))
  exact rB1 _ _ _ _ _
 have h1:=zQ h1;rw[if_neg h1,if_neg h1,dec_f h1];refine Ok.bif (fun h2=>?_) fun h2=>?_
 ·have h2:=zj h2;rw[if_pos h2,if_pos h2,dec_t h2,dec_f (show ¬r.1=3 by omega)]
  refine Ok.eq (qFi hn (s:=r.2.2.1) hr.i hr.w hr.h _ (by simp)) (.ret (Prod.ext ?_ rfl))
  show((!false&&!decide (r.2.1.length=0) || (!true&&!noB r.2.2.1 || !false&&!noE r.2.2.2)) || !stepB n r.2.2.1)=_;generalize decide (r.2.1.length=0)=a;generalize noE r.2.2.2=b;generalize stepB n r.2.2.1=c;generalize noB r.2.2.1=d;cases a <;> cases b <;> cases c <;> cases d <;> rfl
 have h2:=zQ h2;rw[if_neg h2,if_neg h2,dec_f h2];refine Ok.bif (fun h3=>?_) fun h3=>?_
 ·have h3:=zj h3;rw[if_pos h3,if_pos h3,dec_t h3];refine Ok.eq (qlx _ _ (by simp)) (Ok.eq (a:=kindL) rfl ?_)
  rw[show wi64 ((kindL.length:Int)-1)=((4:Nat):Int) by decide]
  refine Ok.eq (ix_w _ _ _ _) ?_
  rw[ix4 hr.k];generalize hg:((!false&&!decide (r.2.1.length=0)) || ((!false&&!noB r.2.2.1) || (!true&&!noE r.2.2.2)))=g;refine Ok.eq (a:=(g || !ixB (r.2.2.2.2.1-1) 4,[qlw]++(bif ixB (r.2.2.2.2.1-1) 4 then [kindL.getD r.2.2.2.2.1.toNat []] else []))) ?_ ?_
  ·show(bif ixB (r.2.2.2.2.1-1) 4 then _ else _)=_;cases hb:ixB (r.2.2.2.2.1-1) 4
   ·rfl
   ·rw[za,za];have:=ixB_t hb;exact ok_eq (Ok.eq (a:=kindL) rfl (Ok.gd (qae.2 (by simp; omega)) (Ok.eq (qlx _ _ (by simp)) (.ret rfl))))
  refine Ok.eq (a:=((g || !ixB (r.2.2.2.2.1-1) 4) || !Ac.nameP r.2.2.2.1,_)) (qhA (ok_eq (Ok.eq (Ac.name_eq _) (.ret rfl)))) ?_
  have hl:(([qlw]:List Str)++(bif ixB (r.2.2.2.2.1-1) 4 then [kindL.getD r.2.2.2.2.1.toNat []] else [])).length<=2:=by cases ixB (r.2.2.2.2.1-1) 4 <;> simp
  refine Ok.eq (qlx _ _ (zF hl (by decide))) ?_
  refine Ok.eq (num_w hr.e _ ?_) (.ret (Prod.ext ?_ ?_))
  ·rw[zd,zE];exact zF (Nat.succ_le_succ hl) (by decide)
  ·rw[<-hg];show _=!((decide (r.2.1.length=0)&&noB r.2.2.1)&&entB r.2.2.2);unfold entB;generalize ixB (r.2.2.2.2.1-1) 4=i;generalize Ac.nameP r.2.2.2.1=m;generalize smI r.2.2.2.2.2=s;generalize decide (r.2.1.length=0)=a;generalize noB r.2.2.1=b;generalize noE r.2.2.2=c;cases a <;> cases b <;> cases i <;> cases m <;> cases s <;> cases c <;> rfl
  ·unfold entV;simp only[zp,zh1,zC]
 have h3:=zQ h3;rw[if_neg h3,if_neg h3];exact .ret rfl
theorem qfB{n:Int}(h:i64P n):(Lib.itoa n).length<=20:=by
 obtain⟨h1,h2⟩:=h;have:=qsJ 18 n.natAbs (by omega)
 rw[qne];split
 ·rw[zf]; omega
 ·omega
theorem qBn{w:List Str}(h1:w.length<=200000)(h2:∀x∈w,x.length<=100000):joinT w [32]=some (joinS w):=by
 have h3:=qsI h2;have h4:=qpP w;have h5:w.length*100000<=200000*100000:=zy _ h1;unfold joinT;rw[zC1 (by omega),zC1 (by show(joinS w).length<=_; omega)]; rfl
theorem quZ{n:Net}(hn:∀i,(segN n i).length<=1000):∀l:List Hop,(hopsV n l).length<=l.length/\∀x∈hopsV n l,x.length<=1001
 | []=>⟨zZ _,fun x hx=>by cases hx⟩
 | h::r=>by
  have ih:=quZ hn r;unfold hopsV;cases ixB h.1 n.2.1.length
  ·exact⟨zi1 _,fun x hx=>by cases hx⟩
  ·refine⟨Nat.succ_le_succ ih.1,fun x hx=>?_⟩
   rcases zr.1 hx with rfl | hx
   ·have:=hn h.1;unfold hopV;cases h.2
    ·rw[zb]; omega
    ·rw[za,zf]; omega
   ·exact ih.2 x hx
structure Sz(w:List Str)(k m:Nat):Prop where
 l:w.length<=k
 x:∀x∈w,x.length<=m
theorem Sz.nil{k m:Nat}:Sz [] k m:=⟨zi1 _,fun x hx=>by cases hx⟩
theorem Sz.cons{x:Str}{w:List Str}{k m:Nat}(hx:x.length<=m)(h:Sz w k m):Sz (x::w) (k+1) m:=⟨Nat.succ_le_succ h.l,fun y hy=>by
 rcases zr.1 hy with rfl | hy
 ·exact hx
 ·exact h.x y hy⟩
theorem Sz.app{a b:List Str}{k j m:Nat}(h:Sz a k m)(h':Sz b j m):Sz (a++b) (k+j) m:=⟨by rw[zd]; exact Nat.add_le_add h.l h'.l,fun y hy=>(zA.1 hy).elim (h.x y) (h'.x y)⟩
theorem Sz.mono{w:List Str}{k m k' m':Nat}(h:Sz w k m)(hk:k<=k')(hm:m<=m'):Sz w k' m':=⟨zF h.l hk,fun x hx=>zF (h.x x hx) hm⟩
theorem Sz.bif{c:Bool}{x:Str}{m:Nat}(hx:c=true->x.length<=m):Sz (bif c then [x] else []) 1 m:=by
 cases c
 ·exact .nil
 ·exact .cons (hx rfl) .nil
theorem qBo{n:Net}(hn:NB n){r:Rec}(hr:RcI r):Sz (recV n r) 200000 100000:=by
 unfold recV;split
 ·exact Sz.mono (Sz.cons (m:=100000) (k:=100000) (by decide) ⟨by rw[z51]; exact hr.v,fun x hx=>by
   obtain⟨v,hv,rfl⟩:=zV.1 hx;exact zF (qfB (hr.vi v hv)) (by decide)⟩) (by decide) (by decide)
 split
 ·have hp:∀i,Sz (portV n i) 1 100000:=fun i=>Sz.bif fun _=>zF (hn.pn i) (by decide)
  have hs:∀i,Sz (staV n i) 1 100000:=fun i=>Sz.bif fun _=>zF (hn.an i) (by decide)
  have hi:=zF (qfB hr.i) (show 20<=100000 by decide)
  have hw:=zF (qfB hr.w) (show 20<=100000 by decide)
  have hh:=quZ hn.sn r.2.2.1.2.2.2.2.2.1;have hh:=hr.h;unfold stepV;split
  ·exact(Sz.cons (by decide) (.cons hi (.nil (k:=0)))).mono (by decide) (by decide)
  split
  ·exact(Sz.cons (by decide) (.cons hi (.nil (k:=0)))).mono (by decide) (by decide)
  split
  ·exact(Sz.cons (by decide) (hs _)).mono (by decide) (by decide)
  split
  ·exact(Sz.cons (by decide) (hs _)).mono (by decide) (by decide)
  split
  ·have hz:=quZ hn.sn r.2.2.1.2.2.2.2.2.1;exact(Sz.cons (by decide) (.cons hw ((hp _).app ((hp _).app ⟨zF hz.1 hr.h,fun x hx=>zF (hz.2 x hx) (by decide)⟩)))).mono (by decide) (by decide)
  split
  ·exact(Sz.cons (by decide) (.cons hw (.nil (k:=0)))).mono (by decide) (by decide)
  ·exact .nil
 split
 ·refine(Sz.cons (by decide) ((Sz.bif fun hb=>?_).app (.cons hr.n (.cons (zF (qfB hr.e) (by decide)) (.nil (k:=0)))))).mono (by decide) (by decide)
  have:=ixB_t hb;have hm:∀x∈kindL,x.length<=100000:=by decide
  exact hm _ (gmem (by simp; omega))
 ·exact .nil
theorem qCR{n:Net}(hn:NB n){r:Rec}(hr:RcI r):qgy n r=some (joinS (recV n r),recB n r):=by
 refine ok_eq ?_
 have hz:=qBo hn hr;unfold qgy;refine Ok.eq (a:=(false,[])) rfl (Ok.eq (qCQ hn hr) (Ok.eq (qBn hz.l hz.x) (.ret (Prod.ext rfl ?_))))
 exact zp2 _
/-! ### The reference's numbers -/
theorem rdig:∀(m k a:Nat),a<10^(m+1)->a<=9223372036854775808->m<=100->qdI (k+m+1) (-(a:Int))=some (Lib.decDigits a):=by
 have hc:∀a:Nat,a<10->qbC [wu8 (wi64 (48+(a:Int)))]=[UInt8.ofNat (48+a)]:=fun a ha=>by
  rw[wi (by omega),show wu8 (48+(a:Int))=48+(a:Int) from IntWalk.u8_in _ (by omega)]
  show [UInt8.ofNat (48+(a:Int)).toNat]=_;rw[show(48+(a:Int)).toNat=48+a by omega]
 intro m;induction m with
 | zero=>
  intro k a ha _ _;have ha:a<10:=by simpa using ha
  show qeU (qdI (k+0)) (-(a:Int))=_;unfold qeU;rw[dec_t (by omega),za,Lib.decDigits_one ha,show(48:Int) - -(a:Int)=48+(a:Int) by omega,hc a ha]
 | succ m ih=>
  intro k a ha hb hm;show qeU (qdI (k+(m+1))) (-(a:Int))=_;unfold qeU;by_cases h:a<10
  ·rw[dec_t (by omega),za,Lib.decDigits_one h,show(48:Int) - -(a:Int)=48+(a:Int) by omega,hc a h]
  ·have e1:Int.tdiv (-(a:Int)) 10=-((a/10:Nat):Int):=by rw[Int.neg_tdiv,Int.tdiv_eq_ediv_of_nonneg (by omega)]; omega
   have e2:Int.tmod (-(a:Int)) 10=-((a%10:Nat):Int):=by rw[Int.neg_tmod,Int.tmod_eq_emod_of_nonneg (by omega)]; omega
   have hd:a/10<10^(m+1):=zP2 (by rw[Nat.pow_succ,z42] at ha; exact ha)
   have hl:=qsJ m (a/10) hd;have hx:Lib.decDigits a=Lib.decDigits (a/10)++[UInt8.ofNat (48+a%10)]:=by rw[Lib.decDigits,dif_neg h]
   rw[dec_f (by omega),zb,e1,wi (by omega),show k+(m+1)=k+m+1 by omega,ih k (a/10) hd (by omega) (by omega),z7,e2,show(48:Int) - -((a%10:Nat):Int)=48+((a%10:Nat):Int) by omega,hc _ (by omega),gd_t,hx]
   exact zC1 (by simp; omega)
theorem qkb{n:Int}(h:i64P n):qbL n=some (Lib.itoa n):=by
 obtain⟨h1,h2⟩:=h;have hd:qmB (-(n.natAbs:Int))=some (Lib.decDigits n.natAbs):=rdig 18 18446744073709551597 n.natAbs (by omega) (by omega) (by decide)
 have hl:=qsJ 18 n.natAbs (by omega)
 unfold qbL;rw[qne];by_cases hn:n<0
 ·rw[dec_t hn,za,if_pos hn];rw[show -(n.natAbs:Int)=n by omega] at hd
  rw[hd,z7,gd_t (zC1 (by simp only[zE]; omega))]; rfl
 ·rw[dec_f hn,zb,if_neg hn,wi (by omega)]
  rw[show -(n.natAbs:Int)=0-n by omega] at hd
  rw[hd]; rfl
theorem qpQ(n:Int):qgu n=some (smI n):=qkX rfl
theorem rsame0(s:Stp):qcm s (0,0,0,0,0,[],0)=some (noB s):=by
 refine Eq.trans ?_ (qqi s)
 unfold qfz;generalize qcm s _=x;cases x <;> rfl
theorem qge(x:Str):joinS [x]=x:=by
 show List.intercalate [32] [x]=x;simp[List.intercalate]
theorem dle_n(a b:Int):decide (a<=b)=!decide (b<a):=by
 rw[<-zJ2]; exact zB1.2 (by omega)
theorem qjz{n:Int}(h:smI n=true):i64P n:=by
 have:=smI_t h;exact⟨by omega,by omega⟩
theorem ble_t{a b:Nat}(h:a<=b):Nat.ble a b=true:=zC1 h
theorem qkY{p:List Str}(hp:p≠[])(x:Str):(joinS p++[32])++x=joinS (p++[x]):=by
 rw[qtF x hp,zp]; rfl
theorem rvals(r:Rec):∀(t:List Int) (k:Nat) (p:List Str),p≠[]->r.2.1.drop k=t->k+t.length=r.2.1.length->r.2.1.length<=100000->(joinS p).length<=100*(k+1)->
  ∃e,iter (fun x=>qbq r x.1 x.2) (joinS p,(k:Int))=some e/\Sum.elim id id e=bif t.all smI then joinS (p++t.map Lib.itoa) else []
 | [],k,p,hp,h,h2,hl,hj=>by
  refine⟨.inl (joinS p),qaS ?_,?_⟩
  ·show qbq r (joinS p) (k:Int)=_;unfold qbq;rw[dec_f (by simp at h2; omega)]; rfl
  ·rw[zI1,zJ]; rfl
 | x::t,k,p,hp,he,h2,hl,hj=>by
  have h2':k+t.length+1=r.2.1.length:=by rw[zf] at h2; omega
  have hk:k<r.2.1.length:=by omega
  have hd:=z71 hk;rw[he] at hd;have hg:r.2.1.getD k 0=x:=by
   rw[zh,zl hk];exact(zP1 hd).1.symm
  rw[z31];cases hs:smI x
  ·refine⟨.inr [],qaS ?_,rfl⟩
   show qbq r (joinS p) (k:Int)=_;unfold qbq;rw[dec_t (by omega),za,gd_t (inB_t hk),z9,hg,qpQ,z7,hs]; rfl
  ·have hx:=qdB hs;have h1:qbq r (joinS p) (k:Int)=some (.inl (joinS (p++[Lib.itoa x]),((k+1:Nat):Int))):=by
    unfold qbq;rw[dec_t (by omega),za,gd_t (inB_t hk),z9,hg,qpQ,z7,hs]
    show gd _ _=_;rw[gd_t (ble_t (by simp only[zE]; omega)),gd_t (inB_t hk),qkb (qjz hs),z7,gd_t (ble_t (by simp only[zd,zE]; omega)),w1 hk (by omega),qkY hp]
   obtain⟨e,e1,e2⟩:=rvals r t (k+1) (p++[Lib.itoa x]) (by simp) (zP1 hd).2.symm (by omega) hl (by
    rw[<-qkY hp]; simp only[zd,zE]; omega)
   refine⟨e,(qbs h1).trans e1,e2.trans ?_⟩
   rw[zp]; rfl
theorem elimS(z:Str⊕Str):z.elim (fun s4=>some s4) (fun s5=>some s5)=some (Sum.elim id id z):=by cases z <;> rfl
theorem qEx{r:Rec}(h1:r.1=1)(n:Net):qgO r=some (bif recB n r then joinS (recV n r) else []):=by
 refine ok_eq ?_
 unfold recB recV;rw[if_pos h1,if_pos h1];unfold qgO;refine Ok.eq (a:=!noB r.2.2.1 || (!noE r.2.2.2 || (decide ((r.2.1.length:Int)<5) || decide (21<(r.2.1.length:Int))))) ?_ ?_
 ·exact ok_eq (Ok.eq (rsame0 r.2.2.1) ⟨_,qdN (qdN (qdN rfl)),rfl⟩)
 rw[show decide ((r.2.1.length:Int)<5)=!decide (5<=r.2.1.length) by rw[<-zJ2]; exact zB1.2 (by omega),
  show decide (21<(r.2.1.length:Int))=!decide (r.2.1.length<=21) by rw[<-zJ2]; exact zB1.2 (by omega)]
 cases noB r.2.2.1
 ·exact .ret rfl
 cases noE r.2.2.2
 ·exact .ret rfl
 cases h5:decide (5<=r.2.1.length)
 ·exact .ret rfl
 cases h21:decide (r.2.1.length<=21)
 ·exact .ret rfl
 have h21:=zj h21;obtain⟨e,e1,e2⟩:=rvals r r.2.1 0 [cTele] (by simp) rfl (by omega) (by omega) (by rw[qge]; decide)
 rw[qge] at e1;show Ok ((iter _ _).bind _) _;refine Ok.eq e1 ?_
 exact⟨_,elimS e,e2⟩
theorem rhops(n:Net)(s:Stp)(hN:∀i,(segN n i).length<=1000):∀(t:List Hop) (k:Nat) (p:List Str),p≠[]->s.2.2.2.2.2.1.drop k=t->k+t.length=s.2.2.2.2.2.1.length->s.2.2.2.2.2.1.length<=100000->(joinS p).length<=10000*(k+1)->
  ∃e,iter (fun x=>qcU n s x.1 x.2) (joinS p,(k:Int))=some e/\Sum.elim id id e=bif hopsB n t then joinS (p++hopsV n t) else []
 | [],k,p,hp,h,h2,hl,hj=>by
  refine⟨.inl (joinS p),qaS ?_,?_⟩
  ·show qcU n s (joinS p) (k:Int)=_;unfold qcU;rw[dec_f (by simp at h2; omega)]; rfl
  ·unfold hopsV; rw[zJ]; rfl
 | x::t,k,p,hp,he,h2,hl,hj=>by
  have h2':k+t.length+1=s.2.2.2.2.2.1.length:=by rw[zf] at h2; omega
  have hk:k<s.2.2.2.2.2.1.length:=by omega
  have hd:=z71 hk;rw[he] at hd;have hg:s.2.2.2.2.2.1.getD k (0,false)=x:=by
   rw[zh,zl hk];exact(zP1 hd).1.symm
  unfold hopsB hopsV;rw[z31];have hb:(bif decide (x.1<0) then some true else some (decide ((n.2.1.length:Int)<=x.1)))=some (!ixB x.1 n.2.1.length):=by
   unfold ixB;rw[dlt_n x.1 0,dle_n (n.2.1.length:Int) x.1,Bool.not_and]; exact qdN rfl
  have hx:=hN x.1;cases hs:ixB x.1 n.2.1.length
  ·refine⟨.inr [],qaS ?_,rfl⟩
   show qcU n s (joinS p) (k:Int)=_;unfold qcU;rw[dec_t (by omega),za,gd_t (inB_t hk),z9,hg,hb,z7,hs]; rfl
  ·have h1:qcU n s (joinS p) (k:Int)=some (.inl (joinS (p++[hopV n x]),((k+1:Nat):Int))):=by
    unfold qcU;rw[dec_t (by omega),za,gd_t (inB_t hk),z9,hg,hb,z7,hs]
    have hx':(n.2.1.getD x.1.toNat ([],0,0,0,0,0,[])).1.length<=1000:=hx;have h45:(bif x.2 then([45]:Str) else []).length<=1:=by cases x.2 <;> simp
    refine ok_eq (Ok.gd (ble_t (by simp only[zE]; omega)) (Ok.eq (a:=(joinS p++[32])++bif x.2 then([45]:Str) else []) ?_ (Ok.gd (qsL hs) (Ok.gd (ble_t ?_) (.ret ?_)))))
    ·cases x.2
     ·exact congrArg some (zJ _).symm
     ·exact gd_t (ble_t (by simp only[zd,zE]; omega))
    ·simp only[zd,zE] at h45 ⊢;omega
    ·rw[<-qkY hp,w1 hk (by omega)]
     unfold hopV segN;cases x.2
     ·rw[zb,zb,zJ]
     ·rw[za,za,zp (joinS p++[32])]; rfl
   have hv:(hopV n x).length<=1001:=by
    unfold hopV;cases x.2
    ·rw[zb]; omega
    ·rw[za,zf]; omega
   obtain⟨e,e1,e2⟩:=rhops n s hN t (k+1) (p++[hopV n x]) (by simp) (zP1 hd).2.symm (by omega) hl (by
    rw[<-qkY hp]; simp only[zd,zE]; omega)
   refine⟨e,(qbs h1).trans e1,e2.trans ?_⟩
   rw[zp]; rfl
theorem qBp{n:Net}(hn:NB n)(s:Stp):qnb n s=some (bif decide (s.2.2.2.2.2.2=0)&&flowB n s then joinS (flowV n s) else []):=by
 refine ok_eq ?_
 unfold qnb;refine Ok.eq (a:=!decide (s.2.1=0) || (!decide (s.2.2.2.2.2.2=0) || (!smI s.2.2.1 || (decide (s.2.2.2.1<0) || (decide ((n.2.2.1.length:Int)<=s.2.2.2.1) || (decide (s.2.2.2.2.1<0) || (decide ((n.2.2.1.length:Int)<=s.2.2.2.2.1) || decide (32<(s.2.2.2.2.2.1.length:Int))))))))) ?_ ?_
 ·exact qdN (qdN (ok_eq (Ok.eq (qpQ _) ⟨_,qdN (qdN (qdN (qdN (qdN rfl)))),rfl⟩)))
 rw[dlt_n s.2.2.2.1,dle_n (n.2.2.1.length:Int) s.2.2.2.1,dlt_n s.2.2.2.2.1,dle_n (n.2.2.1.length:Int) s.2.2.2.2.1,show decide (32<(s.2.2.2.2.2.1.length:Int))=!decide (s.2.2.2.2.2.1.length<=32) by rw[<-zJ2]; exact zB1.2 (by omega)]
 unfold flowB;cases decide (s.2.1=0)
 ·rw[z03,ze2,ze2]; exact .ret rfl
 cases decide (s.2.2.2.2.2.2=0)
 ·exact .ret rfl
 cases hv:smI s.2.2.1
 ·exact .ret rfl
 have hi:(bif ixB s.2.2.2.1 n.2.2.1.length then false else true)=(!decide (0<=s.2.2.2.1) || !decide (s.2.2.2.1<(n.2.2.1.length:Int))):=by unfold ixB; cases decide (0<=s.2.2.2.1) <;> cases decide (s.2.2.2.1<(n.2.2.1.length:Int)) <;> rfl
 have ho:(bif ixB s.2.2.2.2.1 n.2.2.1.length then false else true)=(!decide (0<=s.2.2.2.2.1) || !decide (s.2.2.2.2.1<(n.2.2.1.length:Int))):=by unfold ixB; cases decide (0<=s.2.2.2.2.1) <;> cases decide (s.2.2.2.2.1<(n.2.2.1.length:Int)) <;> rfl
 rw[<-Bool.or_assoc (!decide (0<=s.2.2.2.1)),<-hi,<-Bool.or_assoc (!decide (0<=s.2.2.2.2.1)),<-ho];cases hb1:ixB s.2.2.2.1 n.2.2.1.length
 ·rw[z03,ze2]; exact .ret rfl
 cases hb2:ixB s.2.2.2.2.1 n.2.2.1.length
 ·rw[z03,ze2,ze2]; exact .ret rfl
 cases h32:decide (s.2.2.2.2.2.1.length<=32)
 ·exact .ret rfl
 have h32:=zj h32;have hl:=qdB hv;have hp1:(n.2.2.1.getD s.2.2.2.1.toNat ([],0,0)).1.length<=1000:=hn.pn _;have hp2:(n.2.2.1.getD s.2.2.2.2.1.toNat ([],0,0)).1.length<=1000:=hn.pn _;show Ok ((qbL _).bind _) _;refine Ok.eq (qkb (qjz hv)) ?_
 refine Ok.gd (ble_t (by simp only[zf,zx]; omega)) (Ok.gd (ble_t (by simp only[zd,zf,zx]; omega)) (Ok.gd (qsL hb1) (Ok.gd (ble_t (by simp only[zd,zf,zx]; omega))
  (Ok.gd (ble_t (by simp only[zd,zf,zx]; omega)) (Ok.gd (qsL hb2) (Ok.gd (ble_t (by simp only[zd,zf,zx]; omega)) ?_))))))
 have hj:(((([102,108,111,119,32]++Lib.itoa s.2.2.1)++[32])++((n.2.2.1.getD s.2.2.2.1.toNat ([],0,0)).1))++[32])++((n.2.2.1.getD s.2.2.2.2.1.toNat ([],0,0)).1)=joinS [cFlow,Lib.itoa s.2.2.1,portN n s.2.2.2.1,portN n s.2.2.2.2.1]:=by
  rw[qbw,qbw,qbw,qge];unfold portN;simp only[zp,zh1,zC]
 obtain⟨e,e1,e2⟩:=rhops n s hn.sn s.2.2.2.2.2.1 0 [cFlow,Lib.itoa s.2.2.1,portN n s.2.2.2.1,portN n s.2.2.2.2.1] (by simp) rfl (by omega) (by omega) (by
  rw[<-hj]; simp only[zd,zf,zx]; omega)
 rw[<-hj] at e1;refine Ok.eq e1 ⟨_,elimS e,e2.trans ?_⟩
 unfold flowV portV;rw[hb1,hb2];cases hopsB n s.2.2.2.2.2.1 <;> rfl
/-! ### The names of a network -/
theorem qFj{l:List Str}(h:twL l=false):l.Nodup:=by
 unfold List.Nodup;rw[zx2];intro i j hi hj hij he;have:twL l=true:=by
  unfold twL;rw[zA2];refine⟨j,zM.2 hj,?_⟩
  rw[zA2];refine⟨i,zM.2 hij,z41 ?_⟩
  rw[zh,zh,zl hi,zl hj];exact he.symm
 rw[h] at this; cases this
structure NmP(n:Net):Prop where
 nb:NB n
 sf:∀x∈n.2.1,nameB x.1=true
 pf:∀x∈n.2.2.1,nameB x.1=true
 af:∀x∈n.2.2.2.1,nameB x.1=true
 sd:(n.2.1.map (·.1)).Nodup
 pd:(n.2.2.1.map (·.1)).Nodup
 ad:(n.2.2.2.1.map (·.1)).Nodup
theorem qjj{x:Str}(h:nameB x=true):x.length<=12:=(qsK h).2
theorem NmP.of{n:Net}(h:qbi n=0):NmP n:=by
 have hv:=(VNet.of h).small;unfold qbi at h;obtain⟨h1,h⟩:=qn4 (by decide) h
 obtain⟨h2,h⟩:=qn4 (by decide) h
 cases h3:twB n with
 | true=>rw[h3] at h; cases h
 | false=>
  unfold formB at h2;have h2:=zm.1 h2;unfold twB at h3;rw[z62,zQ1] at h3;have h3:=h3.1;have f:∀ {A:Type} (l:List A) (g:A->Str),l.map g∈nmsOf n->(∀x∈l,nameB (g x)=true)/\(l.map g).Nodup:=fun l g hm=>
   ⟨fun x hx=>zm.1 (h2 _ hm) _ (zV.2 ⟨x,hx,rfl⟩),qFj (zK.2 (h3 _ hm))⟩
  have a1:=f n.2.1 (·.1) (by unfold nmsOf; simp)
  have a2:=f n.2.2.1 (·.1) (by unfold nmsOf; simp)
  have a3:=f n.2.2.2.1 (·.1) (by unfold nmsOf; simp)
  have g:∀ {A:Type} (l:List A) (g:A->Str) (d:A),g d=[]->(∀x∈l,nameB (g x)=true)->∀i:Nat,(g (l.getD i d)).length<=1000:=fun l g d hd hl i=>by
   by_cases hi:i<l.length
   ·exact zF (qjj (hl _ (gmem hi))) (by decide)
   ·rw[zh,zo1 (by omega)]
    show(g d).length<=_;rw[hd]; exact zi1 _
  have b1:=hv.sg; have b2:=hv.po; have b3:=hv.st;exact⟨⟨by omega,by omega,by omega,fun i=>g _ (·.1) sg0 rfl a1.1 _,fun i=>g _ (·.1) po0 rfl a2.1 _,fun i=>g _ (·.1) sta0 rfl a3.1 _⟩,a1.1,a2.1,a3.1,a1.2,a2.2,a3.2⟩
theorem qnf(s:Str):Ac.nameP s=nameB s:=zI2 ((Ac.name_eq s).symm.trans (qsx s))
/-! ### Numbers of a record that has a line -/
theorem ix_sm{i:Int}{n:Nat}(hn:n<=2000)(h:ixB i n=true):smI i=true:=by
 have:=ixB_t h;unfold smI;rw[dec_t (by omega),dec_t (by omega)]; rfl
theorem qyj{n:Net}(hn:NB n){r:Rec}(h:recB n r=true):RcI r:=by
 have z:i64P 0:=⟨by decide,by decide⟩
 have hno:noB r.2.2.1=true->r.2.2.1.2.1=0/\r.2.2.1.2.2.1=0/\r.2.2.1.2.2.2.2.2.1.length=0:=fun h=>by
  unfold noB at h;simp only[z8,zi] at h;exact⟨h.2.1,h.2.2.1,h.2.2.2.2.2.2⟩
 have hne:noE r.2.2.2=true->r.2.2.2.1=[]/\r.2.2.2.2.1=0/\r.2.2.2.2.2=0:=fun h=>by
  unfold noE at h;simpa only[z8,zi] using h
 unfold recB at h;split at h
 ·simp only[z8,zi,zm] at h;obtain⟨⟨h1,h2⟩,h3,h4,h5⟩:=h;obtain⟨a1,a2,a3⟩:=hno h1;obtain⟨b1,b2,b3⟩:=hne h2;exact⟨by omega,fun x hx=>qjz (h5 x hx),by rw[a1]; exact z,by rw[a2]; exact z,by omega,by rw[b1]; decide,by rw[b2]; exact z,by rw[b3]; exact z⟩
 split at h
 ·simp only[z8,zi] at h;obtain⟨⟨h1,h2⟩,h3⟩:=h;obtain⟨b1,b2,b3⟩:=hne h2;have hv:∀x∈r.2.1,i64P x:=fun x hx=>by rw[zM1.1 h1] at hx; cases hx
  unfold stepB at h3;simp only[z8,zg1,zi] at h3;obtain⟨⟨_,h4⟩,h5⟩:=h3;have hsp:=hn.s; have hpp:=hn.p; have hap:=hn.a;have hh:r.2.2.1.1≠5->r.2.2.1.2.2.2.2.2.1.length<=100000:=fun h=>by
   have:=h4.resolve_left h;unfold bareB at this;simp only[z8,zi] at this;omega
  have key:i64P r.2.2.1.2.1/\i64P r.2.2.1.2.2.1/\r.2.2.1.2.2.2.2.2.1.length<=100000:=by
   unfold qhk at h5;split at h5
   ·simp only[z8,zi] at h5;exact⟨qjz h5.2.1,by rw[h5.2.2]; exact z,hh (by omega)⟩
   split at h5
   ·simp only[z8,zi] at h5;exact⟨qjz (ix_sm (by omega) h5.1),by rw[h5.2]; exact z,hh (by omega)⟩
   split at h5
   ·unfold flowB at h5;simp only[z8,zi] at h5;exact⟨by rw[h5.2.1]; exact z,qjz h5.1,by omega⟩
   split at h5
   ·simp only[z8,zi] at h5;exact⟨by rw[h5.2]; exact z,qjz h5.1,hh (by omega)⟩
   ·cases h5
  exact⟨by omega,hv,key.1,key.2.1,key.2.2,by rw[b1]; decide,by rw[b2]; exact z,by rw[b3]; exact z⟩
 split at h
 ·simp only[z8,zi] at h;obtain⟨⟨h1,h2⟩,h3⟩:=h;obtain⟨a1,a2,a3⟩:=hno h2;unfold entB at h3;simp only[z8] at h3;have h4:=ixB_t h3.1;have h5:=h3.2.1;rw[qnf] at h5;have h6:=qjj h5;exact⟨by omega,fun x hx=>(by rw[zM1.1 h1] at hx; cases hx),by rw[a1]; exact z,by rw[a2]; exact z,by omega,by omega,⟨by omega,by omega⟩,qjz h3.2.2⟩
 ·cases h
/-! ### The reference -/
theorem rnoB(p:Pth):noB (0,0,0,p)=(decide (p.1=0)&&(decide (p.2.1=0)&&(decide (p.2.2.2=0)&&decide (p.2.2.1.length=0)))):=rfl
theorem qu0(s:Stp):qj5 s=some (noB (0,0,0,s.2.2.2)):=ok_eq (Ok.eq (rsame0 (0,0,0,s.2.2.2)) (.ret rfl))
theorem qu1(s:Stp)(h:¬s.1=5):preB s=noB (0,0,0,s.2.2.2):=by
 rw[rnoB];unfold preB bareB;rw[dec_f h];generalize decide (s.2.2.2.1=0)=a;generalize decide (s.2.2.2.2.1=0)=b;generalize decide (s.2.2.2.2.2.2=0)=c;generalize decide (s.2.2.2.2.2.1.length=0)=d;cases a <;> cases b <;> cases c <;> cases d <;> rfl
theorem qkc(a b:Str):joinS [a,b]=a++32::b:=by rw[qbw,qge]
theorem bB1:∀a b v p:Bool,(!a || (!b || (!v || !p)))=!(p&&((a&&b)&&v)):=by decide
theorem bB2:∀a p v:Bool,(!a || (!p || !v))=!(p&&(v&&a)):=by decide
theorem qBq{n:Net}(hn:NB n)(s:Stp):qnc n s=some (bif stepB n s then joinS (stepV n s) else []):=by
 have hn1:=hn.s; have hn2:=hn.p; have hn3:=hn.a;have e0:stepB n s=(preB s&&qhk n s):=rfl;rw[e0];refine ok_eq ?_
 unfold qnc;refine Ok.eq (a:=decide (s.1=1) || decide (s.1=2)) (by cases decide (s.1=1) <;> rfl) ?_
 refine Ok.bif (fun h12=>?_) fun h12=>?_
 ·have hk:s.1=1\/s.1=2:=by simpa using h12
  rw[qu1 s (by omega)]
  refine Ok.eq (a:=!(noB (0,0,0,s.2.2.2)&&((decide (0<=s.2.1)&&decide (s.2.1<((n.2.1.length+n.2.2.1.length:Nat):Int)))&&decide (s.2.2.1=0)))) ?_ ?_
  ·rw[<-bB1,dlt_n s.2.1 0,show(!decide (s.2.1<((n.2.1.length+n.2.2.1.length:Nat):Int)))=decide (((n.2.1.length+n.2.2.1.length:Nat):Int)<=s.2.1) from(dle_n _ _).symm]
   refine qdN (ok_eq (Ok.eq (a:=((n.2.1.length+n.2.2.1.length:Nat):Int)) ?_ ⟨_,qdN (qdN (ok_eq (Ok.eq (qu0 s) (.ret rfl)))),rfl⟩))
   exact congrArg some ((wi (n:=(n.2.1.length:Int)+(n.2.2.1.length:Int)) (by omega)).trans (by omega))
  have e1:qhk n s=((decide (0<=s.2.1)&&decide (s.2.1<((n.2.1.length+n.2.2.1.length:Nat):Int)))&&decide (s.2.2.1=0)):=by
   unfold qhk;rw[if_pos hk];show(ixB s.2.1 (n.2.1.length+n.2.2.1.length)&&(smI s.2.1&&decide (s.2.2.1=0)))=(ixB s.2.1 (n.2.1.length+n.2.2.1.length)&&decide (s.2.2.1=0));cases hb:ixB s.2.1 (n.2.1.length+n.2.2.1.length)
   ·rfl
   ·rw[ix_sm (by omega) hb]; rfl
  rw[<-e1];cases hB:(noB (0,0,0,s.2.2.2)&&qhk n s)
  ·exact .ret rfl
  rw[e1] at hB;simp only[z8,zi] at hB;show Ok (gd _ _) _;have hl:=qfB (n:=s.2.1) ⟨by omega,by omega⟩
  refine Ok.gd (qae.2 (by rcases hk with h | h <;> rw[h] <;> decide)) (Ok.eq (qkb ⟨by omega,by omega⟩) (Ok.gd (ble_t ?_) (.ret ?_)))
  ·rcases hk with h | h <;> rw[h]
   ·show 5+(Lib.itoa s.2.1).length<=9223372036854775807; omega
   ·show 6+(Lib.itoa s.2.1).length<=9223372036854775807; omega
  ·unfold stepV;rcases hk with h | h
   ·rw[if_pos h,h]; exact(qkc cOpen (Lib.itoa s.2.1)).symm
   ·rw[if_neg (by omega),if_pos h,h]; exact(qkc qv7 (Lib.itoa s.2.1)).symm
 have hk:¬(s.1=1\/s.1=2):=by simpa using h12
 refine Ok.eq (a:=decide (s.1=3) || decide (s.1=4)) (by cases decide (s.1=3) <;> rfl) ?_
 refine Ok.bif (fun h34=>?_) fun h34=>?_
 ·have hk3:s.1=3\/s.1=4:=by simpa using h34
  rw[qu1 s (by omega)]
  refine Ok.eq (a:=!(noB (0,0,0,s.2.2.2)&&((decide (0<=s.2.1)&&decide (s.2.1<(n.2.2.2.1.length:Int)))&&decide (s.2.2.1=0)))) ?_ ?_
  ·rw[<-bB1,dlt_n s.2.1 0,show(!decide (s.2.1<(n.2.2.2.1.length:Int)))=decide ((n.2.2.2.1.length:Int)<=s.2.1) from(dle_n _ _).symm]
   exact qdN (qdN (qdN (ok_eq (Ok.eq (qu0 s) (.ret rfl)))))
  have e1:qhk n s=((decide (0<=s.2.1)&&decide (s.2.1<(n.2.2.2.1.length:Int)))&&decide (s.2.2.1=0)):=by
   unfold qhk;rw[if_neg hk,if_pos hk3]; rfl
  rw[<-e1];cases hB:(noB (0,0,0,s.2.2.2)&&qhk n s)
  ·exact .ret rfl
  rw[e1] at hB;simp only[z8,zi] at hB;show Ok (gd _ _) _;have hp:(n.2.2.2.1.getD s.2.1.toNat ([],0,0,0,0)).1.length<=1000:=hn.an _;have hb:ixB s.2.1 n.2.2.2.1.length=true:=by unfold ixB; rw[dec_t hB.2.1.1,dec_t hB.2.1.2]; rfl
  rw[wi (by omega)]
  refine Ok.gd (qae.2 (by rcases hk3 with h | h <;> rw[h] <;> decide)) (Ok.gd (qsL hb) (Ok.gd (ble_t ?_) (.ret ?_)))
  ·rcases hk3 with h | h <;> rw[h]
   ·show 6+_<=_; omega
   ·show 5+_<=_; omega
  ·unfold stepV staV;rw[hb];rcases hk3 with h | h
   ·rw[if_neg (by omega),if_neg (by omega),if_pos h,h]; exact(qkc qsM (staN n s.2.1)).symm
   ·rw[if_neg (by omega),if_neg (by omega),if_neg (by omega),if_pos h,h]; exact(qkc cStop (staN n s.2.1)).symm
 have hk3:¬(s.1=3\/s.1=4):=by simpa using h34
 unfold qhk stepV;rw[if_neg hk,if_neg hk3,if_neg (show ¬s.1=1 by omega),if_neg (show ¬s.1=2 by omega),if_neg (show ¬s.1=3 by omega),if_neg (show ¬s.1=4 by omega)]
 refine Ok.bif (fun h6=>?_) fun h6=>?_
 ·have h6:=zj h6;rw[if_neg (show ¬s.1=5 by omega),if_neg (show ¬s.1=5 by omega),if_pos h6,if_pos h6,qu1 s (by omega)]
  refine Ok.eq (a:=!(noB (0,0,0,s.2.2.2)&&(smI s.2.2.1&&decide (s.2.1=0)))) ?_ ?_
  ·rw[<-bB2];exact qdN (ok_eq (Ok.eq (qu0 s) ⟨_,qdN (ok_eq (Ok.eq (qpQ _) (.ret rfl))),rfl⟩))
  cases hB:(noB (0,0,0,s.2.2.2)&&(smI s.2.2.1&&decide (s.2.1=0)))
  ·exact .ret rfl
  simp only[z8] at hB;have hl:=qdB hB.2.1;show Ok ((qbL _).bind _) _;refine Ok.eq (qkb (qjz hB.2.1)) (Ok.gd (ble_t ?_) (.ret (qkc cWait (Lib.itoa s.2.2.1)).symm))
  show 5+_<=_; omega
 have h6:=zQ h6;rw[if_neg h6,if_neg h6];refine Ok.bif (fun h5=>?_) fun h5=>?_
 ·have h5:=zj h5;rw[if_pos h5,if_pos h5];refine Ok.eq (qBp hn s) (.ret ?_)
  unfold preB;rw[dec_t h5,Bool.true_or,zu2]
 have h5:=zQ h5;rw[if_neg h5,ze2];exact .ret rfl
theorem bB3:∀a b m s:Bool,(!a || (!b || (!m || !s)))=!((a&&b)&&(m&&s)):=by decide
theorem qzc(e:Ent3):qkS e=some (bif entB e then joinS (entV e) else []):=by
 refine ok_eq ?_
 unfold qkS;have ei:ixB (e.2.1-1) 4=(decide (1<=e.2.1)&&decide (e.2.1<=4)):=by
  unfold ixB;rw[show decide (0<=e.2.1-1)=decide (1<=e.2.1) from zB1.2 (by omega),show decide (e.2.1-1<((4:Nat):Int))=decide (e.2.1<=4) from zB1.2 (by omega)]
 have e1:entB e=((decide (1<=e.2.1)&&decide (e.2.1<=4))&&(Ac.nameP e.1&&smI e.2.2)):=by unfold entB; rw[ei]
 refine Ok.eq (a:=!entB e) ?_ ?_
 ·rw[e1,<-bB3,dlt_n e.2.1 1,dlt_n 4 e.2.1];exact qdN (qdN (ok_eq (Ok.eq (Ac.rname_eq e.1) ⟨_,qdN (ok_eq (Ok.eq (qpQ _) (.ret rfl))),rfl⟩)))
 cases hB:entB e
 ·exact .ret rfl
 unfold entB at hB;simp only[z8] at hB;obtain⟨hb,hm,hs⟩:=hB;have hi:=ixB_t hb;rw[qnf] at hm;have hn:=qjj hm;have hl:=qdB hs;have hk:(kindL.getD e.2.1.toNat []).length<=9:=by
  have hm:∀x∈kindL,x.length<=9:=by decide
  exact hm _ (gmem (by simp; omega))
 rw[zg,zb];refine Ok.eq (a:=kindL) rfl (Ok.gd (qae.2 (by simp; omega)) (Ok.gd (ble_t ?_) (Ok.gd (ble_t ?_) (Ok.gd (ble_t ?_) (Ok.gd (ble_t ?_) (Ok.eq (qkb (qjz hs)) (Ok.gd (ble_t ?_) (.ret ?_))))))))
 ·simp only[zf,zx]; omega
 ·simp only[zd,zf,zx]; omega
 ·simp only[zd,zf,zx]; omega
 ·simp only[zd,zf,zx]; omega
 ·simp only[zd,zf,zx]; omega
 ·unfold entV;rw[hb];show _=joinS [qlw,kindL.getD e.2.1.toNat [],e.1,Lib.itoa e.2.2];rw[qbw,qbw,qbw,qge];simp only[zp,zh1,zC]
theorem qCS{a:Str}(h:a≠[]):∀r:List Str,joinS (a::r)≠[]
 | []=>by rw[qge]; exact h
 | b::r=>by rw[qbw]; simp
theorem qEy{n:Net}{r:Rec}(h:recB n r=true):∃c w,recV n r=c::w/\c≠[]:=by
 unfold recB at h;unfold recV;split at h
 ·rename_i h1;rw[if_pos h1];exact⟨_,_,rfl,by decide⟩
 rename_i h1;rw[if_neg h1];split at h
 ·rename_i h2;rw[if_pos h2];simp only[z8] at h;have h:=h.2;unfold stepB qhk at h;unfold stepV;split
  ·exact⟨_,_,rfl,by decide⟩
  split
  ·exact⟨_,_,rfl,by decide⟩
  split
  ·exact⟨_,_,rfl,by decide⟩
  split
  ·exact⟨_,_,rfl,by decide⟩
  split
  ·exact⟨_,_,rfl,by decide⟩
  split
  ·exact⟨_,_,rfl,by decide⟩
  ·rw[if_neg (by omega),if_neg (by omega),if_neg (by assumption),if_neg (by assumption),ze2] at h
   cases h
 rename_i h2;rw[if_neg h2];split at h
 ·rename_i h3;rw[if_pos h3];exact⟨_,_,rfl,by decide⟩
 ·cases h
theorem qEz{n:Net}(hn:NB n){r:Rec}(hr:RcI r):(joinS (recV n r)).length<=100000000000:=by
 have hz:=qBo hn hr;have h3:=qsI hz.x;have h4:=qpP (recV n r);have h5:(recV n r).length*100000<=200000*100000:=zy _ hz.l;have:=hz.l;omega
def fmtS(n:Net)(r:Rec):Str×Int:=bif recB n r then(joinS (recV n r)++[10],0) else([],28)
theorem qzd{n:Net}(h0:qbi n=0)(r:Rec):qjh n r=some (fmtS n r):=by
 have hn:=(NmP.of h0).nb;refine ok_eq ?_
 unfold qjh;refine Ok.eq (qiO n) ?_
 rw[dec_t h0];show Ok (Option.bind _ _) _;refine Ok.eq (a:=bif recB n r then joinS (recV n r) else []) ?_ ?_
 ·by_cases h1:r.1=1
  ·rw[dec_t h1,za];exact ok_eq (Ok.eq (qEx h1 n) (.ret rfl))
  rw[dec_f h1,zb];unfold recB recV;rw[if_neg h1,if_neg h1];refine ok_eq (Ok.eq (a:=_) (?_:_=some _) (.ret rfl))
  by_cases h2:r.1=2
  ·rw[dec_t h2,za,if_pos h2,if_pos h2,dlen0];refine ok_eq (Ok.eq (qkX rfl) (Ok.eq (a:=_) (?_:_=some _) (.ret rfl)))
   show(bif decide (r.2.1.length=0)&&noE r.2.2.2 then _ else _)=_;cases(decide (r.2.1.length=0)&&noE r.2.2.2)
   ·rfl
   ·exact ok_eq (Ok.eq (qBq hn r.2.2.1) (.ret rfl))
  rw[dec_f h2,zb,if_neg h2,if_neg h2];refine ok_eq (Ok.eq (a:=_) (?_:_=some _) (.ret rfl))
  by_cases h3:r.1=3
  ·rw[dec_t h3,za,if_pos h3,if_pos h3,dlen0];refine ok_eq (Ok.eq (qkX (ok_eq (Ok.eq (rsame0 r.2.2.1) (.ret rfl)))) (Ok.eq (a:=_) (?_:_=some _) (.ret rfl)))
   cases(decide (r.2.1.length=0)&&noB r.2.2.1)
   ·rfl
   ·exact ok_eq (Ok.eq (qzc r.2.2.2) (.ret rfl))
  rw[dec_f h3,zb,if_neg h3,if_neg h3]; rfl
 ·unfold fmtS;cases hB:recB n r
  ·exact .ret rfl
  ·obtain⟨c,w,e,hc⟩:=qEy hB;have hl:=qEz hn (qyj hn hB);have hne:joinS (recV n r)≠[]:=by rw[e]; exact qCS hc w
   show Ok (bif decide (joinS (recV n r)=[]) then _ else _) _;rw[dec_f hne];exact Ok.gd (ble_t (by show(joinS (recV n r)).length+1<=_; omega)) (.ret rfl)
theorem qyk{A B:Type}(l:List A)(d:A)(g:A->B){step:Int×List B->Option ((Int×List B)⊕List B)}
  (hs:∀(k:Nat) (out:List B),k<l.length->out.length=k->step ((k:Int),out)=some (.inl (((k+1:Nat):Int),out++[g (l.getD k d)])))
  (he:∀out,step ((l.length:Int),out)=some (.inr out)):iter step (0,[])=some (l.map g):=by
 have key:∀(m k:Nat),k+m=l.length->iter step ((k:Int),(l.take k).map g)=some (l.map g):=by
  intro m;induction m with
  | zero=>
   intro k hk;refine qaS ?_
   rw[show k=l.length by omega,z02]; exact he _
  | succ m ih=>
   intro k hk;refine(qbs (hs k _ (by omega) (by rw[z51,zo]; omega))).trans ?_
   have:(l.take k).map g++[g (l.getD k d)]=(l.take (k+1)).map g:=by
    rw[zB2 (by omega),zL1,zh,zl (by omega)]; rfl
   rw[this];exact ih (k+1) (by omega)
 exact key l.length 0 (by omega)
def numI(s:Str):Int:=match Lib.atoiAll s with
 | .ok v=>v
 | _=>0
theorem qiP{l:List Str}(hl:l.length<=1000000)(hx:∀x∈l,x.length<=1000000):qbR l=some (l.map numI):=by
 refine ok_eq ?_
 unfold qbR;refine Ok.eq (a:=l.map numI) (qyk l [] numI (fun k out hk ho=>?_) (fun out=>?_)) (.ret rfl)
 ·show qcK l (k:Int) out=_;have:=hx _ (gmem (d:=[]) hk);unfold qcK;rw[dec_t (by omega),za,gd_t (inB_t hk),z9,quT _ (by omega),z7,w1 hk (by omega)]
  unfold numI;cases Lib.atoiAll (l.getD k []) <;> exact gd_t (qav (show(out.length+1)*8<=_ by omega))
 ·show qcK l (l.length:Int) out=_;unfold qcK;rw[dec_f (by omega)]; rfl
theorem qiQ{n:Int}(h:smI n=true):numI (Lib.itoa n)=n:=by
 have h1:=qBk h;rw[quT _ (by have:=qdB h; omega)] at h1
 have h1:=zI2 h1;unfold numI;cases he:Lib.atoiAll (Lib.itoa n) <;> rw[he] at h1 <;> simp at h1 ⊢
 exact h1
theorem fidx{A:Type}(l:List A)(d:A)(f:A->Str)(hnd:(l.map f).Nodup){i:Nat}(hi:i<l.length):l.findIdx (fun x=>decide (f x=f (l.getD i d)))=i:=by
 have hlt:l.findIdx (fun x=>decide (f x=f (l.getD i d)))<l.length:=zj2.2 ⟨_,qbc (d:=d) hi,z41 rfl⟩
 have hg:=List.findIdx_getElem (w:=hlt);rw[zi] at hg;have hg2:=hg.trans (congrArg f (gD_eq (d:=d) hi));have e:(l.map f)[l.findIdx (fun x=>decide (f x=f (l.getD i d)))]'(by simpa using hlt)=(l.map f)[i]'(by simpa using hi):=by
  rw[List.getElem_map,List.getElem_map];exact hg2
 exact(List.getElem_inj hnd).1 e
theorem qDC{n:Net}(h:NmP n){i:Int}(hi:ixB i n.2.1.length=true):qfV n (segN n i)=some i:=by
 obtain⟨h1,h2⟩:=ixB_t hi;have:=h.nb.s;unfold qfV segN;rw[qec _ (fun s=>decide (s.1=(n.2.1.getD i.toNat sg0).1)) _ (fun x _=>rfl) (by omega),z7,fidx n.2.1 sg0 (·.1) h.sd (by omega),if_pos (by omega),Int.toNat_of_nonneg h1]
theorem qBr{n:Net}(h:NmP n){i:Int}(hi:ixB i n.2.2.1.length=true):qg3 n (portN n i)=some i:=by
 obtain⟨h1,h2⟩:=ixB_t hi;have:=h.nb.p;unfold qg3 portN;rw[qhh _ (fun s=>decide (s.1=(n.2.2.1.getD i.toNat po0).1)) _ (fun x _=>rfl) (by omega),z7,fidx n.2.2.1 po0 (·.1) h.pd (by omega),if_pos (by omega),Int.toNat_of_nonneg h1]
theorem qFk{n:Net}(h:NmP n){i:Int}(hi:ixB i n.2.2.2.1.length=true)(w:List Str):
  qaa n.2.2.2.1 (fun h=>(qc4 h.1 (staN n i::w)).bind fun y=>some y)=some i:=by
 obtain⟨h1,h2⟩:=ixB_t hi;have:=h.nb.a;unfold staN;rw[qcA _ (fun s=>decide (s.1=(n.2.2.2.1.getD i.toNat sta0).1)) _ (fun x _=>?_) (by omega),fidx n.2.2.2.1 sta0 (·.1) h.ad (by omega),if_pos (by omega),Int.toNat_of_nonneg h1]
 unfold qc4;rw[gd_t (inB0 (by simp))]; rfl
theorem qEA{x:Str}(h:nameB x=true):∃a r,x=a::r/\a≠45:=by
 unfold nameB at h;simp only[z8,zf1] at h;cases x with
 | nil=>have:=h.1.1.1; simp at this
 | cons a r=>
  refine⟨a,r,rfl,fun e=>?_⟩
  subst e;have h9:fch 45=true:=h.1.2;revert h9
  decide
def cut45:Str->Str×Bool
 | []=>([],false)
 | a::r=>if a=45 then(r,true) else(a::r,false)
theorem pre45(s:Str)(hl:s.length<=1000000):qei s [45]=some (cut45 s):=by
 unfold qei qbT qbS;cases s with
 | nil=>rfl
 | cons a r=>
  rw[dec_t (show(([45]:Str).length:Int)<=((a::r:Str).length:Int) by simp only[zf,zx]; omega),za,gd_t (by
   unfold cutG; simp only[zf,zx] at hl ⊢; simp; omega),z7]
  show Option.bind (bif !decide ([a]=[45]) then some (a::r,false) else _) _=_;unfold cut45;by_cases h:a=45
  ·subst h;rw[dec_t rfl,zg,zb,gd_t (by unfold cutG; simp only[zf,zx] at hl ⊢; simp; omega)]; rfl
  ·rw[dec_f (by simpa using h)]
   simp only[zk1,za,z7,if_neg h]
theorem qFl{n:Net}(h:NmP n){x:Hop}(hi:ixB x.1 n.2.1.length=true):qkn n (hopV n x)=some x:=by
 obtain⟨h1,h2⟩:=ixB_t hi;have hf:nameB (segN n x.1)=true:=h.sf _ (gmem (by omega))
 have hl:=qjj hf;obtain⟨a,r,e,ha⟩:=qEA hf;refine ok_eq ?_
 unfold qkn hopV;cases hb:x.2
 ·rw[zb];refine Ok.eq (pre45 _ (by omega)) (Ok.eq (a:=x.1) ?_ (.ret ?_))
  ·rw[e,show cut45 (a::r)=(a::r,false) from if_neg ha,<-e]; exact qDC h hi
  ·rw[e,show cut45 (a::r)=(a::r,false) from if_neg ha]; exact Prod.ext rfl hb.symm
 ·rw[za];refine Ok.eq (pre45 _ (by rw[zf]; omega)) (Ok.eq (a:=x.1) (qDC h hi) (.ret (Prod.ext rfl hb.symm)))
theorem qBs{s:Stp}(h:noB s=true):s=(0,0,0,0,0,[],0):=by
 obtain⟨a,b,c,d,e,f,g⟩:=s;unfold noB at h;simp only[z8,zi,zM1] at h;obtain⟨rfl,rfl,rfl,rfl,rfl,rfl,rfl⟩:=h;rfl
theorem qDD{e:Ent3}(h:noE e=true):e=([],0,0):=by
 obtain⟨a,b,c⟩:=e;unfold noE at h;simp only[z8,zi] at h;obtain⟨rfl,rfl,rfl⟩:=h;rfl
theorem qu2{s:Stp}(h:bareB s=true)(hr:s.2.2.2.2.2.2=0):s=(s.1,s.2.1,s.2.2.1,0,0,[],0):=by
 obtain⟨a,b,c,d,e,f,g⟩:=s;unfold bareB at h;simp only[z8,zi,zM1] at h;obtain⟨rfl,rfl,rfl⟩:=h;cases hr;rfl
theorem qv8{n:Net}:∀ {l:List Hop},hopsB n l=true->hopsV n l=l.map (hopV n)
 | [],_=>rfl
 | h::r,hb=>by
  unfold hopsB at hb;rw[z31,z8] at hb;unfold hopsV;rw[hb.1,qv8 hb.2]; rfl
theorem qEB{n:Net}(h:NmP n){v i o:Int}{l:List Hop}(hv:smI v=true)(hi:ixB i n.2.2.1.length=true)(ho:ixB o n.2.2.1.length=true)(hl:l.length<=100)(hb:hopsB n l=true):
  qc9 (Lib.itoa v::portN n i::portN n o::l.map (hopV n)) 5 n=some (2,[],(5,0,v,i,o,l,0),[],0,0):=by
 have hbs:=zm.1 hb;refine ok_eq ?_
 unfold qc9;refine Ok.eq (a:=(0,[],0,0,0,0,0,0,[],0,0,[])) rfl (Ok.eq rfl ?_)
 refine Ok.eq (a:=(2,[],5,0,v,i,o,0,[],0,0,l)) ?_ (.ret rfl)
 refine ok_eq ?_
 unfold qfW;have hx:∀x∈(Lib.itoa v::portN n i::portN n o::l.map (hopV n)),x.length<=1000000:=by
  intro x hx;rcases zr.1 hx with rfl | hx
  ·have:=qdB hv; omega
  rcases zr.1 hx with rfl | hx
  ·have:=h.nb.pn i; omega
  rcases zr.1 hx with rfl | hx
  ·have:=h.nb.pn o; omega
  obtain⟨y,_,rfl⟩:=zV.1 hx;have:=h.nb.sn y.1;unfold hopV;cases y.2
  ·rw[zb]; omega
  ·rw[za,zf]; omega
 refine Ok.eq (qiP (by simp; omega) hx) ?_
 refine Ok.gd (inB0 (by simp)) (Ok.gd (inB_t (i:=1) (by simp)) (Ok.eq (qBr h hi) (Ok.gd (inB_t (i:=2) (by simp)) (Ok.eq (qBr h ho) (Ok.gd ?_ (Ok.eq (a:=l) ?_ (.ret ?_)))))))
 ·unfold cutG; simp; omega
 ·show iter (fun x=>qbp (Lib.itoa v::portN n i::portN n o::l.map (hopV n)) n x.1 x.2) (0,[])=_
  have hd:(Lib.itoa v::portN n i::portN n o::l.map (hopV n)).drop 3=l.map (hopV n):=rfl;refine(qyk l (0,false) id (fun k out hk ho=>?_) fun out=>?_).trans (by rw[List.map_id])
  ·show qbp _ _ (k:Int) out=_;unfold qbp;rw[hd,z51,dec_t (by omega),za,gd_t (inB_t hk),z9,w1 hk (by omega)]
   have hg:(l.map (hopV n)).getD k []=hopV n (l.getD k (0,false)):=by
    rw[zh,zh,zL,zl hk]; rfl
   rw[hg,qFl h (hbs _ (gmem hk)),z7,gd_t (qav (by omega))]; rfl
  ·show qbp _ _ (l.length:Int) out=_;unfold qbp;rw[hd,z51,dec_f (by omega)]; rfl
 ·show _=(2,[],5,0,v,i,o,0,[],0,0,l);rw[show((Lib.itoa v::portN n i::portN n o::l.map (hopV n)).map numI).getD 0 0=v from qiQ hv]
theorem qyl{k i:Int}(hi:smI i=true):qbv [Lib.itoa i] k ()=some (2,[],(k,i,0,0,0,[],0),[],0,0):=by
 refine ok_eq ?_
 unfold qbv;refine Ok.eq (a:=(2,[],k,i,0,0,0,[],0,[],0,0)) (ok_eq ?_) (.ret rfl)
 unfold qfP;refine Ok.eq (qiP (by simp) (by have:=qdB hi; simp; omega)) (Ok.gd (inB0 (by simp)) (.ret ?_))
 rw[show([Lib.itoa i].map numI).getD 0 0=i from qiQ hi]
theorem qEC{i:Int}(hi:smI i=true):qc8 [Lib.itoa i] 6 ()=some (2,[],(6,0,i,0,0,[],0),[],0,0):=by
 refine ok_eq ?_
 unfold qc8;refine Ok.eq (a:=(2,[],6,0,i,0,0,[],0,[],0,0)) (ok_eq ?_) (.ret rfl)
 unfold qfS;refine Ok.eq (qiP (by simp) (by have:=qdB hi; simp; omega)) (Ok.gd (inB0 (by simp)) (.ret ?_))
 rw[show([Lib.itoa i].map numI).getD 0 0=i from qiQ hi]
theorem qtG{n:Net}(h:NmP n){k i:Int}(hi:ixB i n.2.2.2.1.length=true):qbf [staN n i] k n=some (2,[],(k,i,0,0,0,[],0),[],0,0):=by
 refine ok_eq ?_
 unfold qbf;refine Ok.eq (a:=(2,[],k,i,0,0,0,[],0,[],0,0)) (ok_eq ?_) (.ret rfl)
 unfold qfR;exact Ok.eq (qFk h hi []) (.ret rfl)
theorem qED{v:List Int}(hl:v.length<=21)(hv:v.all smI=true):qcO (v.map Lib.itoa)=some (1,v,(0,0,0,0,0,[],0),[],0,0):=by
 have hv:=zm.1 hv;refine ok_eq ?_
 unfold qcO;refine Ok.eq (qiP (by simp; omega) fun x hx=>?_) (.ret ?_)
 ·obtain⟨y,hy,rfl⟩:=zV.1 hx;have:=qdB (hv y hy); omega
 ·rw[List.map_map,show v.map (numI∘Lib.itoa)=v by
   conv=>rhs; rw[<-List.map_id v]
   exact z82 fun x hx=>qiQ (hv x hx)]
theorem qCT{s:Str}{k v:Int}(hk:1<=k/\k<=4)(hs:s.length<=12)(hv:smI v=true):qcP [kindL.getD k.toNat [],s,Lib.itoa v]=some (3,[],(0,0,0,0,0,[],0),s,k,v):=by
 have hc:k=1\/k=2\/k=3\/k=4:=by omega
 refine ok_eq ?_
 unfold qcP;refine Ok.eq (a:=kindL) rfl (Ok.gd (inB0 (by simp)) (Ok.eq (a:=k) ?_ (Ok.gd (inB_t (i:=1) (by simp)) (Ok.eq (qiP (by simp) ?_) (Ok.gd (inB_t (i:=2) (by simp)) (.ret ?_))))))
 ·show qaz kindL (kindL.getD k.toNat [])=_;rw[sidx _ _ (by decide)]
  rcases hc with rfl | rfl | rfl | rfl <;> decide
 ·have:=qdB hv;have hm:∀x∈kindL,x.length<=1000000:=by decide
  have:=hm _ (gmem (l:=kindL) (i:=k.toNat) (d:=[]) (by simp; omega))
  intro x hx;simp only[zr,zC2,or_false] at hx;rcases hx with rfl | rfl | rfl <;> omega
 ·show(3,[],(0,0,0,0,0,[],0),s,max 0 k,numI (Lib.itoa v))=_;rw[qiQ hv,Int.max_eq_right (by omega)]
structure WOk(x:Str):Prop where
 w:wordB x=true
 l:x.length<=17
theorem WOk.name{x:Str}(h:nameB x=true):WOk x:=⟨(qsK h).1,zF (qsK h).2 (by decide)⟩
theorem WOk.num{n:Int}(h:smI n=true):WOk (Lib.itoa n):=⟨qql n,qdB h⟩
theorem WOk.hop{n:Net}(h:NmP n){x:Hop}(hi:ixB x.1 n.2.1.length=true):WOk (hopV n x):=by
 have hf:nameB (segN n x.1)=true:=h.sf _ (gmem (by have:=ixB_t hi; omega))
 have hw:=WOk.name hf;unfold hopV;cases x.2
 ·exact hw
 ·refine⟨?_,by rw[za,zf]; have:=qjj hf; omega⟩
  have:=hw.w;unfold wordB at this ⊢;rw[z8] at this;rw[za,z31,this.1]; rfl
structure CmdR(n:Net)(r:Rec)(c:Str)(w:List Str):Prop where
 k:fmHas qjk c=true
 ne:w≠[]
 l3:(c=qlw\/c=cFlow)->3<=w.length
 g:cmdG n (c,w,())=some r
 cw:WOk c
 ws:∀x∈w,WOk x
 l:w.length<=35
theorem one_w{x:Str}(h:WOk x):∀y∈[x],WOk y:=fun y hy=>by rw[zO.1 hy]; exact h
theorem qBt{n:Net}(h:NmP n){r:Rec}(hB:recB n r=true):∃c w,recV n r=c::w/\CmdR n r c w:=by
 have hk:∀c∈qjk,fmHas qjk c=true:=by decide
 have hc:∀c∈qjk,wordB c=true/\c.length<=17:=by decide
 have hn:=h.nb;obtain⟨k,v,s,e⟩:=r;unfold recB at hB;unfold recV;split at hB
 ·rename_i h1;replace h1:k=1:=h1;subst h1;simp only[z8,zi] at hB;obtain⟨⟨h1,h2⟩,h3,h4,h5⟩:=hB;rw[qBs h1,qDD h2];rw[if_pos rfl];refine⟨_,_,rfl,hk _ (by decide),?_,?_,qED h4 h5,⟨(hc _ (by decide)).1,(hc _ (by decide)).2⟩,fun x hx=>?_,by simp only[z51]; omega⟩
  ·intro e;have e:v=[]:=List.map_eq_nil_iff.1 e;rw[e] at h3; simp at h3
  ·rintro(e | e) <;> exact absurd e (by decide)
  ·obtain⟨y,hy,rfl⟩:=zV.1 hx;exact .num (zm.1 h5 y hy)
 rename_i h1;rw[if_neg h1];split at hB
 ·rename_i h2;replace h2:k=2:=h2;subst h2;simp only[z8,zi] at hB;obtain⟨⟨h1,h2⟩,h3⟩:=hB;replace h1:v=[]:=zM1.1 h1;subst h1;rw[qDD h2,if_pos rfl];unfold stepB at h3;simp only[z8,zg1,zi] at h3;obtain⟨⟨h4,h5⟩,h6⟩:=h3;unfold qhk at h6;split at h6
  ·rename_i hk12;have hs:=qu2 (h5.resolve_left (by omega)) h4
   simp only[z8,zi] at h6;obtain⟨h7,h8,h9⟩:=h6;rw[h9] at hs;rcases hk12 with hq | hq
   ·rw[hq] at hs;rw[hs];exact⟨_,_,rfl,hk cOpen (by decide),by simp,fun e=>by rcases e with e | e <;> exact absurd e (by decide),qyl h8,⟨(hc cOpen (by decide)).1,(hc cOpen (by decide)).2⟩,one_w (.num h8),by simp⟩
   ·rw[hq] at hs;rw[hs];exact⟨_,_,rfl,hk qv7 (by decide),by simp,fun e=>by rcases e with e | e <;> exact absurd e (by decide),qyl h8,⟨(hc qv7 (by decide)).1,(hc qv7 (by decide)).2⟩,one_w (.num h8),by simp⟩
  rename_i hk12;split at h6
  ·rename_i hk34;have hs:=qu2 (h5.resolve_left (by omega)) h4
   simp only[z8,zi] at h6;obtain⟨h7,h9⟩:=h6;rw[h9] at hs;have hw:∀y∈[staN n s.2.1],WOk y:=one_w (.name (h.af _ (gmem (by have:=ixB_t h7; omega))))
   have hv:staV n s.2.1=[staN n s.2.1]:=by unfold staV; rw[h7]; rfl
   rcases hk34 with hq | hq
   ·rw[hq] at hs;rw[hs];refine⟨_,_,show stepV n (3,s.2.1,0,0,0,[],0)=qsM::[staN n s.2.1] by show qsM::staV n s.2.1=_; rw[hv],hk qsM (by decide),by simp,fun e=>by rcases e with e | e <;> exact absurd e (by decide),qtG h h7,⟨(hc qsM (by decide)).1,(hc qsM (by decide)).2⟩,hw,by simp⟩
   ·rw[hq] at hs;rw[hs];refine⟨_,_,show stepV n (4,s.2.1,0,0,0,[],0)=cStop::[staN n s.2.1] by show cStop::staV n s.2.1=_; rw[hv],hk cStop (by decide),by simp,fun e=>by rcases e with e | e <;> exact absurd e (by decide),qtG h h7,⟨(hc cStop (by decide)).1,(hc cStop (by decide)).2⟩,hw,by simp⟩
  split at h6
  ·rename_i hk5;unfold flowB at h6;simp only[z8,zi] at h6;obtain⟨g1,g2,g3,g4,g5,g6⟩:=h6;obtain⟨sk,si,sv,pi,po,pl,pr⟩:=s;simp only at hk5 g1 g2 g3 g4 g5 g6 h4;subst hk5 g2 h4;have hv:stepV n (5,0,sv,pi,po,pl,0)=cFlow::(Lib.itoa sv::portN n pi::portN n po::pl.map (hopV n)):=by
    show cFlow::Lib.itoa sv::(portV n pi++(portV n po++hopsV n pl))=_;unfold portV;rw[g4,g5,qv8 g6]; rfl
   refine⟨_,_,hv,hk cFlow (by decide),by simp,fun _=>by simp,qEB h g1 g4 g5 (by omega) g6,⟨(hc cFlow (by decide)).1,(hc cFlow (by decide)).2⟩,fun x hx=>?_,by simp; omega⟩
   rcases zr.1 hx with rfl | hx
   ·exact .num g1
   rcases zr.1 hx with rfl | hx
   ·exact .name (h.pf _ (gmem (by have:=ixB_t g4; omega)))
   rcases zr.1 hx with rfl | hx
   ·exact .name (h.pf _ (gmem (by have:=ixB_t g5; omega)))
   ·obtain⟨y,hy,rfl⟩:=zV.1 hx;exact .hop h (zm.1 g6 y hy)
  rename_i hk34 hk5;split at h6
  ·rename_i hk6;have hs:=qu2 (h5.resolve_left hk5) h4;simp only[z8,zi] at h6;rw[h6.2,hk6] at hs;rw[hs];exact⟨_,_,rfl,hk cWait (by decide),by simp,fun e=>by rcases e with e | e <;> exact absurd e (by decide),qEC h6.1,⟨(hc cWait (by decide)).1,(hc cWait (by decide)).2⟩,one_w (.num h6.1),by simp⟩
  ·cases h6
 rename_i hk2;rw[if_neg hk2];split at hB
 ·rename_i h3;replace h3:k=3:=h3;subst h3;simp only[z8,zi] at hB;obtain⟨⟨h1,h2⟩,h3⟩:=hB;replace h1:v=[]:=zM1.1 h1;subst h1;rw[qBs h2,if_pos rfl];obtain⟨sh,ek,ev⟩:=e;unfold entB at h3;simp only[z8,qnf] at h3;obtain⟨g1,g2,g3⟩:=h3;have g4:=ixB_t g1;have hv:entV (sh,ek,ev)=qlw::[kindL.getD ek.toNat [],sh,Lib.itoa ev]:=by
   unfold entV;simp only;rw[g1]; rfl
  have hm:∀x∈kindL.drop 1,wordB x=true/\x.length<=17:=by decide
  have hm2:kindL.getD ek.toNat []∈kindL.drop 1:=by
   have:ek=1\/ek=2\/ek=3\/ek=4:=by omega
   rcases this with rfl | rfl | rfl | rfl <;> decide
  refine⟨_,_,hv,hk qlw (by decide),by simp,fun _=>by simp,qCT (by omega) (qjj g2) g3,⟨(hc qlw (by decide)).1,(hc qlw (by decide)).2⟩,fun x hx=>?_,by simp⟩
  rcases zr.1 hx with rfl | hx
  ·exact⟨(hm _ hm2).1,(hm _ hm2).2⟩
  rcases zr.1 hx with rfl | hx
  ·exact .name g2
  ·rw[zO.1 hx]; exact .num g3
 ·cases hB
theorem qsN{n:Net}(h:NmP n){r:Rec}(hB:recB n r=true):(10:UInt8)∉joinS (recV n r)/\(joinS (recV n r)).length<=650/\splB 32 (joinS (recV n r))=recV n r:=by
 obtain⟨c,w,e,hc⟩:=qBt h hB;rw[e];have hw:∀x∈c::w,WOk x:=fun x hx=>by
  rcases zr.1 hx with rfl | hx
  ·exact hc.cw
  ·exact hc.ws x hx
 have h3:=qsI (w:=c::w) fun x hx=>(hw x hx).l
 have h4:=qpP (c::w);have:=hc.l;rw[zf] at h3 h4;exact⟨qyi fun x hx=>(hw x hx).w,by omega,qv6 (by simp) fun x hx=>(hw x hx).w⟩
theorem qze{n:Net}(h:NmP n){r:Rec}(hB:recB n r=true):qhS n (joinS (recV n r))=some (r,true):=by
 obtain⟨h10,hlen,hspl⟩:=qsN h hB;have hf:=qCR h.nb (qyj h.nb hB);obtain⟨c,w,e,hc⟩:=qBt h hB;have hs:=qCO (joinS (recV n r)) (by omega)
 rw[hspl] at hs;refine ok_eq ?_
 unfold qhS;refine Ok.eq hs (Ok.eq (a:=cmdG n) rfl ?_)
 rw[e];have hwl:0<w.length:=List.length_pos_iff.2 hc.ne;refine Ok.gd (inB0 (by simp)) (Ok.eq (a:=false) ?_ ?_)
 ·show(bif !(fmHas qjk c) then some true else some (decide (((c::w).length:Int)<2)))=_;rw[hc.k,dec_f (by rw[zf]; omega)]; rfl
 show Ok (gd _ _) _;refine Ok.gd (by unfold cutG; simp; omega) (Ok.eq (a:=decide (c=qlw) || decide (c=cFlow)) ?_ (Ok.eq (a:=()) ?_ ?_))
 ·show gd _ (bif decide (c=qlw) then some true else gd _ (some (decide (c=cFlow))))=_;rw[gd_t (inB0 (by simp)),gd_t (inB0 (by simp))]
  exact qdN rfl
 ·cases hb:(decide (c=qlw) || decide (c=cFlow))
  ·rfl
  ·have:=hc.l3 (by simpa using hb)
   refine ok_eq (Ok.eq (a:=()) (qaS ?_) (.ret rfl))
   unfold qla;rw[dec_f (by show ¬(w.length:Int)<3; omega)]; rfl
 refine Ok.eq (a:=r) ?_ ?_
 ·show(bif fmHas qjk c then cmdG n (c,w,()) else none)=_;rw[hc.k,za,hc.g]
 ·refine Ok.eq (a:=(joinS (c::w),true)) ?_ ?_
  ·rw[<-e,<-hB]; exact hf
  ·exact .ret (Prod.ext rfl (z41 rfl))
def qcq(n:Net)(l:List Rec):Str:=l.flatMap fun r=>joinS (recV n r)++[10]
theorem qfu(n:Net)(r:Rec)(l:List Rec):qcq n (r::l)=joinS (recV n r)++10::qcq n l:=by
 unfold qcq;rw[zv2,zp]; rfl
theorem qqm(n:Net)(a b:List Rec):qcq n (a++b)=qcq n a++qcq n b:=by
 unfold qcq;rw[List.flatMap_append]
def RcB(n:Net)(l:List Rec):Prop:=∀r∈l,recB n r=true
theorem RcB.tl{n:Net}{r:Rec}{l:List Rec}(h:RcB n (r::l)):recB n r=true/\RcB n l:=⟨h r (.head _),fun x hx=>h x (.tail _ hx)⟩
theorem qkd{n:Net}(h:NmP n):∀ {l:List Rec},RcB n l->(qcq n l).length<=651*l.length
 | [],_=>zZ _
 | r::l,hb=>by
  have:=qkd h hb.tl.2;have:=(qsN h hb.tl.1).2.1;rw[qfu,zd,zf,zf];omega
theorem qtH{n:Net}(h:NmP n):∀ {l:List Rec},RcB n l->(qcq n l).count 10=l.length
 | [],_=>rfl
 | r::l,hb=>by
  rw[qfu,List.count_append,List.count_cons_self,qtH h hb.tl.2,List.count_eq_zero.2 (qsN h hb.tl.1).1,zf,z01]
theorem qsO(n:Net):∀ {l:List Rec},l≠[]->(qcq n l).getLast? = some 10
 | [],h=>absurd rfl h
 | [r],_=>by rw[qfu]; exact List.getLast?_concat
 | r::x::l,_=>by
  have:=qsO n (l:=x::l) (by simp)
  rw[qfu,List.getLast?_append,List.getLast?_cons,this]; rfl
theorem qsP(n:Net)(r:Rec)(l:List Rec):qcq n (r::l)≠[]:=by rw[qfu]; simp
theorem qtI{n:Net}(h:NmP n):∀(t out:List Rec),RcB n t->out.length+t.length<=1000->iter (fun x:Str×List Rec=>qfa n x.1 x.2) (qcq n t,out)=some (.inl (out++t))
 | [],out,_,_=>by
  rw[zJ];exact qaS rfl
 | r::t,out,hb,hl=>by
  rw[zf] at hl;obtain⟨h1,h2,_⟩:=qsN h hb.tl.1;have ht:=qkd h hb.tl.2;refine(qbs (y:=(qcq n t,out++[r])) ?_).trans ?_
  ·show qfa n (qcq n (r::t)) out=_;refine ok_eq ?_
   unfold qfa;rw[dec_f (qsP n r t)];have hc:=qEt (r:=qcq n t) h1 (by rw[zd,zf]; omega)
   rw[<-qfu] at hc;refine Ok.eq hc (Ok.eq (qze h hb.tl.1) (Ok.eq (a:=(false,out)) rfl ?_))
   exact Ok.gd (qav (by show(out.length+1)*136<=_; omega)) (.ret rfl)
  ·rw[qtI h t (out++[r]) hb.tl.2 (by rw[zd,zE]; omega),zp]; rfl
theorem qCU{n:Net}(h0:qbi n=0){l:List Rec}(hb:RcB n l)(hl:l.length<=25):qek n (qcq n l)=some (l,0,0):=by
 have h:=NmP.of h0;have h1:=qkd h hb;have h2:=qtH h hb;refine ok_eq ?_
 unfold qek;refine Ok.eq (qft n) ?_
 rw[dec_t h0,zg,zb];refine Ok.eq (qv4 _ 10) ?_
 rw[h2];refine Ok.eq (a:=false) ?_ (Ok.eq (a:=((l.length:Nat):Int)) rfl (Ok.eq (a:=false) ?_ ?_))
 ·cases l with
  | nil=>rfl
  | cons r l=>
   rw[dec_f (qsP n r l)];exact ok_eq (Ok.eq (qBj _ (qsP n r l) (by omega)) (.ret (by rw[dec_t (qsO n (by simp))]; rfl)))
 ·rw[dec_f (show ¬(16384:Int)<((qcq n l).length:Int) by omega),dec_f (show ¬(400:Int)<(l.length:Int) by omega)]; rfl
 ·refine Ok.eq (qtI h l [] hb (by simp; omega)) (.ret rfl)
/-! ### Run -/
noncomputable def runC(n:Net):List Rec->Nat->Cn->Cn×Int×Int
 | [],_,c=>(c,0,0)
 | r::t,k,c=>if(capp n c r).2=0 then runC n t (k+1) (capp n c r).1 else(c,((k+1:Nat):Int),(capp n c r).2)
theorem qBu{n:Net}{r:Rec}(h:recB n r=true):RecP r:=by
 have hh:noB r.2.2.1=true->r.2.2.1.2.2.2.2.2.1.length<=100:=fun h=>by rw[qBs h]; decide
 unfold recB at h;split at h
 ·simp only[z8,zi] at h;exact⟨by omega,hh h.1.1⟩
 split at h
 ·simp only[z8,zi] at h;refine⟨by omega,?_⟩
  have h3:=h.2;unfold stepB at h3;simp only[z8,zg1,zi] at h3;by_cases h5:r.2.2.1.1=5
  ·have:=h3.2;unfold qhk at this;rw[if_neg (by omega),if_neg (by omega),if_pos h5] at this
   unfold flowB at this;simp only[z8,zi] at this;omega
  ·have:=h3.1.2.resolve_left h5;unfold bareB at this;simp only[z8,zi] at this;omega
 split at h
 ·simp only[z8,zi] at h;exact⟨by omega,hh h.1.2⟩
 ·cases h
theorem qBv{A:Type}{l:List A}{k:Nat}{x:A}{t:List A}{d:A}(he:l.drop k=x::t):k<l.length/\l.getD k d=x/\l.drop (k+1)=t:=by
 have hk:k<l.length:=by
  have:=congrArg List.length he;rw[zU,zf] at this; omega
 have hd:=z71 hk;rw[he] at hd;refine⟨hk,?_,(zP1 hd).2.symm⟩
 rw[zh,zl hk];exact(zP1 hd).1.symm
theorem qym{A:Type}{l:List A}{k:Nat}(he:l.drop k=[])(hk:k<=l.length):k=l.length:=by
 have:=congrArg List.length he;rw[zU,zx] at this; omega
abbrev r0:Rec:=(0,[],(0,0,0,0,0,[],0),[],0,0)
theorem qyn{n:Net}(hn:GN n){rs:List Rec}(hb:RcB n rs)(hl:rs.length<=100):∀(t:List Rec) (k:Nat) (c:Cn),rs.drop k=t->k<=rs.length->CnI n c k->
  Ok (iter (fun x:Int×List Vl×List Int×List Int×List Bool×List Tel×List Acc4×Int×List Vl×List Int×List Int×List Bool×List Tel×List Acc4×Int=>
   qdE n (rs,(0,0)) x.1 x.2.1 x.2.2.1 x.2.2.2.1 x.2.2.2.2.1 x.2.2.2.2.2.1 x.2.2.2.2.2.2.1 x.2.2.2.2.2.2.2.1 x.2.2.2.2.2.2.2.2.1 x.2.2.2.2.2.2.2.2.2.1 x.2.2.2.2.2.2.2.2.2.2.1 x.2.2.2.2.2.2.2.2.2.2.2.1 x.2.2.2.2.2.2.2.2.2.2.2.2.1 x.2.2.2.2.2.2.2.2.2.2.2.2.2.1 x.2.2.2.2.2.2.2.2.2.2.2.2.2.2)
   ((k:Int),[],[],[],[],[],[],0,c.1.1,c.1.2.1,c.1.2.2.1,c.1.2.2.2,c.2.1,c.2.2.1,c.2.2.2))
   fun s=>s.elim (fun s2=>(((s2.2.2.2.2.2.2.2.1,s2.2.2.2.2.2.2.2.2.1,s2.2.2.2.2.2.2.2.2.2.1,s2.2.2.2.2.2.2.2.2.2.2.1),s2.2.2.2.2.2.2.2.2.2.2.2.1,s2.2.2.2.2.2.2.2.2.2.2.2.2.1,s2.2.2.2.2.2.2.2.2.2.2.2.2.2),(0:Int),(0:Int))=runC n t k c)
    (fun s3=>(((s3.2.2.1,s3.2.2.2.1,s3.2.2.2.2.1,s3.2.2.2.2.2.1),s3.2.2.2.2.2.2.1,s3.2.2.2.2.2.2.2.1,s3.2.2.2.2.2.2.2.2),s3.1,s3.2.1)=runC n t k c)
 | [],k,c,he,hk,hi=>by
  have hk:=qym he hk;refine⟨.inl ([],[],[],[],[],[],0,c.1.1,c.1.2.1,c.1.2.2.1,c.1.2.2.2,c.2.1,c.2.2.1,c.2.2.2),qaS ?_,(rfl:(c,(0:Int),(0:Int))=runC n [] k c)⟩
  show qdE n (rs,0,0) (k:Int) _ _ _ _ _ _ _ _ _ _ _ _ _ _=_;unfold qdE;rw[dec_f (by simp only; omega)]; rfl
 | r::t,k,c,he,hk,hi=>by
  obtain⟨h1,h2,h3⟩:=qBv (d:=r0) he;have hr:=qBu (hb r (by rw[<-h2]; exact gmem h1))
  have ha:qd2 n c r=some (capp n c r):=apply_eq' n (hi.cns hn (by omega)) hi.srt ⟨hi.n0,by have:=hi.n1; omega⟩ r (by have:=hr.v; omega)
  have hs:∀z,(bif !decide ((capp n c r).2=0) then some (.inr (.inr (((k+1:Nat):Int),(capp n c r).2,c.1.1,c.1.2.1,c.1.2.2.1,c.1.2.2.2,c.2.1,c.2.2.1,c.2.2.2)))
    else some (.inl (((k+1:Nat):Int),[],[],[],[],[],[],0,(capp n c r).1.1.1,(capp n c r).1.1.2.1,(capp n c r).1.1.2.2.1,(capp n c r).1.1.2.2.2,(capp n c r).1.2.1,(capp n c r).1.2.2.1,(capp n c r).1.2.2.2)))=some z->
    qdE n (rs,0,0) (k:Int) [] [] [] [] [] [] 0 c.1.1 c.1.2.1 c.1.2.2.1 c.1.2.2.2 c.2.1 c.2.2.1 c.2.2.2=some z:=by
   intro z hz;refine ok_eq ?_
   unfold qdE;rw[dec_t (by simp only; omega),w1 h1 (by omega)]
   simp only[z9];rw[h2];exact Ok.gd (inB_t h1) (Ok.eq ha ⟨_,hz,rfl⟩)
  by_cases h0:(capp n c r).2=0
  ·obtain⟨e,e1,e2⟩:=qyn hn hb hl t (k+1) (capp n c r).1 h3 h1 (qsH hi (by omega) hr h0).1
   refine⟨e,(qbs (hs _ (by rw[dec_t h0]; rfl))).trans e1,?_⟩
   unfold runC;rw[if_pos h0];exact e2
  ·refine⟨_,qaS (hs _ (by rw[dec_f h0]; rfl)),?_⟩
   unfold runC;rw[if_neg h0];rfl
def st0(n:Net):Cn:=((List.replicate (n.2.1.length+n.2.2.1.length) (1,0,false,false),List.replicate n.2.1.length 0,List.replicate n.2.2.1.length 0,List.replicate n.2.2.2.1.length false),[],[],0)
theorem qEE{n:Net}(hg:GN n)(h0:qbi n=0):qpn n 1=some (st0 n,0):=by
 have hp1:=hg.p1; have hg1:=hg.sg; have hg2:=hg.po; have hg3:=hg.st;refine ok_eq ?_
 unfold qpn;exact Ok.eq (qCJ (n:=n) (t:=1) h0 ⟨by omega,by omega⟩ (by omega)) (.ret rfl)
theorem qFm{n:Net}(hg:GN n)(h0:qbi n=0):qjL n 1=some (st0 n,0):=qEj h0 (by have:=hg.p1; omega) (by omega)
theorem qBw{n:Net}(hg:GN n):CnI n (st0 n) 0:=⟨⟨by simp[st0],⟨by simp[st0],by simp[st0],by simp[st0]⟩⟩,by simp[st0],by simp[st0],by unfold SortT; simp[st0],by simp[st0],by simp[st0],by simp[st0]⟩
theorem qBx{n:Net}(hn:GN n)(h0:qbi n=0){m:Int}(hm:0<=m/\m<=10){s:List Int}{q:Int}(h:SrcOk s q):
  Ok (qh5 n 1 m s q) fun z=>SrcOk z.2.1 z.2.2.1/\z.2.2.2.length<=m.toNat/\CnI n z.1 10:=by
 unfold qh5;refine Ok.eq (qEE hn h0) ?_
 rw[wi (by omega)]
 refine Ok.bind (sN h (n:=m+1) (by omega) (by omega)) fun r hr=>?_
 refine Ok.bind (Q:=fun z:List Vl×List Int×List Int×List Bool×List Tel×List Acc4×Int×List Int×Int×List Rec=>SrcOk z.2.2.2.2.2.2.2.1 z.2.2.2.2.2.2.2.2.1/\z.2.2.2.2.2.2.2.2.2.length<=m.toNat/\CnI n ((z.1,z.2.1,z.2.2.1,z.2.2.2.1),z.2.2.2.2.1,z.2.2.2.2.2.1,z.2.2.2.2.2.2.1) 10) ?_ fun z hz=>.ret hz
 refine Ok.loop (fun x:Int×List Int×Int×List Vl×List Int×List Int×List Bool×List Tel×List Acc4×Int×List Rec=>∃k:Nat,0<=x.1/\x.1+k<=m/\SrcOk x.2.1 x.2.2.1/\CnI n ((x.2.2.2.1,x.2.2.2.2.1,x.2.2.2.2.2.1,x.2.2.2.2.2.2.1),x.2.2.2.2.2.2.2.1,x.2.2.2.2.2.2.2.2.1,x.2.2.2.2.2.2.2.2.2.1) k/\x.2.2.2.2.2.2.2.2.2.2.length<=k) (fun x=>x.1.toNat)
  ⟨0,hr.2.1,by simp only; omega,hr.1,qBw hn,by simp⟩ ?_
 rintro⟨i,s',q',d1,d2,d3,d4,tl,ac,ct,l⟩ ⟨k,h1,h2,h3,h4,h6⟩
 simp only at h1 h2 h3 h4 h6;show Ok (qhz n i s' q' d1 d2 d3 d4 tl ac ct l) _;unfold qhz;have up:∀ {c:Cn} {j:Nat},CnI n c j->j<=10->CnI n c 10:=fun h hj=>⟨h.d,zF h.t hj,h.tv,h.srt,zF h.a hj,h.n0,by have:=h.n1; omega⟩
 refine Ok.bif (fun hc=>?_) fun hc=>.ret ⟨h3,by simp only; omega,up h4 (by omega)⟩
 have hc:=zj hc;have hcs:=h4.cns hn (by omega)
 have n0:=h4.n0; have n1:=h4.n1;simp only at n0 n1;rw[qba];refine Ok.bind (qDw hn (c:=((d1,d2,d3,d4),tl,ac,ct)) hcs.d.v h3) fun z hz=>?_
 obtain⟨hq,hp⟩:=hz;refine Ok.eq (qy8 n (c:=((d1,d2,d3,d4),tl,ac,ct)) hcs h4.srt (by simp only; omega) z.1 (by have:=hp.v; omega) (by have:=hp.h; omega)) ?_
 rw[wi (by omega)]
 by_cases hz:(capp n ((d1,d2,d3,d4),tl,ac,ct) z.1).2=0
 ·rw[dec_t hz,za];refine Ok.bind (Ok.gd (qav (by omega)) (.ret rfl)) fun y hy=>.ret ?_
  subst hy;exact⟨⟨k+1,by simp only; omega,by simp only; omega,hq,(qsH h4 (by omega) hp hz).1,by simp only[zd,zE]; omega⟩,by simp only; omega⟩
 ·rw[dec_f hz,zb];exact .ret ⟨⟨k,by simp only; omega,by simp only; omega,hq,h4,h6⟩,by simp only; omega⟩
theorem qCV{n:Net}(h0:qbi n=0){l:List Rec}(hl:l.length<=20):Ok (iter (fun x2:Str×Int×List Rec=>qgP n x2.1 x2.2.1 x2.2.2) ([],0,l)) fun t=>∃rs,RcB n rs/\rs.length<=l.length/\t=qcq n rs:=by
 have h:=NmP.of h0;refine Ok.loop (fun x:Str×Int×List Rec=>∃(k:Nat) (rs:List Rec),x.2.1=(k:Int)/\k<=l.length/\x.2.2=l/\RcB n rs/\rs.length<=k/\x.1=qcq n rs) (fun x=>((l.length:Int)-x.2.1).toNat) ⟨0,[],rfl,by omega,rfl,fun x hx=>(by cases hx),by simp,rfl⟩ ?_
 rintro⟨t,_,l'⟩ ⟨k,rs,rfl,h1,h2,h3,h4,h5⟩
 replace h2:l'=l:=h2;replace h5:t=qcq n rs:=h5;subst h2 h5;show Ok (qgP n (qcq n rs) (k:Int) l') _;unfold qgP;refine Ok.bif (fun hc=>?_) fun hc=>.ret ⟨rs,h3,by omega,rfl⟩
 have hc:=zj hc;have hk:k<l'.length:=by omega
 refine Ok.gd (inB_t hk) ?_
 refine Ok.eq (qzd h0 _) ?_
 rw[w1 hk (by omega),z9]
 generalize l'.getD k r0=r;unfold fmtS;cases hB:recB n r
 ·exact .ret ⟨⟨k+1,rs,rfl,hk,rfl,h3,zD1 h4,rfl⟩,by simp only; omega⟩
 ·have hlen:=qkd h h3;have:=(qsN h hB).2.1;refine Ok.bind (Q:=fun z=>z=(qcq n (rs++[r]),l')) (Ok.gd (ble_t ?_) (.ret ?_)) fun z hz=>.ret ?_
  ·show _+(joinS (recV n r)++[10]).length<=_;rw[zd,zE]; omega
  ·rw[qqm];refine Prod.ext ?_ rfl
   show _++(joinS (recV n r)++[10])=_++qcq n [r];rw[qfu]; rfl
  ·subst hz;refine⟨⟨k+1,rs++[r],rfl,hk,rfl,fun x hx=>?_,by rw[zd,zE]; omega,rfl⟩,by simp only; omega⟩
   rcases zA.1 hx with hx | hx
   ·exact h3 x hx
   ·rw[zO.1 hx]; exact hB
theorem qCW{n:Net}(hn:GN n)(h0:qbi n=0){s:List Int}{q:Int}(h:SrcOk s q):Ok (qkT n s q) fun z=>SrcOk z.2.1 z.2.2/\∃rs,RcB n rs/\rs.length<=12/\z.1=qcq n rs:=by
 unfold qkT;refine Ok.bind (qBx hn h0 (m:=10) (by omega) h) ?_
 rintro⟨c,s2,q2,l⟩ ⟨h1,h2,h3⟩
 replace h2:l.length<=10:=h2;simp only at h1 h3;have hcs:=h3.cns hn (by omega)
 refine Ok.bind (sN h1 (n:=3) (by omega) (by omega)) fun r2 hr2=>?_
 refine Ok.bind (Q:=fun z:List Int×Int×List Rec=>SrcOk z.1 z.2.1/\z.2.2.length<=12) ?_ ?_
 ·refine Ok.loop (fun x:Int×List Int×Int×List Rec=>0<=x.1/\x.1+x.2.2.2.length<=12/\SrcOk x.2.1 x.2.2.1) (fun x=>x.1.toNat) ⟨hr2.2.1,by simp only; omega,hr2.1⟩ ?_
  rintro⟨i,s3,q3,l3⟩ ⟨g1,g2,g3⟩
  simp only at g1 g2 g3;show Ok (qjv n (c,s2,q2,l) i s3 q3 l3) _;unfold qjv;refine Ok.bif (fun hc=>?_) fun hc=>.ret ⟨g3,by simp only; omega⟩
  have hc:=zj hc;refine Ok.bind (qDw hn (c:=c) hcs.d.v g3) fun z hz=>?_
  refine Ok.gd (qav (by omega)) (.ret ?_)
  rw[wi (by omega)]
  exact⟨⟨by simp only; omega,by simp only[zd,zE]; omega,hz.1⟩,by simp only; omega⟩
 rintro⟨s5,q5,l5⟩ ⟨g1,g2⟩
 simp only at g1 g2;refine Ok.bind (qCV h0 (l:=l5) (by omega)) ?_
 rintro t ⟨rs,e1,e2,e3⟩
 exact .ret ⟨g1,rs,e1,by omega,e3⟩
structure StI(n:Net)(c:Cn)(k:Nat):Prop where
 ci:CnI n c k
 d:qdq n c.1=0
theorem StI.put{n:Net}{c:Cn}{r:Rec}{k:Nat}(h:StI n c k)(hk:k<=1000)(hB:recB n r=true)(h0:(capp n c r).2=0):StI n (capp n c r).1 (k+1):=⟨(qsH h.ci (by omega) (qBu hB) h0).1,qBg h.d h0⟩
theorem qFn{n:Net}(hg:GN n)(h0:qbi n=0):StI n (st0 n) 0:=⟨qBw hg,qBf h0 (by omega)⟩
theorem qBy{n:Net}(hg:GN n)(h0:qbi n=0){rs:List Rec}(hb:RcB n rs)(hl:rs.length<=25):qfp n 1 (qcq n rs)=some (runC n rs 0 (st0 n)):=by
 refine ok_eq ?_
 unfold qfp;refine Ok.eq (qCU h0 hb hl) (Ok.eq (qFm hg h0) ?_)
 refine Ok.bind (qyn hg hb (by omega) rs 0 (st0 n) rfl (by omega) (qBw hg)) fun s hs=>?_
 cases s with
 | inl s=>exact .ret hs
 | inr s=>exact .ret hs
def shW(w:List Str)(l:List Int):Str:=(joinS w++l.flatMap fun x=>32::Lib.itoa x)++[10]
theorem qBz(x:Str):(qaG x).length=x.length:=by simp[qaG]
theorem cc_of(x:Str):ccT (qaG x)=some (qaG x):=rfl
theorem wr_eq{s x:Str}(h1:0<x.length+s.length)(h2:x.length+s.length<=1000000000):qaN s (qaG x)=some ((s.length:Int),false,qaG (x++s)):=by
 unfold qaN;rw[cc_of,z7,qBz,gd_t,qxc];rw[qav (by omega),zu2]
 rw[zN]; exact h1
theorem qtJ{l:List Int}(hi:∀x∈l,i64P x)(hl:l.length<=10):∀(t:List Int) (k:Nat) (x:Str),l.drop k=t->k<=l.length->x≠[]->x.length<=1000000+21*k->
  iter (fun x=>qct l x.1 x.2) ((k:Int),qaG x)=some (qaG (x++t.flatMap fun x=>32::Lib.itoa x))
 | [],k,x,he,hk,hx,hb=>by
  have hk:=qym he hk;refine qaS ?_
  show qct l (k:Int) (qaG x)=_;unfold qct;rw[dec_f (by omega),List.flatMap_nil,zJ]; rfl
 | y::t,k,x,he,hk,hx,hb=>by
  obtain⟨h1,h2,h3⟩:=qBv (d:=0) he;have hy:i64P y:=hi y (by rw[<-h2]; exact gmem h1)
  have h20:=qfB hy;have hs:qct l (k:Int) (qaG x)=some (.inl (((k+1:Nat):Int),qaG (x++(32::Lib.itoa y)))):=by
   refine ok_eq ?_
   unfold qct;rw[dec_t (by omega),w1 h1 (by omega),z9,h2]
   refine Ok.gd (inB_t h1) (Ok.eq (qBl hy) (Ok.gd (ble_t (by simp only[zE]; omega)) ?_))
   exact Ok.eq (wr_eq (s:=[32]++Lib.itoa y) (by simp; omega) (by simp only[zd,zE]; omega)) (.ret rfl)
  refine(qbs hs).trans ?_
  rw[qtJ hi hl t (k+1) _ h3 h1 (by simp) (by simp only[zd,zf]; omega),zv2,zp]
theorem qng{w:List Str}{l:List Int}{x:Str}(hi:∀y∈l,i64P y)(hl:l.length<=10)(hw:w.length<=5)(hz:∀y∈w,y.length<=12)(hn:joinS w≠[])(hx:x.length<=900000):qbM w l (qaG x)=some (qaG (x++shW w l)):=by
 have h3:=qsI hz;have h4:=qpP w;have h5:0<(joinS w).length:=List.length_pos_iff.2 hn;have h6:(l.flatMap fun x=>32::Lib.itoa x).length<=21*l.length:=by
  clear hl;induction l with
  | nil=>exact zZ _
  | cons a l ih=>
   have:=ih fun y hy=>hi y (.tail _ hy)
   have:=qfB (hi a (.head _));rw[zv2,zd,zf,zf]; omega
 refine ok_eq ?_
 unfold qbM;refine Ok.eq (qBn (by omega) (fun y hy=>zF (hz y hy) (by decide))) (Ok.eq (wr_eq (by omega) (by omega)) ?_)
 refine Ok.eq (qtJ hi hl l 0 (x++joinS w) rfl (by omega) (by intro e; rw[List.append_eq_nil_iff] at e; exact hn e.2) (by rw[zd]; omega)) ?_
 refine Ok.eq (wr_eq (s:=[10]) (by simp) (by simp only[zd,zE]; omega)) (.ret ?_)
 unfold shW;simp only[zp]
theorem qqn{w:List Str}{l:List Int}(hi:∀y∈l,i64P y)(hl:l.length<=5)(hw:w.length<=5)(hz:∀y∈w,y.length<=12):(shW w l).length<=200:=by
 have h3:=qsI hz;have h4:=qpP w;have h6:(l.flatMap fun x=>32::Lib.itoa x).length<=21*l.length:=by
  clear hl;induction l with
  | nil=>exact zZ _
  | cons a l ih=>
   have:=ih fun y hy=>hi y (.tail _ hy)
   have:=qfB (hi a (.head _));rw[zv2,zd,zf,zf]; omega
 unfold shW;simp only[zd,zE];omega
theorem qyo{step:Int×List Int->Option ((Int×List Int)⊕List Int)}(m:Nat)(f:Nat->Str)(hs:∀(k:Nat) (x:Str),k<m->x.length<=900000->step ((k:Int),qaG x)=some (.inl (((k+1:Nat):Int),qaG (x++f k))))(he:∀b,step ((m:Int),b)=some (.inr b))(hf:∀k,k<m->(f k).length<=200):
  ∀(j k:Nat) (x:Str),k+j=m->x.length+200*j<=900000->iter step ((k:Int),qaG x)=some (qaG (x++(List.range' k j).flatMap f))/\(x++(List.range' k j).flatMap f).length<=x.length+200*j
 | 0,k,x,hk,hx=>by
  have hk:k=m:=by omega
  subst hk;refine⟨qaS ?_,by simp⟩
  rw[he];simp
 | j+1,k,x,hk,hx=>by
  have h1:=hf k (by omega)
  obtain⟨i1,i2⟩:=qyo m f hs he hf j (k+1) (x++f k) (by omega) (by rw[zd]; omega)
  rw[List.range'_succ,zv2,<-zp];refine⟨(qbs (hs k x (by omega) (by omega))).trans i1,?_⟩
  rw[zd] at i2 ⊢;rw[zd] at i2 ⊢;omega
theorem qmK{step:Int×List Int->Option ((Int×List Int)⊕List Int)}(m:Nat)(f:Nat->Str){x:Str}(hx:x.length+200*m<=900000)(hs:∀(k:Nat) (x:Str),k<m->x.length<=900000->step ((k:Int),qaG x)=some (.inl (((k+1:Nat):Int),qaG (x++f k))))(he:∀b,step ((m:Int),b)=some (.inr b))(hf:∀k,k<m->(f k).length<=200):
  Ok (iter step (0,qaG x)) fun y=>y=qaG (x++(List.range' 0 m).flatMap f)/\(x++(List.range' 0 m).flatMap f).length<=x.length+200*m:=
 have h:=qyo m f hs he hf m 0 x (by omega) hx
 ⟨_,h.1,rfl,h.2⟩
abbrev qv9:Str:=[99,111,117,110,116]
def shV(c:Cn)(i:Nat):Str:=shW [[118,97,108,118,101]] [(i:Int),(c.1.1.getD i (0,0,false,false)).2.1,(c.1.1.getD i (0,0,false,false)).1]
def shR(n:Net)(c:Cn)(i:Nat):Str:=bif decide (c.1.2.1.getD i 0=0) then [] else shW [[114,97,116,101],segN n (i:Int)] [c.1.2.1.getD i 0]
def shP(n:Net)(c:Cn)(i:Nat):Str:=bif decide (c.1.2.2.1.getD i 0=0) then [] else shW [[112,111,114,116],portN n (i:Int)] [c.1.2.2.1.getD i 0]
def shS(n:Net)(c:Cn)(i:Nat):Str:=bif c.1.2.2.2.getD i false then shW [[112,117,109,112],staN n (i:Int)] [] else []
def shA(c:Cn)(i:Nat):Str:=shW [[97,99,99,111,117,110,116],(c.2.2.1.getD i a0).1] [(c.2.2.1.getD i a0).2.1,(c.2.2.1.getD i a0).2.2.1,(c.2.2.1.getD i a0).2.2.2.1,(c.2.2.1.getD i a0).2.2.2.2]
def showT(n:Net)(c:Cn):Str:=shW [qv9] [c.2.2.2]++(List.range' 0 c.1.1.length).flatMap (shV c)++(List.range' 0 n.2.1.length).flatMap (shR n c)++(List.range' 0 n.2.2.1.length).flatMap (shP n c)++(List.range' 0 n.2.2.2.1.length).flatMap (shS n c)++(List.range' 0 c.2.2.1.length).flatMap (shA c)
theorem one_i{x:Int}(h:i64P x):∀y∈[x],i64P y:=fun y hy=>by rw[zO.1 hy]; exact h
theorem two_l{a x:Str}(ha:a.length<=12)(hx:x.length<=12):∀y∈[a,x],y.length<=12:=fun y hy=>by
 rcases zr.1 hy with rfl | hy
 ·exact ha
 ·rw[zO.1 hy]; exact hx
theorem qyp(a x:Str):joinS [a,x]≠[]:=by rw[qkc]; simp
theorem nm_le{A:Type}{l:List A}{g:A->Str}{d:A}(h:∀x∈l,nameB (g x)=true){i:Nat}(hi:i<l.length):(g (l.getD i d)).length<=12:=qjj (h _ (gmem hi))
theorem qBA{n:Net}{c:Cn}(hd:qdq n c.1=0)(ha:Ac.ValidP c.2.2.1)(hcc:0<=c.2.2.2/\c.2.2.2<=100000):qfA n c=some (showT n c,0):=by
 have hv:=VDk.of hd;have h0:=hv.net;have hN:=NmP.of h0;have hsz:=hv.sz;have hlen:=hv.len;have hsm:=(VNet.of h0).small;have m1:=hsm.sg; have m2:=hsm.po; have m3:=hsm.st; have m4:=ha.n;have hval:=zm.1 hv.val;refine ok_eq ?_
 unfold qfA;refine Ok.eq (qft n) ?_
 rw[dec_t h0,zg,zb];refine Ok.eq (qqG n c.1) ?_
 rw[dec_t hd,zg,zb];refine Ok.eq (Ac.valid_eq (by omega)) ?_
 rw[Ac.validB_iff.2 ha,zg,zb];refine Ok.eq (a:=qaG []) rfl ?_
 have c1:joinS [qv9]≠[]:=by rw[qge]; decide
 refine Ok.eq (qng (w:=[qv9]) (l:=[c.2.2.2]) (one_i ⟨by omega,by omega⟩) (by simp) (by simp) (by decide) c1 (by simp)) ?_
 have l0:=qqn (w:=[qv9]) (l:=[c.2.2.2]) (one_i ⟨by omega,by omega⟩) (by simp) (by simp) (by decide)
 refine Ok.bind (qmK c.1.1.length (shV c) (by rw[zC]; omega) (fun k x hk hx=>?_) (fun b=>?_) (fun k hk=>?_)) ?_
 ·have h1:=hval _ (gmem (d:=(0,0,false,false)) hk);unfold qca at h1;rw[z8,qhK,qhK] at h1;refine ok_eq ?_
  show Ok (qd7 c (k:Int) (qaG x)) _;unfold qd7;rw[dec_t (by omega),w1 hk (by omega)]
  simp only[z9];refine Ok.gd (inB_t hk) (Ok.eq (qng (fun y hy=>?_) (by simp) (by simp) (by decide) (by rw[qge]; decide) hx) (.ret rfl))
  simp only[zr,zC2,or_false] at hy;rcases hy with rfl | rfl | rfl <;> exact⟨by omega,by omega⟩
 ·show qd7 c (c.1.1.length:Int) b=_;unfold qd7;rw[dec_f (by omega)]; rfl
 ·have h1:=hval _ (gmem (d:=(0,0,false,false)) hk);unfold qca at h1;rw[z8,qhK,qhK] at h1;refine qqn (fun y hy=>?_) (by simp) (by simp) (by decide)
  simp only[zr,zC2,or_false] at hy;rcases hy with rfl | rfl | rfl <;> exact⟨by omega,by omega⟩
 rintro _ ⟨rfl,b1⟩
 rw[zC] at b1 ⊢;refine Ok.bind (qmK n.2.1.length (shR n c) (by omega) (fun k x hk hx=>?_) (fun b=>?_) (fun k hk=>?_)) ?_
 ·have hr:=hv.rate k;have hnm:(segN n (k:Int)).length<=12:=nm_le (g:=(·.1)) hN.sf hk;refine ok_eq ?_
  show Ok (qd8 n c (k:Int) (qaG x)) _;unfold qd8 shR;rw[dec_t (by omega),w1 hk (by omega)]
  simp only[z9];refine Ok.gd (inB_t hk) (Ok.gd (inB_t (show k<c.1.2.1.length by omega)) ?_)
  cases hz:decide (c.1.2.1.getD k 0=0)
  ·exact Ok.eq (ok_eq (Ok.eq (qng (w:=[[114,97,116,101],segN n (k:Int)]) (one_i ⟨by omega,by omega⟩) (by simp) (by simp) (two_l (by decide) hnm) (qyp _ _) hx) (.ret rfl))) (.ret rfl)
  ·exact Ok.eq (a:=qaG x) rfl (.ret (by rw[za,zJ]))
 ·show qd8 n c (n.2.1.length:Int) b=_;unfold qd8;rw[dec_f (by omega)]; rfl
 ·have hr:=hv.rate k;unfold shR;cases decide (c.1.2.1.getD k 0=0)
  ·exact qqn (one_i ⟨by omega,by omega⟩) (by simp) (by simp) (two_l (by decide) (nm_le (g:=(·.1)) hN.sf hk))
  ·exact zi1 _
 rintro _ ⟨rfl,b2⟩
 refine Ok.bind (qmK n.2.2.1.length (shP n c) (zF (Nat.add_le_add_right b2 _) (by omega)) (fun k x hk hx=>?_) (fun b=>?_) (fun k hk=>?_)) ?_
 ·have hr:=hv.prate k;have hnm:(portN n (k:Int)).length<=12:=nm_le (g:=(·.1)) hN.pf hk;refine ok_eq ?_
  show Ok (qd9 n c (k:Int) (qaG x)) _;unfold qd9 shP;rw[dec_t (by omega),w1 hk (by omega)]
  simp only[z9];refine Ok.gd (inB_t hk) (Ok.gd (inB_t (show k<c.1.2.2.1.length by omega)) ?_)
  cases hz:decide (c.1.2.2.1.getD k 0=0)
  ·exact Ok.eq (ok_eq (Ok.eq (qng (w:=[[112,111,114,116],portN n (k:Int)]) (one_i ⟨by omega,by omega⟩) (by simp) (by simp) (two_l (by decide) hnm) (qyp _ _) hx) (.ret rfl))) (.ret rfl)
  ·exact Ok.eq (a:=qaG x) rfl (.ret (by rw[za,zJ]))
 ·show qd9 n c (n.2.2.1.length:Int) b=_;unfold qd9;rw[dec_f (by omega)]; rfl
 ·have hr:=hv.prate k;unfold shP;cases decide (c.1.2.2.1.getD k 0=0)
  ·exact qqn (one_i ⟨by omega,by omega⟩) (by simp) (by simp) (two_l (by decide) (nm_le (g:=(·.1)) hN.pf hk))
  ·exact zi1 _
 rintro _ ⟨rfl,b3⟩
 refine Ok.bind (qmK n.2.2.2.1.length (shS n c) (zF (Nat.add_le_add_right b3 _) (by omega)) (fun k x hk hx=>?_) (fun b=>?_) (fun k hk=>?_)) ?_
 ·have hnm:(staN n (k:Int)).length<=12:=nm_le (g:=(·.1)) hN.af hk;refine ok_eq ?_
  show Ok (qea n c (k:Int) (qaG x)) _;unfold qea shS;rw[dec_t (by omega),w1 hk (by omega)]
  simp only[z9];refine Ok.gd (inB_t hk) (Ok.gd (inB_t (show k<c.1.2.2.2.length by omega)) ?_)
  cases hz:c.1.2.2.2.getD k false
  ·exact Ok.eq (a:=qaG x) rfl (.ret (by rw[zb,zJ]))
  ·exact Ok.eq (ok_eq (Ok.eq (qng (w:=[[112,117,109,112],staN n (k:Int)]) (l:=[]) (fun y hy=>by cases hy) (by simp) (by simp) (two_l (by decide) hnm) (qyp _ _) hx) (.ret rfl))) (.ret rfl)
 ·show qea n c (n.2.2.2.1.length:Int) b=_;unfold qea;rw[dec_f (by omega)]; rfl
 ·unfold shS;cases c.1.2.2.2.getD k false
  ·exact zi1 _
  ·exact qqn (fun y hy=>by cases hy) (by simp) (by simp) (two_l (by decide) (nm_le (g:=(·.1)) hN.af hk))
 rintro _ ⟨rfl,b4⟩
 have acc:∀k,k<c.2.2.1.length->(∀y∈[(c.2.2.1.getD k a0).2.1,(c.2.2.1.getD k a0).2.2.1,(c.2.2.1.getD k a0).2.2.2.1,(c.2.2.1.getD k a0).2.2.2.2],i64P y)/\(c.2.2.1.getD k a0).1.length<=12:=fun k hk=>by
  have h1:=ha.acc _ (gmem (d:=a0) hk);have h2:=ha.nm _ (gmem (d:=a0) hk);rw[qnf] at h2;unfold Ac.accP Ac.volP Ac.sgnP at h1;simp only[z8,zi] at h1;refine⟨fun y hy=>?_,qjj h2⟩
  simp only[zr,zC2,or_false] at hy;rcases hy with rfl | rfl | rfl | rfl <;> exact⟨by omega,by omega⟩
 refine Ok.bind (qmK c.2.2.1.length (shA c) (zF (Nat.add_le_add_right b4 _) (by omega)) (fun k x hk hx=>?_) (fun b=>?_) (fun k hk=>?_)) ?_
 ·refine ok_eq ?_
  show Ok (qeb c (k:Int) (qaG x)) _;unfold qeb;rw[dec_t (by omega),w1 hk (by omega)]
  simp only[z9];exact Ok.gd (inB_t hk) (Ok.eq (qng (acc k hk).1 (by simp) (by simp) (two_l (by decide) (acc k hk).2) (qyp _ _) hx) (.ret rfl))
 ·show qeb c (c.2.2.1.length:Int) b=_;unfold qeb;rw[dec_f (by omega)]; rfl
 ·exact qqn (acc k hk).1 (by simp) (by simp) (two_l (by decide) (acc k hk).2)
 rintro _ ⟨rfl,b5⟩
 refine Ok.eq (a:=showT n c) ?_ (.ret rfl)
 show qcD (qaG (showT n c))=_;unfold qcD;have hp:0<(qaG (showT n c)).length:=by
  rw[qBz];unfold showT shW;simp only[zd,zE];omega
 have hb:Nat.blt 0 (qaG (showT n c)).length=true:=by rw[zN]; exact hp
 rw[gd_t hb,gd_t (by rw[hb,qmJ,dec_t rfl,dec_t rfl]; rfl),qmJ]
end Go.Proofs.YtmdijohmddokhaaGreatDoor
namespace Go.Proofs.YtmdijohmddokhaaGreatDoor.Ac
open Go Go.Sq
set_option linter.unusedVariables false
theorem qBB{l:List Acc}(hv:ValidP l){a b:Acc}(ha:a∈l)(hb:b∈l)(e:a.1=b.1):a=b:=by
 obtain⟨i,hi,rfl⟩:=qoR d0 ha;obtain⟨j,hj,rfl⟩:=qoR d0 hb;rcases Nat.lt_trichotomy i j with h | h | h
 ·exact absurd e (bl_ne (hv.lt i j h hj))
 ·rw[h]
 ·exact absurd e.symm (bl_ne (hv.lt j i h hi))
structure Pst(l:List Acc)(e:Ent)(r:List Acc):Prop where
 v:ValidP l
 en:entP e=true
 m:∃q,((q∈l/\q.1=e.1)\/(q=(e.1,0,0,0,0)/\∀y∈l,y.1≠e.1))/\accP (qbb q e)=true/\∀x,x∈r↔x=qbb q e\/(x∈l/\x.1≠e.1)
 n:r.length<=64
 s:r.Pairwise (fun a b=>Op.bytesLess a.1 b.1=true)
theorem pw_lt{l:List Acc}(hv:ValidP l):l.Pairwise (fun a b=>Op.bytesLess a.1 b.1=true):=by
 rw[zx2];intro i k hi hk hik;have:=hv.lt i k hik hk;rwa[gD_eq hi,gD_eq hk] at this
theorem pst{l:List Acc}{e:Ent}(hn:l.length<=1000)(h:(postF l e).2=0):Pst l e (postF l e).1:=by
 obtain⟨_,_,hp⟩:=post_eq (l:=l) (e:=e) (by omega)
 have hg:ValidP l/\entP e=true:=Classical.byContradiction fun hh=>by rw[hp.bad hh] at h; cases h
 obtain⟨hv,he⟩:=hg;have hn:=hv.n;obtain⟨k,hk,hg⟩:=hp.good hv he;have hpw:=pw_lt hv;rcases hg with⟨hkl,hke,hr⟩ | ⟨hno,hr⟩
 ·have hm:=qbc (d:=d0) hkl;by_cases ha:accP (qbb (l.getD k d0) e)=true
  ·rw[if_pos ha] at hr;rw[hr];have hset:l.set k (qbb (l.getD k d0) e)=l.take k++qbb (l.getD k d0) e::l.drop (k+1):=by rw[zy2,if_pos hkl]
   have hl:l=l.take k++l.getD k d0::l.drop (k+1):=by rw[gD_eq hkl,<-z71 hkl,zp1]
   have hp1:=qpM (l.getD k d0) e;have hpw':=hpw;rw[hl,List.pairwise_append,z32] at hpw';refine⟨hv,he,⟨l.getD k d0,.inl ⟨hm,hke⟩,ha,fun x=>?_⟩,by rw[zS]; exact hn,?_⟩
   ·show x∈l.set k _↔_;rw[hset,zA,zr];constructor
    ·rintro(hx | rfl | hx)
     ·exact .inr ⟨zN1 hx,fun e'=>bl_ne (hpw'.2.2 x hx _ (.head _)) (e'.trans hke.symm)⟩
     ·exact .inl rfl
     ·exact .inr ⟨zW1 hx,fun e'=>bl_ne (hpw'.2.1.1 x hx) (hke.trans e'.symm)⟩
    ·rintro(rfl | ⟨hx,hne⟩)
     ·exact .inr (.inl rfl)
     ·rw[hl,zA,zr] at hx;rcases hx with hx | rfl | hx
      ·exact .inl hx
      ·exact absurd hke hne
      ·exact .inr (.inr hx)
   ·show(l.set k _).Pairwise _;rw[hset,List.pairwise_append,z32];refine⟨hpw'.1,⟨fun x hx=>by rw[hp1]; exact hpw'.2.1.1 x hx,hpw'.2.1.2⟩,fun x hx y hy=>?_⟩
    rcases zr.1 hy with rfl | hy
    ·rw[hp1]; exact hpw'.2.2 x hx _ (.head _)
    ·exact hpw'.2.2 x hx y (.tail _ hy)
  ·rw[if_neg ha] at hr;rw[hr] at h; cases h
 ·by_cases ha:accP (qbb (e.1,0,0,0,0) e)=true/\l.length≠64
  ·rw[if_pos ha] at hr;rw[hr];have hp1:(qbb (e.1,0,0,0,0) e).1=e.1:=qpM _ e;have hP:∀q∈l.take k,Op.bytesLess q.1 e.1=true:=fun q hq=>by
    obtain⟨j,hj,rfl⟩:=qoR d0 hq;rw[zo] at hj;rw[qwU,if_pos (by omega)]
    exact hk.lt j (by omega)
   have hQ:∀q∈l.drop k,Op.bytesLess e.1 q.1=true:=fun q hq=>by
    obtain⟨j,hj,rfl⟩:=qoR d0 hq;rw[zU] at hj;rw[qAn];have h1:=hk.ge (k+j) (by omega) (by omega)
    rcases qA1 (l.getD (k+j) d0).1 e.1 with h | h | h
    ·rw[h] at h1; cases h1
    ·by_cases h0:j=0
     ·subst h0; exact absurd ⟨by omega,h⟩ hno
     ·have h2:=hv.lt k (k+j) (by omega) (by omega)
      have h3:=hk.ge k (zZ _) (by omega)
      rw[h] at h2;rw[h2] at h3; cases h3
    ·exact h
   have hne:∀y∈l,y.1≠e.1:=fun y hy=>by
    rw[<-zp1 k l,zA] at hy;rcases hy with hy | hy
    ·exact bl_ne (hP y hy)
    ·exact(bl_ne (hQ y hy)).symm
   refine⟨hv,he,⟨_,.inr ⟨rfl,hne⟩,ha.1,fun x=>?_⟩,?_,?_⟩
   ·show x∈l.take k++_::l.drop k↔_;rw[zA,zr];constructor
    ·rintro(hx | rfl | hx)
     ·exact .inr ⟨zN1 hx,hne x (zN1 hx)⟩
     ·exact .inl rfl
     ·exact .inr ⟨zW1 hx,hne x (zW1 hx)⟩
    ·rintro(rfl | ⟨hx,_⟩)
     ·exact .inr (.inl rfl)
     ·rw[<-zp1 k l,zA] at hx;rcases hx with hx | hx
      ·exact .inl hx
      ·exact .inr (.inr hx)
   ·have:=hk.le;simp only[zd,zf,zo,zU];omega
   ·show(l.take k++_::l.drop k).Pairwise _;rw[List.pairwise_append,z32];refine⟨hpw.sublist (List.take_sublist _ _),⟨fun x hx=>by rw[hp1]; exact hQ x hx,hpw.sublist (List.drop_sublist _ _)⟩,fun x hx y hy=>?_⟩
    rcases zr.1 hy with rfl | hy
    ·rw[hp1]; exact hP x hx
    ·exact qkW (hP x hx) (hQ y hy)
  ·rw[if_neg ha] at hr;rw[hr] at h; cases h
theorem Pst.valid{l r:List Acc}{e:Ent}(h:Pst l e r):ValidP r:=by
 obtain⟨q,hq,ha,hm⟩:=h.m;have hnm:nameP e.1=true:=by have:=h.en; simp only[entP,z8] at this; exact this.2
 have hq1:q.1=e.1:=by rcases hq with hq | hq; exact hq.2; rw[hq.1]
 refine⟨h.n,fun a hx=>?_,fun a hx=>?_,fun i k hik hk=>?_⟩
 ·rcases(hm a).1 hx with rfl | hx
  ·exact ha
  ·exact h.v.acc a hx.1
 ·rcases(hm a).1 hx with rfl | hx
  ·rw[qpM,hq1]; exact hnm
  ·exact h.v.nm a hx.1
 ·rw[gD_eq (show i<r.length by omega),gD_eq hk]
  exact zx2.1 h.s i k (by omega) hk hik
theorem Pst.comm{l r r2 s s2:List Acc}{e f:Ent}(hef:e.1≠f.1)(h1:Pst l e r)(h2:Pst r f r2)(h3:Pst l f s)(h4:Pst s e s2):r2=s2:=by
 have key:∀ {l r r2 s:List Acc} {e f:Ent} {s2:List Acc},e.1≠f.1->Pst l e r->Pst r f r2->Pst l f s->Pst s e s2->∀x,x∈r2->x∈s2:=by
  intro l r r2 s e f s2 hef h1 h2 h3 h4 x hx;obtain⟨q1,a1,_,m1⟩:=h1.m;obtain⟨q2,a2,_,m2⟩:=h2.m;obtain⟨q3,a3,_,m3⟩:=h3.m;obtain⟨q4,a4,_,m4⟩:=h4.m;have n1:q1.1=e.1:=by rcases a1 with h | h; exact h.2; rw[h.1]
  have n3:q3.1=f.1:=by rcases a3 with h | h; exact h.2; rw[h.1]
  have p1:(qbb q1 e).1=e.1:=by rw[qpM]; exact n1
  have p3:(qbb q3 f).1=f.1:=by rw[qpM]; exact n3
  -- the account of f behind e is the one ahead of it
  have e2:q2=q3:=by
   rcases a2 with⟨b,c⟩ | ⟨b,c⟩
   ·have hb:q2∈l:=by
     rcases(m1 q2).1 b with rfl | hb
     ·exact absurd (p1.symm.trans c) hef
     ·exact hb.1
    rcases a3 with⟨b',c'⟩ | ⟨b',c'⟩
    ·exact qBB h1.v hb b' (c.trans c'.symm)
    ·exact absurd c (c' q2 hb)
   ·rcases a3 with⟨b',c'⟩ | ⟨b',_⟩
    ·exact absurd c' (c q3 ((m1 q3).2 (.inr ⟨b',fun h=>hef (h.symm.trans c')⟩)))
    ·rw[b,b']
  have e4:q4=q1:=by
   rcases a4 with⟨b,c⟩ | ⟨b,c⟩
   ·have hb:q4∈l:=by
     rcases(m3 q4).1 b with rfl | hb
     ·exact absurd (c.symm.trans p3) hef
     ·exact hb.1
    rcases a1 with⟨b',c'⟩ | ⟨b',c'⟩
    ·exact qBB h1.v hb b' (c.trans c'.symm)
    ·exact absurd c (c' q4 hb)
   ·rcases a1 with⟨b',c'⟩ | ⟨b',_⟩
    ·exact absurd c' (c q1 ((m3 q1).2 (.inr ⟨b',fun h=>hef (c'.symm.trans h)⟩)))
    ·rw[b,b']
  subst e2 e4;rcases(m2 x).1 hx with rfl | ⟨hx,hne⟩
  ·exact(m4 _).2 (.inr ⟨(m3 _).2 (.inl rfl),fun h=>hef (h.symm.trans p3)⟩)
  ·rcases(m1 x).1 hx with rfl | ⟨hx,hne'⟩
   ·exact(m4 _).2 (.inl rfl)
   ·exact(m4 _).2 (.inr ⟨(m3 _).2 (.inr ⟨hx,hne⟩),hne'⟩)
 have nd:∀ {l:List Acc},l.Pairwise (fun a b=>Op.bytesLess a.1 b.1=true)->l.Nodup:=fun p=>List.Pairwise.imp (fun{a b} (h:Op.bytesLess a.1 b.1=true) (e:a=b)=>bl_ne h (by rw[e])) p
 have hperm:r2.Perm s2:=(List.perm_ext_iff_of_nodup (nd h2.s) (nd h4.s)).2 fun a=>⟨key hef h1 h2 h3 h4 a,key hef.symm h3 h4 h1 h2 a⟩
 exact hperm.eq_of_pairwise (fun a b _ _ h h'=>by
  have:=qkW h h';rw[qmI] at this; cases this) h2.s h4.s
end Go.Proofs.YtmdijohmddokhaaGreatDoor.Ac
namespace Go.Proofs.YtmdijohmddokhaaGreatDoor
open Go Go.Sq
set_option linter.unusedVariables false
structure StA(n:Net)(c:Cn)(k:Nat):Prop where
 st:StI n c k
 a:Ac.ValidP c.2.2.1
theorem StA.put{n:Net}{c:Cn}{r:Rec}{k:Nat}(h:StA n c k)(hk:k<=900)(hB:recB n r=true)(h0:(capp n c r).2=0):StA n (capp n c r).1 (k+1):=by
 refine⟨h.st.put (by omega) hB h0,?_⟩
 have h4:=(qsH h.st.ci (by omega) (qBu hB) h0).2.2.2
 have ha:=h.st.ci.a;by_cases k3:r.1=3
 ·rw[if_pos k3] at h4;have:=(Ac.pst (l:=c.2.2.1) (e:=r.2.2.2) (by omega) (by rw[h4])).valid
  rw[h4] at this;exact this
 ·rw[if_neg k3] at h4;rw[h4]; exact h.a
theorem qBC{n:Net}(hg:GN n)(h0:qbi n=0):StA n (st0 n) 0:=⟨qFn hg h0,⟨by simp[st0],by simp[st0],by simp[st0],fun i k _ h=>by simp[st0] at h⟩⟩
theorem qu3{n:Net}:∀(t:List Rec) (k:Nat) {c:Cn},RcB n t->k+t.length<=900->StA n c k->∃j,j<=k+t.length/\StA n (runC n t k c).1 j
 | [],k,c,_,_,h=>⟨k,by omega,h⟩
 | r::t,k,c,hb,hl,h=>by
  rw[zf] at hl;unfold runC;by_cases h0:(capp n c r).2=0
  ·rw[if_pos h0];obtain⟨j,h1,h2⟩:=qu3 t (k+1) hb.tl.2 (by omega) (h.put (by omega) hb.tl.1 h0)
   exact⟨j,by rw[zf]; omega,h2⟩
  ·rw[if_neg h0];exact⟨k,by omega,h⟩
theorem qrd{n:Net}(u:List Rec):∀(t:List Rec) (k:Nat) {c:Cn},(runC n t k c).2.2=0->runC n (t++u) k c=runC n u (k+t.length) (runC n t k c).1
 | [],_,_,_=>rfl
 | r::t,k,c,h=>by
  rw[zh1];unfold runC at h
  conv=>lhs; unfold runC
  conv=>rhs; arg 4; unfold runC
  by_cases h0:(capp n c r).2=0
  ·rw[if_pos h0] at h ⊢;rw[if_pos h0,qrd u t (k+1) h,zf,show k+1+t.length=k+(t.length+1) by omega]
  ·rw[if_neg h0] at h; exact absurd h h0
theorem qyq{n:Net}{c:Cn}{r:Rec}(h3:r.1=3)(h:(capp n c r).2=0):(capp n c r).1=(c.1,c.2.1,(Ac.postF c.2.2.1 r.2.2.2).1,c.2.2.2+1)/\(Ac.postF c.2.2.1 r.2.2.2).2=0:=by
 unfold capp at h ⊢;rw[if_neg (by omega),if_neg (by omega),if_pos h3] at h ⊢
 unfold capp3 at h ⊢;by_cases h1:c.2.2.2=1000
 ·rw[if_pos h1] at h; cases h
 rw[if_neg h1] at h ⊢;by_cases h2:(postS c.2.2.1 r).2=0
 ·rw[if_pos h2];unfold postS at h2 ⊢;by_cases h3:0<r.2.1.length\/noB r.2.2.1=false
  ·rw[if_pos h3] at h2; cases h2
  rw[if_neg h3] at h2 ⊢;exact⟨rfl,h2⟩
 ·rw[if_neg h2] at h; exact absurd h h2
def eA:Rec:=(3,[],(0,0,0,0,0,[],0),[97],1,5)
def eB:Rec:=(3,[],(0,0,0,0,0,[],0),[98],3,2)
theorem qyr{k:Nat}(h:k<10):Lib.itoa (k:Int)=[UInt8.ofNat (48+k)]:=by
 rw[qne,if_neg (by omega),show(k:Int).natAbs=k from rfl,Lib.decDigits_one h]
theorem eA_ok(n:Net):recB n eA=true/\joinS (recV n eA)++[10]=[101,110,116,114,121,32,114,101,99,101,105,118,101,100,32,97,32,53,10]:=by
 have h1:Ac.nameP [97]=true:=by rw[qnf]; decide
 refine⟨?_,?_⟩
 ·show((decide (([]:List Int).length=0)&&noB (0,0,0,0,0,[],0))&&entB ([97],1,5))=true;unfold entB;rw[h1]; decide
 ·show joinS (entV ([97],1,5))++[10]=_;have h5:Lib.itoa 5=[53]:=qyr (k:=5) (by decide)
  unfold entV;simp only[h5]
  decide
theorem eB_ok(n:Net):recB n eB=true/\joinS (recV n eB)++[10]=[101,110,116,114,121,32,115,108,111,112,32,98,32,50,10]:=by
 have h1:Ac.nameP [98]=true:=by rw[qnf]; decide
 refine⟨?_,?_⟩
 ·show((decide (([]:List Int).length=0)&&noB (0,0,0,0,0,[],0))&&entB ([98],3,2))=true;unfold entB;rw[h1]; decide
 ·show joinS (entV ([98],3,2))++[10]=_;have h5:Lib.itoa 2=[50]:=qyr (k:=2) (by decide)
  unfold entV;simp only[h5]
  decide
theorem qys:∀ {x y r s:Str},(10:UInt8)∉x->(10:UInt8)∉y->x++10::r=y++10::s->x=y
 | [],[],_,_,_,_,_=>rfl
 | [],b::y,_,_,_,hy,h=>by
  have:=(zP1 h).1;exact absurd (by rw[<-this]; exact .head _) hy
 | a::x,[],_,_,hx,_,h=>by
  have:=(zP1 h).1;exact absurd (by rw[this]; exact .head _) hx
 | a::x,b::y,r,s,hx,hy,h=>by
  have:=zP1 h;rw[this.1,qys (fun h=>hx (.tail _ h)) (fun h=>hy (.tail _ h)) this.2]
theorem qwa(n:Net)(c:Cn):∃r,showT n c=[99,111,117,110,116,32]++(Lib.itoa c.2.2.2++10::r):=by
 unfold showT;have h:shW [qv9] [c.2.2.2]=[99,111,117,110,116,32]++(Lib.itoa c.2.2.2++[10]):=by
  unfold shW;rw[qge,zv2,List.flatMap_nil,zJ,<-zp]; rfl
 rw[h];generalize (List.range' 0 c.1.1.length).flatMap (shV c)=A;generalize (List.range' 0 n.2.1.length).flatMap (shR n c)=B;generalize (List.range' 0 n.2.2.1.length).flatMap (shP n c)=C;generalize (List.range' 0 n.2.2.2.1.length).flatMap (shS n c)=D;generalize (List.range' 0 c.2.2.1.length).flatMap (shA c)=E;exact⟨A++(B++(C++(D++E))),by simp only[zp,zh1,zC]⟩
theorem qzf{l:List Int}(hl:∀x∈l,i64P x):qgc l=some true:=by
 refine Ok.true ?_
 have hw:Ok qd3 (fun b=>b=true):=⟨true,qyZ,rfl⟩
 have hw':Ok (Option.bind qd3 fun r=>some r) (fun b=>b=true):=Ok.bind hw fun b hb=>.ret hb
 unfold qgc;refine Ok.eq (qE9 l) (Ok.bif (fun _=>hw') fun _=>?_)
 obtain⟨s,e,hs⟩:=qER hl;refine Ok.eq e ?_
 refine Ok.bind (qEU hs) ?_
 rintro⟨n,s2,q2⟩ ⟨e,h,k,hn⟩
 replace e:s2=s:=e;subst e;simp only at h hn;have hg:=GN.of hn;have h0:=chk0 hn;have hN:=NmP.of h0;refine Ok.bind (qCW hg h0 h) ?_
 rintro⟨t,s3,q3⟩ ⟨_,rs,hb,hl,ht⟩
 replace ht:t=qcq n rs:=ht;subst ht;refine Ok.eq (qBy hg h0 hb (by omega)) ?_
 refine Ok.bif (fun _=>hw') fun hx=>?_
 have hx0:(runC n rs 0 (st0 n)).2.2=0:=by simpa using hx
 obtain⟨j,hj,hst⟩:=qu3 rs 0 hb (by omega) (qBC hg h0)
 have hlen:=qkd hN hb;have eA1:=eA_ok n; have eB1:=eB_ok n;have hbA:RcB n (rs++[eA,eB]):=fun x hx=>by
  rcases zA.1 hx with hx | hx
  ·exact hb x hx
  ·rcases zr.1 hx with rfl | hx
   ·exact eA1.1
   ·rw[zO.1 hx]; exact eB1.1
 have hbB:RcB n (rs++[eB,eA]):=fun x hx=>by
  rcases zA.1 hx with hx | hx
  ·exact hb x hx
  ·rcases zr.1 hx with rfl | hx
   ·exact eB1.1
   ·rw[zO.1 hx]; exact eA1.1
 have tA:qcq n (rs++[eA,eB])=qcq n rs++[101,110,116,114,121,32,114,101,99,101,105,118,101,100,32,97,32,53,10,101,110,116,114,121,32,115,108,111,112,32,98,32,50,10]:=by
  rw[qqm];refine congrArg (qcq n rs++·) ?_
  show(joinS (recV n eA)++[10])++((joinS (recV n eB)++[10])++[])=_;rw[eA1.2,eB1.2]; rfl
 have tB:qcq n (rs++[eB,eA])=qcq n rs++[101,110,116,114,121,32,115,108,111,112,32,98,32,50,10,101,110,116,114,121,32,114,101,99,101,105,118,101,100,32,97,32,53,10]:=by
  rw[qqm];refine congrArg (qcq n rs++·) ?_
  show(joinS (recV n eB)++[10])++((joinS (recV n eA)++[10])++[])=_;rw[eA1.2,eB1.2]; rfl
 have rA:=qBy hg h0 hbA (by simp; omega)
 have rB:=qBy hg h0 hbB (by simp; omega)
 rw[tA,qrd _ _ _ hx0] at rA;rw[tB,qrd _ _ _ hx0] at rB;refine Ok.gd (ble_t (by simp only[zf,zx]; omega)) (Ok.eq rA (Ok.gd (ble_t (by simp only[zf,zx]; omega)) (Ok.eq rB ?_)))
 generalize hX:(runC n rs 0 (st0 n)).1=X at*
 generalize hKA:0+rs.length=K at*
 refine Ok.eq (a:=!decide ((runC n [eA,eB] K X).2.2=0) || !decide ((runC n [eB,eA] K X).2.2=0)) (qdN rfl) ?_
 refine Ok.bif (fun _=>hw') fun hy=>?_
 have hy:(runC n [eA,eB] K X).2.2=0/\(runC n [eB,eA] K X).2.2=0:=by simpa using hy
 -- both entries are posted,in either order
 have two:∀ {a b:Rec},a.1=3->b.1=3->(runC n [a,b] K X).2.2=0->(Ac.postF X.2.2.1 a.2.2.2).2=0/\(Ac.postF (Ac.postF X.2.2.1 a.2.2.2).1 b.2.2.2).2=0∧
   (runC n [a,b] K X).1=(X.1,X.2.1,(Ac.postF (Ac.postF X.2.2.1 a.2.2.2).1 b.2.2.2).1,X.2.2.2+1+1):=by
  intro a b ha hb hr;unfold runC at hr ⊢;by_cases h1:(capp n X a).2=0
  ·rw[if_pos h1] at hr ⊢;unfold runC at hr ⊢;obtain⟨e1,p1⟩:=qyq ha h1;by_cases h2:(capp n (capp n X a).1 b).2=0
   ·rw[if_pos h2];obtain⟨e2,p2⟩:=qyq hb h2;rw[e1] at p2;refine⟨p1,p2,?_⟩
    show(capp n (capp n X a).1 b).1=_;rw[e2,e1]
   ·rw[if_neg h2] at hr; exact absurd hr h2
  ·rw[if_neg h1] at hr; exact absurd hr h1
 obtain⟨pA,pAB,eqA⟩:=two (a:=eA) (b:=eB) rfl rfl hy.1;obtain⟨pB,pBA,eqB⟩:=two (a:=eB) (b:=eA) rfl rfl hy.2;have hac:=hst.st.ci.a;have l1:=Ac.post_len (l:=X.2.2.1) (e:=eA.2.2.2) (by omega)
 have l2:=Ac.post_len (l:=X.2.2.1) (e:=eB.2.2.2) (by omega)
 have q1:=Ac.pst (by omega) pA
 have q2:=Ac.pst (by omega) pAB
 have q3:=Ac.pst (by omega) pB
 have q4:=Ac.pst (by omega) pBA
 have hcomm:=Ac.Pst.comm (by decide) q1 q2 q3 q4
 have hsame:(runC n [eB,eA] K X).1=(runC n [eA,eB] K X).1:=by rw[eqA,eqB,hcomm]
 have n0:=hst.st.ci.n0; have n1:=hst.st.ci.n1;obtain⟨j2,hj2,hst2⟩:=qu3 (rs++[eA,eB]) 0 hbA (by simp; omega) (qBC hg h0)
 rw[qrd _ _ _ hx0,hX,hKA] at hst2;have m0:=hst2.st.ci.n0; have m1:=hst2.st.ci.n1;rw[zd] at hj2;have sX:=qBA hst.st.d hst.a ⟨n0,by omega⟩
 have sY:=qBA hst2.st.d hst2.a ⟨m0,by simp at hj2; omega⟩
 refine Ok.eq sX (Ok.eq sY ?_)
 have sZ:=sY;rw[<-hsame] at sZ;refine Ok.eq sZ ?_
 rw[hsame];have cY:(runC n [eA,eB] K X).1.2.2.2=X.2.2.2+1+1:=by rw[eqA]
 obtain⟨u,hu⟩:=qwa n X;obtain⟨v,hv⟩:=qwa n (runC n [eA,eB] K X).1;have hne:showT n X≠showT n (runC n [eA,eB] K X).1:=fun he=>by
  rw[hu,hv,cY] at he;have he:=List.append_cancel_left he;have he:=qys (qqk (qql _)).1 (qqk (qql _)).1 he;have s1:smI X.2.2.2=true:=by unfold smI; rw[dec_t (by omega),dec_t (by omega)]; rfl
  have s2:smI (X.2.2.2+1+1)=true:=by unfold smI; rw[dec_t (by omega),dec_t (by omega)]; rfl
  have:=congrArg numI he;rw[qiQ s1,qiQ s2] at this;omega
 have hlX:6<(showT n X).length:=by
  rw[hu]; simp only[zd,zf,zx]; omega
 simp only[zg2,za];rw[dec_f hne,zk1,za];rw[dec_t (show wi64 (X.2.2.2+2)=_ by rw[cY,wi (by omega)]; omega),za,dec_t (by omega),za]
 refine Ok.gd (by unfold cutG; simp; omega) ?_
 rw[dec_t (by rw[hu]; rfl),za]
 exact hw'
end Go.Proofs.YtmdijohmddokhaaGreatDoor
