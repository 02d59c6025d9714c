/- Lemmas. No condition. -/
import Derived.Test.YtmdijohmddokhaaGreatDoorSa0
namespace Go.Proofs.YtmdijohmddokhaaGreatDoor
open Go Go.Sq
set_option linter.unusedVariables false
abbrev Tel:=Int×Int×Int×Int×Int×List Int
abbrev t0:Tel:=(0,0,0,0,0,[])
def rv(v:Int):Bool:=rg (-9007199254740992) 9007199254740992 v
def qmM(t:Tel):Bool:=(rg 0 255 t.1&&(rg 0 255 t.2.1&&(rg 0 2147483648 t.2.2.1&&(rg 0 1099511627776 t.2.2.2.1&&rg 0 63 t.2.2.2.2.1))))&&(decide (t.2.2.2.2.2.length<=16)&&t.2.2.2.2.2.all rv)
theorem tv1(n m:Int):qbG n m=some (rg 0 m n):=by
 unfold qbG rg;cases decide (0<=n) <;> rfl
theorem tv2(v:Int):qbH v=some (!rv v):=by
 unfold qbH rv rg;by_cases h:v < -9007199254740992
 ·rw[dec_t h,dec_f (show ¬ -9007199254740992<=v by omega)]; rfl
 ·rw[dec_f h,dec_t (show -9007199254740992<=v by omega),zc,zL]
  congr 1;by_cases h2:9007199254740992<v
  ·rw[dec_t h2,dec_f]; rfl
  ·rw[dec_f h2,dec_t]; rfl
theorem qET{A:Type}(l:List A)(p:A->Bool):(l.any fun x=>!p x)=!l.all p:=by
 induction l with
 | nil=>rfl
 | cons x r ih=>simp only[List.any_cons,z41,ih,Bool.not_and]
theorem qBs(t:Tel):qg7 t=some (qmM t):=by
 unfold qg7;simp only[tv1,z7];have hv:t.2.2.2.2.2.length<=16->qaE t.2.2.2.2.2 (fun h=>(qbH h.1).bind fun y=>some y)=some (!t.2.2.2.2.2.all rv):=fun h=>by
  rw[qoH _ (fun v=>!rv v) _ (fun x _=>by rw[show(qbH (x,()).1)=some (!rv x) from tv2 x]; rfl) (by omega),qET]
 unfold qmM;cases rg 0 255 t.1 with
 | false=>rfl
 | true=>
 cases rg 0 255 t.2.1 with
 | false=>rfl
 | true=>
 cases rg 0 2147483648 t.2.2.1 with
 | false=>rfl
 | true=>
 cases rg 0 1099511627776 t.2.2.2.1 with
 | false=>rfl
 | true=>
 cases rg 0 63 t.2.2.2.2.1 with
 | false=>rfl
 | true=>
 simp only[zg,zc,Bool.and_self,zL,z7];by_cases h:t.2.2.2.2.2.length<=16
 ·rw[dec_t (show(t.2.2.2.2.2.length:Int)<=16 by omega),dec_t h,zb,hv h,z7,zg2,zL]
 ·rw[dec_f (show ¬(t.2.2.2.2.2.length:Int)<=16 by omega),dec_f h]; rfl
def befT(a b:Tel):Bool:=decide (a.1=b.1)&&(decide (a.2.1<b.2.1) || (decide (a.2.1=b.2.1)&&decide (a.2.2.1<b.2.2.1)))
theorem qwl(a b:Tel):qgg a b=some (befT a b):=by
 unfold qgg befT;cases decide (a.1=b.1) <;> cases decide (a.2.1<b.2.1) <;> cases decide (a.2.1=b.2.1) <;> rfl
theorem qC9{a b:Tel}:befT a b=true↔a.1=b.1/\(a.2.1<b.2.1\/a.2.1=b.2.1/\a.2.2.1<b.2.2.1):=by
 simp[befT]
def SortT(l:List Tel):Prop:=l.Pairwise fun a b=>a.1<b.1
def putT:List Tel->Tel->Option (List Tel)
 | [],t=>some [t]
 | x::r,t=>if x.1<t.1 then(putT r t).map (x::·) else if x.1=t.1 then(if befT x t then some (t::r) else none) else some (t::x::r)
structure LbT(l:List Tel)(s:Int)(k:Nat):Prop where
 le:k<=l.length
 lt:∀j,j<k->(l.getD j t0).1<s
 ge:∀j,k<=j->j<l.length->s<=(l.getD j t0).1
theorem qxv:∀ {l:List Tel} {t:Tel} {k:Nat},LbT l t.1 k->putT l t=if k<l.length/\(l.getD k t0).1=t.1 then(if befT (l.getD k t0) t then some (l.set k t) else none) else some (l.take k++[t]++l.drop k)
 | [],t,k,h=>by
  have:k=0:=by have:=h.le; simpa using this
  subst this; rfl
 | x::r,t,0,h=>by
  have h0:=h.ge 0 (by omega) (by simp)
  have h0:t.1<=x.1:=h0;unfold putT;rw[if_neg (by omega)]
  by_cases he:x.1=t.1
  ·rw[if_pos he,if_pos (show 0<(x::r).length/\((x::r).getD 0 t0).1=t.1 from⟨by simp,he⟩)]; rfl
  ·rw[if_neg he,if_neg (fun h=>he h.2)]; rfl
 | x::r,t,k+1,h=>by
  have h0:x.1<t.1:=h.lt 0 (by omega)
  have hr:LbT r t.1 k:=⟨by have:=h.le; simpa using this,fun j hj=>h.lt (j+1) (by omega),fun j hj hl=>h.ge (j+1) (by omega) (by simpa using hl)⟩
  unfold putT;rw[if_pos h0,qxv hr];have e1:(x::r).getD (k+1) t0=r.getD k t0:=rfl;rw[e1];by_cases hc:k<r.length/\(r.getD k t0).1=t.1
  ·rw[if_pos hc,if_pos (show k+1<(x::r).length/\(r.getD k t0).1=t.1 from⟨by simpa using hc.1,hc.2⟩)]
   cases befT (r.getD k t0) t <;> rfl
  ·rw[if_neg hc,if_neg (fun h=>hc ⟨by simpa using h.1,h.2⟩)]; rfl
theorem hnat{i j:Nat}(h:i+j<=4611686018427387904):wi64 (Int.fdiv (wu64 (wi64 ((i:Int)+(j:Int)))) (2^shAmt .u64 1))=(((i+j)/2:Nat):Int):=by
 have e0:wi64 ((i:Int)+(j:Int))=(i:Int)+(j:Int):=wi (by omega)
 have e1:wu64 ((i:Int)+(j:Int))=(i:Int)+(j:Int):=by
  show IntKind.u64.wrap _=_;rw[show IntKind.u64.wrap ((i:Int)+(j:Int))=((i:Int)+(j:Int))%18446744073709551616 from rfl]
  omega
 have e2:(2:Int)^shAmt .u64 1=2:=by kernel_rfl
 rw[e0,e1,e2,Int.fdiv_eq_ediv_of_nonneg _ (by omega),wi (by omega)]
 omega
theorem gDp{l:List Tel}(h:SortT l){i j:Nat}(hij:i<j)(hj:j<l.length):(l.getD i t0).1<(l.getD j t0).1:=by
 have:=List.pairwise_iff_getElem.1 h i j (by omega) hj hij
 rw[zk,zk,zj (by omega),zj hj]
 exact this
def cmpT(x y:Int):Int:=if x<y then -1 else if y<x then 1 else 0
theorem qBt(a:Tel)(s:Int):(qdH a s).bind (fun y=>some y)=some (cmpT a.1 s):=by
 unfold qdH qiI qid cmpT;rw[dec_t rfl,dec_t rfl];simp only[z7,zg,zc];by_cases h1:a.1<s
 ·rw[dec_t h1,if_pos h1]; rfl
 ·rw[dec_f h1,if_neg h1];by_cases h2:s<a.1
  ·rw[dec_t h2,if_pos h2]; rfl
  ·rw[dec_f h2,if_neg h2]; rfl
theorem qEU{l:List Tel}{s:Int}(hs:SortT l)(hn:l.length<=1000000):∃k:Nat,LbT l s k/\qkL l s=some ((k:Int),decide (k<l.length/\(l.getD k t0).1=s)):=by
 have key:∃e,iter (fun x2:Int×Int=>qav l s (fun h=>(qdH h.1 h.2.1).bind fun y=>some y) x2.1 x2.2) (0,(l.length:Int))=some e/\∃k:Nat,e=(k:Int)/\LbT l s k:=by
  refine qrs (fun x=>∃i j:Nat,x=((i:Int),(j:Int))/\i<=j/\j<=l.length/\(∀q,q<i->(l.getD q t0).1<s)/\(∀q,j<=q->q<l.length->s<=(l.getD q t0).1)) (fun x=>(x.2-x.1).toNat) _ ?_ ⟨0,l.length,rfl,by omega,by omega,by omega,by omega⟩
  rintro _ ⟨i,j,rfl,h1,h2,h3,h4⟩
  unfold qav;simp only;by_cases hij:i<j
  ·right;have hm:(i+j)/2<l.length:=by omega
   simp only[dec_t (show(i:Int)<(j:Int) by omega),zb,hnat (i:=i) (j:=j) (by omega),gd_t (inB_t hm),za]
   rw[show(qdH (l.getD ((i+j)/2) t0) s).bind (fun y=>some y)=_ from qBt _ _]
   simp only[z7];unfold cmpT;by_cases hc:(l.getD ((i+j)/2) t0).1<s
   ·rw[if_pos hc,dec_t,wi (by omega)]
    refine⟨_,rfl,⟨(i+j)/2+1,j,rfl,by omega,h2,fun q hq=>?_,h4⟩,by simp only; omega⟩
    by_cases e:q=(i+j)/2
    ·rw[e]; exact hc
    ·have:=gDp hs (i:=q) (j:=(i+j)/2) (by omega) hm
     omega
   ·rw[if_neg hc,dec_f (by split <;> omega)]
    refine⟨_,rfl,⟨i,(i+j)/2,rfl,by omega,by omega,h3,fun q hq hql=>?_⟩,by simp only; omega⟩
    by_cases e:q=(i+j)/2
    ·rw[e]; omega
    ·have:=gDp hs (i:=(i+j)/2) (j:=q) (by omega) hql
     omega
  ·left;obtain rfl:i=j:=by omega
   exact⟨(i:Int),by simp only[dec_f (show ¬(i:Int)<(i:Int) by omega),zc],i,rfl,h2,h3,h4⟩
 obtain⟨_,q,k,rfl,hk⟩:=key;refine⟨k,hk,?_⟩
 unfold qkL qaC;rw[q];simp only[z7];by_cases hkl:k<l.length
 ·rw[Sq.dlt hkl,zb,gd_t (inB_t hkl),za,show(qdH (l.getD k t0) s).bind (fun y=>some y)=_ from qBt _ _]
  simp only[z7];congr 2;have hge:=hk.ge k (zP _) hkl;unfold cmpT;rw[if_neg (by omega)]
  by_cases he:(l.getD k t0).1=s
  ·rw[if_neg (by omega),dec_t rfl,dec_t ⟨hkl,he⟩]
  ·rw[if_pos (by omega),dec_f,dec_f (fun h=>he h.2)]
 ·rw[dec_f (show ¬(k:Int)<(l.length:Int) by omega),zc,dec_f (fun h=>hkl h.1)]; rfl
/-! ### A record of a telegram is carried out -/
abbrev Ent3:=List UInt8×Int×Int
abbrev Rec:=Int×List Int×Stp×Ent3
abbrev Acc4:=List UInt8×Int×Int×Int×Int
abbrev Cn:=Dk×List Tel×List Acc4×Int
def noB(s:Stp):Bool:=decide (s.1=0)&&(decide (s.2.1=0)&&(decide (s.2.2.1=0)&&(decide (s.2.2.2.1=0)&&(decide (s.2.2.2.2.1=0)&&(decide (s.2.2.2.2.2.2=0)&&decide (s.2.2.2.2.2.1.length=0))))))
theorem qwm(s:Stp):qgf s=some (noB s):=by
 unfold qgf noB;rw[show decide ((s.2.2.2.2.2.1.length:Int)=0)=decide (s.2.2.2.2.2.1.length=0) by
  by_cases h:s.2.2.2.2.2.1.length=0
  ·rw[dec_t h,dec_t]
  ·rw[dec_f h,dec_f]]
 cases decide (s.1=0) <;> cases decide (s.2.1=0) <;> cases decide (s.2.2.1=0) <;> cases decide (s.2.2.2.1=0) <;> cases decide (s.2.2.2.2.1=0) <;> cases decide (s.2.2.2.2.2.2=0) <;> rfl
def noE(e:Ent3):Bool:=decide (e.1=[])&&(decide (e.2.1=0)&&decide (e.2.2=0))
def telOf(v:List Int):Tel:=(v.getD 0 0,v.getD 1 0,v.getD 2 0,v.getD 3 0,v.getD 4 0,v.drop 5)
def accS(l:List Tel)(r:Rec):List Tel×Int:=
 if r.2.1.length<5\/noB r.2.2.1=false\/noE r.2.2.2=false\/qmM (telOf r.2.1)=false then(l,28)
 else match putT l (telOf r.2.1) with
  | some l'=>(l',0)
  | none=>(l,6)
theorem qD6(l:List Int)(h:l.length<=100000):qc5 l=some l:=by
 unfold qc5;rw[gd_t (qaF (by omega)),zF]
theorem qBu{l:List Tel}(hs:SortT l)(hn:l.length<=10000)(n:Net)(r:Rec)(c:Int)(c2:List Vl)(c3 c4:List Int)(c5:List Bool)(c7:List Acc4)(hv:r.2.1.length<=100000):
  qie n r c c2 c3 c4 c5 l c7=some ((accS l r).2,c,c2,c3,c4,c5,(accS l r).1,c7):=by
 unfold qie;rw[show((Y7 r.2.2.1):Stp)=r.2.2.1 from rfl,qwm,z7]
 unfold accS;by_cases h5:r.2.1.length<5
 ·rw[dec_t (show(r.2.1.length:Int)<5 by omega),if_pos (.inl h5)]; rfl
 rw[dec_f (show ¬(r.2.1.length:Int)<5 by omega)]
 cases hb:noB r.2.2.1 with
 | false=>rw[if_pos (.inr (.inl rfl))]; rfl
 | true=>
 cases he:noE r.2.2.2 with
 | false=>
  rw[if_pos (.inr (.inr (.inl rfl)))];unfold noE at he;rw[he]; rfl
 | true=>
 unfold noE at he;rw[he];simp only[zc,zg,z7];have hB:∀i:Int,0<=i->i<5->inB i r.2.1.length=true:=fun i h1 h2=>qar.2 ⟨by omega,by omega⟩
 rw[gd_t (hB 0 (by omega) (by omega)),gd_t (hB 1 (by omega) (by omega)),gd_t (hB 2 (by omega) (by omega)),gd_t (hB 3 (by omega) (by omega)),gd_t (hB 4 (by omega) (by omega))]
 have hcut:cutG (some (.i64,5)) none r.2.1.length=true:=by simp[cutG,inR, *] <;> omega
 rw[gd_t hcut,qD6 _ (by simp; omega),z7,show((r.2.1.getD 0 0,r.2.1.getD 1 0,r.2.1.getD 2 0,r.2.1.getD 3 0,r.2.1.getD 4 0,r.2.1.drop 5):Tel)=telOf r.2.1 from rfl,qBs,z7]
 cases hvt:qmM (telOf r.2.1) with
 | false=>rw[if_pos (.inr (.inr (.inr rfl)))]; rfl
 | true=>
 rw[if_neg (by simp[h5])]
 simp only[zg,zc];obtain⟨k,hk,hf⟩:=qEU (s:=(telOf r.2.1).1) hs (by omega)
 rw[show(r.2.1.getD 0 0)=(telOf r.2.1).1 from rfl,hf,z7,qxv hk]
 by_cases hc:k<l.length/\(l.getD k t0).1=(telOf r.2.1).1
 ·rw[if_pos hc,dec_t hc,zg,zc,gd_t (inB_t hc.1),za,show((l.getD k (0,0,0,0,0,[])):Tel)=l.getD k t0 from rfl,qwl,z7]
  cases befT (l.getD k t0) (telOf r.2.1) with
  | false=>rfl
  | true=>simp only[zg,zc,if_true]; rw[gd_t (inB_t hc.1)]
 ·rw[if_neg hc,dec_f hc,zu1,zb];unfold insT;have hkl:=hk.le;rw[dec_t (show(0:Int)<=(k:Int) by omega),dec_t (show(k:Int)<=(l.length:Int) by omega),qaF (by omega),za]; rfl
abbrev a0:Acc4:=([],0,0,0,0)
structure CnS(c:Cn):Prop where
 d:DkS c.1
 t:c.2.1.length<=10000
 tv:∀x∈c.2.1,x.2.2.2.2.2.length<=100000
 a:c.2.2.1.length<=10000
theorem qFP(l:List Tel)(h:l.length<=10000):qaK l=some l:=by
 unfold qaK;rw[gd_t (qaF (by omega)),zF]
theorem qFQ(l:List Acc4)(h:l.length<=10000):qai l=some l:=by
 unfold qai;rw[gd_t (qaF (by omega)),zF]
theorem qFR{A:Type}(l:List A)(i:Nat)(d:A):l.set i (l.getD i d)=l:=by
 apply zR1;intro j;rw[List.getElem?_set]
 by_cases h:i=j
 ·subst h;rw[if_pos rfl];split
  ·rename_i hl; rw[zk,zj hl]; rfl
  ·rename_i hl; rw[zy1 (by omega)]
 ·rw[if_neg h]
theorem gmem{A:Type}{l:List A}{i:Nat}{d:A}(h:i<l.length):l.getD i d∈l:=by
 rw[zk,zj h];exact zc3 h
theorem qyA{c:Cn}(h:CnS c):qdG c=some (c.2.2.2,c.1.1,c.1.2.1,c.1.2.2.1,c.1.2.2.2,c.2.1,c.2.2.1):=by
 unfold qdG;rw[show((c.1.1,c.1.2.1,c.1.2.2.1,c.1.2.2.2):Dk)=c.1 from rfl,qBa h.d,z7,qFP _ h.t,z7,qFQ _ h.a,z7]
 have k1:=qbn (step:=fun x:Int×List Tel×List Vl×List Int×List Int×List Bool×List Acc4=>qg6 c.2.1 x.1 x.2.1 x.2.2.1 x.2.2.2.1 x.2.2.2.2.1 x.2.2.2.2.2.1 x.2.2.2.2.2.2) c.2.1.length
  (fun i=>((i:Int),c.2.1,c.1.1,c.1.2.1,c.1.2.2.1,c.1.2.2.2,c.2.2.1)) (e:=(c.1.1,c.1.2.1,c.1.2.2.1,c.1.2.2.2,c.2.1,c.2.2.1)) (fun i hi=>by
   unfold qg6;simp only[Sq.dlt hi,zb,gd_t (inB_t hi),za]
   rw[qD6 _ (h.tv _ (gmem (d:=t0) hi)),z7,w1 hi (by have:=h.t; omega)]
   have e:c.2.1.set i (c.2.1.getD i t0)=c.2.1:=qFR _ _ _;exact congrArg some (congrArg Sum.inl (by rw[show((((c.2.1.getD i (0,(0,(0,(0,(0,[])))))).1,(((c.2.1.getD i (0,(0,(0,(0,(0,[])))))).2).1,((((c.2.1.getD i (0,(0,(0,(0,(0,[])))))).2).2).1,(((((c.2.1.getD i (0,(0,(0,(0,(0,[])))))).2).2).2).1,((((((c.2.1.getD i (0,(0,(0,(0,(0,[])))))).2).2).2).2).1,(((((c.2.1.getD i (0,(0,(0,(0,(0,[])))))).2).2).2).2).2)))))):Tel)=c.2.1.getD i t0 from rfl,e]))) (by
   unfold qg6;simp only[dec_f (show ¬(c.2.1.length:Int)<(c.2.1.length:Int) by omega),zc])
 rw[show((((0:Nat):Int),c.2.1,c.1.1,c.1.2.1,c.1.2.2.1,c.1.2.2.2,c.2.2.1):Int×List Tel×List Vl×List Int×List Int×List Bool×List Acc4)=(0,c.2.1,c.1.1,c.1.2.1,c.1.2.2.1,c.1.2.2.2,c.2.2.1) from rfl] at k1
 refine(congrArg (fun o=>Option.bind o _) k1).trans ?_
 rfl
theorem mg_eq(x:Int):mget keyI (mput keyI (mput keyI (mput keyI [] 1 1) 2 2) 3 3) x=if x=1 then some (1:Nat) else if x=2 then some 2 else if x=3 then some 3 else none:=by
 show mget keyI [((1:Int),(1:Nat)),(2,2),(3,3)] x=_;unfold mget keyI;by_cases h1:x=1
 ·subst h1; rfl
 ·by_cases h2:x=2
  ·subst h2; rfl
  ·by_cases h3:x=3
   ·subst h3; rfl
   ·have e:∀y:Int,(keyO (Ty.int IntKind.i64)).eq x y=decide (x=y):=fun y=>rfl
    simp[mget,e,h1,h2,h3]
def capp1(c:Cn)(r:Rec):Cn×Int:=if c.2.2.2=1000 then(c,4) else if(accS c.2.1 r).2=0 then((c.1,(accS c.2.1 r).1,c.2.2.1,c.2.2.2+1),0) else(c,(accS c.2.1 r).2)
theorem qBv(n:Net){c:Cn}(h:CnS c)(hs:SortT c.2.1)(hk:0<=c.2.2.2/\c.2.2.2<=100000){r:Rec}(hr:r.1=1)(hv:r.2.1.length<=100000):qeA n c r=some (capp1 c r):=by
 unfold qeA capp1;have hm:mget keyI (mput keyI (mput keyI (mput keyI [] 1 1) 2 2) 3 3) r.1=some (1:Nat):=by rw[mg_eq,if_pos hr]
 rw[hm,show(((c.1.1,c.1.2.1,c.1.2.2.1,c.1.2.2.2),c.2.1,c.2.2.1,c.2.2.2):Cn)=c from rfl,qyA h,z7]
 by_cases h1:c.2.2.2=1000
 ·rw[dec_t h1,if_pos h1]; rfl
 rw[dec_f h1,if_neg h1];simp only[z53,zg,zc,zn2,zG2,zb];rw[show((r.1,r.2.1,(Y7 r.2.2.1),r.2.2.2.1,r.2.2.2.2.1,r.2.2.2.2.2):Rec)=r from rfl,qbd,z7,qBu hs h.t _ _ _ _ _ _ _ _ hv,z7,z7]
 by_cases h0:(accS c.2.1 r).2=0
 ·rw[dec_t h0,if_pos h0,zg,zc];simp only;rw[wi (by omega)]
 ·rw[dec_f h0,if_neg h0]; rfl
/-! ### States are compared -/
theorem qEV(t:Tel)(h:t.2.2.2.2.2.length<=100000):qef t t=some true:=by
 unfold qef;rw[dec_t rfl,dec_t rfl,dec_t rfl,dec_t rfl,dec_t rfl,sameI _ h]; rfl
theorem sameA(a:List Acc4)(h:a.length<=100000):qno a a=some true:=by
 unfold qno;rw[dec_t rfl];have:=qa1 (step:=fun x=>qgx a a x) a.length (fun i=>(i:Int)) (fun _=>true) (fin:=.inl ()) (bad:=.inr false) (fun i hi _ hq=>?_) (fun i hi _ hq=>by cases hq) (fun _=>?_)
 ·have e:(List.range a.length).all (fun _=>true)=true:=by simp
  rw[e] at this;have this:iter (fun x=>qgx a a x) 0=some (.inl ()):=this
  rw[this]; rfl
 ·unfold qgx;rw[Sq.dlt hi,zb,gd_t (inB_t hi),gd_t (inB_t hi),dec_t rfl,dec_t rfl,dec_t rfl,dec_t rfl,dec_t rfl,w1 hi]; rfl
 ·unfold qgx;rw[dec_f]; rfl
theorem sameC{c:Cn}(h:CnS c):qnp c c=some true:=by
 unfold qnp;rw[dec_t rfl,show((c.1.1,c.1.2.1,c.1.2.2.1,c.1.2.2.2):Dk)=c.1 from rfl,sameD h.d,z7,sameA _ (by have:=h.a; omega),z7,dec_t rfl]
 have:=qa1 (step:=fun x=>qgy c c x) c.2.1.length (fun i=>(i:Int)) (fun _=>true) (fin:=.inl ()) (bad:=.inr false) (fun i hi _ hq=>?_) (fun i hi _ hq=>by cases hq) (fun _=>?_)
 ·have e:(List.range c.2.1.length).all (fun _=>true)=true:=by simp
  rw[e] at this;have this:iter (fun x=>qgy c c x) 0=some (.inl ()):=this
  simp only[zg,zc,z7];rw[this]; rfl
 ·unfold qgy;have ht:=h.t;rw[Sq.dlt hi,zb,gd_t (inB_t hi),gd_t (inB_t hi),za,show((c.2.1.getD i (0,0,0,0,0,[])):Tel)=c.2.1.getD i t0 from rfl,qEV _ (h.tv _ (gmem hi)),w1 hi]; rfl
 ·unfold qgy;rw[dec_f]; rfl
/-! ### What is stored -/
end Go.Proofs.YtmdijohmddokhaaGreatDoor
namespace Go.Proofs.YtmdijohmddokhaaGreatDoor.Ac
open Go Go.Sq
abbrev Acc:=List UInt8×Int×Int×Int×Int
abbrev Ent:=List UInt8×Int×Int
abbrev d0:Acc:=([],0,0,0,0)
abbrev e0:Ent:=([],0,0)
/-! ### The order of texts -/
theorem qsT(a b:UInt8)(x y:List UInt8):Op.bytesLess (a::x) (b::y)=true↔a.toNat<b.toNat\/(a=b/\Op.bytesLess x y=true):=by
 rw[show Op.bytesLess (a::x) (b::y)=(decide (a<b) || (a==b&&Op.bytesLess x y)) from rfl]
 simp only[zi1,z8,zi,zv2,UInt8.lt_iff_toNat_lt]
theorem qyB(x:List UInt8):Op.bytesLess x []=false:=by cases x <;> rfl
theorem qqb:∀a:List UInt8,Op.bytesLess a a=false
 | []=>rfl
 | a::x=>by
  rw[<-zq2,qsT]
  rintro(h | ⟨_,h⟩)
  ·omega
  ·rw[qqb x] at h; cases h
theorem qqc:∀ {a b c:List UInt8},Op.bytesLess a b=true->Op.bytesLess b c=true->Op.bytesLess a c=true
 | _,[],_,h,_=>by rw[qyB] at h; cases h
 | _,_::_,[],_,h=>by rw[qyB] at h; cases h
 | [],_::_,_::_,_,_=>rfl
 | a::x,b::y,c::z,h,h'=>by
  rw[qsT] at h h' ⊢;rcases h with h | ⟨rfl,h⟩ <;> rcases h' with h' | ⟨rfl,h'⟩
  ·left; omega
  ·left; exact h
  ·left; exact h'
  ·right; exact⟨rfl,qqc h h'⟩
theorem qD7:∀a b:List UInt8,Op.bytesLess a b=true\/a=b\/Op.bytesLess b a=true
 | [],[]=>.inr (.inl rfl)
 | [],_::_=>.inl rfl
 | _::_,[]=>.inr (.inr rfl)
 | a::x,b::y=>by
  rw[qsT,qsT];rcases Nat.lt_trichotomy a.toNat b.toNat with h | h | h
  ·exact .inl (.inl h)
  ·have e:=z23.1 h;subst e;rcases qD7 x y with h1 | h1 | h1
   ·exact .inl (.inr ⟨rfl,h1⟩)
   ·subst h1; exact .inr (.inl rfl)
   ·exact .inr (.inr (.inr ⟨rfl,h1⟩))
  ·exact .inr (.inr (.inl h))
theorem qBw{a b:List UInt8}(h:Op.bytesLess a b=true):Op.bytesLess b a=false:=by
 rw[<-zq2];intro h';have:=qqc h h';rw[qqb] at this; cases this
theorem bl_ne{a b:List UInt8}(h:Op.bytesLess a b=true):a≠b:=fun e=>by
 subst e; rw[qqb] at h; cases h
theorem qqd:∀a b:List UInt8,(Lib.compareBytes a b<0↔Op.bytesLess a b=true)/\(Lib.compareBytes a b=0↔a=b)
 | [],[]=>by simp[Lib.compareBytes,qyB]
 | [],_::_=>by simp[Lib.compareBytes]; rfl
 | _::_,[]=>by simp[Lib.compareBytes,qyB]
 | a::x,b::y=>by
  have ih:=qqd x y;unfold Lib.compareBytes;rw[qsT];simp only[UInt8.lt_iff_toNat_lt,List.cons.injEq];rcases Nat.lt_trichotomy a.toNat b.toNat with h | h | h
  ·have hne:a≠b:=fun e=>by subst e; omega
   simp[h,hne]
  ·have e:=z23.1 h;subst e;simp only[Nat.lt_irrefl,if_false,false_or,true_and];exact ih
  ·have hne:a≠b:=fun e=>by subst e; omega
   rw[if_neg (by omega),if_pos h]
   constructor
   ·constructor
    ·intro h; omega
    ·rintro(h' | ⟨h',_⟩)
     ·omega
     ·exact absurd h' hne
   ·constructor
    ·intro h; omega
    ·rintro⟨h',_⟩; exact absurd h' hne
/-! ### Names -/
def qhP(c:Int):Int:=if 97<=c/\c<=122 then 1 else if(48<=c/\c<=57)\/c=45 then 2 else 0
theorem place_eq(c:Int):qfK c=some (qhP c):=by
 unfold qfK qhP;by_cases h1:97<=c
 ·by_cases h2:c<=122
  ·simp[h1,h2]
  ·simp[h1,h2,show ¬c<=57 by omega,show ¬c=45 by omega,show 48<=c by omega]
 ·by_cases h3:48<=c
  ·by_cases h4:c<=57
   ·simp[h1,h3,h4]
   ·simp[h1,h3,h4,show ¬c=45 by omega]
  ·by_cases h5:c=45
   ·simp[h5]
   ·simp[h1,h3,h5]
def qfp(s:List UInt8)(i:Nat):Int:=Int.ofNat (s.getD i 0).toNat
theorem qBx(s:List UInt8)(i:Nat):0<=qfp s i/\qfp s i<=255:=by
 unfold qfp;have:=(s.getD i 0).toNat_lt;constructor
 ·exact Int.natCast_nonneg _
 ·show((s.getD i 0).toNat:Int)<=255;omega
def nameP(s:List UInt8):Bool:=decide (1<=s.length)&&(decide (s.length<=12)&&(decide (qhP (qfp s 0)=1)&&(List.range s.length).all fun i=>decide (qhP (qfp s i)≠0)))
theorem name_eq(s:List UInt8):qcS s=some (nameP s):=by
 unfold qcS nameP;by_cases h1:s.length<1
 ·rw[dec_t (show(s.length:Int)<1 by omega),dec_f (show ¬1<=s.length by omega)]; rfl
 rw[dec_f (show ¬(s.length:Int)<1 by omega),dec_t (show 1<=s.length by omega)]
 by_cases h2:12<s.length
 ·rw[dec_t (show 12<(s.length:Int) by omega),dec_f (show ¬s.length<=12 by omega)]; rfl
 rw[dec_f (show ¬12<(s.length:Int) by omega),dec_t (show s.length<=12 by omega),gd_t (show inB 0 s.length=true from inB_t (i:=0) (by omega)),place_eq]
 simp only[zc,z7,zL];show(bif !decide (qhP (qfp s 0)=1) then some false else _)=_;by_cases h3:qhP (qfp s 0)=1
 ·rw[dec_t h3];have:=qa1 (step:=fun x=>qcl s x) s.length (fun i=>(i:Int)) (fun i=>decide (qhP (qfp s i)≠0)) (fin:=.inl ()) (bad:=.inr false) (fun i hi _ hp=>by
    unfold qcl;simp only[Sq.dlt hi,zb,gd_t (inB_t hi),za,place_eq,z7]
    show(bif decide (qhP (qfp s i)=0) then _ else _)=_;rw[dec_f (zx hp),wi (by omega)]; rfl) (fun i hi _ hp=>by
    unfold qcl;simp only[Sq.dlt hi,zb,gd_t (inB_t hi),za,place_eq,z7]
    show(bif decide (qhP (qfp s i)=0) then _ else _)=_;rw[dec_t (by simpa using hp)]; rfl) (fun _=>by
    unfold qcl;simp only[dec_f (show ¬(s.length:Int)<(s.length:Int) by omega),zc])
  simp only[zg,zc,zL];rw[show(0:Int)=((0:Nat):Int) from rfl,this]
  cases(List.range s.length).all fun i=>decide (qhP (qfp s i)≠0) <;> rfl
 ·rw[dec_f h3]; rfl
theorem rname_eq(s:List UInt8):qcA s=some (nameP s):=by
 unfold qcA nameP;by_cases h1:s.length<1
 ·rw[dec_t (show(s.length:Int)<1 by omega),dec_f (show ¬1<=s.length by omega)]; rfl
 rw[dec_f (show ¬(s.length:Int)<1 by omega),dec_t (show 1<=s.length by omega)]
 by_cases h2:12<s.length
 ·rw[dec_t (show 12<(s.length:Int) by omega),dec_f (show ¬s.length<=12 by omega)]; rfl
 rw[dec_f (show ¬12<(s.length:Int) by omega),dec_t (show s.length<=12 by omega),gd_t (show inB 0 s.length=true from inB_t (i:=0) (by omega)),gd_t (show inB 0 s.length=true from inB_t (i:=0) (by omega))]
 have e0:(bif decide ((Int.ofNat (s.getD 0 0).toNat)<97) then some true else some (decide (122<(Int.ofNat (s.getD 0 0).toNat))))=some (!decide (qhP (qfp s 0)=1)):=by
  show(bif decide (qfp s 0<97) then some true else some (decide (122<qfp s 0)))=_;generalize qfp s 0=c;unfold qhP;by_cases a1:c<97
  ·rw[dec_t a1,if_neg (by omega)]
   split <;> rfl
  ·rw[dec_f a1];by_cases a2:122<c
   ·rw[dec_t a2,if_neg (by omega)]
    split <;> rfl
   ·rw[dec_f a2,if_pos (by omega)]; rfl
 rw[e0];simp only[zc,z7,zL];by_cases h3:qhP (qfp s 0)=1
 ·rw[dec_t h3];have step:∀i:Nat,i<s.length->qcq s (i:Int)=bif decide (qhP (qfp s i)≠0) then some (.inl ((i+1:Nat):Int)) else some (.inr (.inr false)):=by
   intro i hi;have hb:=qBx s i;unfold qcq;simp only[Sq.dlt hi,zb,gd_t (inB_t hi),za]
   simp only[show(Int.ofNat (s.getD i 0).toNat)=qfp s i from rfl]
   generalize qfp s i=c at hb;unfold qhP;rw[show wi64 ((i:Int)+1)=((i+1:Nat):Int) by rw[wi (by omega)]; rfl]
   by_cases a1:c<97
   ·by_cases a3:c<48
    ·by_cases a5:c=45
     ·simp[a5]
     ·simp[a1,a3,a5,show ¬97<=c by omega,show ¬48<=c by omega]
    ·by_cases a4:57<c
     ·simp[a1,a3,a4,show ¬97<=c by omega,show ¬c<=57 by omega,show ¬c=45 by omega]
     ·simp[a1,a3,a4,show ¬97<=c by omega,show 48<=c by omega,show c<=57 by omega]
   ·by_cases a2:122<c
    ·simp[a1,a2,show ¬c<=122 by omega,show ¬c<48 by omega,show 57<c by omega,show ¬c=45 by omega,show ¬c<=57 by omega]
    ·simp[a1,a2,show 97<=c by omega,show c<=122 by omega]
  have:=qa1 (step:=fun x=>qcq s x) s.length (fun i=>(i:Int)) (fun i=>decide (qhP (qfp s i)≠0)) (fin:=.inl ()) (bad:=.inr false) (fun i hi _ hp=>by
    rw[step i hi,hp]; rfl) (fun i hi _ hp=>by
    rw[step i hi,hp]; rfl) (fun _=>by
    unfold qcq;simp only[dec_f (show ¬(s.length:Int)<(s.length:Int) by omega),zc])
  simp only[zg,zc,zL];rw[show(0:Int)=((0:Nat):Int) from rfl,this]
  cases(List.range s.length).all fun i=>decide (qhP (qfp s i)≠0) <;> rfl
 ·rw[dec_f h3]; rfl
/-! ### What is valid -/
def volP(n:Int):Bool:=decide (0<=n/\n<=1099511627776)
def sgnP(n:Int):Bool:=decide (-1099511627776<=n/\n<=1099511627776)
theorem qyC(n:Int):qcH n=some (volP n):=by
 unfold qcH volP;by_cases h:0<=n <;> simp[h]
theorem qD8(n:Int):qez n=some (sgnP n):=by
 unfold qez sgnP;by_cases h1 : -1099511627776<=n <;> by_cases h2:n<=1099511627776 <;> simp[h1,h2]
def accP(a:Acc):Bool:=volP a.2.1&&(volP a.2.2.1&&(volP a.2.2.2.1&&sgnP a.2.2.2.2))
theorem qBy(a:Acc):qc6 a=some (accP a):=by
 unfold qc6 accP;rw[qyC,qyC,qyC,qD8];cases volP a.2.1 <;> cases volP a.2.2.1 <;> cases volP a.2.2.2.1 <;> rfl
theorem qvf(a:Acc):qg0 a=some (accP a):=by
 unfold qg0 accP volP sgnP;by_cases h1:0<=a.2.1
 ·by_cases h2:a.2.1<=1099511627776
  ·by_cases h3:0<=a.2.2.1
   ·by_cases h4:a.2.2.1<=1099511627776
    ·by_cases h5:0<=a.2.2.2.1
     ·by_cases h6:a.2.2.2.1<=1099511627776
      ·by_cases h7 : -1099511627776<=a.2.2.2.2 <;> simp[h1,h2,h3,h4,h5,h6,h7]
      ·simp[h1,h2,h3,h4,h5,h6]
     ·simp[h1,h2,h3,h4,h5]
    ·simp[h1,h2,h3,h4]
   ·simp[h1,h2,h3]
  ·simp[h1,h2]
 ·simp[h1]
def entP(e:Ent):Bool:=(decide (e.2.1=1\/e.2.1=2\/e.2.1=3)&&volP e.2.2 || decide (e.2.1=4)&&sgnP e.2.2)&&nameP e.1
theorem qFS(e:Ent):qfb e=some (entP e):=by
 unfold qfb entP;rw[qyC,qD8,name_eq];by_cases h1:e.2.1=1
 ·simp only[h1]; cases volP e.2.2 <;> simp
 ·by_cases h2:e.2.1=2
  ·simp only[h2]; cases volP e.2.2 <;> simp
  ·by_cases h3:e.2.1=3
   ·simp only[h3]; cases volP e.2.2 <;> simp
   ·by_cases h4:e.2.1=4
    ·simp only[h4]; cases sgnP e.2.2 <;> simp
    ·simp[h1,h2,h3,h4]
theorem qBz(e:Ent):qi4 e=some (entP e):=by
 unfold qi4 entP volP sgnP;rw[rname_eq];cases nameP e.1
 ·simp
 ·by_cases h1:e.2.1=1
  ·simp only[h1];by_cases a1:0<=e.2.2 <;> simp[a1]
  ·by_cases h2:e.2.1=2
   ·simp only[h2];by_cases a1:0<=e.2.2 <;> simp[a1]
   ·by_cases h3:e.2.1=3
    ·simp only[h3];by_cases a1:0<=e.2.2 <;> simp[a1]
    ·by_cases h4:e.2.1=4
     ·simp only[h4];by_cases a1 : -1099511627776<=e.2.2 <;> simp[a1]
     ·simp[h1,h2,h3,h4]
def okI(l:List Acc)(i:Nat):Bool:=accP (l.getD i d0)&&(nameP (l.getD i d0).1&&(decide (i=0) || Op.bytesLess (l.getD (i-1) d0).1 (l.getD i d0).1))
def validB(l:List Acc):Bool:=decide (l.length<=64)&&(List.range l.length).all (okI l)
theorem valid_eq{l:List Acc}(hl:l.length<=1000000):qgl l=some (validB l):=by
 have step:∀i:Nat,i<l.length->qdV l (i:Int)=bif okI l i then some (.inl ((i+1:Nat):Int)) else some (.inr (.inr false)):=by
  intro i hi;unfold qdV okI;simp only[Sq.dlt hi,zb,gd_t (inB_t hi),za]
  rw[show qc6 ((l.getD i d0).1,((l.getD i d0).2).1,(((l.getD i d0).2).2).1,((((l.getD i d0).2).2).2).1,((((l.getD i d0).2).2).2).2)=some (accP (l.getD i d0)) from qBy _,name_eq,
   show wi64 ((i:Int)+1)=((i+1:Nat):Int) by rw[wi (by omega)]; rfl]
  cases h1:accP (l.getD i d0)
  ·rfl
  ·cases h2:nameP (l.getD i d0).1
   ·rfl
   ·by_cases h0:i=0
    ·subst h0; rfl
    ·have e1:wi64 ((i:Int)-1)=((i-1:Nat):Int):=by rw[wi (by omega)]; omega
     rw[dec_t (show(0:Int)<(i:Int) by omega),e1,gd_t (inB_t (show i-1<l.length by omega)),za,dec_f h0]
     simp only[z7,zg,zc,zb,zL,zj2];rcases qD7 (l.getD (i-1) d0).1 (l.getD i d0).1 with h | h | h
     ·rw[h,qBw h,dec_f (fun e=>bl_ne h e.symm)]; rfl
     ·rw[h,qqb,dec_t rfl]; rfl
     ·rw[h,qBw h]; rfl
 have:=qa1 (step:=fun x=>qdV l x) l.length (fun i=>(i:Int)) (okI l) (fin:=.inl ()) (bad:=.inr false) (fun i hi _ hp=>by
   rw[step i hi,hp]; rfl) (fun i hi _ hp=>by
   rw[step i hi,hp]; rfl) (fun _=>by
   unfold qdV;simp only[dec_f (show ¬(l.length:Int)<(l.length:Int) by omega),zc])
 unfold qgl validB;rw[show(0:Int)=((0:Nat):Int) from rfl,this]
 cases(List.range l.length).all (okI l)
 ·simp
 ·by_cases h:l.length<=64
  ·rw[dec_t h,show(bif true then(Sum.inl ():Unit⊕Bool) else .inr false)=.inl () from rfl]
   simp only[z7,za1,dec_t (show(l.length:Int)<=64 by omega)]; rfl
  ·rw[dec_f h,show(bif true then(Sum.inl ():Unit⊕Bool) else .inr false)=.inl () from rfl]
   simp only[z7,za1,dec_f (show ¬(l.length:Int)<=64 by omega)]; rfl
theorem rvalid_eq{l:List Acc}(hl:l.length<=1000000):qi3 l=some (validB l):=by
 unfold qi3 validB;by_cases h64:l.length<=64
 ·rw[dec_f (show ¬(64:Int)<(l.length:Int) by omega),dec_t h64]
  have step:∀i:Nat,i<l.length->qfm l (i:Int)=bif okI l i then some (.inl ((i+1:Nat):Int)) else some (.inr (.inr false)):=by
   intro i hi;unfold qfm okI;simp only[Sq.dlt hi,zb,gd_t (inB_t hi),za]
   rw[show qg0 (l.getD i d0)=some (accP (l.getD i d0)) from qvf _,rname_eq,
    show wi64 ((i:Int)+1)=((i+1:Nat):Int) by rw[wi (by omega)]; rfl]
   cases h2:nameP (l.getD i d0).1
   ·cases accP (l.getD i d0) <;> rfl
   ·cases h1:accP (l.getD i d0)
    ·rfl
    ·by_cases h0:i=0
     ·subst h0; rfl
     ·have e1:wi64 ((i:Int)-1)=((i-1:Nat):Int):=by rw[wi (by omega)]; omega
      rw[dec_t (show(0:Int)<(i:Int) by omega),e1,gd_t (inB_t (show i-1<l.length by omega)),za,dec_f h0]
      cases Op.bytesLess (l.getD (i-1) d0).1 (l.getD i d0).1 <;> rfl
  have:=qa1 (step:=fun x=>qfm l x) l.length (fun i=>(i:Int)) (okI l) (fin:=.inl ()) (bad:=.inr false) (fun i hi _ hp=>by
    rw[step i hi,hp]; rfl) (fun i hi _ hp=>by
    rw[step i hi,hp]; rfl) (fun _=>by
    unfold qfm;simp only[dec_f (show ¬(l.length:Int)<(l.length:Int) by omega),zc])
  rw[show(0:Int)=((0:Nat):Int) from rfl,this]
  cases(List.range l.length).all (okI l) <;> rfl
 ·rw[dec_t (show(64:Int)<(l.length:Int) by omega),dec_f h64]; rfl
structure ValidP(l:List Acc):Prop where
 n:l.length<=64
 acc:∀a∈l,accP a=true
 nm:∀a∈l,nameP a.1=true
 lt:∀i k,i<k->k<l.length->Op.bytesLess (l.getD i d0).1 (l.getD k d0).1=true
theorem validB_iff{l:List Acc}:validB l=true↔ValidP l:=by
 unfold validB;rw[z8,zi,qv7];constructor
 ·rintro⟨h1,h2⟩
  have h3:∀i,i<l.length->accP (l.getD i d0)=true/\nameP (l.getD i d0).1=true/\(i≠0->Op.bytesLess (l.getD (i-1) d0).1 (l.getD i d0).1=true):=fun i hi=>by
   have:=h2 i hi;simp only[okI,z8,zi1,zi] at this;exact⟨this.1,this.2.1,fun h=>this.2.2.resolve_left h⟩
  refine⟨h1,fun a ha=>?_,fun a ha=>?_,fun i k hik hk=>?_⟩
  ·obtain⟨k,hk,rfl⟩:=qv8 d0 ha;exact(h3 k hk).1
  ·obtain⟨k,hk,rfl⟩:=qv8 d0 ha;exact(h3 k hk).2.1
  ·induction k with
   | zero=>omega
   | succ k ih=>
    have hs:=(h3 (k+1) hk).2.2 (by omega)
    rw[Nat.add_sub_cancel] at hs;by_cases e:i=k
    ·subst e; exact hs
    ·exact qqc (ih (by omega) (by omega)) hs
 ·intro h;refine⟨h.n,fun i hi=>?_⟩
  simp only[okI,z8,zi1,zi];refine⟨h.acc _ (qbu hi),h.nm _ (qbu hi),?_⟩
  by_cases h0:i=0
  ·exact .inl h0
  ·exact .inr (h.lt _ _ (by omega) hi)
theorem qDa{i j:Nat}(h:i+j<=4611686018427387904):wi64 (Int.fdiv (wu64 (wi64 ((i:Int)+(j:Int)))) (2^shAmt .u64 1))=(((i+j)/2:Nat):Int):=by
 have e0:wi64 ((i:Int)+(j:Int))=(i:Int)+(j:Int):=wi (by omega)
 have e1:wu64 ((i:Int)+(j:Int))=(i:Int)+(j:Int):=by
  show IntKind.u64.wrap _=_;rw[show IntKind.u64.wrap ((i:Int)+(j:Int))=((i:Int)+(j:Int))%18446744073709551616 from rfl]
  omega
 have e2:(2:Int)^shAmt .u64 1=2:=by kernel_rfl
 rw[e0,e1,e2,Int.fdiv_eq_ediv_of_nonneg _ (by omega),wi (by omega)]
 omega
theorem qBA{i j:Nat}(h:i+j<=4611686018427387904):wi64 (Int.fdiv (wu64 (wi64 ((i:Int)+(j:Int)))) (2^shAmt .u64 1))=(((i+j)/2:Nat):Int):=qDa h
structure LbP(l:List Acc)(s:List UInt8)(k:Nat):Prop where
 le:k<=l.length
 lt:∀j,j<k->Op.bytesLess (l.getD j d0).1 s=true
 ge:∀j,k<=j->j<l.length->Op.bytesLess (l.getD j d0).1 s=false
theorem qEW{l:List Acc}{s:List UInt8}(hv:ValidP l):∃k:Nat,LbP l s k/\qjr l s=some ((k:Int),decide (k<l.length/\(l.getD k d0).1=s)):=by
 have hn:=hv.n;have key:∃e,iter (fun x2:Int×Int=>qau l s (fun h=>(qfc h.1 h.2.1).bind fun y=>some y) x2.1 x2.2) (0,(l.length:Int))=some e/\∃k:Nat,e=(k:Int)/\LbP l s k:=by
  refine qrs (fun x=>∃i j:Nat,x=((i:Int),(j:Int))/\i<=j/\j<=l.length/\(∀q,q<i->Op.bytesLess (l.getD q d0).1 s=true)/\(∀q,j<=q->q<l.length->Op.bytesLess (l.getD q d0).1 s=false)) (fun x=>(x.2-x.1).toNat) _ ?_ ⟨0,l.length,rfl,by omega,by omega,by omega,by omega⟩
  rintro _ ⟨i,j,rfl,h1,h2,h3,h4⟩
  unfold qau;simp only;by_cases hij:i<j
  ·right;have hm:(i+j)/2<l.length:=by omega
   simp only[dec_t (show(i:Int)<(j:Int) by omega),zb,qBA (i:=i) (j:=j) (by omega),gd_t (inB_t hm),za]
   rw[show(qfc (l.getD ((i+j)/2) d0) s).bind (fun y=>some y)=some (Lib.compareBytes (l.getD ((i+j)/2) d0).1 s) from rfl]
   simp only[z7];by_cases hc:Op.bytesLess (l.getD ((i+j)/2) d0).1 s=true
   ·rw[dec_t ((qqd _ _).1.2 hc),wi (by omega)]
    refine⟨_,rfl,⟨(i+j)/2+1,j,rfl,by omega,h2,fun q hq=>?_,h4⟩,by simp only; omega⟩
    by_cases e:q=(i+j)/2
    ·rw[e]; exact hc
    ·by_cases e2:q<(i+j)/2
     ·exact qqc (hv.lt q _ e2 hm) hc
     ·omega
   ·rw[dec_f (fun h=>hc ((qqd _ _).1.1 h))]
    refine⟨_,rfl,⟨i,(i+j)/2,rfl,by omega,by omega,h3,fun q hq hql=>?_⟩,by simp only; omega⟩
    rw[<-zq2];intro hb;by_cases e:q=(i+j)/2
    ·rw[e] at hb; exact hc hb
    ·exact hc (qqc (hv.lt _ q (by omega) hql) hb)
  ·left;obtain rfl:i=j:=by omega
   exact⟨(i:Int),by simp only[dec_f (show ¬(i:Int)<(i:Int) by omega),zc],i,rfl,h2,h3,h4⟩
 obtain⟨_,q,k,rfl,hk⟩:=key;refine⟨k,hk,?_⟩
 unfold qjr qaz;rw[q];simp only[z7];by_cases hkl:k<l.length
 ·rw[Sq.dlt hkl,gd_t (inB_t hkl),za,show(qfc (l.getD k d0) s).bind (fun y=>some y)=some (Lib.compareBytes (l.getD k d0).1 s) from rfl]
  simp only[zb,z7];congr 2;by_cases e:(l.getD k d0).1=s
  ·rw[dec_t ((qqd _ _).2.2 e),dec_t ⟨hkl,e⟩]
  ·rw[dec_f (fun h=>e ((qqd _ _).2.1 h)),dec_f (fun h=>e h.2)]
 ·rw[dec_f (show ¬(k:Int)<(l.length:Int) by omega),dec_f (fun h=>hkl h.1)]; rfl
theorem qDb{l:List Acc}{e:Ent}(hv:ValidP l){k:Nat}(hk:LbP l e.1 k):iter (fun x=>qgu l e x) 0=some (k:Int):=by
 have hn:=hv.n;have hkl:=hk.le;have:=qbn (step:=fun x=>qgu l e x) k (fun i=>(i:Int)) (e:=(k:Int)) (fun i hi=>by
   unfold qgu;simp only[dec_t (show(i:Int)<(l.length:Int) by omega),zb,gd_t (inB_t (show i<l.length by omega)),za,hk.lt i hi,z7]
   rw[wi (by omega)]; rfl) (by
   unfold qgu;by_cases h:k<l.length
   ·simp only[Sq.dlt h,zb,gd_t (inB_t h),za,hk.ge k (zP _) h,z7,zc]
   ·simp only[dec_f (show ¬(k:Int)<(l.length:Int) by omega),zc,z7])
 simpa using this
def qcN(a:Acc)(e:Ent):Acc:=
 if e.2.1=1 then(a.1,wi64 (a.2.1+e.2.2),a.2.2) else if e.2.1=2 then(a.1,a.2.1,wi64 (a.2.2.1+e.2.2),a.2.2.2)
 else if e.2.1=3 then(a.1,a.2.1,a.2.2.1,wi64 (a.2.2.2.1+e.2.2),a.2.2.2.2) else if e.2.1=4 then(a.1,a.2.1,a.2.2.1,a.2.2.2.1,wi64 (a.2.2.2.2+e.2.2)) else a
theorem qwn(a:Acc)(e:Ent):qd0 a e=some (qcN a e):=by
 unfold qd0 qcN;by_cases h1:e.2.1=1
 ·simp[h1]
 ·by_cases h2:e.2.1=2
  ·simp[h2]
  ·by_cases h3:e.2.1=3
   ·simp[h3]
   ·by_cases h4:e.2.1=4
    ·simp[h4]
    ·simp[h1,h2,h3,h4]
theorem qDc{s:List Acc}(h:s.length<=1000000):qai s=some s:=by
 unfold qai;have hf:fits (0+s.length) 48=true:=qaF (by omega)
 rw[hf]; rfl
structure PostP(l:List Acc)(e:Ent)(r:List Acc×Int):Prop where
 bad:¬(ValidP l/\entP e=true)->r=(l,27)
 good:ValidP l->entP e=true->∃k,LbP l e.1 k∧
  ((k<l.length/\(l.getD k d0).1=e.1/\r=if accP (qcN (l.getD k d0) e)=true then(l.set k (qcN (l.getD k d0) e),0) else(l,4))∨
   (¬(k<l.length/\(l.getD k d0).1=e.1)/\r=if accP (qcN (e.1,(0,(0,(0,0)))) e)=true/\l.length≠64 then(l.take k++qcN (e.1,(0,(0,(0,0)))) e::l.drop k,0) else(l,4)))
theorem qEX{A:Type}(P Q:List A)(x y:A):(P++x::Q).set P.length y=P++y::Q:=by
 induction P with
 | nil=>rfl
 | cons a P ih=>simp only[zp1,zf,List.set_cons_succ,ih]
theorem qBB(P Q:List Acc)(x:Acc):(P++x::Q).getD P.length d0=x:=by
 rw[qDP,if_neg (Nat.lt_irrefl _),Nat.sub_self]; rfl
theorem qBC{l:List Acc}{e:Ent}(hl:l.length<=100000):∃r:List Acc×Int,qhI l e=some (r.2,r.1)/\qg1 l e=some r/\PostP l e r:=by
 unfold qhI qg1;rw[qDc (by omega),valid_eq (by omega),rvalid_eq (by omega)]
 simp only[z7];rw[show qfb (e.1,e.2.1,e.2.2)=some (entP e) from qFS e,show qi4 (e.1,e.2.1,e.2.2)=some (entP e) from qBz e]
 by_cases hv:validB l=true
 ·have hv':=validB_iff.1 hv;rw[hv];by_cases he:entP e=true
  ·rw[he];obtain⟨k,hk,hf⟩:=qEW (s:=e.1) hv';have hn:=hv'.n;have hkl:=hk.le;have hL:=qDb hv' hk;have hkinds:e.2.1=1\/e.2.1=2\/e.2.1=3\/e.2.1=4:=by
    simp only[entP,z8,zi1,zi] at he;rcases he.1 with h | h
    ·rcases h.1 with h | h | h
     ·exact .inl h
     ·exact .inr (.inl h)
     ·exact .inr (.inr (.inl h))
    ·exact .inr (.inr (.inr h.1))
   have hset:∀(s5:List Acc),k<s5.length->(bif decide (e.2.1=1) then
     gd (inB (k:Int) s5.length)<|gd (inB (k:Int) s5.length)<|some (s5.set (k:Int).toNat ((s5.getD (k:Int).toNat ([],0,0,0,0)).1,wi64 ((((s5.getD (k:Int).toNat ([],0,0,0,0)).2).1)+e.2.2),((s5.getD (k:Int).toNat ([],0,0,0,0)).2).2))
    else Option.bind (α:=List Acc) (bif decide (e.2.1=2) then
      gd (inB (k:Int) s5.length)<|gd (inB (k:Int) s5.length)<|some (s5.set (k:Int).toNat ((s5.getD (k:Int).toNat ([],0,0,0,0)).1,((s5.getD (k:Int).toNat ([],0,0,0,0)).2).1,wi64 (((((s5.getD (k:Int).toNat ([],0,0,0,0)).2).2).1)+e.2.2),(((s5.getD (k:Int).toNat ([],0,0,0,0)).2).2).2))
     else Option.bind (α:=List Acc) (bif decide (e.2.1=3) then
       gd (inB (k:Int) s5.length)<|gd (inB (k:Int) s5.length)<|some (s5.set (k:Int).toNat ((s5.getD (k:Int).toNat ([],0,0,0,0)).1,((s5.getD (k:Int).toNat ([],0,0,0,0)).2).1,(((s5.getD (k:Int).toNat ([],0,0,0,0)).2).2).1,wi64 ((((((s5.getD (k:Int).toNat ([],0,0,0,0)).2).2).2).1)+e.2.2),((((s5.getD (k:Int).toNat ([],0,0,0,0)).2).2).2).2))
      else
       gd (inB (k:Int) s5.length)<|gd (inB (k:Int) s5.length)<|some (s5.set (k:Int).toNat ((s5.getD (k:Int).toNat ([],(0,(0,(0,0))))).1,(((s5.getD (k:Int).toNat ([],(0,(0,(0,0))))).2).1,((((s5.getD (k:Int).toNat ([],(0,(0,(0,0))))).2).2).1,(((((s5.getD (k:Int).toNat ([],(0,(0,(0,0))))).2).2).2).1,wi64 ((((((s5.getD (k:Int).toNat ([],(0,(0,(0,0))))).2).2).2).2)+e.2.2))))))) fun s6=>some s6) fun s7=>some s7)=some (s5.set k (qcN (s5.getD k d0) e)):=by
    intro s5 hk5;simp only[gd_t (inB_t hk5),za];unfold qcN;rcases hkinds with h | h | h | h
    ·simp[h]
    ·simp[h]
    ·simp[h]
    ·simp[h]
   simp only[zg,zc,zb,z7,hf,hL];rw[gd_t (show fits (0+l.length) 48=true from qaF (by omega))]
   by_cases hfd:k<l.length/\(l.getD k d0).1=e.1
   ·-- there is an account
    rw[dec_t hfd];have e1:(bif decide ((k:Int)=(l.length:Int)) then some (true,[]++l) else gd (inB (k:Int) l.length)<|some ((!decide ((l.getD (k:Int).toNat ([],0,0,0,0)).1=e.1)),[]++l))=some (false,l):=by
     rw[dec_f (show ¬(k:Int)=(l.length:Int) by omega),gd_t (inB_t hfd.1),za,dec_t hfd.2]; rfl
    refine⟨if accP (qcN (l.getD k d0) e)=true then(l.set k (qcN (l.getD k d0) e),0) else(l,4),?_,?_,?_⟩
    ·simp only[zb,gd_t (inB_t hfd.1),za,z7];rw[show qd0 ((l.getD k d0).1,((l.getD k d0).2).1,(((l.getD k d0).2).2).1,((((l.getD k d0).2).2).2).1,((((l.getD k d0).2).2).2).2) (e.1,e.2.1,e.2.2)=some (qcN (l.getD k d0) e) from qwn _ _]
     simp only[z7];rw[show ∀q:Acc,qc6 (q.1,q.2.1,q.2.2.1,q.2.2.2.1,q.2.2.2.2)=some (accP q) from fun q=>qBy q]
     cases accP (qcN (l.getD k d0) e)
     ·rfl
     ·simp only[z7,zg,zc,gd_t (inB_t hfd.1)];rfl
    ·rw[e1];simp only[z7,zc];rw[hset l hfd.1];simp only[z7,zs1];rw[dec_f (show ¬(64:Int)<(l.length:Int) by omega),gd_t (inB_t hfd.1),za,qle,if_pos ⟨rfl,hfd.1⟩,qvf]
     cases accP (qcN (l.getD k d0) e)
     ·rfl
     ·rfl
    ·exact⟨fun h=>absurd ⟨hv',he⟩ h,fun _ _=>⟨k,hk,.inl ⟨hfd.1,hfd.2,rfl⟩⟩⟩
   ·-- there is none
    rw[dec_f hfd];have e1:(bif decide ((k:Int)=(l.length:Int)) then some (true,[]++l) else gd (inB (k:Int) l.length)<|some ((!decide ((l.getD (k:Int).toNat ([],0,0,0,0)).1=e.1)),[]++l))=some (true,l):=by
     by_cases hkn:k=l.length
     ·rw[dec_t (show(k:Int)=(l.length:Int) by omega)]; rfl
     ·rw[dec_f (show ¬(k:Int)=(l.length:Int) by omega),gd_t (inB_t (show k<l.length by omega)),za,dec_f (fun h=>hfd ⟨by omega,h⟩)]; rfl
    have htl:(l.take k).length=k:=by rw[zm]; omega
    refine⟨if accP (qcN (e.1,0,0,0,0) e)=true/\l.length≠64 then(l.take k++qcN (e.1,0,0,0,0) e::l.drop k,0) else(l,4),?_,?_,?_⟩
    ·simp only[zc,z7,zu1,zb];rw[show qd0 (e.1,0,0,0,0) (e.1,e.2.1,e.2.2)=some (qcN (e.1,0,0,0,0) e) from qwn _ _]
     simp only[z7];rw[show ∀q:Acc,qc6 (q.1,q.2.1,q.2.2.1,q.2.2.2.1,q.2.2.2.2)=some (accP q) from fun q=>qBy q]
     cases ha:accP (qcN (e.1,0,0,0,0) e)
     ·simp only[z7,zu1,zb];rw[if_neg (fun h=>by cases h.1)]
     ·simp only[z7,zg,zc];by_cases h64:l.length=64
      ·rw[dec_t (show(l.length:Int)=64 by omega),if_neg (fun h=>h.2 h64)]; rfl
      ·rw[dec_f (show ¬(l.length:Int)=64 by omega),if_pos (by exact⟨trivial,h64⟩)]
       simp only[zc,zG2,zL,za];rw[gd_t (show cutG none (some (.i64,(k:Int))) l.length=true by unfold cutG; simp only[z8,zi]; omega),
        gd_t (show cutG (some (.i64,(k:Int))) none l.length=true by unfold cutG; simp only[z8,zi]; omega),gd_t (qaF (by rw[htl]; omega)),gd_t (qaF (by simp; omega))]
       simp only[zw,zp1,zF]
    ·rw[e1];simp only[z7,zb,za,zF]
     rw[gd_t (show cutG none (some (.i64,(k:Int))) l.length=true by unfold cutG; simp only[z8,zi]; omega),gd_t (qaF (by rw[htl]; omega)),gd_t (qaF (by rw[htl]; omega)),
        gd_t (show cutG (some (.i64,(k:Int))) none l.length=true by unfold cutG; simp only[z8,zi]; omega),gd_t (qaF (by simp; omega))]
     simp only[z7,zw,zp1,zF];have hlen:(l.take k++(e.1,0,0,0,0)::l.drop k).length=l.length+1:=by simp; omega
     have hg:(l.take k++(e.1,0,0,0,0)::l.drop k).getD k d0=(e.1,0,0,0,0):=by
      have:=qBB (l.take k) (l.drop k) (e.1,0,0,0,0);rwa[htl] at this
     have hs:=qEX (l.take k) (l.drop k) (e.1,0,0,0,0) (qcN (e.1,0,0,0,0) e);rw[htl] at hs;have h5:=hset (l.take k++(e.1,0,0,0,0)::l.drop k) (by omega)
     rw[hg,hs] at h5;simp only[za] at h5;rw[h5];have hlen2:(l.take k++qcN (e.1,0,0,0,0) e::l.drop k).length=l.length+1:=by simp; omega
     have hg2:(l.take k++qcN (e.1,0,0,0,0) e::l.drop k).getD k d0=qcN (e.1,0,0,0,0) e:=by
      have:=qBB (l.take k) (l.drop k) (qcN (e.1,0,0,0,0) e);rwa[htl] at this
     simp only[z7,hlen2];by_cases h64:l.length=64
     ·rw[dec_t (show(64:Int)<((l.length+1:Nat):Int) by omega),if_neg (fun h=>h.2 h64)]; rfl
     ·rw[dec_f (show ¬(64:Int)<((l.length+1:Nat):Int) by omega),gd_t (inB_t (show k<l.length+1 by omega)),hg2,qvf]
      cases ha:accP (qcN (e.1,0,0,0,0) e)
      ·rw[if_neg (fun h=>by cases h.1)]; rfl
      ·rw[if_pos ⟨rfl,h64⟩]; rfl
    ·exact⟨fun h=>absurd ⟨hv',he⟩ h,fun _ _=>⟨k,hk,.inr ⟨hfd,rfl⟩⟩⟩
  ·rw[zq2] at he;rw[he];exact⟨(l,27),rfl,rfl,fun _=>rfl,fun _ h=>by rw[he] at h; cases h⟩
 ·have hv2:=hv;rw[zq2] at hv;rw[hv];exact⟨(l,27),rfl,rfl,fun _=>rfl,fun h=>absurd (validB_iff.2 h) hv2⟩
noncomputable def postF(l:List Acc)(e:Ent):List Acc×Int:=(qg1 l e).getD ([],0)
theorem post_eq{l:List Acc}{e:Ent}(hl:l.length<=100000):qhI l e=some ((postF l e).2,(postF l e).1)/\qg1 l e=some (postF l e)/\PostP l e (postF l e):=by
 obtain⟨r,h1,h2,h3⟩:=qBC (e:=e) hl;have:postF l e=r:=by unfold postF; rw[h2]; rfl
 rw[this]; exact⟨h1,h2,h3⟩
theorem post_len{l:List Acc}{e:Ent}(hl:l.length<=100000):(postF l e).1.length<=l.length+1:=by
 obtain⟨_,_,h⟩:=post_eq (e:=e) hl;by_cases hg:ValidP l/\entP e=true
 ·obtain⟨k,hk,⟨_,_,h3⟩ | ⟨_,h3⟩⟩:=h.good hg.1 hg.2
  ·rw[h3]; split <;> simp
  ·have:=hk.le;rw[h3]; split
   ·simp; omega
   ·simp
 ·rw[h.bad hg]; simp
noncomputable def bookF:List Ent->List Acc->List Acc×Int
 | [],a=>(a,0)
 | e::r,a=>if(postF a e).2=0 then bookF r (postF a e).1 else([],(postF a e).2)
end Go.Proofs.YtmdijohmddokhaaGreatDoor.Ac
namespace Go.Proofs.YtmdijohmddokhaaGreatDoor
open Go Go.Sq
set_option linter.unusedVariables false
noncomputable def cmdS(n:Net)(d:Dk)(r:Rec):Dk×Int:=if 0<r.2.1.length\/noE r.2.2.2=false then(d,28) else appS n d r.2.2.1
noncomputable def postS(a:List Acc4)(r:Rec):List Acc4×Int:=if 0<r.2.1.length\/noB r.2.2.1=false then(a,28) else Ac.postF a r.2.2.2
theorem qzt(n:Net)(r:Rec)(c:Int){d:Dk}(h:DkS d)(c6:List Tel)(c7:List Acc4):qg8 n r c d.1 d.2.1 d.2.2.1 d.2.2.2 c6 c7=some ((cmdS n d r).2,c,(cmdS n d r).1.1,(cmdS n d r).1.2.1,(cmdS n d r).1.2.2.1,(cmdS n d r).1.2.2.2,c6,c7):=by
 unfold qg8 cmdS;by_cases h5:0<r.2.1.length
 ·rw[dec_t (show(0:Int)<(r.2.1.length:Int) by omega),if_pos (.inl h5)]; rfl
 rw[dec_f (show ¬(0:Int)<(r.2.1.length:Int) by omega)]
 cases he:noE r.2.2.2 with
 | false=>
  rw[if_pos (.inr rfl)];unfold noE at he;rw[he]; rfl
 | true=>
 rw[if_neg (by simp[h5])]
 unfold noE at he;rw[he];simp only[zc,zg,z7];rw[qbd,show((d.1,d.2.1,d.2.2.1,d.2.2.2):Dk)=d from rfl,show((Y7 r.2.2.1):Stp)=r.2.2.1 from rfl,qC7 h,z7]
theorem post_eq'(n:Net)(r:Rec)(c:Int)(c2:List Vl)(c3 c4:List Int)(c5:List Bool)(c6:List Tel){a:List Acc4}(h:a.length<=10000):qkV n r c c2 c3 c4 c5 c6 a=some ((postS a r).2,c,c2,c3,c4,c5,c6,(postS a r).1):=by
 unfold qkV postS;rw[show((Y7 r.2.2.1):Stp)=r.2.2.1 from rfl,qwm,z7]
 by_cases h5:0<r.2.1.length
 ·rw[dec_t (show(0:Int)<(r.2.1.length:Int) by omega),if_pos (.inl h5)]; rfl
 rw[dec_f (show ¬(0:Int)<(r.2.1.length:Int) by omega)]
 cases hb:noB r.2.2.1 with
 | false=>rw[if_pos (.inr rfl)]; rfl
 | true=>
 rw[if_neg (by simp[h5])]
 simp only[zc,zg,z7];rw[show((r.2.2.2.1,r.2.2.2.2.1,r.2.2.2.2.2):Ent3)=r.2.2.2 from rfl,(Ac.post_eq (by omega)).1]; rfl
noncomputable def capp2(n:Net)(c:Cn)(r:Rec):Cn×Int:=if c.2.2.2=1000 then(c,4) else if(cmdS n c.1 r).2=0 then(((cmdS n c.1 r).1,c.2.1,c.2.2.1,c.2.2.2+1),0) else(c,(cmdS n c.1 r).2)
noncomputable def capp3(c:Cn)(r:Rec):Cn×Int:=if c.2.2.2=1000 then(c,4) else if(postS c.2.2.1 r).2=0 then((c.1,c.2.1,(postS c.2.2.1 r).1,c.2.2.2+1),0) else(c,(postS c.2.2.1 r).2)
noncomputable def capp(n:Net)(c:Cn)(r:Rec):Cn×Int:=if r.1=1 then capp1 c r else if r.1=2 then capp2 n c r else if r.1=3 then capp3 c r else(c,if c.2.2.2=1000 then 4 else 28)
theorem apply_eq'(n:Net){c:Cn}(h:CnS c)(hs:SortT c.2.1)(hk:0<=c.2.2.2/\c.2.2.2<=100000)(r:Rec)(hv:r.2.1.length<=100000):qeA n c r=some (capp n c r):=by
 unfold capp;by_cases k1:r.1=1
 ·rw[if_pos k1]; exact qBv n h hs hk k1 hv
 rw[if_neg k1];unfold qeA;rw[show(((c.1.1,c.1.2.1,c.1.2.2.1,c.1.2.2.2),c.2.1,c.2.2.1,c.2.2.2):Cn)=c from rfl,qyA h,z7,mg_eq,if_neg k1]
 rw[show((r.1,r.2.1,(Y7 r.2.2.1),r.2.2.2.1,r.2.2.2.2.1,r.2.2.2.2.2):Rec)=r from rfl,qbd]
 by_cases k2:r.1=2
 ·rw[if_pos k2,if_pos k2];unfold capp2;by_cases h1:c.2.2.2=1000
  ·rw[dec_t h1,if_pos h1]; rfl
  rw[dec_f h1,if_neg h1];simp only[z53,zg,zc,zn2,z7,show decide ((2:Nat)=1)=false from rfl,show decide ((2:Nat)=2)=true from rfl,zb]
  rw[qzt n r _ h.d,z7];by_cases h0:(cmdS n c.1 r).2=0
  ·rw[dec_t h0,if_pos h0,zg,zc];simp only;rw[wi (by omega)]; rfl
  ·rw[dec_f h0,if_neg h0]; rfl
 rw[if_neg k2,if_neg k2];by_cases k3:r.1=3
 ·rw[if_pos k3,if_pos k3];unfold capp3;by_cases h1:c.2.2.2=1000
  ·rw[dec_t h1,if_pos h1]; rfl
  rw[dec_f h1,if_neg h1];simp only[z53,zg,zc,zn2,z7,show decide ((3:Nat)=1)=false from rfl,show decide ((3:Nat)=2)=false from rfl,show decide ((3:Nat)=3)=true from rfl,zb]
  rw[post_eq' n r _ _ _ _ _ _ h.a,z7];by_cases h0:(postS c.2.2.1 r).2=0
  ·rw[dec_t h0,if_pos h0,zg,zc];simp only;rw[wi (by omega)]; rfl
  ·rw[dec_f h0,if_neg h0]; rfl
 rw[if_neg k3,if_neg k3];by_cases h1:c.2.2.2=1000
 ·rw[dec_t h1,if_pos h1]; rfl
 ·rw[dec_f h1,if_neg h1]; rfl
/-! ### The idle desk of the document -/
theorem qDd{n:Net}{t:Int}(h0:qbs n=0)(hp:n.2.1.length+n.2.2.1.length<=1000/\n.2.2.2.1.length<=1000)(ht:1<=t/\t<=60):
  qgX n t=some ((List.replicate (n.2.1.length+n.2.2.1.length) (t,0,false,false),List.replicate n.2.1.length 0,List.replicate n.2.2.1.length 0,List.replicate n.2.2.2.1.length false),0):=by
 unfold qgX;rw[qbd,qcL,z7,dec_t h0,zg,zc,dec_f (show ¬t<1 by omega),dec_f (show ¬60<t by omega)]
 simp only[zc,z7];rw[gd_t (qkF (by omega)),gd_t (qkF (by omega)),gd_t (qkF (by omega))]
 simp only[za];generalize List.replicate n.2.1.length (0:Int)=A;generalize List.replicate n.2.2.1.length (0:Int)=B;generalize List.replicate n.2.2.2.1.length false=C;have k1:=qbn (step:=fun x:Int×List Vl×List Int×List Int×List Bool=>qim n t x.1 x.2.1 x.2.2.1 x.2.2.2.1 x.2.2.2.2) (n.2.1.length+n.2.2.1.length)
  (fun i=>((i:Int),List.replicate i (t,0,false,false),A,B,C)) (e:=(List.replicate (n.2.1.length+n.2.2.1.length) (t,0,false,false),A,B,C)) (fun i hi=>by
   unfold qim qdJ;simp only[z7];rw[wi (by omega),dec_t,zb,gd_t (qaF (by rw[zc2]; omega)),w1 hi,List.replicate_succ' (n:=i)]) (by
   unfold qim qdJ;simp only[z7];rw[wi (by omega),dec_f,zc])
 refine(congrArg (fun o=>Option.bind o _) k1).trans ?_
 rfl
theorem qtN{a b c:Tel}(h:befT a b=true)(h':befT b c=true):befT a c=true:=by
 rw[qC9] at h h' ⊢;omega
structure Put(l:List Tel)(t:Tel)(l':List Tel):Prop where
 srt:SortT l'
 mem:t∈l'
 frm:∀x∈l',x=t\/x∈l/\x.1≠t.1
 kep:∀x∈l,x.1≠t.1->x∈l'
 bef:∀x∈l,x.1=t.1->befT x t=true
 len:l'.length<=l.length+1
theorem qmN:∀ {l:List Tel} {t:Tel} {l':List Tel},SortT l->putT l t=some l'->Put l t l'
 | [],t,l',_,h=>by
  cases h
  exact⟨by unfold SortT; simp,by simp,fun x hx=>.inl (by simpa using hx),fun x hx=>(by cases hx),fun x hx=>(by cases hx),by simp⟩
 | x::r,t,l',hs,h=>by
  unfold putT at h;have hs':=z63.1 hs;by_cases h1:x.1<t.1
  ·rw[if_pos h1] at h;obtain⟨r',hr,rfl⟩:=zg1.1 h;have ih:=qmN hs'.2 hr;refine⟨z63.2 ⟨fun y hy=>?_,ih.srt⟩,zV _ ih.mem,fun y hy=>?_,fun y hy hn=>?_,fun y hy he=>?_,by have:=ih.len; simp; omega⟩
   ·rcases ih.frm y hy with rfl | ⟨h2,_⟩
    ·exact h1
    ·exact hs'.1 y h2
   ·rcases zy.1 hy with rfl | hy
    ·exact .inr ⟨zA2,by omega⟩
    ·exact(ih.frm y hy).imp id fun h=>⟨zV _ h.1,h.2⟩
   ·rcases zy.1 hy with rfl | hy
    ·exact zA2
    ·exact zV _ (ih.kep y hy hn)
   ·rcases zy.1 hy with rfl | hy
    ·omega
    ·exact ih.bef y hy he
  ·rw[if_neg h1] at h;by_cases h2:x.1=t.1
   ·rw[if_pos h2] at h;cases hb:befT x t with
    | false=>rw[hb] at h; cases h
    | true=>
     rw[hb] at h;cases h
     refine⟨z63.2 ⟨fun y hy=>by have:=hs'.1 y hy; omega,hs'.2⟩,zA2,fun y hy=>?_,fun y hy hn=>?_,fun y hy he=>?_,by simp⟩
     ·rcases zy.1 hy with rfl | hy
      ·exact .inl rfl
      ·exact .inr ⟨zV _ hy,by have:=hs'.1 y hy; omega⟩
     ·rcases zy.1 hy with rfl | hy
      ·exact absurd h2 hn
      ·exact zV _ hy
     ·rcases zy.1 hy with rfl | hy
      ·exact hb
      ·have:=hs'.1 y hy; omega
   ·rw[if_neg h2] at h;cases h
    refine⟨z63.2 ⟨fun y hy=>?_,hs⟩,zA2,fun y hy=>?_,fun y hy hn=>zV _ hy,fun y hy he=>?_,by simp⟩
    ·rcases zy.1 hy with rfl | hy
     ·omega
     ·have:=hs'.1 y hy; omega
    ·rcases zy.1 hy with rfl | hy
     ·exact .inl rfl
     ·refine .inr ⟨hy,?_⟩
      rcases zy.1 hy with rfl | hy
      ·exact h2
      ·have:=hs'.1 y hy; omega
    ·rcases zy.1 hy with rfl | hy
     ·exact absurd he h2
     ·have:=hs'.1 y hy; omega
theorem qwo:∀ {l:List Tel} {t:Tel},putT l t=none->∃x∈l,x.1=t.1/\befT x t=false
 | [],t,h=>by cases h
 | x::r,t,h=>by
  unfold putT at h;by_cases h1:x.1<t.1
  ·rw[if_pos h1] at h;obtain⟨y,hy,h2⟩:=qwo (Option.map_eq_none_iff.1 h);exact⟨y,zV _ hy,h2⟩
  ·rw[if_neg h1] at h;by_cases h2:x.1=t.1
   ·rw[if_pos h2] at h;cases hb:befT x t with
    | false=>exact⟨x,zA2,h2,hb⟩
    | true=>rw[hb] at h; cases h
   ·rw[if_neg h2] at h; cases h
structure Lst(all l:List Tel):Prop where
 srt:SortT l
 up:∀o∈all,∃x∈l,x.1=o.1/\(x=o\/befT o x=true)
 frm:∀x∈l,x∈all
def nwB(all:List Tel)(t:Tel):Bool:=all.all fun o=>!decide (o.1=t.1) || befT o t
theorem Lst.new{all l:List Tel}(h:Lst all l){t:Tel}:nwB all t=(putT l t).isSome:=by
 unfold nwB;cases hp:putT l t with
 | none=>
  obtain⟨x,hx,h1,h2⟩:=qwo hp;refine zM.2 fun he=>?_
  have:=zq.1 he x (h.frm x hx);rw[zb1 h1,h2] at this;cases this
 | some l'=>
  refine zq.2 fun o ho=>?_
  by_cases h1:o.1=t.1
  ·obtain⟨x,hx,h2,h3⟩:=h.up o ho;have h4:=(qmN h.srt hp).bef x hx (by omega)
   rw[show befT o t=true from h3.elim (fun e=>e ▸ h4) (fun h3=>qtN h3 h4),Bool.or_true]
  ·rw[zL2 h1]; rfl
theorem Lst.put{all l l':List Tel}(h:Lst all l){t:Tel}(hp:putT l t=some l'):Lst (all++[t]) l':=by
 have hq:=qmN h.srt hp;refine⟨hq.srt,fun o ho=>?_,fun x hx=>?_⟩
 ·rcases zI.1 ho with ho | ho
  ·obtain⟨x,hx,h2,h3⟩:=h.up o ho;by_cases h1:x.1=t.1
   ·have h4:=hq.bef x hx h1;exact⟨t,hq.mem,by omega,.inr (h3.elim (fun e=>e ▸ h4) fun h3=>qtN h3 h4)⟩
   ·exact⟨x,hq.kep x hx h1,h2,h3⟩
  ·rw[zZ.1 ho]; exact⟨t,hq.mem,rfl,.inl rfl⟩
 ·rcases hq.frm x hx with rfl | ⟨h1,_⟩
  ·simp
  ·exact List.mem_append_left _ (h.frm x h1)
structure RepI(c:Cn)(all:List Tel)(k:Nat):Prop where
 d:DkS c.1
 a:c.2.2.1=[]
 n:c.2.2.2=(all.length:Int)
 l:all.length<=k
 m:c.2.1.length<=k
 tv:∀x∈c.2.1,x.2.2.2.2.2.length<=100000
 lst:Lst all c.2.1
theorem RepI.cns{c:Cn}{all:List Tel}{k:Nat}(h:RepI c all k)(hk:k<=100):CnS c:=⟨h.d,by have:=h.m; omega,h.tv,by rw[h.a]; simp⟩
structure RecP(r:Rec):Prop where
 v:r.2.1.length<=100
 h:r.2.2.1.2.2.2.2.2.1.length<=100
structure CnI(n:Net)(c:Cn)(k:Nat):Prop where
 d:DkN n c.1
 t:c.2.1.length<=k
 tv:∀x∈c.2.1,x.2.2.2.2.2.length<=100000
 srt:SortT c.2.1
 a:c.2.2.1.length<=k
 n0:0<=c.2.2.2
 n1:c.2.2.2<=k
theorem CnI.cns{n:Net}(hn:GN n){c:Cn}{k:Nat}(h:CnI n c k)(hk:k<=10000):CnS c:=⟨h.d.small hn,by have:=h.t; omega,h.tv,by have:=h.a; omega⟩
theorem CnI.up{n:Net}{c:Cn}{k:Nat}(h:CnI n c k):CnI n c (k+1):=⟨h.d,zv1 h.t,h.tv,h.srt,zv1 h.a,h.n0,by have:=h.n1; omega⟩
theorem qEY{n:Net}{c:Cn}{r:Rec}{k:Nat}(hi:CnI n c k)(hk:k<=10000)(hr:RecP r)(h:(capp n c r).2=0):CnI n (capp n c r).1 (k+1)/\(capp n c r).1.2.2.2=c.2.2.2+1∧
  (if r.1=2 then appS n c.1 r.2.2.1=((capp n c r).1.1,0) else(capp n c r).1.1=c.1)/\(if r.1=3 then Ac.postF c.2.2.1 r.2.2.2=((capp n c r).1.2.2.1,0) else(capp n c r).1.2.2.1=c.2.2.1):=by
 have hn0:=hi.n0; have hn1:=hi.n1;unfold capp at h ⊢;by_cases k1:r.1=1
 ·rw[if_pos k1] at h ⊢;rw[if_neg (by omega),if_neg (by omega)]
  unfold capp1 at h ⊢;by_cases h1:c.2.2.2=1000
  ·rw[if_pos h1] at h; cases h
  rw[if_neg h1] at h ⊢;by_cases h2:(accS c.2.1 r).2=0
  ·rw[if_pos h2];refine⟨?_,rfl,rfl,rfl⟩
   unfold accS at h2 ⊢;by_cases h3:r.2.1.length<5\/noB r.2.2.1=false\/noE r.2.2.2=false\/qmM (telOf r.2.1)=false
   ·rw[if_pos h3] at h2; cases h2
   rw[if_neg h3] at h2 ⊢;cases hp:putT c.2.1 (telOf r.2.1) with
   | none=>rw[hp] at h2; cases h2
   | some l'=>
    have hq:=qmN hi.srt hp;refine⟨hi.d,zA hq.len (by have:=hi.t; omega),fun x hx=>?_,hq.srt,zv1 hi.a,by simp only; omega,by simp only; omega⟩
    rcases hq.frm x hx with rfl | ⟨hx,_⟩
    ·have:=hr.v; show(List.drop 5 _).length<=_; simp; omega
    ·exact hi.tv x hx
  ·rw[if_neg h2] at h; exact absurd h h2
 rw[if_neg k1] at h ⊢;by_cases k2:r.1=2
 ·rw[if_pos k2] at h ⊢;rw[if_pos k2,if_neg (by omega)]
  unfold capp2 at h ⊢;by_cases h1:c.2.2.2=1000
  ·rw[if_pos h1] at h; cases h
  rw[if_neg h1] at h ⊢;by_cases h2:(cmdS n c.1 r).2=0
  ·rw[if_pos h2];unfold cmdS at h2 ⊢;by_cases h3:0<r.2.1.length\/noE r.2.2.2=false
   ·rw[if_pos h3] at h2; cases h2
   rw[if_neg h3] at h2 ⊢;exact⟨⟨hi.d.ln (qD5 _ _),zv1 hi.t,hi.tv,hi.srt,zv1 hi.a,by simp only; omega,by simp only; omega⟩,rfl,Prod.ext rfl h2,rfl⟩
  ·rw[if_neg h2] at h; exact absurd h h2
 rw[if_neg k2] at h ⊢;rw[if_neg k2];by_cases k3:r.1=3
 ·rw[if_pos k3] at h ⊢;rw[if_pos k3];unfold capp3 at h ⊢;by_cases h1:c.2.2.2=1000
  ·rw[if_pos h1] at h; cases h
  rw[if_neg h1] at h ⊢;by_cases h2:(postS c.2.2.1 r).2=0
  ·rw[if_pos h2];unfold postS at h2 ⊢;by_cases h3:0<r.2.1.length\/noB r.2.2.1=false
   ·rw[if_pos h3] at h2; cases h2
   rw[if_neg h3] at h2 ⊢;have ha:=hi.a;exact⟨⟨hi.d,zv1 hi.t,hi.tv,hi.srt,zA (Ac.post_len (by omega)) (by omega),by simp only; omega,by simp only; omega⟩,rfl,rfl,Prod.ext rfl h2⟩
  ·rw[if_neg h2] at h; exact absurd h h2
 ·rw[if_neg k3] at h;exfalso;revert h;simp only;split <;> simp
theorem qwp{n:Net}(s:Stp):∀(l:List Stp) (d:Dk) (i:Int) {d' d'':Dk} {j:Int},runL n d i l=(d',j,0)->appS n d' s=(d'',0)->runL n d i (l++[s])=(d'',j+1,0)
 | [],d,i,d',d'',j,h,h2=>by
  rw[runL] at h;injection h with e1 e2; injection e2 with e2 _; subst e1 e2
  show runL n d i [s]=_;unfold runL;rw[h2,if_neg (by simp)]; rfl
 | x::l,d,i,d',d'',j,h,h2=>by
  show runL n d i (x::(l++[s]))=_;unfold runL at h ⊢;by_cases hc:(appS n d x).2≠0
  ·rw[if_pos hc] at h;injection h with _ h; injection h with _ h; exact absurd h hc
  ·rw[if_neg hc] at h ⊢;exact qwp s l _ _ h h2
theorem qtO(e:Ent3):∀(l:List Ent3) (a:List Acc4) {a' a'':List Acc4},Ac.bookF l a=(a',0)->Ac.postF a' e=(a'',0)->Ac.bookF (l++[e]) a=(a'',0)
 | [],a,a',a'',h,h2=>by
  rw[Ac.bookF] at h;injection h with e1; subst e1
  show Ac.bookF [e] a=_;unfold Ac.bookF;rw[h2,if_pos rfl]; rfl
 | x::l,a,a',a'',h,h2=>by
  show Ac.bookF (x::(l++[e])) a=_;unfold Ac.bookF at h ⊢;by_cases hc:(Ac.postF a x).2=0
  ·rw[if_pos hc] at h ⊢;exact qtO e l _ h h2
  ·rw[if_neg hc] at h;injection h with _ h; exact absurd h hc
structure FolI(n:Net)(d0:Dk)(c:Cn)(steps:List Stp)(ents:List Ent3)(k:Nat):Prop where
 ci:CnI n c k
 sl:steps.length<=k
 el:ents.length<=k
 sh:∀s∈steps,s.2.2.2.2.2.1.length<=100000
 run:runL n d0 0 steps=(c.1,(steps.length:Int),0)
 book:Ac.bookF ents []=(c.2.2.1,0)
theorem FolI.up{n:Net}{d0:Dk}{c:Cn}{steps:List Stp}{ents:List Ent3}{k:Nat}(h:FolI n d0 c steps ents k):FolI n d0 c steps ents (k+1):=⟨h.ci.up,zv1 h.sl,zv1 h.el,h.sh,h.run,h.book⟩
theorem FolI.put{n:Net}{d0:Dk}{c:Cn}{steps:List Stp}{ents:List Ent3}{k:Nat}(h:FolI n d0 c steps ents k)(hk:k<=100){r:Rec}(hr:RecP r)(h0:(capp n c r).2=0):
  FolI n d0 (capp n c r).1 (if r.1=2 then steps++[r.2.2.1] else steps) (if r.1=3 then ents++[r.2.2.2] else ents) (k+1):=by
 obtain⟨h1,h2,h3,h4⟩:=qEY h.ci (by omega) hr h0
 have hsl:=h.sl; have hel:=h.el;refine⟨h1,?_,?_,fun s hs=>?_,?_,?_⟩
 ·split <;> (try rw[ze,zO]) <;> omega
 ·split <;> (try rw[ze,zO]) <;> omega
 ·split at hs
  ·rcases zI.1 hs with hs | hs
   ·exact h.sh s hs
   ·rw[zZ.1 hs]; have:=hr.h; omega
  ·exact h.sh s hs
 ·by_cases k2:r.1=2
  ·rw[if_pos k2] at h3 ⊢;have:=qwp r.2.2.1 steps d0 0 h.run h3;rw[this,ze]; rfl
  ·rw[if_neg k2] at h3 ⊢;rw[h3]; exact h.run
 ·by_cases k3:r.1=3
  ·rw[if_pos k3] at h4 ⊢;exact qtO r.2.2.2 ents [] h.book h4
  ·rw[if_neg k3] at h4 ⊢;rw[h4]; exact h.book
theorem qzu(a b:Tel):qjt a b=some (befT a b):=qwl a b
theorem qEZ(n m:Int):qk0 n m=some (rg 0 m n):=tv1 n m
theorem qzv(t:Tel)(h:t.2.2.2.2.2.length<=100000):qiY t=some (qmM t):=by
 have k:=qa1 (ε:=Unit⊕Bool) (step:=fun x=>qfk t x) t.2.2.2.2.2.length (fun i=>(i:Int)) (fun i=>rv (t.2.2.2.2.2.getD i 0)) (fin:=.inl ()) (bad:=.inr false) (fun i hi _ hq=>?_) (fun i hi _ hq=>?_) (fun _=>?_)
 ·have hall:(List.range t.2.2.2.2.2.length).all (fun i=>rv (t.2.2.2.2.2.getD i 0))=t.2.2.2.2.2.all rv:=qtI t.2.2.2.2.2 0 rv
  rw[hall] at k;unfold qiY;refine(congrArg (fun o=>Option.bind o _) k).trans ?_
  unfold qmM;cases ha:t.2.2.2.2.2.all rv with
  | false=>simp
  | true=>
   simp only[zb,z7,za1,qEZ,zk2];have hd:decide ((t.2.2.2.2.2.length:Int)<=16)=decide (t.2.2.2.2.2.length<=16):=by
    by_cases h:t.2.2.2.2.2.length<=16
    ·rw[dec_t h,dec_t]
    ·rw[dec_f h,dec_f]
   rw[hd];generalize decide (t.2.2.2.2.2.length<=16)=e;cases rg 0 255 t.1 <;> cases rg 0 255 t.2.1 <;> cases rg 0 2147483648 t.2.2.1 <;> cases rg 0 1099511627776 t.2.2.2.1 <;> cases rg 0 63 t.2.2.2.2.1 <;> cases e <;> rfl
 ·unfold qfk;have hq:=(tv2 (t.2.2.2.2.2.getD i 0)).symm;rename_i hq0;rw[hq0] at hq;unfold qbH at hq;simp only[za];rw[Sq.dlt hi,zb,gd_t (inB_t hi),gd_t (inB_t hi),<-hq,z7]
  simp only[zg,zc];rw[w1 hi]
 ·unfold qfk;have hq:=(tv2 (t.2.2.2.2.2.getD i 0)).symm;rename_i hq0;rw[hq0] at hq;unfold qbH at hq;simp only[za];rw[Sq.dlt hi,zb,gd_t (inB_t hi),gd_t (inB_t hi),<-hq,z7]; rfl
 ·unfold qfk;rw[dec_f (show ¬(t.2.2.2.2.2.length:Int)<(t.2.2.2.2.2.length:Int) by omega)]; rfl
theorem qzw{l:List Tel}(hs:SortT l)(hn:l.length<=10000)(t:Tel):qhK t l=some ((putT l t).isSome,(putT l t).getD []):=by
 have key:∃s,iter (fun x:Int×List Tel=>qiZ t x.1 x.2) (0,l)=some s/\∃k:Nat,s=((k:Int),l)/\LbT l t.1 k:=by
  refine qrs (fun x=>∃k:Nat,x=((k:Int),l)/\k<=l.length/\∀j,j<k->(l.getD j t0).1<t.1) (fun x=>((l.length:Int)-x.1).toNat) _ ?_ ⟨0,rfl,by omega,fun j hj=>by omega⟩
  rintro _ ⟨k,rfl,h1,h2⟩
  unfold qiZ;simp only[za];by_cases hk:k<l.length
  ·rw[Sq.dlt hk,zb,gd_t (inB_t hk),z7]
   by_cases hc:(l.getD k t0).1<t.1
   ·right;rw[dec_t (show(l.getD k (0,0,0,0,0,[])).1<t.1 from hc)]
    simp only[zb];rw[w1 hk]
    refine⟨_,rfl,⟨k+1,rfl,by omega,fun j hj=>?_⟩,by simp only; omega⟩
    by_cases e:j=k
    ·rw[e]; exact hc
    ·exact h2 j (by omega)
   ·left;rw[dec_f (show ¬(l.getD k (0,0,0,0,0,[])).1<t.1 from hc)]
    refine⟨_,rfl,k,rfl,h1,h2,fun j hj hjl=>?_⟩
    by_cases e:j=k
    ·rw[e]; omega
    ·have:=gDp hs (i:=k) (j:=j) (by omega) hjl; omega
  ·left;rw[dec_f (show ¬(k:Int)<(l.length:Int) by omega)]
   exact⟨_,rfl,k,rfl,h1,h2,fun j hj hjl=>by omega⟩
 obtain⟨_,q1,k,rfl,hk⟩:=key;have hkl:=hk.le;unfold qhK;rw[q1,qxv hk];simp only[z7,za,zF];have tail:∀(c:Bool),c=false->(bif c then(gd (inB (k:Int) l.length)<|(qjt (l.getD k (0,0,0,0,0,[])) t).bind fun r=>bif !r then some (false,[]) else gd (inB (k:Int) l.length)<|some (true,l.set k t)) else(gd (cutG none (some (.i64,(k:Int))) l.length)<|gd (fits (0+(l.take k).length) 64)<|gd (fits ((l.take k).length+1) 64)<|gd (cutG (some (.i64,(k:Int))) none l.length)<|gd (fits ((l.take k++[t]).length+(l.drop k).length) 64)<|some (true,l.take k++[t]++l.drop k)))=some (true,l.take k++[t]++l.drop k):=by
  intro c hc;subst hc;rw[zc,gd_t (by unfold cutG; simp; omega),gd_t (qaF (by rw[zm]; omega)),gd_t (qaF (by rw[zm]; omega)),gd_t (by unfold cutG; simp; omega),gd_t (qaF (by simp only[ze,zm,zR,zf,zo]; omega))]
 by_cases hl:k<l.length
 ·rw[Sq.dlt hl,zb,gd_t (inB_t hl),z7]
  by_cases he:(l.getD k t0).1=t.1
  ·rw[if_pos ⟨hl,he⟩,dec_t (show(l.getD k (0,0,0,0,0,[])).1=t.1 from he)]
   simp only[zb];rw[gd_t (inB_t hl),qzu,z7];cases hb:befT (l.getD k t0) t with
   | true=>
    simp only[zg,zc];rw[gd_t (inB_t hl)]; rfl
   | false=>
    rfl
  ·rw[if_neg (fun h=>he h.2)]
   exact tail _ (dec_f (show ¬(l.getD k (0,0,0,0,0,[])).1=t.1 from he))
 ·rw[dec_f (show ¬(k:Int)<(l.length:Int) by omega),if_neg (fun h=>hl h.1)]
  exact tail _ rfl
theorem qDe(t:Tel)(h:t.2.2.2.2.2.length<=100000):qee t=some t:=by
 unfold qee;rw[gd_t (qaF (by omega)),zF]
theorem qBD{c:Cn}(h:CnS c):qnd c=some (c.2.2.2,c.1.1,c.1.2.1,c.1.2.2.1,c.1.2.2.2,c.2.1,c.2.2.1):=by
 unfold qnd;rw[show((c.1.1,c.1.2.1,c.1.2.2.1,c.1.2.2.2):Dk)=c.1 from rfl,qqa h.d,z7,gd_t (qaF (by have:=h.a; omega)),zF]
 have k1:=qbn (step:=fun x:Int×List Vl×List Int×List Int×List Bool×List Tel×List Acc4=>qin c x.1 x.2.1 x.2.2.1 x.2.2.2.1 x.2.2.2.2.1 x.2.2.2.2.2.1 x.2.2.2.2.2.2) (e:=(c.1.1,c.1.2.1,c.1.2.2.1,c.1.2.2.2,c.2.1,c.2.2.1)) c.2.1.length
  (fun i=>((i:Int),c.1.1,c.1.2.1,c.1.2.2.1,c.1.2.2.2,c.2.1.take i,c.2.2.1)) (fun i hi=>by
   have ht:=h.t;unfold qin;simp only[za];rw[Sq.dlt hi,zb,gd_t (inB_t hi),qDe _ (h.tv _ (gmem (d:=t0) hi)),z7,gd_t (qaF (by rw[zm]; omega)),w1 hi]
   rw[zI2 hi,<-gD_eq (d:=t0) hi]) (by
   unfold qin;simp only;rw[dec_f (show ¬(c.2.1.length:Int)<(c.2.1.length:Int) by omega),zc,zF1])
 refine(congrArg (fun o=>Option.bind o _) k1).trans ?_
 rfl
theorem ralike0(p:Pth):qfO p (0,0,[],0)=some (decide (p.1=0)&&(decide (p.2.1=0)&&decide (p.2.2.1.length=0))):=by
 unfold qfO;simp only;by_cases h1:p.1=0
 ·rw[dec_t h1];by_cases h2:p.2.1=0
  ·rw[dec_t h2];by_cases h3:p.2.2.1.length=0
   ·rw[dec_t h3,dec_t (show(p.2.2.1.length:Int)=(([]:List (Int×Bool)).length:Int) by rw[h3]; rfl)]
    simp only[zg,zc,z7];have k:iter (fun x=>qdg p (0,0,[],0) x) 0=some (.inl ()):=qas (by
     unfold qdg;rw[dec_f (show ¬(0:Int)<(p.2.2.1.length:Int) by omega)]; rfl)
    rw[k]; rfl
   ·rw[dec_f h3,dec_f (show ¬(p.2.2.1.length:Int)=(([]:List (Int×Bool)).length:Int) by simp; exact fun e=>h3 (by rw[e]; rfl))]; rfl
  ·rw[dec_f h2]; rfl
 ·rw[dec_f h1]; rfl
theorem qqH(s:Stp):qfX s=some (noB s):=by
 unfold qfX qbl noB;simp only;have ha:qfO (s.2.2.2.1,s.2.2.2.2.1,s.2.2.2.2.2.1,s.2.2.2.2.2.2) (0,0,[],0)=some (decide (s.2.2.2.1=0)&&(decide (s.2.2.2.2.1=0)&&decide (s.2.2.2.2.2.1.length=0))):=ralike0 s.2.2.2;simp only[ha];have e:∀(a b c d i o h:Bool),((bif a then bif b then bif c then bif d then(some (i&&(o&&h)):Option Bool).bind fun r=>some r else some false else some false else some false else some false).bind fun r=>some r)=some (a&&(b&&(c&&(i&&(o&&(d&&h)))))):=by
  intro a b c d i o h;cases a <;> cases b <;> cases c <;> cases d <;> cases i <;> cases o <;> cases h <;> rfl
 exact e _ _ _ _ _ _ _
theorem qzx(n:Net){c:Cn}(h:CnS c)(hs:SortT c.2.1)(hk:0<=c.2.2.2/\c.2.2.2<=100000)(r:Rec)(hv:r.2.1.length<=100000)(hh:r.2.2.1.2.2.2.2.2.1.length<=100000):qi5 n c r=some (capp n c r):=by
 unfold qi5 capp;have hc:(((c.1.1,c.1.2.1,c.1.2.2.1,c.1.2.2.2),c.2.1,c.2.2.1,c.2.2.2):Cn)=c:=rfl;have hst:((Y7 r.2.2.1):Stp)=r.2.2.1:=rfl;by_cases h0:c.2.2.2=1000
 ·rw[dec_t h0];simp only[zb];unfold capp1 capp2 capp3;simp only[if_pos h0];split
  ·rfl
  ·split
   ·rfl
   ·split <;> rfl
 ·rw[dec_f h0];simp only[zc];rw[qBD h];simp only[z7];have hw:wi64 (c.2.2.2+1)=c.2.2.2+1:=wi (by omega)
  by_cases h1:r.1=1
  ·rw[dec_t h1,if_pos h1];simp only[zb];unfold capp1;rw[if_neg h0];have bad:accS c.2.1 r=(c.2.1,28)->(if(accS c.2.1 r).2=0 then((c.1,(accS c.2.1 r).1,c.2.2.1,c.2.2.2+1),(0:Int)) else(c,(accS c.2.1 r).2))=(c,28):=fun e=>by rw[e]; rfl
   by_cases l5:r.2.1.length<5
   ·rw[dec_t (show(r.2.1.length:Int)<5 by omega),bad (if_pos (.inl l5))]; rfl
   ·rw[dec_f (show ¬(r.2.1.length:Int)<5 by omega)]
    simp only[zc];rw[qqH];simp only[z7];have hnb:noB (Y7 r.2.2.1)=noB r.2.2.1:=rfl;rw[hnb];cases hb:noB r.2.2.1 with
    | false=>rw[bad (if_pos (.inr (.inl hb)))]; rfl
    | true=>
     simp only[zg,zc,z7];have hne:(decide (r.2.2.2.1=[])&&(decide (r.2.2.2.2.1=0)&&decide (r.2.2.2.2.2=0)))=noE r.2.2.2:=rfl;rw[hne];cases he:noE r.2.2.2 with
     | false=>rw[bad (if_pos (.inr (.inr (.inl he))))]; rfl
     | true=>
      simp only[zg,zc];rw[gd_t (qar.2 ⟨by omega,by omega⟩),gd_t (qar.2 ⟨by omega,by omega⟩),gd_t (qar.2 ⟨by omega,by omega⟩),gd_t (qar.2 ⟨by omega,by omega⟩),gd_t (qar.2 ⟨by omega,by omega⟩),gd_t (by unfold cutG; simp; omega),gd_t (qaF (by rw[zR]; omega))]
      simp only[zF];have hvt:qiY (r.2.1.getD 0 0,r.2.1.getD 1 0,r.2.1.getD 2 0,r.2.1.getD 3 0,r.2.1.getD 4 0,r.2.1.drop 5)=some (qmM (telOf r.2.1)):=qzv (telOf r.2.1) (by show(r.2.1.drop 5).length<=100000; rw[zR]; omega)
      rw[hvt];simp only[z7];cases hvd:qmM (telOf r.2.1) with
      | false=>rw[bad (if_pos (.inr (.inr (.inr hvd))))]; rfl
      | true=>
       simp only[zg,zc];have hsd:qhK (r.2.1.getD 0 0,r.2.1.getD 1 0,r.2.1.getD 2 0,r.2.1.getD 3 0,r.2.1.getD 4 0,r.2.1.drop 5) c.2.1=some ((putT c.2.1 (telOf r.2.1)).isSome,(putT c.2.1 (telOf r.2.1)).getD []):=qzw hs h.t (telOf r.2.1);rw[hsd];have hno:¬(r.2.1.length<5\/noB r.2.2.1=false\/noE r.2.2.2=false\/qmM (telOf r.2.1)=false):=fun e=>by
        rcases e with e | e | e | e
        ·exact l5 e
        ·rw[hb] at e; cases e
        ·rw[he] at e; cases e
        ·rw[hvd] at e; cases e
       unfold accS;rw[if_neg hno];cases putT c.2.1 (telOf r.2.1) with
       | none=>rfl
       | some l'=>
        simp only[z7,z53,zg,zc,hw]; rfl
  ·rw[dec_f h1,if_neg h1];simp only[zc];by_cases h2:r.1=2
   ·rw[dec_t h2,if_pos h2];simp only[zb];unfold capp2;rw[if_neg h0];have bad:cmdS n c.1 r=(c.1,28)->(if(cmdS n c.1 r).2=0 then(((cmdS n c.1 r).1,c.2.1,c.2.2.1,c.2.2.2+1),(0:Int)) else(c,(cmdS n c.1 r).2))=(c,28):=fun e=>by rw[e]; rfl
    by_cases l0:0<r.2.1.length
    ·rw[dec_t (show 0<(r.2.1.length:Int) by omega),bad (if_pos (.inl l0))]; rfl
    ·rw[dec_f (show ¬0<(r.2.1.length:Int) by omega)]
     simp only[zc,z7];have hne:(decide (r.2.2.2.1=[])&&(decide (r.2.2.2.2.1=0)&&decide (r.2.2.2.2.2=0)))=noE r.2.2.2:=rfl;rw[hne];cases he:noE r.2.2.2 with
     | false=>rw[bad (if_pos (.inr he))]; rfl
     | true=>
      rw[show cmdS n c.1 r=appS n c.1 r.2.2.1 from if_neg (fun e=>e.elim l0 (fun e=>by rw[he] at e; cases e))]
      simp only[zg,zc];have ha:qi2 (Y6 n) (c.1.1,c.1.2.1,c.1.2.2.1,c.1.2.2.2) (Y7 r.2.2.1)=some (appS n c.1 r.2.2.1):=qBp r.2.2.1 hh;rw[ha];simp only[z7];by_cases h3:(appS n c.1 r.2.2.1).2=0
      ·rw[dec_t h3,if_pos h3]; simp only[zg,zc,hw]
      ·rw[dec_f h3,if_neg h3]; rfl
   ·rw[dec_f h2,if_neg h2];simp only[zc];by_cases h3:r.1=3
    ·rw[dec_t h3,if_pos h3];simp only[zb];unfold capp3;rw[if_neg h0];have bad:postS c.2.2.1 r=(c.2.2.1,28)->(if(postS c.2.2.1 r).2=0 then((c.1,c.2.1,(postS c.2.2.1 r).1,c.2.2.2+1),(0:Int)) else(c,(postS c.2.2.1 r).2))=(c,28):=fun e=>by rw[e]; rfl
     by_cases l0:0<r.2.1.length
     ·rw[dec_t (show 0<(r.2.1.length:Int) by omega),bad (if_pos (.inl l0))]; rfl
     ·rw[dec_f (show ¬0<(r.2.1.length:Int) by omega)]
      simp only[zc];rw[qqH];simp only[z7];have hnb:noB (Y7 r.2.2.1)=noB r.2.2.1:=rfl;rw[hnb];cases hb:noB r.2.2.1 with
      | false=>rw[bad (if_pos (.inr hb))]; rfl
      | true=>
       rw[show postS c.2.2.1 r=Ac.postF c.2.2.1 r.2.2.2 from if_neg (fun e=>e.elim l0 (fun e=>by rw[hb] at e; cases e))]
       simp only[zg,zc];have ha:qg1 c.2.2.1 (r.2.2.2.1,r.2.2.2.2.1,r.2.2.2.2.2)=some (Ac.postF c.2.2.1 r.2.2.2):=(Ac.post_eq (l:=c.2.2.1) (e:=r.2.2.2) (by have:=h.a; omega)).2.1
       rw[ha];simp only[z7];by_cases h4:(Ac.postF c.2.2.1 r.2.2.2).2=0
       ·rw[dec_t h4,if_pos h4]; simp only[zg,zc,hw]
       ·rw[dec_f h4,if_neg h4]; rfl
    ·rw[dec_f h3,if_neg h3,if_neg h0]; rfl
theorem qFT{d e:Dk}(h:DkS d)(hl:Ln d e):DkS e:=⟨by rw[hl.v]; exact h.v,by rw[hl.r]; exact h.r,by rw[hl.p]; exact h.p,by rw[hl.b]; exact h.b⟩
structure CnG(c:Cn)(k:Nat):Prop where
 d:DkS c.1
 t:c.2.1.length<=k
 tv:∀x∈c.2.1,x.2.2.2.2.2.length<=100000
 srt:SortT c.2.1
 a:c.2.2.1.length<=k
 n0:0<=c.2.2.2
 n1:c.2.2.2<=k
theorem CnG.cns{c:Cn}{k:Nat}(h:CnG c k)(hk:k<=10000):CnS c:=⟨h.d,by have:=h.t; omega,h.tv,by have:=h.a; omega⟩
theorem CnG.up{c:Cn}{k:Nat}(h:CnG c k):CnG c (k+1):=⟨h.d,zv1 h.t,h.tv,h.srt,zv1 h.a,h.n0,by have:=h.n1; omega⟩
theorem qsU{n:Net}{c:Cn}{r:Rec}{k:Nat}(hi:CnG c k)(hk:k<=10000)(hr:RecP r)(h:(capp n c r).2=0):CnG (capp n c r).1 (k+1)/\(capp n c r).1.2.2.2=c.2.2.2+1∧
  (if r.1=2 then appS n c.1 r.2.2.1=((capp n c r).1.1,0) else(capp n c r).1.1=c.1)/\(if r.1=3 then Ac.postF c.2.2.1 r.2.2.2=((capp n c r).1.2.2.1,0) else(capp n c r).1.2.2.1=c.2.2.1):=by
 have hn0:=hi.n0; have hn1:=hi.n1;unfold capp at h ⊢;by_cases k1:r.1=1
 ·rw[if_pos k1] at h ⊢;rw[if_neg (by omega),if_neg (by omega)]
  unfold capp1 at h ⊢;by_cases h1:c.2.2.2=1000
  ·rw[if_pos h1] at h; cases h
  rw[if_neg h1] at h ⊢;by_cases h2:(accS c.2.1 r).2=0
  ·rw[if_pos h2];refine⟨?_,rfl,rfl,rfl⟩
   unfold accS at h2 ⊢;by_cases h3:r.2.1.length<5\/noB r.2.2.1=false\/noE r.2.2.2=false\/qmM (telOf r.2.1)=false
   ·rw[if_pos h3] at h2; cases h2
   rw[if_neg h3] at h2 ⊢;cases hp:putT c.2.1 (telOf r.2.1) with
   | none=>rw[hp] at h2; cases h2
   | some l'=>
    have hq:=qmN hi.srt hp;refine⟨hi.d,zA hq.len (by have:=hi.t; omega),fun x hx=>?_,hq.srt,zv1 hi.a,by simp only; omega,by simp only; omega⟩
    rcases hq.frm x hx with rfl | ⟨hx,_⟩
    ·have:=hr.v; show(List.drop 5 _).length<=_; simp; omega
    ·exact hi.tv x hx
  ·rw[if_neg h2] at h; exact absurd h h2
 rw[if_neg k1] at h ⊢;by_cases k2:r.1=2
 ·rw[if_pos k2] at h ⊢;rw[if_pos k2,if_neg (by omega)]
  unfold capp2 at h ⊢;by_cases h1:c.2.2.2=1000
  ·rw[if_pos h1] at h; cases h
  rw[if_neg h1] at h ⊢;by_cases h2:(cmdS n c.1 r).2=0
  ·rw[if_pos h2];unfold cmdS at h2 ⊢;by_cases h3:0<r.2.1.length\/noE r.2.2.2=false
   ·rw[if_pos h3] at h2; cases h2
   rw[if_neg h3] at h2 ⊢;exact⟨⟨qFT hi.d (qD5 _ _),zv1 hi.t,hi.tv,hi.srt,zv1 hi.a,by simp only; omega,by simp only; omega⟩,rfl,Prod.ext rfl h2,rfl⟩
  ·rw[if_neg h2] at h; exact absurd h h2
 rw[if_neg k2] at h ⊢;rw[if_neg k2];by_cases k3:r.1=3
 ·rw[if_pos k3] at h ⊢;rw[if_pos k3];unfold capp3 at h ⊢;by_cases h1:c.2.2.2=1000
  ·rw[if_pos h1] at h; cases h
  rw[if_neg h1] at h ⊢;by_cases h2:(postS c.2.2.1 r).2=0
  ·rw[if_pos h2];unfold postS at h2 ⊢;by_cases h3:0<r.2.1.length\/noB r.2.2.1=false
   ·rw[if_pos h3] at h2; cases h2
   rw[if_neg h3] at h2 ⊢;have ha:=hi.a;exact⟨⟨hi.d,zv1 hi.t,hi.tv,hi.srt,zA (Ac.post_len (by omega)) (by omega),by simp only; omega,by simp only; omega⟩,rfl,rfl,Prod.ext rfl h2⟩
  ·rw[if_neg h2] at h; exact absurd h h2
 ·rw[if_neg k3] at h;exfalso;revert h;simp only;split <;> simp
section
variable {n:Net}
end
/-! ### The idle desk -/
section
variable {n:Net} {a b c:Nat}
end
def dig(b:UInt8):Bool:=Nat.ble 48 b.toNat&&Nat.ble b.toNat 57
def valD:Nat->List UInt8->Nat
 | acc,[]=>acc
 | acc,c::r=>valD (acc*10+(c.toNat-48)) r
def mns:List UInt8->Bool
 | []=>false
 | c::_=>c==45
def dgs:List UInt8->List UInt8
 | []=>[]
 | c::r=>bif c==45 then r else c::r
theorem qvg(c:UInt8)(r:List UInt8):dgs (c::r)=bif c==45 then r else c::r:=rfl
theorem qBE:∀(l:List UInt8) (acc:Nat),acc<=valD acc l
 | [],_=>zP _
 | c::r,acc=>by have:=qBE r (acc*10+(c.toNat-48)); unfold valD; omega
theorem pu_eq:∀(l:List UInt8) (acc:Nat),acc<18446744073709551616->l.all dig=true->Lib.parseUint10 acc l=if valD acc l<18446744073709551616 then .ok (valD acc l) else .range
 | [],acc,h,_=>by unfold valD Lib.parseUint10; rw[if_pos h]
 | c::r,acc,h,hd=>by
  simp only[z41,z8,dig,zd1] at hd;unfold Lib.parseUint10;rw[if_pos hd.1];have hge:=qBE r (acc*10+(c.toNat-48));by_cases h1:1844674407370955162<=acc
  ·rw[if_pos h1];unfold valD; rw[if_neg (by omega)]
  ·rw[if_neg h1];by_cases h2:18446744073709551616<=acc*10+(c.toNat-48)
   ·rw[if_pos h2];unfold valD; rw[if_neg (by omega)]
   ·rw[if_neg h2,pu_eq r _ (by omega) (by simpa[dig] using hd.2)]
    rfl
theorem qE0(s:List UInt8)(h0:dgs s≠[])(hd:(dgs s).all dig=true):Lib.atoiAll s=(if valD 0 (dgs s)<18446744073709551616 then
  (if ¬mns s=true/\9223372036854775808<=valD 0 (dgs s) then .range else if mns s=true/\9223372036854775808<valD 0 (dgs s) then .range else .ok (if mns s=true then -(valD 0 (dgs s):Int) else valD 0 (dgs s))) else .range):=by
 cases s with
 | nil=>exact absurd rfl h0
 | cons c r=>
  have hc45:(c.toNat=45)↔(c==45)=true:=by
   rw[zv2];constructor
   ·intro h; exact z23.1 h
   ·rintro rfl; rfl
  have key:Lib.parseMag (if c.toNat=43\/c.toNat=45 then r else c::r)=if valD 0 (dgs (c::r))<18446744073709551616 then .ok (valD 0 (dgs (c::r))) else .range:=by
   by_cases h45:c.toNat=45
   ·have hb:=hc45.1 h45;have e:dgs (c::r)=r:=by rw[qvg,hb]; rfl
    rw[e] at h0 hd ⊢;rw[if_pos (.inr h45)];unfold Lib.parseMag;rw[if_neg h0];exact pu_eq r 0 (by decide) hd
   ·have hb:(c==45)=false:=zM.2 fun h=>h45 (hc45.2 h)
    have e:dgs (c::r)=c::r:=by rw[qvg,hb]; rfl
    rw[e] at h0 hd ⊢;have h43:c.toNat≠43:=by
     simp only[z41,z8,dig,zd1] at hd;omega
    rw[if_neg (by omega)]
    unfold Lib.parseMag;rw[if_neg h0];exact pu_eq _ 0 (by decide) hd
  unfold Lib.atoiAll;simp only[hc45] at key ⊢;rw[key];by_cases hv:valD 0 (dgs (c::r))<18446744073709551616
  ·rw[if_pos hv,if_pos hv]; rfl
  ·rw[if_neg hv,if_neg hv]
theorem qvh(s:List UInt8)(h:s.length<=281474976710656):atoiT s=some (match Lib.atoiAll s with
  | .ok v=>(v,false)
  | .range=>(Lib.atoiSat s,true)
  | _=>(0,true)):=by
 unfold atoiT;rw[zj1 h]; rfl
theorem qyD(c:UInt8):∀(l:List UInt8) (acc:Nat),valD acc (l++[c])=valD acc l*10+(c.toNat-48)
 | [],_=>rfl
 | _::r,_=>qyD c r _
structure Digs(n:Nat)(D:List UInt8):Prop where
 ne:D≠[]
 all:D.all dig=true
 val:valD 0 D=n
 hd:0<n->D.headD 0≠48
 z:n=0->D=[48]
def chr(n:Nat):UInt8:=UInt8.ofNat (48+n%10)
theorem qxw(n:Nat):(chr n).toNat=48+n%10:=by unfold chr; rw[UInt8.toNat_ofNat']; omega
theorem qBF(n:Nat):dig (chr n)=true:=by
 simp only[dig,z8,zd1,qxw]; omega
theorem Digs.head{n:Nat}{D:List UInt8}(h:Digs n D):∃a r,D=a::r/\dig a=true:=by
 have h1:=h.ne;have h2:=h.all;cases D with
 | nil=>exact absurd rfl h1
 | cons a r=>exact⟨a,r,rfl,by simp only[z41,z8] at h2; exact h2.1⟩
theorem qD9{a:UInt8}(h:dig a=true):(a==45)=false:=by
 rw[zM];intro e;rw[zv2] at e;subst e; cases h
theorem qE1{D X:List UInt8}{n:Nat}(h:Digs n D):dgs (D++X)=D++X/\mns (D++X)=false:=by
 obtain⟨a,r,rfl,ha⟩:=h.head;exact⟨by rw[zp1,qvg,qD9 ha]; rfl,qD9 ha⟩
def splB(c:UInt8):Str->List Str
 | []=>[[]]
 | x::l=>bif x==c then []::splB c l else match splB c l with
  | []=>[[x]]
  | h::t=>(x::h)::t
theorem qxx(c:UInt8)(s:Str):splB c s≠[]:=by
 cases s with
 | nil=>simp[splB]
 | cons x l=>
  unfold splB;cases x==c with
  | true=>simp
  | false=>simp only[zc]; split <;> simp
theorem qvi{c:UInt8}:∀ {X:Str},c∉X->splB c X=[X]
 | [],_=>rfl
 | x::l,h=>by
  simp only[zy,not_or] at h;unfold splB;rw[show(x==c)=false by rw[z72]; exact fun e=>h.1 e.symm,zc,qvi h.2]
theorem qnr{c:UInt8}(r:Str):∀ {X:Str},c∉X->splB c (X++c::r)=X::splB c r
 | [],_=>by simp[splB]
 | x::l,h=>by
  simp only[zy,not_or] at h;rw[zp1]
  conv=>lhs; unfold splB
  rw[show(x==c)=false by rw[z72]; exact fun e=>h.1 e.symm,zc,qnr r h.2]
theorem qvj(c:UInt8):∀s:Str,(splB c s).length=s.count c+1
 | []=>rfl
 | x::l=>by
  unfold splB;rw[List.count_cons];have ih:=qvj c l;cases hx:x==c with
  | true=>simp[ih]
  | false=>
   simp only[zc,z02,if_false,zC1];split
   ·rename_i h; exact absurd h (qxx c l)
   ·rename_i h t hs;rw[hs] at ih;exact ih
theorem qqe(c:UInt8):∀s:Str,(c∉s/\Lib.indexByte s c=-1)\/∃X r,s=X++c::r/\c∉X/\Lib.indexByte s c=(X.length:Int)
 | []=>.inl ⟨by simp,rfl⟩
 | b::l=>by
  unfold Lib.indexByte;cases hb:b==c with
  | true=>
   rw[zv2] at hb; subst hb;exact .inr ⟨[],l,rfl,by simp,by simp⟩
  | false=>
   rw[z72] at hb;simp only[z02,if_false];rcases qqe c l with⟨h1,h2⟩ | ⟨X,r,rfl,h2,h3⟩
   ·refine .inl ⟨by simp only[zy,not_or]; exact⟨fun e=>hb e.symm,h1⟩,by rw[h2]; rfl⟩
   ·refine .inr ⟨b::X,r,rfl,by simp only[zy,not_or]; exact⟨fun e=>hb e.symm,h2⟩,?_⟩
    rw[h3];have:((X.length:Int) == -1)=false:=by rw[z72]; omega
    rw[this];simp
theorem c_eq(c:UInt8):(Int.ofNat (([c]:Str).getD 0 0).toNat).toNat.toUInt8=c:=by
 show c.toNat.toUInt8=c;simp
theorem qyE(s:Str)(c:UInt8):qbf s [c]=some (Lib.indexByte s c):=by
 unfold qbf qbY idxB;rw[dec_f (show ¬((([c]:Str).length:Int)=0) by simp),zc,z7]
 by_cases h:[c]=s
 ·rw[dec_t h,zb,<-h];unfold Lib.indexByte;simp
 ·rw[dec_f h,zc,dec_t (show(([c]:Str).length:Int)=1 by simp),zb,gd_t (inB0 (by simp)),c_eq]; rfl
theorem qBG(s:Str)(c:UInt8):qib s [c]=some ((s.count c:Nat):Int):=by
 unfold qib cntB;rw[dec_f (show ¬((([c]:Str).length:Int)=0) by simp),zc,dec_t (show(([c]:Str).length:Int)=1 by simp),zb,gd_t (inB0 (by simp)),c_eq]
 rfl
theorem qFU{s:Str}(h:(10:UInt8)∉s):qgO s [10]=some (s,[],false):=by
 unfold qgO qca;rcases qqe 10 s with⟨_,h2⟩ | ⟨X,r,rfl,_,_⟩
 ·rw[qyE,h2]; rfl
 ·simp at h
theorem qBH{X r:Str}(h:(10:UInt8)∉X)(hl:(X++10::r).length<=4611686018427387904):qgO (X++10::r) [10]=some (X,r,true):=by
 unfold qgO qca;have hi:Lib.indexByte (X++10::r) 10=(X.length:Int):=by
  rcases qqe 10 (X++10::r) with⟨h1,_⟩ | ⟨Y,q,e,h2,h3⟩
  ·simp at h1
  ·have:splB 10 (X++10::r)=splB 10 (Y++10::q):=by rw[e]
   rw[qnr _ h,qnr _ h2] at this;injection this with e1 _
   rw[h3,e1]
 simp only[ze,zf] at hl;rw[qyE,hi,z7,dec_t (show(0:Int)<=(X.length:Int) by omega),zb]
 have e1:wi64 ((X.length:Int)+(([10]:Str).length:Int))=((X.length+1:Nat):Int):=by
  rw[show(([10]:Str).length:Int)=1 from rfl,wi (by omega)]; omega
 have e2:(X++10::r).take X.length=X:=zb2;have e3:(X++10::r).drop (X.length+1)=r:=by simp[zW1]
 rw[e1,gd_t (by simp[cutG]; omega),gd_t (by simp[cutG]; omega),za,za,e2,e3]; rfl
theorem ok_eq{A:Type}{x:Option A}{v:A}(h:Ok x (fun y=>y=v)):x=some v:=by obtain⟨a,h1,rfl⟩:=h; exact h1
theorem qzy(c:UInt8):∀(n:Nat) (s:Str),s.length<=n->Lib.splitK [c] 0 (s.count c) s=splB c s:=by
 intro n;induction n with
 | zero=>intro s h; cases s with | nil=>rfl | cons a l=>simp at h
 | succ n ih=>
  intro s h;rcases qqe c s with⟨h1,_⟩ | ⟨X,r,rfl,hX,hi⟩
  ·rw[qvi h1,List.count_eq_zero.2 h1]; rfl
  ·rw[qnr r hX,List.count_append,List.count_cons_self,List.count_eq_zero.2 hX,z11];unfold Lib.splitK;have hn:¬((X.length:Int) == -1)=true:=by rw[zv2]; omega
   rw[Lib.index_one,hi,if_neg hn,za,zC1,zb2,zO,show(X++c::r).drop (X.length+1)=r by simp[zW1],ih r (by simp at h; omega)]
theorem qyF(s:Str)(hl:s.length<=1000000):qtF s [32]=some (splB 32 s):=by
 unfold qtF;simp only;rw[show Nat.ble s.length 1000000000=true from zj1 (by omega),zb]
 unfold Lib.split;rw[Lib.count_one,qzy 32 _ s (zP _)]
def wch(b:UInt8):Bool:=Nat.ble 33 b.toNat&&Nat.ble b.toNat 126
def wordB(s:Str):Bool:=s.all wch&&!s.isEmpty
theorem qqf{c:UInt8}:∀ {s x:Str},x∈splB c s->x.length<=s.length
 | [],x,h=>by simp[splB] at h; subst h; simp
 | b::l,x,h=>by
  unfold splB at h;cases hb:b==c with
  | true=>
   rw[hb] at h;rcases zy.1 h with rfl | h
   ·simp
   ·have:=qqf h; simp; omega
  | false=>
   rw[hb] at h;simp only[zc] at h;split at h
   ·simp at h; subst h; simp
   ·rename_i q t hs;rcases zy.1 h with rfl | h
    ·have:=qqf (s:=l) (x:=q) (by rw[hs]; simp)
     simp; omega
    ·have:=qqf (s:=l) (x:=x) (by rw[hs]; simp[h])
     simp; omega
theorem qBI(t:Str)(h:t≠[])(hl:t.length<=1000000):qeP t [10]=some (decide (t.getLast? = some 10)):=by
 unfold qeP qbZ;have hp:0<t.length:=by cases t with | nil=>exact absurd rfl h | cons=>simp
 rw[dec_t (show(([10]:Str).length:Int)<=(t.length:Int) by simp; omega),zb]
 have e:wi64 ((t.length:Int)-(([10]:Str).length:Int))=((t.length-1:Nat):Int):=by
  rw[show(([10]:Str).length:Int)=1 from rfl,wi (by omega)]; omega
 rw[e,gd_t (by simp[cutG]),z7,za]
 congr 1;rw[zT,zz,zz];have e2:t.drop (t.length-1)=[t.getLast h]:=by
  conv=>lhs; rw[<-List.dropLast_concat_getLast h]
  rw[zx1 (by simp)]
  simp
 rw[e2,List.getLast?_eq_some_getLast h]
 simp
abbrev joinS(w:List Str):Str:=Lib.join w [32]
theorem qbD(a b:Str)(r:List Str):joinS (a::b::r)=a++32::joinS (b::r):=by
 simp[joinS,Lib.join,List.intercalate]
theorem qtP(x:Str):∀ {l:List Str},l≠[]->joinS (l++[x])=joinS l++32::x
 | [],h=>absurd rfl h
 | [a],_=>by
  show joinS (a::x::[])=_;rw[qbD];simp[joinS,Lib.join,List.intercalate]
 | a::b::r,_=>by
  show joinS (a::b::(r++[x]))=_;rw[qbD,qbD,show b::(r++[x])=(b::r)++[x] from rfl,qtP x (by simp),zw]; rfl
def sumL(w:List Str):Nat:=(w.map List.length).sum
theorem qsV{w:List Str}{n:Nat}(h:∀s∈w,s.length<=n):sumL w<=w.length*n:=by
 induction w with
 | nil=>simp[sumL]
 | cons a r ih=>
  have h1:=h a (by simp)
  have h2:=ih (fun s hs=>h s (by simp[hs]))
  have:sumL (a::r)=a.length+sumL r:=by simp[sumL]
  rw[this,zf,z61]; omega
theorem qwq:∀ {w:List Str},w≠[]->(joinS w).length+1=sumL w+w.length
 | [],h=>absurd rfl h
 | [a],_=>by simp[joinS,Lib.join,List.intercalate,sumL]
 | a::b::r,_=>by
  rw[qbD];have ih:=qwq (w:=b::r) (by simp)
  have:sumL (a::b::r)=a.length+sumL (b::r):=by simp[sumL]
  rw[this];simp only[ze,zf] at ih ⊢;omega
theorem qns(w:List Str):(joinS w).length<=sumL w+w.length:=by
 cases w with
 | nil=>simp[joinS,Lib.join,List.intercalate]
 | cons a r=>have:=qwq (w:=a::r) (by simp); omega
theorem qmO(x:Str):qbK (qaH x)=x:=by
 unfold qbK qaH;rw[zR2]
 conv=>rhs; rw[<-za3 x]
 refine zZ1 fun b _=>?_
 show UInt8.ofNat (Int.toNat (b.toNat:Int))=b;rw[za];exact UInt8.ofNat_toNat
theorem qxy(a b:Str):qaH (a++b)=qaH a++qaH b:=by simp[qaH]
theorem qEa{b:UInt8}(h:wch b=true):b≠10/\b≠32:=by
 constructor <;> (rintro rfl; cases h)
theorem qvk{x:Str}(h:wordB x=true):(10:UInt8)∉x/\(32:UInt8)∉x/\x≠[]:=by
 unfold wordB at h;rw[z8,zq] at h;exact⟨fun hm=>(qEa (h.1 _ hm)).1 rfl,fun hm=>(qEa (h.1 _ hm)).2 rfl,fun e=>by rw[e] at h; cases h.2⟩
theorem qyG:∀ {w:List Str},(∀x∈w,wordB x=true)->(10:UInt8)∉joinS w
 | [],_=>by simp[joinS,Lib.join,List.intercalate]
 | [a],h=>by
  have:=(qvk (h a (by simp))).1
  simpa[joinS,Lib.join,List.intercalate] using this
 | a::b::r,h=>by
  rw[qbD];simp only[zI,zy,not_or];exact⟨(qvk (h a (by simp))).1,by decide,qyG (fun x hx=>h x (zV _ hx))⟩
theorem qwr:∀ {w:List Str},w≠[]->(∀x∈w,wordB x=true)->splB 32 (joinS w)=w
 | [],h,_=>absurd rfl h
 | [a],_,h=>by
  have:=qvi (qvk (h a (by simp))).2.1
  simpa[joinS,Lib.join,List.intercalate] using this
 | a::b::r,_,h=>by
  rw[qbD,qnr _ (qvk (h a (by simp))).2.1,qwr (by simp) (fun x hx=>h x (zV _ hx))]
theorem qry:∀u:Nat,Digs u (Lib.decDigits u):=by
 intro u;induction u using Nat.strongRecOn with
 | ind u ih=>
  by_cases h:u<10
  ·rw[Lib.decDigits_one h,show UInt8.ofNat (48+u)=chr u by unfold chr; rw[Nat.mod_eq_of_lt h]]
   have hn:=qxw u;rw[Nat.mod_eq_of_lt h] at hn;refine⟨by simp,by simp[qBF],?_,fun h0 e=>?_,fun h0=>by subst h0; rfl⟩
   ·show 0*10+((chr u).toNat-48)=u;omega
   ·have e':chr u=48:=e;rw[e'] at hn;have:(48:UInt8).toNat=48:=rfl;omega
  ·have h10:=ih (u/10) (by omega)
   rw[Lib.decDigits,dif_neg h];refine⟨by simp,?_,?_,fun h0=>?_,fun h0=>by omega⟩
   ·rw[List.all_append,h10.all];have:=qBF u;unfold chr at this;rw[z41,this]; rfl
   ·rw[qyD,h10.val];have:=qxw u;unfold chr at this;rw[this]; omega
   ·have:=h10.hd (by omega)
    obtain⟨a,r,e,_⟩:=h10.head;rw[e] at this ⊢;exact this
theorem qsW:∀(m u:Nat),u<10^(m+1)->(Lib.decDigits u).length<=m+1
 | 0,u,h=>by rw[Lib.decDigits_one (by omega)]; simp
 | m+1,u,h=>by
  by_cases h10:u<10
  ·rw[Lib.decDigits_one h10]; simp
  ·rw[Lib.decDigits,dif_neg h10,ze];have:=qsW m (u/10) (by rw[Nat.pow_succ] at h; omega)
   simp; omega
theorem qE2{b:UInt8}(h:dig b=true):wch b=true:=by
 unfold dig at h;unfold wch;simp only[z8,zd1] at h ⊢;omega
theorem qE3{b:UInt8}(h:nch b=true):wch b=true:=by
 unfold nch fch at h;unfold wch;simp only[z8,zi1,zd1,zv2] at h ⊢;rcases h with(h | h) | h
 ·omega
 ·omega
 ·subst h; decide
/-! ### A product as a line -/
theorem qsX{s:Str}(h:nameB s=true):wordB s=true/\s.length<=12:=by
 unfold nameB at h;simp only[z8,zd1] at h;refine⟨?_,h.1.1.2⟩
 unfold wordB;rw[z8,zq];refine⟨fun b hb=>qE3 (zq.1 h.2 b hb),?_⟩
 cases s with
 | nil=>have:=h.1.1.1; simp at this
 | cons=>rfl
def smI(n:Int):Bool:=decide (-9007199254740992<=n)&&decide (n<=9007199254740992)
theorem smI_t{n:Int}(h:smI n=true) : -9007199254740992<=n/\n<=9007199254740992:=by
 unfold smI at h;simpa using h
theorem qqg(n:Int):Lib.itoa n=if n<0 then 45::Lib.decDigits n.natAbs else Lib.decDigits n.natAbs:=by
 unfold Lib.itoa;by_cases h:n<0
 ·rw[if_pos h,if_pos h]
 ·rw[if_neg h,if_neg h,show n.toNat=n.natAbs by omega]
theorem qtQ(n:Int):wordB (Lib.itoa n)=true:=by
 rw[qqg];have h:=qry n.natAbs;have ha:∀b∈Lib.decDigits n.natAbs,wch b=true:=fun b hb=>qE2 (zq.1 h.all b hb)
 obtain⟨a,r,e,_⟩:=h.head;unfold wordB;rw[z8,zq];by_cases hn:n<0
 ·rw[if_pos hn];refine⟨fun b hb=>?_,rfl⟩
  rcases zy.1 hb with rfl | hb
  ·decide
  ·exact ha b hb
 ·rw[if_neg hn];exact⟨ha,by rw[e]; rfl⟩
theorem qdx{n:Int}(h:smI n=true):(Lib.itoa n).length<=17:=by
 obtain⟨h1,h2⟩:=smI_t h;have:=qsW 15 n.natAbs (by omega)
 rw[qqg];split
 ·rw[zf]; omega
 ·omega
theorem qyH(n:Int):dgs (Lib.itoa n)=Lib.decDigits n.natAbs/\mns (Lib.itoa n)=decide (n<0):=by
 have h:=qry n.natAbs;rw[qqg];by_cases hn:n<0
 ·rw[if_pos hn,dec_t hn]; exact⟨rfl,rfl⟩
 ·rw[if_neg hn,dec_f hn];have:=qE1 (X:=[]) h;rw[zG] at this;exact this
theorem qBJ{n:Int}(h:smI n=true):atoiT (Lib.itoa n)=some (n,false):=by
 obtain⟨h1,h2⟩:=smI_t h;have hl:=qdx h;have hd:=qry n.natAbs;obtain⟨e1,e2⟩:=qyH n;rw[qvh _ (by omega),qE0 _ (by rw[e1]; exact hd.ne) (by rw[e1]; exact hd.all),e1,e2,hd.val,if_pos (by omega)]
 by_cases hn:n<0
 ·rw[dec_t hn,if_neg (by simp),if_neg (by omega)]
  simp only[if_true];rw[show -(n.natAbs:Int)=n by omega]
 ·rw[dec_f hn,if_neg (by omega),if_neg (by simp)]
  simp only[z02,if_false];rw[show(n.natAbs:Int)=n by omega]
theorem qei{a b:Bool}{x:Option Bool}(h:x=some b):(bif a then some true else x)=some (a || b):=by subst h; cases a <;> rfl
theorem qjT{a b:Bool}{x:Option Bool}(h:x=some b):(bif a then x else some false)=some (a&&b):=by subst h; cases a <;> rfl
theorem qh0{A:Type}{a b:Bool}{w:A}{x:Option (Bool×A)}(h:x=some (b,w)):(bif a then some (true,w) else x)=some (a || b,w):=by subst h; cases a <;> rfl
theorem qvl{A:Type}{a b:Bool}{w:A}{x:Option (Bool×A)}(h:x=some (b,w)):(bif a then x else some (false,w))=some (a&&b,w):=by subst h; cases a <;> rfl
theorem dlt_n(a b:Int):decide (a<b)=!decide (b<=a):=by
 rw[<-zM2]; exact zL1.2 (by omega)
theorem dlen0{A:Type}(l:List A):decide ((l.length:Int)=0)=decide (l.length=0):=zL1.2 (by omega)
def ixB(i:Int)(n:Nat):Bool:=decide (0<=i)&&decide (i<(n:Int))
theorem ixB_t{i:Int}{n:Nat}(h:ixB i n=true):0<=i/\i<n:=by unfold ixB at h; simpa using h
theorem qsY{i:Int}{n:Nat}(h:ixB i n=true):inB i n=true:=qar.2 (ixB_t h)
theorem qBK{n:Int}(h:i64P n):itoaT n=some (Lib.itoa n):=by
 unfold itoaT;rw[dec_t h.1,dec_t h.2]; rfl
/-! ### The words -/
abbrev qcO:Str:=[101,110,116,114,121]
abbrev cTele:Str:=[116,101,108,101,103,114,97,109]
abbrev cFlow:Str:=[102,108,111,119]
abbrev cWait:Str:=[119,97,105,116]
abbrev cStop:Str:=[115,116,111,112]
abbrev qjA:Str:=[115,116,97,114,116]
abbrev qok:Str:=[99,108,111,115,101]
abbrev cOpen:Str:=[111,112,101,110]
abbrev kindL:List Str:=[[],[114,101,99,101,105,118,101,100],[100,101,108,105,118,101,114,101,100],[115,108,111,112],[115,104,97,114,101]]
def segN(n:Net)(i:Int):Str:=(n.2.1.getD i.toNat sg0).1
def portN(n:Net)(i:Int):Str:=(n.2.2.1.getD i.toNat po0).1
def staN(n:Net)(i:Int):Str:=(n.2.2.2.1.getD i.toNat sta0).1
def hopV(n:Net)(h:Hop):Str:=bif h.2 then 45::segN n h.1 else segN n h.1
def hopsV(n:Net):List Hop->List Str
 | []=>[]
 | h::r=>bif ixB h.1 n.2.1.length then hopV n h::hopsV n r else []
def hopsB(n:Net)(l:List Hop):Bool:=l.all fun h=>ixB h.1 n.2.1.length
def portV(n:Net)(i:Int):List Str:=bif ixB i n.2.2.1.length then [portN n i] else []
def staV(n:Net)(i:Int):List Str:=bif ixB i n.2.2.2.1.length then [staN n i] else []
def flowV(n:Net)(s:Stp):List Str:=cFlow::Lib.itoa s.2.2.1::(portV n s.2.2.2.1++(portV n s.2.2.2.2.1++hopsV n s.2.2.2.2.2.1))
def flowB(n:Net)(s:Stp):Bool:=smI s.2.2.1&&(decide (s.2.1=0)&&(decide (s.2.2.2.2.2.1.length<=32)&&(ixB s.2.2.2.1 n.2.2.1.length&&(ixB s.2.2.2.2.1 n.2.2.1.length&&hopsB n s.2.2.2.2.2.1))))
def bareB(s:Stp):Bool:=decide (s.2.2.2.1=0)&&(decide (s.2.2.2.2.1=0)&&decide (s.2.2.2.2.2.1.length=0))
def stepV(n:Net)(s:Stp):List Str:=
 if s.1=1 then [cOpen,Lib.itoa s.2.1] else if s.1=2 then [qok,Lib.itoa s.2.1] else
 if s.1=3 then qjA::staV n s.2.1 else if s.1=4 then cStop::staV n s.2.1 else
 if s.1=5 then flowV n s else if s.1=6 then [cWait,Lib.itoa s.2.2.1] else []
def qgK(n:Net)(s:Stp):Bool:=
 if s.1=1\/s.1=2 then ixB s.2.1 (n.2.1.length+n.2.2.1.length)&&(smI s.2.1&&decide (s.2.2.1=0)) else
 if s.1=3\/s.1=4 then ixB s.2.1 n.2.2.2.1.length&&decide (s.2.2.1=0) else
 if s.1=5 then flowB n s else if s.1=6 then smI s.2.2.1&&decide (s.2.1=0) else false
def stepB(n:Net)(s:Stp):Bool:=(decide (s.2.2.2.2.2.2=0)&&(decide (s.1=5) || bareB s))&&qgK n s
/-! ### The writer -/
theorem qlD(s:Str)(f:Bool){w:List Str}(hw:w.length<=1000000):qaj s f w=some (f,w++[s]):=by
 unfold qaj;rw[gd_t (qaF (by omega))]
theorem num_w{n:Int}(hn:i64P n)(f:Bool){w:List Str}(hw:w.length<=1000000):qaS n f w=some (f || !smI n,w++[Lib.itoa n]):=by
 have h:(bif f then some (true,w) else(bif decide (n<(-9007199254740992)) then some (true,w) else some (decide (9007199254740992<n),w)))=some (f || !smI n,w):=by
  rw[show(!smI n)=(decide (n<(-9007199254740992)) || decide (9007199254740992<n)) by
   unfold smI; rw[dlt_n,dlt_n,Bool.not_and]]
  exact qh0 (qh0 rfl)
 unfold qaS;rw[h,z7,qBK hn,z7,qlD _ _ hw]; rfl
theorem ix_w(i:Int)(c:Nat)(f:Bool)(w:List Str):qa4 i (c:Int) f w=some (ixB i c,f || !ixB i c,w):=by
 have h:(bif decide (0<=i) then some (decide (i<(c:Int)),w) else some (false,w))=some (ixB i c,w):=qvl rfl;unfold qa4;rw[h];cases f <;> rfl
theorem qEb(n:Net)(s:Stp)(f:Bool){w:List Str}(hw:w.length<=1000)(k:Nat)(hk:k<2):qbj n s (k:Int) f w=
  some (.inl (((k+1:Nat):Int),f || !ixB ([s.2.2.2.1,s.2.2.2.2.1].getD k 0) n.2.2.1.length,w++portV n ([s.2.2.2.1,s.2.2.2.2.1].getD k 0))):=by
 unfold qbj;rw[dec_t (by simp; omega),zb,gd_t (inB_t (show k<[s.2.2.2.1,s.2.2.2.2.1].length from hk)),za,ix_w,z7,w1 hk]
 generalize [s.2.2.2.1,s.2.2.2.2.1].getD k 0=i;unfold portV;cases hb:ixB i n.2.2.1.length
 ·rw[zc,z7,zc,zG]
 ·rw[zb,gd_t (qsY hb),qlD _ _ (by simp only; omega),zb]; rfl
theorem qEc(n:Net)(s:Stp)(f:Bool)(hl:s.2.2.2.2.2.1.length<=100000)(hN:∀i,(segN n i).length<=1000):∀(r:List Hop) (k:Nat) (w:List Str),s.2.2.2.2.2.1.drop k=r->k+r.length=s.2.2.2.2.2.1.length->w.length<=1000+k->
  ∃e,iter (fun x2=>qbk n s x2.1 x2.2.1 x2.2.2) ((k:Int),f,w)=some e/\Sum.elim id id e=(f || !hopsB n r,w++hopsV n r)
 | [],k,w,h,h2,hw=>by
  refine⟨.inl (f,w),qas ?_,?_⟩
  ·show qbk n s (k:Int) f w=_;unfold qbk;rw[dec_f (by simp at h2; omega)]; rfl
  ·show(f,w)=_;unfold hopsV hopsB;rw[zG]; cases f <;> rfl
 | h::r,k,w,he,h2,hw=>by
  have h2':k+r.length+1=s.2.2.2.2.2.1.length:=by rw[zf] at h2; omega
  have hk:k<s.2.2.2.2.2.1.length:=by omega
  have hg:s.2.2.2.2.2.1.getD k (0,false)=h:=by
   rw[zk,zj hk];have:=z51 hk;rw[he] at this;exact(zX1 this).1.symm
  have hr:s.2.2.2.2.2.1.drop (k+1)=r:=by rw[<-zI1,he]; rfl
  have hs:qbk n s (k:Int) f w=(bif ixB h.1 n.2.1.length then some (.inl (((k+1:Nat):Int),f,w++[hopV n h])) else some (.inr (.inr (true,w)))):=by
   unfold qbk;rw[dec_t,zb,gd_t (inB_t hk),za,hg,ix_w,z7,w1 hk]
   cases hb:ixB h.1 n.2.1.length
   ·rw[show(f || !false)=true by cases f <;> rfl]; rfl
   ·rw[show(f || !true)=f by cases f <;> rfl]
    show gd _ _=some _;rw[gd_t (qsY hb)];have h3:(n.2.1.getD (h.1).toNat ([],0,0,0,0,0,[])).1.length<=1000:=hN h.1;rw[show(bif h.2 then gd (Nat.ble ([45].length+((n.2.1.getD (h.1).toNat ([],0,0,0,0,0,[])).1).length) 9223372036854775807)<|some ([45]++((n.2.1.getD (h.1).toNat ([],0,0,0,0,0,[])).1),w) else some ((n.2.1.getD (h.1).toNat ([],0,0,0,0,0,[])).1,w))=some (hopV n h,w) by
     unfold hopV segN;cases h.2
     ·rfl
     ·rw[zb,gd_t (zj1 (by simp only[zO]; omega))]; rfl]
    rw[z7,qlD _ _ (by simp only; omega)]; rfl
  unfold hopsV hopsB;rw[z41];cases hb:ixB h.1 n.2.1.length
  ·rw[hb] at hs;refine⟨.inr (true,w),qas hs,?_⟩
   show(true,w)=_;rw[zc,zG]; cases f <;> rfl
  ·rw[hb] at hs;obtain⟨e,e1,e2⟩:=qEc n s f hl hN r (k+1) (w++[hopV n h]) hr (by omega) (by simp only[ze,zO]; omega)
   refine⟨e,(qaJ hs).trans e1,e2.trans ?_⟩
   rw[zw]; rfl
theorem flB:∀f a1 a2 a3 a4 a5 a6:Bool,(f || !a1 || (!a2 || !a3) || !a4 || !a5 || !a6)=(f || !(a1&&(a2&&(a3&&(a4&&(a5&&a6)))))):=by decide
theorem qFV(n:Net){s:Stp}(hi:i64P s.2.2.1)(hl:s.2.2.2.2.2.1.length<=100000)(hN:∀i,(segN n i).length<=1000)(f:Bool){w:List Str}(hw:w.length<=100):qdD n s f w=some (f || !flowB n s,w++flowV n s):=by
 have hA:(w++[cFlow]++[Lib.itoa s.2.2.1]).length<=102:=by simp; omega
 have hp:∀i,(portV n i).length<=1:=fun i=>by unfold portV; cases ixB i n.2.2.1.length <;> simp
 unfold qdD;rw[qlD _ _ (by omega),z7]
 simp only;rw[num_w hi _ (by simp; omega),z7]
 simp only;have h1:(bif (f || !smI s.2.2.1) then some (true,w++[cFlow]++[Lib.itoa s.2.2.1]) else(bif !decide (s.2.1=0) then some (true,w++[cFlow]++[Lib.itoa s.2.2.1]) else some (decide (32<(s.2.2.2.2.2.1.length:Int)),w++[cFlow]++[Lib.itoa s.2.2.1])))=
   some ((f || !smI s.2.2.1) || (!decide (s.2.1=0) || decide (32<(s.2.2.2.2.2.1.length:Int))),w++[cFlow]++[Lib.itoa s.2.2.1]):=qh0 (qh0 rfl)
 rw[h1,z7];simp only;generalize hg:((f || !smI s.2.2.1) || (!decide (s.2.1=0) || decide (32<(s.2.2.2.2.2.1.length:Int))))=g;have h2:iter (fun x=>qbj n s x.1 x.2.1 x.2.2) (0,g,w++[cFlow]++[Lib.itoa s.2.2.1])=some (g || !ixB s.2.2.2.1 n.2.2.1.length || !ixB s.2.2.2.2.1 n.2.2.1.length,w++[cFlow]++[Lib.itoa s.2.2.1]++portV n s.2.2.2.1++portV n s.2.2.2.2.1):=by
  refine(qaJ (qEb n s g (zA hA (by decide)) 0 (by omega))).trans ?_
  refine(qaJ (qEb n s _ (by have:=hp s.2.2.2.1; simp only[ze,List.getD_cons_zero] at hA ⊢; omega) 1 (by omega))).trans ?_
  refine qas ?_
  show qbj n s 2 _ _=_;unfold qbj;rw[dec_f (by simp)]; rfl
 rw[h2,z7];simp only;obtain⟨e,e1,e2⟩:=qEc n s (g || !ixB s.2.2.2.1 n.2.2.1.length || !ixB s.2.2.2.2.1 n.2.2.1.length) hl hN s.2.2.2.2.2.1 0 (w++[cFlow]++[Lib.itoa s.2.2.1]++portV n s.2.2.2.1++portV n s.2.2.2.2.1) rfl (by omega)
  (by have h3:=hp s.2.2.2.1; have h4:=hp s.2.2.2.2.1; simp only[ze] at hA ⊢; omega)
 refine(congrArg (fun z=>Option.bind z _) e1).trans ?_
 have e3:∀z:(Bool×List Str)⊕(Bool×List Str),z.elim (fun s7=>some (s7.1,s7.2)) (fun s8=>some (s8.1,s8.2))=some (Sum.elim id id z):=fun z=>by cases z <;> rfl
 refine(e3 e).trans ?_
 rw[e2,<-hg];refine congrArg some (Prod.ext ?_ ?_)
 ·unfold flowB;rw[show decide (32<(s.2.2.2.2.2.1.length:Int))=!decide (s.2.2.2.2.2.1.length<=32) by rw[<-zM2]; exact zL1.2 (by omega)]
  generalize smI s.2.2.1=a1;generalize decide (s.2.1=0)=a2;generalize decide (s.2.2.2.2.2.1.length<=32)=a3;generalize ixB s.2.2.2.1 n.2.2.1.length=a4;generalize ixB s.2.2.2.2.1 n.2.2.1.length=a5;generalize hopsB n s.2.2.2.2.2.1=a6;exact flB f a1 a2 a3 a4 a5 a6
 ·unfold flowV;simp only[zw,zp1,zF]
structure NB(n:Net):Prop where
 s:n.2.1.length<=1000
 p:n.2.2.1.length<=1000
 a:n.2.2.2.1.length<=1000
 sn:∀i,(segN n i).length<=1000
 pn:∀i,(portN n i).length<=1000
 an:∀i,(staN n i).length<=1000
theorem pB1:∀f c d b:Bool,(f || (!c || (bif !d then !b else false)))=(f || !(c&&(d || b))):=by decide
theorem pB2:∀f p i m v:Bool,((((f || !p) || !i) || !m) || !v)=(f || !(p&&(i&&(m&&v)))):=by decide
theorem pB3:∀f p i v:Bool,(((f || !p) || !i) || !v)=(f || !(p&&(i&&v))):=by decide
theorem pB4:∀f p i:Bool,((f || !p) || !i)=(f || !(p&&i)):=by decide
theorem pB5:∀f p:Bool,true=(f || !(p&&false)):=by decide
def preB(s:Stp):Bool:=decide (s.2.2.2.2.2.2=0)&&(decide (s.1=5) || bareB s)
theorem qE4(n:Net)(i:Int):(staV n i).length<=1:=by unfold staV; cases ixB i n.2.2.2.1.length <;> simp
theorem qFW{n:Net}(hn:NB n){s:Stp}(hi:i64P s.2.1)(hv:i64P s.2.2.1)(hl:s.2.2.2.2.2.1.length<=100000)(f:Bool){w:List Str}(hw:w.length<=90):qdE n s f w=some (f || !stepB n s,w++stepV n s):=by
 have hn1:=hn.s; have hn2:=hn.p;refine ok_eq ?_
 unfold qdE;refine oE (a:=(bareB s,w)) (by rw[dlen0]; exact qvl (qvl rfl)) ?_
 refine oE (a:=(f || !preB s,w)) ?_ ?_
 ·refine Eq.trans (b:=some (f || (!decide (s.2.2.2.2.2.2=0) || (bif !decide (s.1=5) then !bareB s else false)),w)) (qh0 (qh0 ?_)) (by rw[pB1]; rfl)
  cases decide (s.1=5) <;> rfl
 have e0:stepB n s=(preB s&&qgK n s):=rfl;rw[e0];refine oE (a:=(decide (s.1=1) || decide (s.1=2),w)) (by cases decide (s.1=1) <;> rfl) ?_
 refine oI (fun h12=>?_) fun h12=>?_
 ·have hk:s.1=1\/s.1=2:=by simpa using h12
  refine oG (qar.2 (by rcases hk with h | h <;> rw[h] <;> decide)) ?_
  refine oE (qlD _ _ (zA hw (by decide))) ?_
  rw[show wi64 ((n.2.1.length:Int)+(n.2.2.1.length:Int))=((n.2.1.length+n.2.2.1.length:Nat):Int) by rw[wi (by omega)]; omega]
  refine oE (ix_w _ _ _ _) ?_
  refine oE (num_w hi _ (by simp; omega)) ?_
  refine⟨_,qh0 rfl,Prod.ext ?_ ?_⟩
  ·unfold qgK;rw[if_pos hk];exact pB2 _ _ _ _ _
  ·unfold stepV;simp only[zw];rcases hk with h | h
   ·rw[if_pos h,h]; rfl
   ·rw[if_neg (by omega),if_pos h,h]; rfl
 have hk:¬(s.1=1\/s.1=2):=by simpa using h12
 refine oE (a:=(decide (s.1=3) || decide (s.1=4),w)) (by cases decide (s.1=3) <;> rfl) ?_
 refine oI (fun h34=>?_) fun h34=>?_
 ·have hk3:s.1=3\/s.1=4:=by simpa using h34
  have h1:=qE4 n s.2.1;refine oG (qar.2 (by rcases hk3 with h | h <;> rw[h] <;> decide)) ?_
  refine oE (qlD _ _ (zA hw (by decide))) ?_
  refine oE (ix_w _ _ _ _) ?_
  refine oE (a:=((f || !preB s) || !ixB s.2.1 n.2.2.2.1.length,w++[([[],[],[],[115,116,97,114,116],[115,116,111,112]]:List (List UInt8)).getD s.1.toNat []]++staV n s.2.1)) ?_ ?_
  ·unfold staV;show(bif ixB s.2.1 n.2.2.2.1.length then _ else _)=_;cases hb:ixB s.2.1 n.2.2.2.1.length
   ·rw[zc,zc,zG]
   ·rw[zb,zb];exact ok_eq (oG (qsY hb) (oE (qlD _ _ (by simp only[ze,zO]; omega)) (.ret rfl)))
  refine⟨_,qh0 rfl,Prod.ext ?_ ?_⟩
  ·unfold qgK;rw[if_neg hk,if_pos hk3];exact pB3 _ _ _ _
  ·unfold stepV;simp only[zw];rcases hk3 with h | h
   ·rw[if_neg (by omega),if_neg (by omega),if_pos h,h]; rfl
   ·rw[if_neg (by omega),if_neg (by omega),if_neg (by omega),if_pos h,h]; rfl
 have hk3:¬(s.1=3\/s.1=4):=by simpa using h34
 unfold qgK stepV;rw[if_neg hk,if_neg hk3,if_neg (show ¬s.1=1 by omega),if_neg (show ¬s.1=2 by omega),if_neg (show ¬s.1=3 by omega),if_neg (show ¬s.1=4 by omega)]
 refine oI (fun h5=>?_) fun h5=>?_
 ·have h5:=zx h5;rw[if_pos h5,if_pos h5];exact oE (qFV n hv hl hn.sn _ (zA hw (by decide))) (.ret (Prod.ext (pB4 _ _ _) rfl))
 have h5:=zh1 h5;rw[if_neg h5,if_neg h5];refine oI (fun h6=>?_) fun h6=>?_
 ·have h6:=zx h6;rw[if_pos h6,if_pos h6];refine oE (qlD _ _ (zA hw (by decide))) ?_
  refine oE (num_w hv _ (by simp; omega)) ?_
  refine⟨_,qh0 rfl,Prod.ext ?_ ?_⟩
  ·exact pB3 _ _ _ _
  ·simp only[zw]; rfl
 have h6:=zh1 h6;rw[if_neg h6,if_neg h6];exact .ret (Prod.ext (pB5 _ _) (zG w).symm)
/-! ### A record -/
def entB(e:Ent3):Bool:=ixB (e.2.1-1) 4&&(Ac.nameP e.1&&smI e.2.2)
def entV(e:Ent3):List Str:=qcO::((bif ixB (e.2.1-1) 4 then [kindL.getD e.2.1.toNat []] else [])++[e.1,Lib.itoa e.2.2])
def recV(n:Net)(r:Rec):List Str:=
 if r.1=1 then cTele::r.2.1.map Lib.itoa else if r.1=2 then stepV n r.2.2.1 else if r.1=3 then entV r.2.2.2 else []
def recB(n:Net)(r:Rec):Bool:=
 if r.1=1 then(noB r.2.2.1&&noE r.2.2.2)&&(decide (5<=r.2.1.length)&&(decide (r.2.1.length<=21)&&r.2.1.all smI)) else
 if r.1=2 then(decide (r.2.1.length=0)&&noE r.2.2.2)&&stepB n r.2.2.1 else
 if r.1=3 then(decide (r.2.1.length=0)&&noB r.2.2.1)&&entB r.2.2.2 else false
structure RcI(r:Rec):Prop where
 v:r.2.1.length<=100000
 vi:∀x∈r.2.1,i64P x
 i:i64P r.2.2.1.2.1
 w:i64P r.2.2.1.2.2.1
 h:r.2.2.1.2.2.2.2.2.1.length<=100000
 n:r.2.2.2.1.length<=100000
 k:i64P r.2.2.2.2.1
 e:i64P r.2.2.2.2.2
structure RcJ(r:Rec):Prop where
 v:r.2.1.length<=100000
 vi:∀x∈r.2.1,i64P x
 i:i64P r.2.2.1.2.1
 w:i64P r.2.2.1.2.2.1
 h:r.2.2.1.2.2.2.2.2.1.length<=100000
 k:i64P r.2.2.2.2.1
 e:i64P r.2.2.2.2.2
theorem RcI.j{r:Rec}(h:RcI r):RcJ r:=⟨h.v,h.vi,h.i,h.w,h.h,h.k,h.e⟩
theorem qBL(s:Stp):qeR s=some (noB s):=by
 unfold qeR noB;rw[dlen0];exact qjT (qjT (qjT (qjT (qjT (qjT rfl)))))
def headB(r:Rec):Bool:=(!decide (r.1=1)&&decide (0<(r.2.1.length:Int))) || ((!decide (r.1=2)&&!noB r.2.2.1) || (!decide (r.1=3)&&!noE r.2.2.2))
theorem qEd(r:Rec)(f:Bool)(hv:r.2.1.length<=100000)(hi:∀x∈r.2.1,i64P x):∀(t:List Int) (k:Nat) (f:Bool) (w:List Str),r.2.1.drop k=t->k+t.length=r.2.1.length->w.length<=1000+k->
  iter (fun x=>qa7 r x.1 x.2.1 x.2.2) ((k:Int),f,w)=some (f || !t.all smI,w++t.map Lib.itoa)
 | [],k,f,w,h,h2,hw=>by
  refine qas ?_
  show qa7 r (k:Int) f w=_;unfold qa7;rw[dec_f (by simp at h2; omega),zK1,zG,List.all_nil]; cases f <;> rfl
 | x::t,k,f,w,he,h2,hw=>by
  have h2':k+t.length+1=r.2.1.length:=by rw[zf] at h2; omega
  have hk:k<r.2.1.length:=by omega
  have hd:=z51 hk;rw[he] at hd;have hg:r.2.1.getD k 0=x:=by
   rw[zk,zj hk];exact(zX1 hd).1.symm
  have hs:qa7 r (k:Int) f w=some (.inl (((k+1:Nat):Int),f || !smI x,w++[Lib.itoa x])):=by
   unfold qa7;rw[dec_t,zb,gd_t (inB_t hk),za,hg,num_w (hi x (by rw[<-hg]; exact gmem hk)) _ (by omega),z7,w1 hk]
  refine(qaJ hs).trans ?_
  rw[qEd r f hv hi t (k+1) _ _ (zX1 hd).2.symm (by omega) (by simp only[ze,zO]; omega),z41,z81,zw]
  refine congrArg some (Prod.ext ?_ rfl)
  show(f || !smI x || !t.all smI)=(f || !(smI x&&t.all smI));cases f <;> cases smI x <;> rfl
theorem ix4{k:Int}(h:i64P k):ixB (wi64 (k-1)) 4=ixB (k-1) 4:=by
 obtain⟨h1,h2⟩:=h;by_cases hk:k=-9223372036854775808
 ·subst hk; decide
 ·rw[wi (by omega)]
theorem rB1:∀a b l5 l21 sm:Bool,(false || ((!a || !b) || (!l5 || !l21)) || !sm)=!((a&&b)&&(l5&&(l21&&sm))):=by decide
theorem dpos{A:Type}(l:List A):decide (0<(l.length:Int))=!decide (l.length=0):=by
 rw[<-zM2]; exact zL1.2 (by omega)
theorem qyI{n:Net}(hn:NB n){r:Rec}(hr:RcJ r):qc2 n r false []=some (!recB n r,recV n r):=by
 refine ok_eq ?_
 unfold qc2;have hb:qeR (Y7 r.2.2.1)=some (noB r.2.2.1):=qBL _;refine oE (a:=(headB r,[])) ?_ ?_
 ·rw[hb];unfold headB noE;generalize noB r.2.2.1=nb;generalize (decide (r.2.2.2.1=[])&&(decide (r.2.2.2.2.1=0)&&decide (r.2.2.2.2.2=0)))=ne;generalize decide (r.1=1)=d1;generalize decide (r.1=2)=d2;generalize decide (r.1=3)=d3;generalize decide (0<(r.2.1.length:Int))=dl;cases d1 <;> cases d2 <;> cases d3 <;> cases dl <;> cases nb <;> cases ne <;> rfl
 unfold recB recV headB;rw[dpos];refine oI (fun h1=>?_) fun h1=>?_
 ·have h1:=zx h1;rw[if_pos h1,if_pos h1,dec_t h1,dec_f (show ¬r.1=2 by omega),dec_f (show ¬r.1=3 by omega)]
  refine oE (qlD _ _ (by simp)) ?_
  refine oE (a:=((!noB r.2.2.1 || !noE r.2.2.2) || (!decide (5<=r.2.1.length) || !decide (r.2.1.length<=21)),[cTele])) ?_ ?_
  ·refine(qh0 (qh0 rfl)).trans ?_
   rw[show decide ((r.2.1.length:Int)<5)=!decide (5<=r.2.1.length) by rw[<-zM2]; exact zL1.2 (by omega),
    show decide (21<(r.2.1.length:Int))=!decide (r.2.1.length<=21) by rw[<-zM2]; exact zL1.2 (by omega)]
   rfl
  refine oE (qEd r true hr.v hr.vi r.2.1 0 _ [cTele] rfl (by omega) (by simp)) (.ret (Prod.ext ?_ rfl))
  exact rB1 _ _ _ _ _
 have h1:=zh1 h1;rw[if_neg h1,if_neg h1,dec_f h1];refine oI (fun h2=>?_) fun h2=>?_
 ·have h2:=zx h2;rw[if_pos h2,if_pos h2,dec_t h2,dec_f (show ¬r.1=3 by omega)]
  refine oE (qFW hn (s:=r.2.2.1) hr.i hr.w hr.h _ (by simp)) (.ret (Prod.ext ?_ rfl))
  show((!false&&!decide (r.2.1.length=0) || (!true&&!noB r.2.2.1 || !false&&!noE r.2.2.2)) || !stepB n r.2.2.1)=_;generalize decide (r.2.1.length=0)=a;generalize noE r.2.2.2=b;generalize stepB n r.2.2.1=c;generalize noB r.2.2.1=d;cases a <;> cases b <;> cases c <;> cases d <;> rfl
 have h2:=zh1 h2;rw[if_neg h2,if_neg h2,dec_f h2];refine oI (fun h3=>?_) fun h3=>?_
 ·have h3:=zx h3;rw[if_pos h3,if_pos h3,dec_t h3];refine oE (qlD _ _ (by simp)) (oE (a:=kindL) rfl ?_)
  rw[show wi64 ((kindL.length:Int)-1)=((4:Nat):Int) by decide]
  refine oE (ix_w _ _ _ _) ?_
  rw[ix4 hr.k];generalize hg:((!false&&!decide (r.2.1.length=0)) || ((!false&&!noB r.2.2.1) || (!true&&!noE r.2.2.2)))=g;refine oE (a:=(g || !ixB (r.2.2.2.2.1-1) 4,[qcO]++(bif ixB (r.2.2.2.2.1-1) 4 then [kindL.getD r.2.2.2.2.1.toNat []] else []))) ?_ ?_
  ·show(bif ixB (r.2.2.2.2.1-1) 4 then _ else _)=_;cases hb:ixB (r.2.2.2.2.1-1) 4
   ·rfl
   ·rw[zb,zb];have:=ixB_t hb;exact ok_eq (oE (a:=kindL) rfl (oG (qar.2 (by simp; omega)) (oE (qlD _ _ (by simp)) (.ret rfl))))
  refine oE (a:=((g || !ixB (r.2.2.2.2.1-1) 4) || !Ac.nameP r.2.2.2.1,_)) (qh0 (ok_eq (oE (Ac.name_eq _) (.ret rfl)))) ?_
  have hl:(([qcO]:List Str)++(bif ixB (r.2.2.2.2.1-1) 4 then [kindL.getD r.2.2.2.2.1.toNat []] else [])).length<=2:=by cases ixB (r.2.2.2.2.1-1) 4 <;> simp
  refine oE (qlD _ _ (zA hl (by decide))) ?_
  refine oE (num_w hr.e _ ?_) (.ret (Prod.ext ?_ ?_))
  ·rw[ze,zO];exact zA (Nat.succ_le_succ hl) (by decide)
  ·rw[<-hg];show _=!((decide (r.2.1.length=0)&&noB r.2.2.1)&&entB r.2.2.2);unfold entB;generalize ixB (r.2.2.2.2.1-1) 4=i;generalize Ac.nameP r.2.2.2.1=m;generalize smI r.2.2.2.2.2=s;generalize decide (r.2.1.length=0)=a;generalize noB r.2.2.1=b;generalize noE r.2.2.2=c;cases a <;> cases b <;> cases i <;> cases m <;> cases s <;> cases c <;> rfl
  ·unfold entV;simp only[zw,zp1,zF]
 have h3:=zh1 h3;rw[if_neg h3,if_neg h3];exact .ret rfl
theorem qbe{n:Int}(h:i64P n):(Lib.itoa n).length<=20:=by
 obtain⟨h1,h2⟩:=h;have:=qsW 18 n.natAbs (by omega)
 rw[qqg];split
 ·rw[zf]; omega
 ·omega
theorem qxz{w:List Str}(h1:w.length<=200000)(h2:∀x∈w,x.length<=100000):joinT w [32]=some (joinS w):=by
 have h3:=qsV h2;have h4:=qns w;have h5:w.length*100000<=200000*100000:=zD _ h1;unfold joinT;rw[zj1 (by omega),zj1 (by show(joinS w).length<=_; omega)]; rfl
theorem qvm{n:Net}(hn:∀i,(segN n i).length<=1000):∀l:List Hop,(hopsV n l).length<=l.length/\∀x∈hopsV n l,x.length<=1001
 | []=>⟨zP _,fun x hx=>by cases hx⟩
 | h::r=>by
  have ih:=qvm hn r;unfold hopsV;cases ixB h.1 n.2.1.length
  ·exact⟨zN _,fun x hx=>by cases hx⟩
  ·refine⟨Nat.succ_le_succ ih.1,fun x hx=>?_⟩
   rcases zy.1 hx with rfl | hx
   ·have:=hn h.1;unfold hopV;cases h.2
    ·rw[zc]; omega
    ·rw[zb,zf]; omega
   ·exact ih.2 x hx
structure Sz(w:List Str)(k m:Nat):Prop where
 l:w.length<=k
 x:∀x∈w,x.length<=m
theorem Sz.nil{k m:Nat}:Sz [] k m:=⟨zN _,fun x hx=>by cases hx⟩
theorem Sz.cons{x:Str}{w:List Str}{k m:Nat}(hx:x.length<=m)(h:Sz w k m):Sz (x::w) (k+1) m:=⟨Nat.succ_le_succ h.l,fun y hy=>by
 rcases zy.1 hy with rfl | hy
 ·exact hx
 ·exact h.x y hy⟩
theorem Sz.app{a b:List Str}{k j m:Nat}(h:Sz a k m)(h':Sz b j m):Sz (a++b) (k+j) m:=⟨by rw[ze]; exact Nat.add_le_add h.l h'.l,fun y hy=>(zI.1 hy).elim (h.x y) (h'.x y)⟩
theorem Sz.mono{w:List Str}{k m k' m':Nat}(h:Sz w k m)(hk:k<=k')(hm:m<=m'):Sz w k' m':=⟨zA h.l hk,fun x hx=>zA (h.x x hx) hm⟩
theorem Sz.bif{c:Bool}{x:Str}{m:Nat}(hx:c=true->x.length<=m):Sz (bif c then [x] else []) 1 m:=by
 cases c
 ·exact .nil
 ·exact .cons (hx rfl) .nil
theorem qxA{n:Net}(hn:NB n){r:Rec}(hr:RcI r):Sz (recV n r) 200000 100000:=by
 unfold recV;split
 ·exact Sz.mono (Sz.cons (m:=100000) (k:=100000) (by decide) ⟨by rw[zQ]; exact hr.v,fun x hx=>by
   obtain⟨v,hv,rfl⟩:=zW.1 hx;exact zA (qbe (hr.vi v hv)) (by decide)⟩) (by decide) (by decide)
 split
 ·have hp:∀i,Sz (portV n i) 1 100000:=fun i=>Sz.bif fun _=>zA (hn.pn i) (by decide)
  have hs:∀i,Sz (staV n i) 1 100000:=fun i=>Sz.bif fun _=>zA (hn.an i) (by decide)
  have hi:=zA (qbe hr.i) (show 20<=100000 by decide)
  have hw:=zA (qbe hr.w) (show 20<=100000 by decide)
  have hh:=qvm hn.sn r.2.2.1.2.2.2.2.2.1;have hh:=hr.h;unfold stepV;split
  ·exact(Sz.cons (by decide) (.cons hi (.nil (k:=0)))).mono (by decide) (by decide)
  split
  ·exact(Sz.cons (by decide) (.cons hi (.nil (k:=0)))).mono (by decide) (by decide)
  split
  ·exact(Sz.cons (by decide) (hs _)).mono (by decide) (by decide)
  split
  ·exact(Sz.cons (by decide) (hs _)).mono (by decide) (by decide)
  split
  ·have hz:=qvm hn.sn r.2.2.1.2.2.2.2.2.1;exact(Sz.cons (by decide) (.cons hw ((hp _).app ((hp _).app ⟨zA hz.1 hr.h,fun x hx=>zA (hz.2 x hx) (by decide)⟩)))).mono (by decide) (by decide)
  split
  ·exact(Sz.cons (by decide) (.cons hw (.nil (k:=0)))).mono (by decide) (by decide)
  ·exact .nil
 split
 ·refine(Sz.cons (by decide) ((Sz.bif fun hb=>?_).app (.cons hr.n (.cons (zA (qbe hr.e) (by decide)) (.nil (k:=0)))))).mono (by decide) (by decide)
  have:=ixB_t hb;have hm:∀x∈kindL,x.length<=100000:=by decide
  exact hm _ (gmem (by simp; omega))
 ·exact .nil
theorem qvn{n:Net}(hn:NB n){r:Rec}(hr:RcI r):qdb n r=some (joinS (recV n r),recB n r):=by
 refine ok_eq ?_
 have hz:=qxA hn hr;unfold qdb;refine oE (a:=(false,[])) rfl (oE (qyI hn hr.j) (oE (qxz hz.l hz.x) (.ret (Prod.ext rfl ?_))))
 exact zg2 _
/-! ### The reference's numbers -/
theorem rdig:∀(m k a:Nat),a<10^(m+1)->a<=9223372036854775808->m<=100->qd4 (k+m+1) (-(a:Int))=some (Lib.decDigits a):=by
 have hc:∀a:Nat,a<10->qbK [wu8 (wi64 (48+(a:Int)))]=[UInt8.ofNat (48+a)]:=fun a ha=>by
  rw[wi (by omega),show wu8 (48+(a:Int))=48+(a:Int) from IntWalk.u8_in _ (by omega)]
  show [UInt8.ofNat (48+(a:Int)).toNat]=_;rw[show(48+(a:Int)).toNat=48+a by omega]
 intro m;induction m with
 | zero=>
  intro k a ha _ _;have ha:a<10:=by simpa using ha
  show qfj (qd4 (k+0)) (-(a:Int))=_;unfold qfj;rw[dec_t,zb,Lib.decDigits_one ha,show(48:Int) - -(a:Int)=48+(a:Int) by omega,hc a ha]
 | succ m ih=>
  intro k a ha hb hm;show qfj (qd4 (k+(m+1))) (-(a:Int))=_;unfold qfj;by_cases h:a<10
  ·rw[dec_t,zb,Lib.decDigits_one h,show(48:Int) - -(a:Int)=48+(a:Int) by omega,hc a h]
  ·have e1:Int.tdiv (-(a:Int)) 10=-((a/10:Nat):Int):=by rw[Int.neg_tdiv,Int.tdiv_eq_ediv_of_nonneg (by omega)]; omega
   have e2:Int.tmod (-(a:Int)) 10=-((a%10:Nat):Int):=by rw[Int.neg_tmod,Int.tmod_eq_emod_of_nonneg (by omega)]; omega
   have hd:a/10<10^(m+1):=zV2 (by rw[Nat.pow_succ,zd2] at ha; exact ha)
   have hl:=qsW m (a/10) hd;have hx:Lib.decDigits a=Lib.decDigits (a/10)++[UInt8.ofNat (48+a%10)]:=by rw[Lib.decDigits,dif_neg h]
   rw[dec_f,zc,e1,wi (by omega),show k+(m+1)=k+m+1 by omega,ih k (a/10) hd (by omega) (by omega),z7,e2,show(48:Int) - -((a%10:Nat):Int)=48+((a%10:Nat):Int) by omega,hc _ (by omega),gd_t,hx]
   exact zj1 (by simp; omega)
theorem qbE{n:Int}(h:i64P n):qag n=some (Lib.itoa n):=by
 obtain⟨h1,h2⟩:=h;have hd:qmq (-(n.natAbs:Int))=some (Lib.decDigits n.natAbs):=rdig 18 18446744073709551597 n.natAbs (by omega) (by omega) (by decide)
 have hl:=qsW 18 n.natAbs (by omega)
 unfold qag;rw[qqg];by_cases hn:n<0
 ·rw[dec_t hn,zb,if_pos hn];rw[show -(n.natAbs:Int)=n by omega] at hd
  rw[hd,z7,gd_t (zj1 (by simp only[zO]; omega))]; rfl
 ·rw[dec_f hn,zc,if_neg hn,wi (by omega)]
  rw[show -(n.natAbs:Int)=0-n by omega] at hd
  rw[hd]; rfl
theorem qnt(n:Int):qdh n=some (smI n):=qjT rfl
theorem rsame0(s:Stp):qbl s (0,0,0,0,0,[],0)=some (noB s):=by
 refine Eq.trans ?_ (qqH s)
 unfold qfX;generalize qbl s _=x;cases x <;> rfl
theorem qfq(x:Str):joinS [x]=x:=by
 show List.intercalate [32] [x]=x;simp[List.intercalate]
theorem dle_n(a b:Int):decide (a<=b)=!decide (b<a):=by
 rw[<-zM2]; exact zL1.2 (by omega)
theorem qjU{n:Int}(h:smI n=true):i64P n:=by
 have:=smI_t h;exact⟨by omega,by omega⟩
theorem ble_t{a b:Nat}(h:a<=b):Nat.ble a b=true:=zj1 h
theorem qlb{p:List Str}(hp:p≠[])(x:Str):(joinS p++[32])++x=joinS (p++[x]):=by
 rw[qtP x hp,zw]; rfl
theorem rvals(r:Rec):∀(t:List Int) (k:Nat) (p:List Str),p≠[]->r.2.1.drop k=t->k+t.length=r.2.1.length->r.2.1.length<=100000->(joinS p).length<=100*(k+1)->
  ∃e,iter (fun x=>qbt r x.1 x.2) (joinS p,(k:Int))=some e/\Sum.elim id id e=bif t.all smI then joinS (p++t.map Lib.itoa) else []
 | [],k,p,hp,h,h2,hl,hj=>by
  refine⟨.inl (joinS p),qas ?_,?_⟩
  ·show qbt r (joinS p) (k:Int)=_;unfold qbt;rw[dec_f (by simp at h2; omega)]; rfl
  ·rw[zK1,zG]; rfl
 | x::t,k,p,hp,he,h2,hl,hj=>by
  have h2':k+t.length+1=r.2.1.length:=by rw[zf] at h2; omega
  have hk:k<r.2.1.length:=by omega
  have hd:=z51 hk;rw[he] at hd;have hg:r.2.1.getD k 0=x:=by
   rw[zk,zj hk];exact(zX1 hd).1.symm
  rw[z41];cases hs:smI x
  ·refine⟨.inr [],qas ?_,rfl⟩
   show qbt r (joinS p) (k:Int)=_;unfold qbt;rw[dec_t,zb,gd_t (inB_t hk),za,hg,qnt,z7,hs]; rfl
  ·have hx:=qdx hs;have h1:qbt r (joinS p) (k:Int)=some (.inl (joinS (p++[Lib.itoa x]),((k+1:Nat):Int))):=by
    unfold qbt;rw[dec_t,zb,gd_t (inB_t hk),za,hg,qnt,z7,hs]
    show gd _ _=_;rw[gd_t (ble_t (by simp only[zO]; omega)),gd_t (inB_t hk),qbE (qjU hs),z7,gd_t (ble_t (by simp only[ze,zO]; omega)),w1 hk,qlb hp]
   obtain⟨e,e1,e2⟩:=rvals r t (k+1) (p++[Lib.itoa x]) (by simp) (zX1 hd).2.symm (by omega) hl (by
    rw[<-qlb hp]; simp only[ze,zO]; omega)
   refine⟨e,(qaJ h1).trans e1,e2.trans ?_⟩
   rw[zw]; rfl
theorem elimS(z:Str⊕Str):z.elim (fun s4=>some s4) (fun s5=>some s5)=some (Sum.elim id id z):=by cases z <;> rfl
theorem qE5{r:Rec}(h1:r.1=1)(n:Net):qhf r=some (bif recB n r then joinS (recV n r) else []):=by
 refine ok_eq ?_
 unfold recB recV;rw[if_pos h1,if_pos h1];unfold qhf;refine oE (a:=!noB r.2.2.1 || (!noE r.2.2.2 || (decide ((r.2.1.length:Int)<5) || decide (21<(r.2.1.length:Int))))) ?_ ?_
 ·exact ok_eq (oE (rsame0 r.2.2.1) ⟨_,qei (qei (qei rfl)),rfl⟩)
 rw[show decide ((r.2.1.length:Int)<5)=!decide (5<=r.2.1.length) by rw[<-zM2]; exact zL1.2 (by omega),
  show decide (21<(r.2.1.length:Int))=!decide (r.2.1.length<=21) by rw[<-zM2]; exact zL1.2 (by omega)]
 cases noB r.2.2.1
 ·exact .ret rfl
 cases noE r.2.2.2
 ·exact .ret rfl
 cases h5:decide (5<=r.2.1.length)
 ·exact .ret rfl
 cases h21:decide (r.2.1.length<=21)
 ·exact .ret rfl
 have h21:=zx h21;obtain⟨e,e1,e2⟩:=rvals r r.2.1 0 [cTele] (by simp) rfl (by omega) (by omega) (by rw[qfq]; decide)
 rw[qfq] at e1;show Ok ((iter _ _).bind _) _;refine oE e1 ?_
 exact⟨_,elimS e,e2⟩
theorem rhops(n:Net)(s:Stp)(hN:∀i,(segN n i).length<=1000):∀(t:List Hop) (k:Nat) (p:List Str),p≠[]->s.2.2.2.2.2.1.drop k=t->k+t.length=s.2.2.2.2.2.1.length->s.2.2.2.2.2.1.length<=100000->(joinS p).length<=10000*(k+1)->
  ∃e,iter (fun x=>qc8 n s x.1 x.2) (joinS p,(k:Int))=some e/\Sum.elim id id e=bif hopsB n t then joinS (p++hopsV n t) else []
 | [],k,p,hp,h,h2,hl,hj=>by
  refine⟨.inl (joinS p),qas ?_,?_⟩
  ·show qc8 n s (joinS p) (k:Int)=_;unfold qc8;rw[dec_f (by simp at h2; omega)]; rfl
  ·unfold hopsV; rw[zG]; rfl
 | x::t,k,p,hp,he,h2,hl,hj=>by
  have h2':k+t.length+1=s.2.2.2.2.2.1.length:=by rw[zf] at h2; omega
  have hk:k<s.2.2.2.2.2.1.length:=by omega
  have hd:=z51 hk;rw[he] at hd;have hg:s.2.2.2.2.2.1.getD k (0,false)=x:=by
   rw[zk,zj hk];exact(zX1 hd).1.symm
  unfold hopsB hopsV;rw[z41];have hb:(bif decide (x.1<0) then some true else some (decide ((n.2.1.length:Int)<=x.1)))=some (!ixB x.1 n.2.1.length):=by
   unfold ixB;rw[dlt_n x.1 0,dle_n (n.2.1.length:Int) x.1,Bool.not_and]; exact qei rfl
  have hx:=hN x.1;cases hs:ixB x.1 n.2.1.length
  ·refine⟨.inr [],qas ?_,rfl⟩
   show qc8 n s (joinS p) (k:Int)=_;unfold qc8;rw[dec_t,zb,gd_t (inB_t hk),za,hg,hb,z7,hs]; rfl
  ·have h1:qc8 n s (joinS p) (k:Int)=some (.inl (joinS (p++[hopV n x]),((k+1:Nat):Int))):=by
    unfold qc8;rw[dec_t,zb,gd_t (inB_t hk),za,hg,hb,z7,hs]
    have hx':(n.2.1.getD x.1.toNat ([],0,0,0,0,0,[])).1.length<=1000:=hx;have h45:(bif x.2 then([45]:Str) else []).length<=1:=by cases x.2 <;> simp
    refine ok_eq (oG (ble_t (by simp only[zO]; omega)) (oE (a:=(joinS p++[32])++bif x.2 then([45]:Str) else []) ?_ (oG (qsY hs) (oG (ble_t ?_) (.ret ?_)))))
    ·cases x.2
     ·exact congrArg some (zG _).symm
     ·exact gd_t (ble_t (by simp only[ze,zO]; omega))
    ·simp only[ze,zO] at h45 ⊢;omega
    ·rw[<-qlb hp,w1 hk]
     unfold hopV segN;cases x.2
     ·rw[zc,zc,zG]
     ·rw[zb,zb,zw (joinS p++[32])]; rfl
   have hv:(hopV n x).length<=1001:=by
    unfold hopV;cases x.2
    ·rw[zc]; omega
    ·rw[zb,zf]; omega
   obtain⟨e,e1,e2⟩:=rhops n s hN t (k+1) (p++[hopV n x]) (by simp) (zX1 hd).2.symm (by omega) hl (by
    rw[<-qlb hp]; simp only[ze,zO]; omega)
   refine⟨e,(qaJ h1).trans e1,e2.trans ?_⟩
   rw[zw]; rfl
theorem qBM{n:Net}(hn:NB n)(s:Stp):qm9 n s=some (bif decide (s.2.2.2.2.2.2=0)&&flowB n s then joinS (flowV n s) else []):=by
 refine ok_eq ?_
 unfold qm9;refine oE (a:=!decide (s.2.1=0) || (!decide (s.2.2.2.2.2.2=0) || (!smI s.2.2.1 || (decide (s.2.2.2.1<0) || (decide ((n.2.2.1.length:Int)<=s.2.2.2.1) || (decide (s.2.2.2.2.1<0) || (decide ((n.2.2.1.length:Int)<=s.2.2.2.2.1) || decide (32<(s.2.2.2.2.2.1.length:Int))))))))) ?_ ?_
 ·exact qei (qei (ok_eq (oE (qnt _) ⟨_,qei (qei (qei (qei (qei rfl)))),rfl⟩)))
 rw[dlt_n s.2.2.2.1,dle_n (n.2.2.1.length:Int) s.2.2.2.1,dlt_n s.2.2.2.2.1,dle_n (n.2.2.1.length:Int) s.2.2.2.2.1,show decide (32<(s.2.2.2.2.2.1.length:Int))=!decide (s.2.2.2.2.2.1.length<=32) by rw[<-zM2]; exact zL1.2 (by omega)]
 unfold flowB;cases decide (s.2.1=0)
 ·rw[z73,zr2,zr2]; exact .ret rfl
 cases decide (s.2.2.2.2.2.2=0)
 ·exact .ret rfl
 cases hv:smI s.2.2.1
 ·exact .ret rfl
 have hi:(bif ixB s.2.2.2.1 n.2.2.1.length then false else true)=(!decide (0<=s.2.2.2.1) || !decide (s.2.2.2.1<(n.2.2.1.length:Int))):=by unfold ixB; cases decide (0<=s.2.2.2.1) <;> cases decide (s.2.2.2.1<(n.2.2.1.length:Int)) <;> rfl
 have ho:(bif ixB s.2.2.2.2.1 n.2.2.1.length then false else true)=(!decide (0<=s.2.2.2.2.1) || !decide (s.2.2.2.2.1<(n.2.2.1.length:Int))):=by unfold ixB; cases decide (0<=s.2.2.2.2.1) <;> cases decide (s.2.2.2.2.1<(n.2.2.1.length:Int)) <;> rfl
 rw[<-Bool.or_assoc (!decide (0<=s.2.2.2.1)),<-hi,<-Bool.or_assoc (!decide (0<=s.2.2.2.2.1)),<-ho];cases hb1:ixB s.2.2.2.1 n.2.2.1.length
 ·rw[z73,zr2]; exact .ret rfl
 cases hb2:ixB s.2.2.2.2.1 n.2.2.1.length
 ·rw[z73,zr2,zr2]; exact .ret rfl
 cases h32:decide (s.2.2.2.2.2.1.length<=32)
 ·exact .ret rfl
 have h32:=zx h32;have hl:=qdx hv;have hp1:(n.2.2.1.getD s.2.2.2.1.toNat ([],0,0)).1.length<=1000:=hn.pn _;have hp2:(n.2.2.1.getD s.2.2.2.2.1.toNat ([],0,0)).1.length<=1000:=hn.pn _;show Ok ((qag _).bind _) _;refine oE (qbE (qjU hv)) ?_
 refine oG (ble_t (by simp only[zf,zo]; omega)) (oG (ble_t (by simp only[ze,zf,zo]; omega)) (oG (qsY hb1) (oG (ble_t (by simp only[ze,zf,zo]; omega))
  (oG (ble_t (by simp only[ze,zf,zo]; omega)) (oG (qsY hb2) (oG (ble_t (by simp only[ze,zf,zo]; omega)) ?_))))))
 have hj:(((([102,108,111,119,32]++Lib.itoa s.2.2.1)++[32])++((n.2.2.1.getD s.2.2.2.1.toNat ([],0,0)).1))++[32])++((n.2.2.1.getD s.2.2.2.2.1.toNat ([],0,0)).1)=joinS [cFlow,Lib.itoa s.2.2.1,portN n s.2.2.2.1,portN n s.2.2.2.2.1]:=by
  rw[qbD,qbD,qbD,qfq];unfold portN;simp only[zw,zp1,zF]
 obtain⟨e,e1,e2⟩:=rhops n s hn.sn s.2.2.2.2.2.1 0 [cFlow,Lib.itoa s.2.2.1,portN n s.2.2.2.1,portN n s.2.2.2.2.1] (by simp) rfl (by omega) (by omega) (by
  rw[<-hj]; simp only[ze,zf,zo]; omega)
 rw[<-hj] at e1;refine oE e1 ⟨_,elimS e,e2.trans ?_⟩
 unfold flowV portV;rw[hb1,hb2];cases hopsB n s.2.2.2.2.2.1 <;> rfl
/-! ### The names of a network -/
theorem qFX{l:List Str}(h:twL l=false):l.Nodup:=by
 unfold List.Nodup;rw[List.pairwise_iff_getElem];intro i j hi hj hij he;have:twL l=true:=by
  unfold twL;rw[zo2];refine⟨j,zU.2 hj,?_⟩
  rw[zo2];refine⟨i,zU.2 hij,zb1 ?_⟩
  rw[zk,zk,zj hi,zj hj];exact he.symm
 rw[h] at this; cases this
structure NmP(n:Net):Prop where
 nb:NB n
 sf:∀x∈n.2.1,nameB x.1=true
 pf:∀x∈n.2.2.1,nameB x.1=true
 af:∀x∈n.2.2.2.1,nameB x.1=true
 sd:(n.2.1.map (·.1)).Nodup
 pd:(n.2.2.1.map (·.1)).Nodup
 ad:(n.2.2.2.1.map (·.1)).Nodup
theorem qhm{x:Str}(h:nameB x=true):x.length<=12:=(qsX h).2
theorem NmP.of{n:Net}(h:qbs n=0):NmP n:=by
 have hv:=(VNet.of h).small;unfold qbs at h;obtain⟨h1,h⟩:=qoj (by decide) h
 obtain⟨h2,h⟩:=qoj (by decide) h
 cases h3:twB n with
 | true=>rw[h3] at h; cases h
 | false=>
  unfold formB at h2;have h2:=zq.1 h2;unfold twB at h3;rw[z22,zi2] at h3;have h3:=h3.1;have f:∀ {A:Type} (l:List A) (g:A->Str),l.map g∈nmsOf n->(∀x∈l,nameB (g x)=true)/\(l.map g).Nodup:=fun l g hm=>
   ⟨fun x hx=>zq.1 (h2 _ hm) _ (zW.2 ⟨x,hx,rfl⟩),qFX (zM.2 (h3 _ hm))⟩
  have a1:=f n.2.1 (·.1) (by unfold nmsOf; simp)
  have a2:=f n.2.2.1 (·.1) (by unfold nmsOf; simp)
  have a3:=f n.2.2.2.1 (·.1) (by unfold nmsOf; simp)
  have g:∀ {A:Type} (l:List A) (g:A->Str) (d:A),g d=[]->(∀x∈l,nameB (g x)=true)->∀i:Nat,(g (l.getD i d)).length<=1000:=fun l g d hd hl i=>by
   by_cases hi:i<l.length
   ·exact zA (qhm (hl _ (gmem hi))) (by decide)
   ·rw[zk,zy1 (by omega)]
    show(g d).length<=_;rw[hd]; exact zN _
  have b1:=hv.sg; have b2:=hv.po; have b3:=hv.st;exact⟨⟨by omega,by omega,by omega,fun i=>g _ (·.1) sg0 rfl a1.1 _,fun i=>g _ (·.1) po0 rfl a2.1 _,fun i=>g _ (·.1) sta0 rfl a3.1 _⟩,a1.1,a2.1,a3.1,a1.2,a2.2,a3.2⟩
theorem qnu(s:Str):Ac.nameP s=nameB s:=zD1 ((Ac.name_eq s).symm.trans (qsK s))
/-! ### Numbers of a record that has a line -/
theorem ix_sm{i:Int}{n:Nat}(hn:n<=2000)(h:ixB i n=true):smI i=true:=by
 have:=ixB_t h;unfold smI;rw[dec_t,dec_t]; rfl
theorem qyJ{n:Net}(hn:NB n){r:Rec}(h:recB n r=true):RcI r:=by
 have z:i64P 0:=⟨by decide,by decide⟩
 have hno:noB r.2.2.1=true->r.2.2.1.2.1=0/\r.2.2.1.2.2.1=0/\r.2.2.1.2.2.2.2.2.1.length=0:=fun h=>by
  unfold noB at h;simp only[z8,zi] at h;exact⟨h.2.1,h.2.2.1,h.2.2.2.2.2.2⟩
 have hne:noE r.2.2.2=true->r.2.2.2.1=[]/\r.2.2.2.2.1=0/\r.2.2.2.2.2=0:=fun h=>by
  unfold noE at h;simpa only[z8,zi] using h
 unfold recB at h;split at h
 ·simp only[z8,zi,zq] at h;obtain⟨⟨h1,h2⟩,h3,h4,h5⟩:=h;obtain⟨a1,a2,a3⟩:=hno h1;obtain⟨b1,b2,b3⟩:=hne h2;exact⟨by omega,fun x hx=>qjU (h5 x hx),by rw[a1]; exact z,by rw[a2]; exact z,by omega,by rw[b1]; decide,by rw[b2]; exact z,by rw[b3]; exact z⟩
 split at h
 ·simp only[z8,zi] at h;obtain⟨⟨h1,h2⟩,h3⟩:=h;obtain⟨b1,b2,b3⟩:=hne h2;have hv:∀x∈r.2.1,i64P x:=fun x hx=>by rw[zm1.1 h1] at hx; cases hx
  unfold stepB at h3;simp only[z8,zi1,zi] at h3;obtain⟨⟨_,h4⟩,h5⟩:=h3;have hsp:=hn.s; have hpp:=hn.p; have hap:=hn.a;have hh:r.2.2.1.1≠5->r.2.2.1.2.2.2.2.2.1.length<=100000:=fun h=>by
   have:=h4.resolve_left h;unfold bareB at this;simp only[z8,zi] at this;omega
  have key:i64P r.2.2.1.2.1/\i64P r.2.2.1.2.2.1/\r.2.2.1.2.2.2.2.2.1.length<=100000:=by
   unfold qgK at h5;split at h5
   ·simp only[z8,zi] at h5;exact⟨qjU h5.2.1,by rw[h5.2.2]; exact z,hh (by omega)⟩
   split at h5
   ·simp only[z8,zi] at h5;exact⟨qjU (ix_sm (by omega) h5.1),by rw[h5.2]; exact z,hh (by omega)⟩
   split at h5
   ·unfold flowB at h5;simp only[z8,zi] at h5;exact⟨by rw[h5.2.1]; exact z,qjU h5.1,by omega⟩
   split at h5
   ·simp only[z8,zi] at h5;exact⟨by rw[h5.2]; exact z,qjU h5.1,hh (by omega)⟩
   ·cases h5
  exact⟨by omega,hv,key.1,key.2.1,key.2.2,by rw[b1]; decide,by rw[b2]; exact z,by rw[b3]; exact z⟩
 split at h
 ·simp only[z8,zi] at h;obtain⟨⟨h1,h2⟩,h3⟩:=h;obtain⟨a1,a2,a3⟩:=hno h2;unfold entB at h3;simp only[z8] at h3;have h4:=ixB_t h3.1;have h5:=h3.2.1;rw[qnu] at h5;have h6:=qhm h5;exact⟨by omega,fun x hx=>(by rw[zm1.1 h1] at hx; cases hx),by rw[a1]; exact z,by rw[a2]; exact z,by omega,by omega,⟨by omega,by omega⟩,qjU h3.2.2⟩
 ·cases h
/-! ### The reference -/
theorem rnoB(p:Pth):noB (0,0,0,p)=(decide (p.1=0)&&(decide (p.2.1=0)&&(decide (p.2.2.2=0)&&decide (p.2.2.1.length=0)))):=rfl
theorem qvo(s:Stp):qkj s=some (noB (0,0,0,s.2.2.2)):=ok_eq (oE (rsame0 (0,0,0,s.2.2.2)) (.ret rfl))
theorem qvp(s:Stp)(h:¬s.1=5):preB s=noB (0,0,0,s.2.2.2):=by
 rw[rnoB];unfold preB bareB;rw[dec_f h];generalize decide (s.2.2.2.1=0)=a;generalize decide (s.2.2.2.2.1=0)=b;generalize decide (s.2.2.2.2.2.2=0)=c;generalize decide (s.2.2.2.2.2.1.length=0)=d;cases a <;> cases b <;> cases c <;> cases d <;> rfl
theorem qfr(a b:Str):joinS [a,b]=a++32::b:=by rw[qbD,qfq]
theorem bB1:∀a b v p:Bool,(!a || (!b || (!v || !p)))=!(p&&((a&&b)&&v)):=by decide
theorem bB2:∀a p v:Bool,(!a || (!p || !v))=!(p&&(v&&a)):=by decide
theorem qBN{n:Net}(hn:NB n)(s:Stp):qna n s=some (bif stepB n s then joinS (stepV n s) else []):=by
 have hn1:=hn.s; have hn2:=hn.p; have hn3:=hn.a;have e0:stepB n s=(preB s&&qgK n s):=rfl;rw[e0];refine ok_eq ?_
 unfold qna;refine oE (a:=decide (s.1=1) || decide (s.1=2)) (by cases decide (s.1=1) <;> rfl) ?_
 refine oI (fun h12=>?_) fun h12=>?_
 ·have hk:s.1=1\/s.1=2:=by simpa using h12
  rw[qvp s (by omega)]
  refine oE (a:=!(noB (0,0,0,s.2.2.2)&&((decide (0<=s.2.1)&&decide (s.2.1<((n.2.1.length+n.2.2.1.length:Nat):Int)))&&decide (s.2.2.1=0)))) ?_ ?_
  ·rw[<-bB1,dlt_n s.2.1 0,show(!decide (s.2.1<((n.2.1.length+n.2.2.1.length:Nat):Int)))=decide (((n.2.1.length+n.2.2.1.length:Nat):Int)<=s.2.1) from(dle_n _ _).symm]
   refine qei (ok_eq (oE (a:=((n.2.1.length+n.2.2.1.length:Nat):Int)) ?_ ⟨_,qei (qei (ok_eq (oE (qvo s) (.ret rfl)))),rfl⟩))
   exact congrArg some ((wi (n:=(n.2.1.length:Int)+(n.2.2.1.length:Int)) (by omega)).trans (by omega))
  have e1:qgK n s=((decide (0<=s.2.1)&&decide (s.2.1<((n.2.1.length+n.2.2.1.length:Nat):Int)))&&decide (s.2.2.1=0)):=by
   unfold qgK;rw[if_pos hk];show(ixB s.2.1 (n.2.1.length+n.2.2.1.length)&&(smI s.2.1&&decide (s.2.2.1=0)))=(ixB s.2.1 (n.2.1.length+n.2.2.1.length)&&decide (s.2.2.1=0));cases hb:ixB s.2.1 (n.2.1.length+n.2.2.1.length)
   ·rfl
   ·rw[ix_sm (by omega) hb]; rfl
  rw[<-e1];cases hB:(noB (0,0,0,s.2.2.2)&&qgK n s)
  ·exact .ret rfl
  rw[e1] at hB;simp only[z8,zi] at hB;show Ok (gd _ _) _;have hl:=qbe (n:=s.2.1) ⟨by omega,by omega⟩
  refine oG (qar.2 (by rcases hk with h | h <;> rw[h] <;> decide)) (oE (qbE ⟨by omega,by omega⟩) (oG (ble_t ?_) (.ret ?_)))
  ·rcases hk with h | h <;> rw[h]
   ·show 5+(Lib.itoa s.2.1).length<=9223372036854775807; omega
   ·show 6+(Lib.itoa s.2.1).length<=9223372036854775807; omega
  ·unfold stepV;rcases hk with h | h
   ·rw[if_pos h,h]; exact(qfr cOpen (Lib.itoa s.2.1)).symm
   ·rw[if_neg (by omega),if_pos h,h]; exact(qfr qok (Lib.itoa s.2.1)).symm
 have hk:¬(s.1=1\/s.1=2):=by simpa using h12
 refine oE (a:=decide (s.1=3) || decide (s.1=4)) (by cases decide (s.1=3) <;> rfl) ?_
 refine oI (fun h34=>?_) fun h34=>?_
 ·have hk3:s.1=3\/s.1=4:=by simpa using h34
  rw[qvp s (by omega)]
  refine oE (a:=!(noB (0,0,0,s.2.2.2)&&((decide (0<=s.2.1)&&decide (s.2.1<(n.2.2.2.1.length:Int)))&&decide (s.2.2.1=0)))) ?_ ?_
  ·rw[<-bB1,dlt_n s.2.1 0,show(!decide (s.2.1<(n.2.2.2.1.length:Int)))=decide ((n.2.2.2.1.length:Int)<=s.2.1) from(dle_n _ _).symm]
   exact qei (qei (qei (ok_eq (oE (qvo s) (.ret rfl)))))
  have e1:qgK n s=((decide (0<=s.2.1)&&decide (s.2.1<(n.2.2.2.1.length:Int)))&&decide (s.2.2.1=0)):=by
   unfold qgK;rw[if_neg hk,if_pos hk3]; rfl
  rw[<-e1];cases hB:(noB (0,0,0,s.2.2.2)&&qgK n s)
  ·exact .ret rfl
  rw[e1] at hB;simp only[z8,zi] at hB;show Ok (gd _ _) _;have hp:(n.2.2.2.1.getD s.2.1.toNat ([],0,0,0,0)).1.length<=1000:=hn.an _;have hb:ixB s.2.1 n.2.2.2.1.length=true:=by unfold ixB; rw[dec_t hB.2.1.1,dec_t hB.2.1.2]; rfl
  rw[wi (by omega)]
  refine oG (qar.2 (by rcases hk3 with h | h <;> rw[h] <;> decide)) (oG (qsY hb) (oG (ble_t ?_) (.ret ?_)))
  ·rcases hk3 with h | h <;> rw[h]
   ·show 6+_<=_; omega
   ·show 5+_<=_; omega
  ·unfold stepV staV;rw[hb];rcases hk3 with h | h
   ·rw[if_neg (by omega),if_neg (by omega),if_pos h,h]; exact(qfr qjA (staN n s.2.1)).symm
   ·rw[if_neg (by omega),if_neg (by omega),if_neg (by omega),if_pos h,h]; exact(qfr cStop (staN n s.2.1)).symm
 have hk3:¬(s.1=3\/s.1=4):=by simpa using h34
 unfold qgK stepV;rw[if_neg hk,if_neg hk3,if_neg (show ¬s.1=1 by omega),if_neg (show ¬s.1=2 by omega),if_neg (show ¬s.1=3 by omega),if_neg (show ¬s.1=4 by omega)]
 refine oI (fun h6=>?_) fun h6=>?_
 ·have h6:=zx h6;rw[if_neg (show ¬s.1=5 by omega),if_neg (show ¬s.1=5 by omega),if_pos h6,if_pos h6,qvp s (by omega)]
  refine oE (a:=!(noB (0,0,0,s.2.2.2)&&(smI s.2.2.1&&decide (s.2.1=0)))) ?_ ?_
  ·rw[<-bB2];exact qei (ok_eq (oE (qvo s) ⟨_,qei (ok_eq (oE (qnt _) (.ret rfl))),rfl⟩))
  cases hB:(noB (0,0,0,s.2.2.2)&&(smI s.2.2.1&&decide (s.2.1=0)))
  ·exact .ret rfl
  simp only[z8] at hB;have hl:=qdx hB.2.1;show Ok ((qag _).bind _) _;refine oE (qbE (qjU hB.2.1)) (oG (ble_t ?_) (.ret (qfr cWait (Lib.itoa s.2.2.1)).symm))
  show 5+_<=_; omega
 have h6:=zh1 h6;rw[if_neg h6,if_neg h6];refine oI (fun h5=>?_) fun h5=>?_
 ·have h5:=zx h5;rw[if_pos h5,if_pos h5];refine oE (qBM hn s) (.ret ?_)
  unfold preB;rw[dec_t h5,Bool.true_or,zk2]
 have h5:=zh1 h5;rw[if_neg h5,zr2];exact .ret rfl
theorem bB3:∀a b m s:Bool,(!a || (!b || (!m || !s)))=!((a&&b)&&(m&&s)):=by decide
theorem qzz(e:Ent3):qkY e=some (bif entB e then joinS (entV e) else []):=by
 refine ok_eq ?_
 unfold qkY;have ei:ixB (e.2.1-1) 4=(decide (1<=e.2.1)&&decide (e.2.1<=4)):=by
  unfold ixB;rw[show decide (0<=e.2.1-1)=decide (1<=e.2.1) from zL1.2 (by omega),show decide (e.2.1-1<((4:Nat):Int))=decide (e.2.1<=4) from zL1.2 (by omega)]
 have e1:entB e=((decide (1<=e.2.1)&&decide (e.2.1<=4))&&(Ac.nameP e.1&&smI e.2.2)):=by unfold entB; rw[ei]
 refine oE (a:=!entB e) ?_ ?_
 ·rw[e1,<-bB3,dlt_n e.2.1 1,dlt_n 4 e.2.1];exact qei (qei (ok_eq (oE (Ac.rname_eq e.1) ⟨_,qei (ok_eq (oE (qnt _) (.ret rfl))),rfl⟩)))
 cases hB:entB e
 ·exact .ret rfl
 unfold entB at hB;simp only[z8] at hB;obtain⟨hb,hm,hs⟩:=hB;have hi:=ixB_t hb;rw[qnu] at hm;have hn:=qhm hm;have hl:=qdx hs;have hk:(kindL.getD e.2.1.toNat []).length<=9:=by
  have hm:∀x∈kindL,x.length<=9:=by decide
  exact hm _ (gmem (by simp; omega))
 rw[zg,zc];refine oE (a:=kindL) rfl (oG (qar.2 (by simp; omega)) (oG (ble_t ?_) (oG (ble_t ?_) (oG (ble_t ?_) (oG (ble_t ?_) (oE (qbE (qjU hs)) (oG (ble_t ?_) (.ret ?_))))))))
 ·simp only[zf,zo]; omega
 ·simp only[ze,zf,zo]; omega
 ·simp only[ze,zf,zo]; omega
 ·simp only[ze,zf,zo]; omega
 ·simp only[ze,zf,zo]; omega
 ·unfold entV;rw[hb];show _=joinS [qcO,kindL.getD e.2.1.toNat [],e.1,Lib.itoa e.2.2];rw[qbD,qbD,qbD,qfq];simp only[zw,zp1,zF]
theorem qDf{a:Str}(h:a≠[]):∀r:List Str,joinS (a::r)≠[]
 | []=>by rw[qfq]; exact h
 | b::r=>by rw[qbD]; simp
theorem qE6{n:Net}{r:Rec}(h:recB n r=true):∃c w,recV n r=c::w/\c≠[]:=by
 unfold recB at h;unfold recV;split at h
 ·rename_i h1;rw[if_pos h1];exact⟨_,_,rfl,by decide⟩
 rename_i h1;rw[if_neg h1];split at h
 ·rename_i h2;rw[if_pos h2];simp only[z8] at h;have h:=h.2;unfold stepB qgK at h;unfold stepV;split
  ·exact⟨_,_,rfl,by decide⟩
  split
  ·exact⟨_,_,rfl,by decide⟩
  split
  ·exact⟨_,_,rfl,by decide⟩
  split
  ·exact⟨_,_,rfl,by decide⟩
  split
  ·exact⟨_,_,rfl,by decide⟩
  split
  ·exact⟨_,_,rfl,by decide⟩
  ·rw[if_neg (by omega),if_neg (by omega),if_neg (by assumption),if_neg (by assumption),zr2] at h
   cases h
 rename_i h2;rw[if_neg h2];split at h
 ·rename_i h3;rw[if_pos h3];exact⟨_,_,rfl,by decide⟩
 ·cases h
theorem qBO{n:Net}(hn:NB n){r:Rec}(hr:RcI r):(joinS (recV n r)).length<=100000000000:=by
 have hz:=qxA hn hr;have h3:=qsV hz.x;have h4:=qns (recV n r);have h5:(recV n r).length*100000<=200000*100000:=zD _ hz.l;have:=hz.l;omega
def fmtS(n:Net)(r:Rec):Str×Int:=bif recB n r then(joinS (recV n r)++[10],0) else([],28)
theorem qtR{n:Net}(h0:qbs n=0)(r:Rec):qfW n r=some (fmtS n r):=by
 have hn:=(NmP.of h0).nb;refine ok_eq ?_
 unfold qfW;refine oE (qcL n) ?_
 rw[dec_t h0];show Ok (Option.bind _ _) _;refine oE (a:=bif recB n r then joinS (recV n r) else []) ?_ ?_
 ·by_cases h1:r.1=1
  ·rw[dec_t h1,zb];exact ok_eq (oE (qE5 h1 n) (.ret rfl))
  rw[dec_f h1,zc];unfold recB recV;rw[if_neg h1,if_neg h1];refine ok_eq (oE (a:=_) (?_:_=some _) (.ret rfl))
  by_cases h2:r.1=2
  ·rw[dec_t h2,zb,if_pos h2,if_pos h2,dlen0];refine ok_eq (oE (qjT rfl) (oE (a:=_) (?_:_=some _) (.ret rfl)))
   show(bif decide (r.2.1.length=0)&&noE r.2.2.2 then _ else _)=_;cases(decide (r.2.1.length=0)&&noE r.2.2.2)
   ·rfl
   ·exact ok_eq (oE (qBN hn r.2.2.1) (.ret rfl))
  rw[dec_f h2,zc,if_neg h2,if_neg h2];refine ok_eq (oE (a:=_) (?_:_=some _) (.ret rfl))
  by_cases h3:r.1=3
  ·rw[dec_t h3,zb,if_pos h3,if_pos h3,dlen0];refine ok_eq (oE (qjT (ok_eq (oE (rsame0 r.2.2.1) (.ret rfl)))) (oE (a:=_) (?_:_=some _) (.ret rfl)))
   cases(decide (r.2.1.length=0)&&noB r.2.2.1)
   ·rfl
   ·exact ok_eq (oE (qzz r.2.2.2) (.ret rfl))
  rw[dec_f h3,zc,if_neg h3,if_neg h3]; rfl
 ·unfold fmtS;cases hB:recB n r
  ·exact .ret rfl
  ·obtain⟨c,w,e,hc⟩:=qE6 hB;have hl:=qBO hn (qyJ hn hB);have hne:joinS (recV n r)≠[]:=by rw[e]; exact qDf hc w
   show Ok (bif decide (joinS (recV n r)=[]) then _ else _) _;rw[dec_f hne];exact oG (ble_t (by show(joinS (recV n r)).length+1<=_; omega)) (.ret rfl)
theorem qBP{n:Net}(h0:qbs n=0){r:Rec}(hr:RcI r):qdd n r=some (fmtS n r):=by
 have hn:=(NmP.of h0).nb;refine ok_eq ?_
 unfold qdd fmtS;refine oE (qcK n) ?_
 rw[dec_t h0];refine oE (qvn hn hr) ?_
 cases hB:recB n r
 ·exact .ret rfl
 ·have hl:=qBO hn hr;exact oG (ble_t (by show(joinS (recV n r)).length+1<=_; omega)) (.ret rfl)
theorem qvq{A B:Type}(l:List A)(d:A)(g:A->B){step:Int×List B->Option ((Int×List B)⊕List B)}
  (hs:∀(k:Nat) (out:List B),k<l.length->out.length=k->step ((k:Int),out)=some (.inl (((k+1:Nat):Int),out++[g (l.getD k d)])))
  (he:∀out,step ((l.length:Int),out)=some (.inr out)):iter step (0,[])=some (l.map g):=by
 have key:∀(m k:Nat),k+m=l.length->iter step ((k:Int),(l.take k).map g)=some (l.map g):=by
  intro m;induction m with
  | zero=>
   intro k hk;refine qas ?_
   rw[show k=l.length by omega,zF1]; exact he _
  | succ m ih=>
   intro k hk;refine(qaJ (hs k _ (by omega) (by rw[zQ,zm]; omega))).trans ?_
   have:(l.take k).map g++[g (l.getD k d)]=(l.take (k+1)).map g:=by
    rw[zI2 (by omega),zQ1,zk,zj (by omega)]; rfl
   rw[this];exact ih (k+1) (by omega)
 exact key l.length 0 (by omega)
def numI(s:Str):Int:=match Lib.atoiAll s with
 | .ok v=>v
 | _=>0
theorem qdp{l:List Str}(hl:l.length<=1000000)(hx:∀x∈l,x.length<=1000000):qb0 l=some (l.map numI):=by
 refine ok_eq ?_
 unfold qb0;refine oE (a:=l.map numI) (qvq l [] numI (fun k out hk ho=>?_) (fun out=>?_)) (.ret rfl)
 ·show qcY l (k:Int) out=_;have:=hx _ (gmem (d:=[]) hk);unfold qcY;rw[dec_t,zb,gd_t (inB_t hk),za,qvh _ (by omega),z7,w1 hk]
  unfold numI;cases Lib.atoiAll (l.getD k []) <;> exact gd_t (qaF (show(out.length+1)*8<=_ by omega))
 ·show qcY l (l.length:Int) out=_;unfold qcY;rw[dec_f]; rfl
theorem qmP{n:Int}(h:smI n=true):numI (Lib.itoa n)=n:=by
 have h1:=qBJ h;rw[qvh _ (by have:=qdx h; omega)] at h1
 have h1:=zD1 h1;unfold numI;cases he:Lib.atoiAll (Lib.itoa n) <;> rw[he] at h1 <;> simp at h1 ⊢
 exact h1
theorem fidx{A:Type}(l:List A)(d:A)(f:A->Str)(hnd:(l.map f).Nodup){i:Nat}(hi:i<l.length):l.findIdx (fun x=>decide (f x=f (l.getD i d)))=i:=by
 have hlt:l.findIdx (fun x=>decide (f x=f (l.getD i d)))<l.length:=zw2.2 ⟨_,qbu (d:=d) hi,zb1 rfl⟩
 have hg:=List.findIdx_getElem (w:=hlt);rw[zi] at hg;have hg2:=hg.trans (congrArg f (gD_eq (d:=d) hi));have e:(l.map f)[l.findIdx (fun x=>decide (f x=f (l.getD i d)))]'(by simpa using hlt)=(l.map f)[i]'(by simpa using hi):=by
  rw[List.getElem_map,List.getElem_map];exact hg2
 exact(List.getElem_inj hnd).1 e
theorem qEe{n:Net}(h:NmP n){i:Int}(hi:ixB i n.2.1.length=true):qdt n (segN n i)=some i:=by
 obtain⟨h1,h2⟩:=ixB_t hi;have:=h.nb.s;unfold qdt segN;rw[qcJ _ (fun s=>decide (s.1=(n.2.1.getD i.toNat sg0).1)) _ (fun x _=>rfl) (by omega),z7,fidx n.2.1 sg0 (·.1) h.sd (by omega),if_pos (by omega),z03 h1]
theorem qxB{n:Net}(h:NmP n){i:Int}(hi:ixB i n.2.2.1.length=true):qeq n (portN n i)=some i:=by
 obtain⟨h1,h2⟩:=ixB_t hi;have:=h.nb.p;unfold qeq portN;rw[qeM _ (fun s=>decide (s.1=(n.2.2.1.getD i.toNat po0).1)) _ (fun x _=>rfl) (by omega),z7,fidx n.2.2.1 po0 (·.1) h.pd (by omega),if_pos (by omega),z03 h1]
theorem qFY{n:Net}(h:NmP n){i:Int}(hi:ixB i n.2.2.2.1.length=true)(w:List Str):
  qab n.2.2.2.1 (fun h=>(qcj h.1 (staN n i::w)).bind fun y=>some y)=some i:=by
 obtain⟨h1,h2⟩:=ixB_t hi;have:=h.nb.a;unfold staN;rw[qbC _ (fun s=>decide (s.1=(n.2.2.2.1.getD i.toNat sta0).1)) _ (fun x _=>?_) (by omega),fidx n.2.2.2.1 sta0 (·.1) h.ad (by omega),if_pos (by omega),z03 h1]
 unfold qcj;rw[gd_t (inB0 (by simp))]; rfl
theorem qE7{x:Str}(h:nameB x=true):∃a r,x=a::r/\a≠45:=by
 unfold nameB at h;simp only[z8,zd1] at h;cases x with
 | nil=>have:=h.1.1.1; simp at this
 | cons a r=>
  refine⟨a,r,rfl,fun e=>?_⟩
  subst e;have h9:fch 45=true:=h.1.2;revert h9
  decide
def cut45:Str->Str×Bool
 | []=>([],false)
 | a::r=>if a=45 then(r,true) else(a::r,false)
theorem pre45(s:Str)(hl:s.length<=1000000):qeQ s [45]=some (cut45 s):=by
 unfold qeQ qb2 qb1;cases s with
 | nil=>rfl
 | cons a r=>
  rw[dec_t (show(([45]:Str).length:Int)<=((a::r:Str).length:Int) by simp only[zf,zo]; omega),zb,gd_t (by
   unfold cutG; simp only[zf,zo] at hl ⊢; simp; omega),z7]
  show Option.bind (bif !decide ([a]=[45]) then some (a::r,false) else _) _=_;unfold cut45;by_cases h:a=45
  ·subst h;rw[dec_t rfl,zg,zc,gd_t (by unfold cutG; simp only[zf,zo] at hl ⊢; simp; omega)]; rfl
  ·rw[dec_f (by simpa using h)]
   simp only[zu1,zb,z7,if_neg h]
theorem qEf{n:Net}(h:NmP n){x:Hop}(hi:ixB x.1 n.2.1.length=true):qbO n (hopV n x)=some x:=by
 obtain⟨h1,h2⟩:=ixB_t hi;have hf:nameB (segN n x.1)=true:=h.sf _ (gmem (by omega))
 have hl:=qhm hf;obtain⟨a,r,e,ha⟩:=qE7 hf;refine ok_eq ?_
 unfold qbO hopV;cases hb:x.2
 ·rw[zc];refine oE (pre45 _ (by omega)) (oE (a:=x.1) ?_ (.ret ?_))
  ·rw[e,show cut45 (a::r)=(a::r,false) from if_neg ha,<-e]; exact qEe h hi
  ·rw[e,show cut45 (a::r)=(a::r,false) from if_neg ha]; exact Prod.ext rfl hb.symm
 ·rw[zb];refine oE (pre45 _ (by rw[zf]; omega)) (oE (a:=x.1) (qEe h hi) (.ret (Prod.ext rfl hb.symm)))
theorem qws{s:Stp}(h:noB s=true):s=(0,0,0,0,0,[],0):=by
 obtain⟨a,b,c,d,e,f,g⟩:=s;unfold noB at h;simp only[z8,zi,zm1] at h;obtain⟨rfl,rfl,rfl,rfl,rfl,rfl,rfl⟩:=h;rfl
theorem qyK{e:Ent3}(h:noE e=true):e=([],0,0):=by
 obtain⟨a,b,c⟩:=e;unfold noE at h;simp only[z8,zi] at h;obtain⟨rfl,rfl,rfl⟩:=h;rfl
theorem qnv{s:Stp}(h:bareB s=true)(hr:s.2.2.2.2.2.2=0):s=(s.1,s.2.1,s.2.2.1,0,0,[],0):=by
 obtain⟨a,b,c,d,e,f,g⟩:=s;unfold bareB at h;simp only[z8,zi,zm1] at h;obtain⟨rfl,rfl,rfl⟩:=h;cases hr;rfl
theorem qsZ{n:Net}:∀ {l:List Hop},hopsB n l=true->hopsV n l=l.map (hopV n)
 | [],_=>rfl
 | h::r,hb=>by
  unfold hopsB at hb;rw[z41,z8] at hb;unfold hopsV;rw[hb.1,qsZ hb.2]; rfl
theorem qE8{n:Net}(h:NmP n){v i o:Int}{l:List Hop}(hv:smI v=true)(hi:ixB i n.2.2.1.length=true)(ho:ixB o n.2.2.1.length=true)(hl:l.length<=100)(hb:hopsB n l=true):
  qbQ (Lib.itoa v::portN n i::portN n o::l.map (hopV n)) 5 n=some (2,[],(5,0,v,i,o,l,0),[],0,0):=by
 have hbs:=zq.1 hb;refine ok_eq ?_
 unfold qbQ;refine oE (a:=(0,[],0,0,0,0,0,0,[],0,0,[])) rfl (oE rfl ?_)
 refine oE (a:=(2,[],5,0,v,i,o,0,[],0,0,l)) ?_ (.ret rfl)
 refine ok_eq ?_
 unfold qed;have hx:∀x∈(Lib.itoa v::portN n i::portN n o::l.map (hopV n)),x.length<=1000000:=by
  intro x hx;rcases zy.1 hx with rfl | hx
  ·have:=qdx hv; omega
  rcases zy.1 hx with rfl | hx
  ·have:=h.nb.pn i; omega
  rcases zy.1 hx with rfl | hx
  ·have:=h.nb.pn o; omega
  obtain⟨y,_,rfl⟩:=zW.1 hx;have:=h.nb.sn y.1;unfold hopV;cases y.2
  ·rw[zc]; omega
  ·rw[zb,zf]; omega
 refine oE (qdp (by simp; omega) hx) ?_
 refine oG (inB0 (by simp)) (oG (inB_t (i:=1) (by simp)) (oE (qxB h hi) (oG (inB_t (i:=2) (by simp)) (oE (qxB h ho) (oG ?_ (oE (a:=l) ?_ (.ret ?_)))))))
 ·unfold cutG; simp; omega
 ·show iter (fun x=>qaD (Lib.itoa v::portN n i::portN n o::l.map (hopV n)) n x.1 x.2) (0,[])=_
  have hd:(Lib.itoa v::portN n i::portN n o::l.map (hopV n)).drop 3=l.map (hopV n):=rfl;refine(qvq l (0,false) id (fun k out hk ho=>?_) fun out=>?_).trans (by rw[za3])
  ·show qaD _ _ (k:Int) out=_;unfold qaD;rw[hd,zQ,dec_t,zb,gd_t (inB_t hk),za,w1 hk]
   have hg:(l.map (hopV n)).getD k []=hopV n (l.getD k (0,false)):=by
    rw[zk,zk,zH,zj hk]; rfl
   rw[hg,qEf h (hbs _ (gmem hk)),z7,gd_t (qaF (by omega))]; rfl
  ·show qaD _ _ (l.length:Int) out=_;unfold qaD;rw[hd,zQ,dec_f]; rfl
 ·show _=(2,[],5,0,v,i,o,0,[],0,0,l);rw[show((Lib.itoa v::portN n i::portN n o::l.map (hopV n)).map numI).getD 0 0=v from qmP hv]
theorem qyL{k i:Int}(hi:smI i=true):qa5 [Lib.itoa i] k ()=some (2,[],(k,i,0,0,0,[],0),[],0,0):=by
 refine ok_eq ?_
 unfold qa5;refine oE (a:=(2,[],k,i,0,0,0,[],0,[],0,0)) (ok_eq ?_) (.ret rfl)
 unfold qea;refine oE (qdp (by simp) (by have:=qdx hi; simp; omega)) (oG (inB0 (by simp)) (.ret ?_))
 rw[show([Lib.itoa i].map numI).getD 0 0=i from qmP hi]
theorem qE9{i:Int}(hi:smI i=true):qbP [Lib.itoa i] 6 ()=some (2,[],(6,0,i,0,0,[],0),[],0,0):=by
 refine ok_eq ?_
 unfold qbP;refine oE (a:=(2,[],6,0,i,0,0,[],0,[],0,0)) (ok_eq ?_) (.ret rfl)
 unfold qec;refine oE (qdp (by simp) (by have:=qdx hi; simp; omega)) (oG (inB0 (by simp)) (.ret ?_))
 rw[show([Lib.itoa i].map numI).getD 0 0=i from qmP hi]
theorem qtS{n:Net}(h:NmP n){k i:Int}(hi:ixB i n.2.2.2.1.length=true):qaN [staN n i] k n=some (2,[],(k,i,0,0,0,[],0),[],0,0):=by
 refine ok_eq ?_
 unfold qaN;refine oE (a:=(2,[],k,i,0,0,0,[],0,[],0,0)) (ok_eq ?_) (.ret rfl)
 unfold qeb;exact oE (qFY h hi []) (.ret rfl)
theorem qFa{v:List Int}(hl:v.length<=21)(hv:v.all smI=true):qbA (v.map Lib.itoa)=some (1,v,(0,0,0,0,0,[],0),[],0,0):=by
 have hv:=zq.1 hv;refine ok_eq ?_
 unfold qbA;refine oE (qdp (by simp; omega) fun x hx=>?_) (.ret ?_)
 ·obtain⟨y,hy,rfl⟩:=zW.1 hx;have:=qdx (hv y hy); omega
 ·rw[zR2,show v.map (numI∘Lib.itoa)=v by
   conv=>rhs; rw[<-za3 v]
   exact zZ1 fun x hx=>qmP (hv x hx)]
theorem qDg{s:Str}{k v:Int}(hk:1<=k/\k<=4)(hs:s.length<=12)(hv:smI v=true):qbB [kindL.getD k.toNat [],s,Lib.itoa v]=some (3,[],(0,0,0,0,0,[],0),s,k,v):=by
 have hc:k=1\/k=2\/k=3\/k=4:=by omega
 refine ok_eq ?_
 unfold qbB;refine oE (a:=kindL) rfl (oG (inB0 (by simp)) (oE (a:=k) ?_ (oG (inB_t (i:=1) (by simp)) (oE (qdp (by simp) ?_) (oG (inB_t (i:=2) (by simp)) (.ret ?_))))))
 ·show qay kindL (kindL.getD k.toNat [])=_;rw[sidx _ _ (by decide)]
  rcases hc with rfl | rfl | rfl | rfl <;> decide
 ·have:=qdx hv;have hm:∀x∈kindL,x.length<=1000000:=by decide
  have:=hm _ (gmem (l:=kindL) (i:=k.toNat) (d:=[]) (by simp; omega))
  intro x hx;simp only[zy,z82,or_false] at hx;rcases hx with rfl | rfl | rfl <;> omega
 ·show(3,[],(0,0,0,0,0,[],0),s,max 0 k,numI (Lib.itoa v))=_;rw[qmP hv,Int.max_eq_right (by omega)]
structure WOk(x:Str):Prop where
 w:wordB x=true
 l:x.length<=17
theorem WOk.name{x:Str}(h:nameB x=true):WOk x:=⟨(qsX h).1,zA (qsX h).2 (by decide)⟩
theorem WOk.num{n:Int}(h:smI n=true):WOk (Lib.itoa n):=⟨qtQ n,qdx h⟩
theorem WOk.hop{n:Net}(h:NmP n){x:Hop}(hi:ixB x.1 n.2.1.length=true):WOk (hopV n x):=by
 have hf:nameB (segN n x.1)=true:=h.sf _ (gmem (by have:=ixB_t hi; omega))
 have hw:=WOk.name hf;unfold hopV;cases x.2
 ·exact hw
 ·refine⟨?_,by rw[zb,zf]; have:=qhm hf; omega⟩
  have:=hw.w;unfold wordB at this ⊢;rw[z8] at this;rw[zb,z41,this.1]; rfl
structure CmdR(n:Net)(r:Rec)(c:Str)(w:List Str):Prop where
 k:fmHas qes c=true
 ne:w≠[]
 l3:(c=qcO\/c=cFlow)->3<=w.length
 g:cmdG n (c,w,())=some r
 cw:WOk c
 ws:∀x∈w,WOk x
 l:w.length<=35
theorem one_w{x:Str}(h:WOk x):∀y∈[x],WOk y:=fun y hy=>by rw[zZ.1 hy]; exact h
theorem qBQ{n:Net}(h:NmP n){r:Rec}(hB:recB n r=true):∃c w,recV n r=c::w/\CmdR n r c w:=by
 have hk:∀c∈qes,fmHas qes c=true:=by decide
 have hc:∀c∈qes,wordB c=true/\c.length<=17:=by decide
 have hn:=h.nb;obtain⟨k,v,s,e⟩:=r;unfold recB at hB;unfold recV;split at hB
 ·rename_i h1;replace h1:k=1:=h1;subst h1;simp only[z8,zi] at hB;obtain⟨⟨h1,h2⟩,h3,h4,h5⟩:=hB;rw[qws h1,qyK h2];rw[if_pos rfl];refine⟨_,_,rfl,hk _ (by decide),?_,?_,qFa h4 h5,⟨(hc _ (by decide)).1,(hc _ (by decide)).2⟩,fun x hx=>?_,by simp only[zQ]; omega⟩
  ·intro e;have e:v=[]:=List.map_eq_nil_iff.1 e;rw[e] at h3; simp at h3
  ·rintro(e | e) <;> exact absurd e (by decide)
  ·obtain⟨y,hy,rfl⟩:=zW.1 hx;exact .num (zq.1 h5 y hy)
 rename_i h1;rw[if_neg h1];split at hB
 ·rename_i h2;replace h2:k=2:=h2;subst h2;simp only[z8,zi] at hB;obtain⟨⟨h1,h2⟩,h3⟩:=hB;replace h1:v=[]:=zm1.1 h1;subst h1;rw[qyK h2,if_pos rfl];unfold stepB at h3;simp only[z8,zi1,zi] at h3;obtain⟨⟨h4,h5⟩,h6⟩:=h3;unfold qgK at h6;split at h6
  ·rename_i hk12;have hs:=qnv (h5.resolve_left (by omega)) h4
   simp only[z8,zi] at h6;obtain⟨h7,h8,h9⟩:=h6;rw[h9] at hs;rcases hk12 with hq | hq
   ·rw[hq] at hs;rw[hs];exact⟨_,_,rfl,hk cOpen (by decide),by simp,fun e=>by rcases e with e | e <;> exact absurd e (by decide),qyL h8,⟨(hc cOpen (by decide)).1,(hc cOpen (by decide)).2⟩,one_w (.num h8),by simp⟩
   ·rw[hq] at hs;rw[hs];exact⟨_,_,rfl,hk qok (by decide),by simp,fun e=>by rcases e with e | e <;> exact absurd e (by decide),qyL h8,⟨(hc qok (by decide)).1,(hc qok (by decide)).2⟩,one_w (.num h8),by simp⟩
  rename_i hk12;split at h6
  ·rename_i hk34;have hs:=qnv (h5.resolve_left (by omega)) h4
   simp only[z8,zi] at h6;obtain⟨h7,h9⟩:=h6;rw[h9] at hs;have hw:∀y∈[staN n s.2.1],WOk y:=one_w (.name (h.af _ (gmem (by have:=ixB_t h7; omega))))
   have hv:staV n s.2.1=[staN n s.2.1]:=by unfold staV; rw[h7]; rfl
   rcases hk34 with hq | hq
   ·rw[hq] at hs;rw[hs];refine⟨_,_,show stepV n (3,s.2.1,0,0,0,[],0)=qjA::[staN n s.2.1] by show qjA::staV n s.2.1=_; rw[hv],hk qjA (by decide),by simp,fun e=>by rcases e with e | e <;> exact absurd e (by decide),qtS h h7,⟨(hc qjA (by decide)).1,(hc qjA (by decide)).2⟩,hw,by simp⟩
   ·rw[hq] at hs;rw[hs];refine⟨_,_,show stepV n (4,s.2.1,0,0,0,[],0)=cStop::[staN n s.2.1] by show cStop::staV n s.2.1=_; rw[hv],hk cStop (by decide),by simp,fun e=>by rcases e with e | e <;> exact absurd e (by decide),qtS h h7,⟨(hc cStop (by decide)).1,(hc cStop (by decide)).2⟩,hw,by simp⟩
  split at h6
  ·rename_i hk5;unfold flowB at h6;simp only[z8,zi] at h6;obtain⟨g1,g2,g3,g4,g5,g6⟩:=h6;obtain⟨sk,si,sv,pi,po,pl,pr⟩:=s;simp only at hk5 g1 g2 g3 g4 g5 g6 h4;subst hk5 g2 h4;have hv:stepV n (5,0,sv,pi,po,pl,0)=cFlow::(Lib.itoa sv::portN n pi::portN n po::pl.map (hopV n)):=by
    show cFlow::Lib.itoa sv::(portV n pi++(portV n po++hopsV n pl))=_;unfold portV;rw[g4,g5,qsZ g6]; rfl
   refine⟨_,_,hv,hk cFlow (by decide),by simp,fun _=>by simp,qE8 h g1 g4 g5 (by omega) g6,⟨(hc cFlow (by decide)).1,(hc cFlow (by decide)).2⟩,fun x hx=>?_,by simp; omega⟩
   rcases zy.1 hx with rfl | hx
   ·exact .num g1
   rcases zy.1 hx with rfl | hx
   ·exact .name (h.pf _ (gmem (by have:=ixB_t g4; omega)))
   rcases zy.1 hx with rfl | hx
   ·exact .name (h.pf _ (gmem (by have:=ixB_t g5; omega)))
   ·obtain⟨y,hy,rfl⟩:=zW.1 hx;exact .hop h (zq.1 g6 y hy)
  rename_i hk34 hk5;split at h6
  ·rename_i hk6;have hs:=qnv (h5.resolve_left hk5) h4;simp only[z8,zi] at h6;rw[h6.2,hk6] at hs;rw[hs];exact⟨_,_,rfl,hk cWait (by decide),by simp,fun e=>by rcases e with e | e <;> exact absurd e (by decide),qE9 h6.1,⟨(hc cWait (by decide)).1,(hc cWait (by decide)).2⟩,one_w (.num h6.1),by simp⟩
  ·cases h6
 rename_i hk2;rw[if_neg hk2];split at hB
 ·rename_i h3;replace h3:k=3:=h3;subst h3;simp only[z8,zi] at hB;obtain⟨⟨h1,h2⟩,h3⟩:=hB;replace h1:v=[]:=zm1.1 h1;subst h1;rw[qws h2,if_pos rfl];obtain⟨sh,ek,ev⟩:=e;unfold entB at h3;simp only[z8,qnu] at h3;obtain⟨g1,g2,g3⟩:=h3;have g4:=ixB_t g1;have hv:entV (sh,ek,ev)=qcO::[kindL.getD ek.toNat [],sh,Lib.itoa ev]:=by
   unfold entV;simp only;rw[g1]; rfl
  have hm:∀x∈kindL.drop 1,wordB x=true/\x.length<=17:=by decide
  have hm2:kindL.getD ek.toNat []∈kindL.drop 1:=by
   have:ek=1\/ek=2\/ek=3\/ek=4:=by omega
   rcases this with rfl | rfl | rfl | rfl <;> decide
  refine⟨_,_,hv,hk qcO (by decide),by simp,fun _=>by simp,qDg (by omega) (qhm g2) g3,⟨(hc qcO (by decide)).1,(hc qcO (by decide)).2⟩,fun x hx=>?_,by simp⟩
  rcases zy.1 hx with rfl | hx
  ·exact⟨(hm _ hm2).1,(hm _ hm2).2⟩
  rcases zy.1 hx with rfl | hx
  ·exact .name g2
  ·rw[zZ.1 hx]; exact .num g3
 ·cases hB
theorem qBR{n:Net}(h:NmP n){r:Rec}(hB:recB n r=true):(10:UInt8)∉joinS (recV n r)/\(joinS (recV n r)).length<=650/\splB 32 (joinS (recV n r))=recV n r:=by
 obtain⟨c,w,e,hc⟩:=qBQ h hB;rw[e];have hw:∀x∈c::w,WOk x:=fun x hx=>by
  rcases zy.1 hx with rfl | hx
  ·exact hc.cw
  ·exact hc.ws x hx
 have h3:=qsV (w:=c::w) fun x hx=>(hw x hx).l
 have h4:=qns (c::w);have:=hc.l;rw[zf] at h3 h4;exact⟨qyG fun x hx=>(hw x hx).w,by omega,qwr (by simp) fun x hx=>(hw x hx).w⟩
theorem qvr(s:Str):i64P (numI s):=by
 unfold numI;cases h:Lib.atoiAll s with
 | ok v=>exact Lib.atoiAll_bounds h
 | _=>exact⟨by decide,by decide⟩
theorem qBS{k m:Nat}(hm:m<=1000000):i64P (if k<m then(k:Int) else -1):=by
 split
 ·exact⟨by omega,by omega⟩
 ·exact⟨by decide,by decide⟩
theorem i0:i64P 0:=⟨by decide,by decide⟩
theorem RcI.stp{k i v p o:Int}{l:List Hop}(hi:i64P i)(hv:i64P v)(hl:l.length<=100000):RcI (2,[],(k,i,v,p,o,l,0),[],0,0):=
 ⟨zN _,fun x h=>(by cases h),hi,hv,hl,zN _,i0,i0⟩
theorem qBT{w:List Str}(h:w≠[]):i64P ((w.map numI).getD 0 0):=by
 cases w with
 | nil=>exact absurd rfl h
 | cons a r=>exact qvr a
theorem qBU{n:Net}(h:NB n)(x:Str):qdt n x=some (if n.2.1.findIdx (fun s=>decide (s.1=x))<n.2.1.length then((n.2.1.findIdx (fun s=>decide (s.1=x)):Nat):Int) else -1):=by
 have:=h.s;unfold qdt;rw[qcJ _ (fun s=>decide (s.1=x)) _ (fun x _=>rfl) (by omega),z7]
theorem qvs{n:Net}(h:NB n)(x:Str):qeq n x=some (if n.2.2.1.findIdx (fun s=>decide (s.1=x))<n.2.2.1.length then((n.2.2.1.findIdx (fun s=>decide (s.1=x)):Nat):Int) else -1):=by
 have:=h.p;unfold qeq;rw[qeM _ (fun s=>decide (s.1=x)) _ (fun x _=>rfl) (by omega),z7]
theorem qFb{n:Net}(h:NB n){x:Str}(hx:x.length<=1000000):∃y,qbO n x=some y:=by
 refine⟨((if n.2.1.findIdx (fun s=>decide (s.1=(cut45 x).1))<n.2.1.length then((n.2.1.findIdx (fun s=>decide (s.1=(cut45 x).1)):Nat):Int) else -1),(cut45 x).2),ok_eq ?_⟩
 unfold qbO;exact oE (pre45 _ hx) (oE (qBU h _) (.ret rfl))
theorem qwt{w:List Str}{k:Int}(hk:i64P k)(h:w≠[])(hl:w.length<=50000)(hx:∀x∈w,x.length<=50000):∃r,qa5 w k ()=some r/\RcI r:=by
 refine⟨(2,[],(k,(w.map numI).getD 0 0,0,0,0,[],0),[],0,0),ok_eq ?_,?_⟩
 ·unfold qa5;refine oE (a:=(2,[],k,(w.map numI).getD 0 0,0,0,0,[],0,[],0,0)) (ok_eq ?_) (.ret rfl)
  unfold qea;exact oE (qdp (by omega) fun x hm=>by have:=hx x hm; omega) (oG (inB0 (by rw[zQ]; exact zM1.2 h)) (.ret rfl))
 ·exact .stp (qBT h) i0 (zN _)
theorem qDh{w:List Str}(h:w≠[])(hl:w.length<=50000)(hx:∀x∈w,x.length<=50000):∃r,qbP w 6 ()=some r/\RcI r:=by
 refine⟨(2,[],(6,0,(w.map numI).getD 0 0,0,0,[],0),[],0,0),ok_eq ?_,?_⟩
 ·unfold qbP;refine oE (a:=(2,[],6,0,(w.map numI).getD 0 0,0,0,[],0,[],0,0)) (ok_eq ?_) (.ret rfl)
  unfold qec;exact oE (qdp (by omega) fun x hm=>by have:=hx x hm; omega) (oG (inB0 (by rw[zQ]; exact zM1.2 h)) (.ret rfl))
 ·exact .stp i0 (qBT h) (zN _)
theorem qs0{n:Net}(hn:NB n){w:List Str}{k:Int}(h:w≠[]):∃r,qaN w k n=some r/\RcI r:=by
 have:=hn.a;refine⟨(2,([],((k,((if n.2.2.2.1.findIdx (fun s=>decide (s.1=w.getD 0 []))<n.2.2.2.1.length then((n.2.2.2.1.findIdx (fun s=>decide (s.1=w.getD 0 [])):Nat):Int) else -1),0,0,0,[],0)),[],0,0))),ok_eq ?_,?_⟩
 ·unfold qaN;refine oE (a:=(2,[],k,(if n.2.2.2.1.findIdx (fun s=>decide (s.1=w.getD 0 []))<n.2.2.2.1.length then((n.2.2.2.1.findIdx (fun s=>decide (s.1=w.getD 0 [])):Nat):Int) else -1),0,0,0,[],0,[],0,0)) (ok_eq ?_) (.ret rfl)
  unfold qeb;refine oE (qbC _ (fun s=>decide (s.1=w.getD 0 [])) _ (fun x _=>?_) (by omega)) (.ret rfl)
  unfold qcj;rw[gd_t (inB0 (zM1.2 h))]; rfl
 ·exact .stp (qBS (by omega)) i0 (zN _)
theorem qDi{w:List Str}(hl:w.length<=50000)(hx:∀x∈w,x.length<=50000):∃r,qbA w=some r/\RcI r:=by
 refine⟨(1,w.map numI,(0,0,0,0,0,[],0),[],0,0),ok_eq ?_,?_⟩
 ·unfold qbA;exact oE (qdp (by omega) fun x hm=>by have:=hx x hm; omega) (.ret rfl)
 ·refine⟨by simp only[zQ]; omega,fun x hx=>?_,i0,i0,zN _,zN _,i0,i0⟩
  obtain⟨y,_,rfl⟩:=zW.1 hx;exact qvr y
theorem qBV{w:List Str}(h:3<=w.length)(hl:w.length<=50000)(hx:∀x∈w,x.length<=50000):∃r,qbB w=some r/\RcI r:=by
 have hi:=qBS (k:=kindL.findIdx (fun x=>decide (w.getD 0 []=x))) (m:=kindL.length) (by decide)
 refine⟨(3,([],((0,0,0,0,0,[],0),(w.getD 1 [],(max 0 (if kindL.findIdx (fun x=>decide (w.getD 0 []=x))<kindL.length then((kindL.findIdx (fun x=>decide (w.getD 0 []=x)):Nat):Int) else -1),(w.map numI).getD 2 0))))),ok_eq ?_,?_⟩
 ·unfold qbB;exact oE (a:=kindL) rfl (oG (inB0 (by omega)) (oE (sidx _ _ (by decide)) (oG (inB_t (i:=1) (by omega)) (oE (qdp (by omega) fun x hm=>by have:=hx x hm; omega) (oG (inB_t (i:=2) (by rw[zQ]; omega)) (.ret rfl))))))
 ·refine⟨zN _,fun x h=>(by cases h),i0,i0,zN _,?_,?_,?_⟩
  ·have:=hx _ (gmem (l:=w) (i:=1) (d:=[]) (by omega))
   show(w.getD 1 []).length<=_; omega
  ·have h1:=hi.1; have h2:=hi.2;show i64P (max 0 _);exact⟨by omega,by omega⟩
  ·show i64P ((w.map numI).getD 2 0);have:(w.map numI).getD 2 0∈w.map numI:=gmem (by rw[zQ]; omega)
   obtain⟨y,_,e⟩:=zW.1 this;rw[<-e]; exact qvr y
theorem qDj{n:Net}(hn:NB n){w:List Str}(h:3<=w.length)(hl:w.length<=50000)(hx:∀x∈w,x.length<=50000):∃r,qbQ w 5 n=some r/\RcI r:=by
 have hp:=hn.p;have hg:∀x∈w,qbO n x=some ((qbO n x).getD (0,false)):=fun x hm=>by
  obtain⟨y,e⟩:=qFb hn (x:=x) (by have:=hx x hm; omega)
  rw[e]; rfl
 refine⟨(2,([],((5,(0,((w.map numI).getD 0 0,((if n.2.2.1.findIdx (fun s=>decide (s.1=w.getD 1 []))<n.2.2.1.length then((n.2.2.1.findIdx (fun s=>decide (s.1=w.getD 1 [])):Nat):Int) else -1),((if n.2.2.1.findIdx (fun s=>decide (s.1=w.getD 2 []))<n.2.2.1.length then((n.2.2.1.findIdx (fun s=>decide (s.1=w.getD 2 [])):Nat):Int) else -1),((w.drop 3).map (fun x=>(qbO n x).getD (0,false)),0)))))),[],0,0))),ok_eq ?_,?_⟩
 ·unfold qbQ;refine oE (a:=(0,[],0,0,0,0,0,0,[],0,0,[])) rfl (oE rfl ?_)
  refine oE (a:=(2,[],5,0,(w.map numI).getD 0 0,(if n.2.2.1.findIdx (fun s=>decide (s.1=w.getD 1 []))<n.2.2.1.length then((n.2.2.1.findIdx (fun s=>decide (s.1=w.getD 1 [])):Nat):Int) else -1),(if n.2.2.1.findIdx (fun s=>decide (s.1=w.getD 2 []))<n.2.2.1.length then((n.2.2.1.findIdx (fun s=>decide (s.1=w.getD 2 [])):Nat):Int) else -1),0,[],0,0,(w.drop 3).map (fun x=>(qbO n x).getD (0,false)))) ?_ (.ret rfl)
  refine ok_eq ?_
  unfold qed;refine oE (qdp (by omega) fun x hm=>by have:=hx x hm; omega) ?_
  refine oG (inB0 (by rw[zQ]; omega)) (oG (inB_t (i:=1) (by omega)) (oE (qvs hn _) (oG (inB_t (i:=2) (by omega)) (oE (qvs hn _) (oG ?_ (oE (a:=(w.drop 3).map fun x=>(qbO n x).getD (0,false)) ?_ (.ret rfl)))))))
  ·unfold cutG; simp; omega
  ·refine qvq (w.drop 3) [] _ (fun k out hk ho=>?_) fun out=>?_
   ·show qaD w n (k:Int) out=_;unfold qaD;have hm:(w.drop 3).getD k []∈w:=zf2 (gmem hk);have hk2:=hk;rw[zR] at hk2;rw[dec_t,zb,gd_t (inB_t hk),za,w1 hk (by rw[zR]; omega)]
    exact ok_eq (oE (hg _ hm) (oG (qaF (by omega)) (.ret rfl)))
   ·show qaD w n ((w.drop 3).length:Int) out=_;unfold qaD;rw[dec_f]; rfl
 ·exact .stp i0 (qBT (by rintro rfl; simp at h)) (by rw[zQ,zR]; omega)
theorem qFc{n:Net}(hn:NB n){c:Str}{w:List Str}(hc:fmHas qes c=true)(h:w≠[])(h3:(c=qcO\/c=cFlow)->3<=w.length)(hl:w.length<=50000)(hx:∀x∈w,x.length<=50000):∃r,cmdG n (c,w,())=some r/\RcI r:=by
 have hm:c∈qes:=by
  unfold fmHas at hc;obtain⟨k,hk,e⟩:=zo2.1 hc;rw[<-eq_of_beq e]; exact hk
 simp only[qes,zy,z82,or_false] at hm;rcases hm with rfl | rfl | rfl | rfl | rfl | rfl | rfl | rfl
 ·exact qBV (h3 (.inl rfl)) hl hx
 ·exact qDi hl hx
 ·exact qDj hn (h3 (.inr rfl)) hl hx
 ·exact qDh h hl hx
 ·exact qs0 hn h
 ·exact qs0 hn h
 ·exact qwt ⟨by decide,by decide⟩ h hl hx
 ·exact qwt ⟨by decide,by decide⟩ h hl hx
def padW(c:Str)(w:List Str):List Str:=bif decide (c=qcO) || decide (c=cFlow) then w++List.replicate (3-w.length) [] else w
theorem qFZ{c:Str}{w:List Str}(h:w≠[]):padW c w≠[]:=by
 unfold padW;cases(decide (c=qcO) || decide (c=cFlow))
 ·exact h
 ·intro e;exact h (List.append_eq_nil_iff.1 e).1
theorem qtT{n:Net}{s c:Str}{w:List Str}(hl:s.length<=20000)(hs:splB 32 s=c::w)(hk:fmHas qes c=true)(hw:w≠[]){r:Rec}{q:Str×Bool}
  (hc:cmdG n (c,padW c w,())=some r) (hf:qdb n r=some q):qc3 n s=some (r,q.2&&decide (q.1=s)):=by
 have hp:=qyF s (by omega)
 rw[hs] at hp;have hwl:0<w.length:=zM1.2 hw;have hws:w.length<=20000:=by
  have h1:=qvj 32 s;have h2:s.count 32<=s.length:=zF2;rw[hs,zf] at h1; omega
 refine ok_eq ?_
 unfold qc3;refine oE hp (oE (a:=cmdG n) rfl ?_)
 refine oG (inB0 (by simp)) (oE (a:=false) ?_ ?_)
 ·show(bif !(fmHas qes c) then some true else some (decide (((c::w).length:Int)<2)))=_;rw[hk,dec_f (by rw[zf]; omega)]; rfl
 show Ok (gd _ _) _;refine oG (by unfold cutG; simp; omega) (oE (a:=decide (c=qcO) || decide (c=cFlow)) ?_ (oE (a:=padW c w) ?_ ?_))
 ·show gd _ (bif decide (c=qcO) then some true else gd _ (some (decide (c=cFlow))))=_;rw[gd_t (inB0 (by simp)),gd_t (inB0 (by simp))]
  exact qei rfl
 ·unfold padW;cases hb:(decide (c=qcO) || decide (c=cFlow))
  ·rfl
  ·rw[zb,zb];have fz:∀k:Nat,k<=20->fits (k+([[]]:List Str).length) 16=true:=fun k hk=>qaF (by simp; omega)
   match w,hwl with
   | [a],_=>rfl
   | [a,b],_=>rfl
   | a::b::x::r,_=>
    show(bif decide (((a::b::x::r:List Str).length:Int)<3) then _ else _)=_;rw[dec_f (by simp only[zf]; omega),zc,show 3-(a::b::x::r:List Str).length=0 by simp only[zf]; omega,List.replicate_zero,zG]; rfl
 refine oE (a:=r) ?_ (oE hf ?_)
 ·show(bif fmHas qes c then cmdG n (c,padW c w,()) else none)=_;rw[hk,zb,hc]
 ·cases q.2 <;> exact .ret rfl
theorem qBW{n:Net}(h:NB n){s:Str}(hl:s.length<=20000):∃r b,qc3 n s=some (r,b)/\(b=true->RcI r/\recB n r=true/\joinS (recV n r)=s):=by
 obtain⟨c,w,hs⟩:∃c w,splB 32 s=c::w:=List.exists_cons_of_ne_nil (qxx 32 s);have hws:w.length<=20000:=by
  have h1:=qvj 32 s;have h2:s.count 32<=s.length:=zF2;rw[hs,zf] at h1; omega
 by_cases hg:fmHas qes c=true/\w≠[]
 ·have h3:(c=qcO\/c=cFlow)->3<=(padW c w).length:=by
   intro e;have hb:(decide (c=qcO) || decide (c=cFlow))=true:=by simpa using e
   unfold padW;rw[hb,zb,ze,zc2]; omega
  have h4:(padW c w).length<=50000:=by
   unfold padW;cases(decide (c=qcO) || decide (c=cFlow))
   ·rw[zc]; omega
   ·rw[zb,ze,zc2]; omega
  have h5:∀x∈padW c w,x.length<=50000:=by
   have hm:∀x∈w,x.length<=50000:=fun x hx=>by
    have:=qqf (c:=32) (s:=s) (x:=x) (by rw[hs]; exact .tail _ hx)
    omega
   intro x hx;unfold padW at hx;cases hb:(decide (c=qcO) || decide (c=cFlow)) <;> rw[hb] at hx
   ·exact hm x hx
   ·rcases zI.1 hx with hx | hx
    ·exact hm x hx
    ·rw[(List.mem_replicate.1 hx).2]; exact zN _
  obtain⟨r,hr,hi⟩:=qFc h hg.1 (qFZ hg.2) h3 h4 h5;refine⟨r,_,qtT hl hs hg.1 hg.2 hr (qvn h hi),fun hb=>?_⟩
  rw[z8,zi] at hb;exact⟨hi,hb⟩
 ·have hp:=qyF s (by omega)
  rw[hs] at hp;refine⟨(0,[],(0,0,0,0,0,[],0),[],0,0),false,ok_eq ?_,fun hb=>by cases hb⟩
  unfold qc3;refine oE hp (oE (a:=cmdG n) rfl (oG (inB0 (by simp)) (oE (a:=true) ?_ (.ret rfl))))
  show(bif !(fmHas qes c) then some true else some (decide (((c::w).length:Int)<2)))=_;cases hk:fmHas qes c
  ·rfl
  ·cases w with
   | nil=>rfl
   | cons a r=>exact absurd ⟨hk,by simp⟩ hg
theorem qF0{c:Str}{w:List Str}(h:(c=qcO\/c=cFlow)->3<=w.length):padW c w=w:=by
 unfold padW;cases hb:(decide (c=qcO) || decide (c=cFlow))
 ·rfl
 ·have:=h (by simpa using hb)
  rw[zb,show 3-w.length=0 by omega,List.replicate_zero,zG]
theorem qzA{n:Net}(h:NmP n){r:Rec}(hB:recB n r=true):qc3 n (joinS (recV n r))=some (r,true):=by
 obtain⟨h10,hlen,hspl⟩:=qBR h hB;obtain⟨c,w,e,hc⟩:=qBQ h hB;have:=qtT (n:=n) (s:=joinS (recV n r)) (by omega) (hspl.trans e) hc.k hc.ne (by rw[qF0 hc.l3]; exact hc.g) (qvn h.nb (qyJ h.nb hB))
 rw[this,hB,zb1 rfl]; rfl
theorem qBX:∀(l:Str) (a k:Nat),l.all dig=true->a<10^k->valD a l<10^(k+l.length)
 | [],a,k,_,h=>h
 | c::r,a,k,hd,h=>by
  rw[z41,z8] at hd;have h1:c.toNat-48<=9:=by
   have:=hd.1;simp only[dig,z8,zd1] at this;omega
  unfold valD;have:=qBX r (a*10+(c.toNat-48)) (k+1) hd.2 (by rw[Nat.pow_succ]; omega)
  rwa[zf,show k+(r.length+1)=k+1+r.length by omega]
theorem qwu(s:Str)(hs:s.length<=18):∀(t:Str) (k a:Nat),s.drop k=t->k+t.length=s.length->a<10^k->iter (fun x:Int×Int=>qcI s x.1 x.2) ((a:Int),(k:Int))=some (bif t.all dig then .inl ((valD a t:Nat):Int) else .inr (0,false))
 | [],k,a,hd,hk,ha=>by
  refine qas ?_
  show qcI s (a:Int) (k:Int)=_;unfold qcI;rw[dec_f (by simp at hk; omega)]; rfl
 | c::t,k,a,hd,hk,ha=>by
  rw[zf] at hk;have hlt:k<s.length:=by omega
  have he:=z51 hlt;rw[hd] at he;have hg:s.getD k 0=c:=by rw[zk,zj hlt]; exact(zX1 he).1.symm
  have hd2:s.drop (k+1)=t:=(zX1 he).2.symm;have hp:10^k<=10^17:=Nat.pow_le_pow_right (by decide) (by omega)
  have step:qcI s (a:Int) (k:Int)=bif dig c then some (.inl (((a*10+(c.toNat-48):Nat):Int),((k+1:Nat):Int))) else some (.inr (.inr (0,false))):=by
   unfold qcI;rw[dec_t,zb,gd_t (inB_t hlt),gd_t (inB_t hlt),gd_t (inB_t hlt),za,hg]
   have hc:c.toNat<256:=c.toNat_lt;cases hq:dig c
   ·have:c.toNat<48\/57<c.toNat:=by
     unfold dig at hq;by_cases h1:c.toNat<48
     ·exact .inl h1
     ·refine .inr ?_
      rw[Bool.and_eq_false_iff] at hq;rcases hq with hq | hq
      ·rw[zj1 (by omega)] at hq; cases hq
      ·by_cases h2:c.toNat<=57
       ·rw[zj1 h2] at hq; cases hq
       ·omega
    by_cases h1:c.toNat<48
    ·rw[dec_t (show(Int.ofNat c.toNat)<48 by simp only[z71]; omega)]; rfl
    ·rw[dec_f (show ¬(Int.ofNat c.toNat)<48 by simp only[z71]; omega),dec_t (show 57<(Int.ofNat c.toNat) by simp only[z71]; omega)]; rfl
   ·simp only[dig,z8,zd1] at hq;rw[dec_f (show ¬(Int.ofNat c.toNat)<48 by simp only[z71]; omega),dec_f (show ¬57<(Int.ofNat c.toNat) by simp only[z71]; omega)]
    have e1:wi64 ((a:Int)*10)=((a*10:Nat):Int):=by rw[wi (by omega)]; omega
    have e2:wi64 (wu8 ((Int.ofNat c.toNat)-48))=((c.toNat-48:Nat):Int):=by
     have:wu8 ((Int.ofNat c.toNat)-48)=((c.toNat-48:Nat):Int):=by
      rw[show wu8 ((Int.ofNat c.toNat)-48)=(Int.ofNat c.toNat)-48 from IntWalk.u8_in _ (by simp only[z71]; omega)]
      simp only[z71]; omega
     rw[this,wi (by omega)]
    have e3:wi64 (((a*10:Nat):Int)+((c.toNat-48:Nat):Int))=((a*10+(c.toNat-48):Nat):Int):=by rw[wi (by omega)]; omega
    rw[e1,e2,e3,w1 hlt]; rfl
  rw[z41];cases hq:dig c
  ·refine qas (step.trans ?_)
   rw[hq]; rfl
  ·refine(qaJ (step.trans (by rw[hq]; rfl))).trans ?_
   have h9:c.toNat-48<=9:=by
    simp only[dig,z8,zd1] at hq;omega
   exact qwu s hs t (k+1) _ hd2 (by omega) (by rw[Nat.pow_succ]; omega)
def rnum(s:Str):Int×Bool:=if s.length=0\/18<s.length then(0,false) else bif (dgs s).all dig then(let v:Int:=bif mns s then -(valD 0 (dgs s):Int) else(valD 0 (dgs s):Int); (v,smI v&&decide (Lib.itoa v=s))) else(0,false)
theorem qxC(s:Str):qdz s=some (rnum s):=by
 unfold rnum;by_cases h:s.length=0\/18<s.length
 ·rw[if_pos h];refine ok_eq ?_
  unfold qdz;refine oE (a:=true) ?_ (.ret rfl)
  by_cases h0:s.length=0
  ·rw[dec_t]; rfl
  ·rw[dec_f,dec_t]; rfl
 rw[if_neg h];cases s with
 | nil=>exact absurd (.inl rfl) h
 | cons c r=>
  have hl:(c::r:Str).length<=18:=by omega
  rw[zf] at hl;have hm:decide ((Int.ofNat c.toNat)=45)=(c==45):=by
   rw[zT,zz,zv2];simp only[z71];constructor
   ·intro h; exact z23.1 (by show c.toNat=45; omega)
   ·rintro rfl; rfl
  have fin:∀(k:Nat) (m:Bool),((c::r:Str).drop k=dgs (c::r))->(k=bif m then 1 else 0)->m=mns (c::r)->
    Ok ((iter (fun x:Int×Int=>qcI (c::r) x.1 x.2) (0,(k:Int))).bind fun s5=>s5.elim (fun s6=>Option.bind (α:=Int) (bif decide ((k:Int)=1) then some (wi64 (0-s6)) else some s6) fun s8=>(qdh s8).bind fun r_1=>bif r_1 then(qag s8).bind fun r2=>some (s8,decide (r2=c::r)) else some (s8,false)) fun s7=>some (s7.1,s7.2))
     fun y=>y=bif (dgs (c::r)).all dig then(let v:Int:=bif mns (c::r) then -(valD 0 (dgs (c::r)):Int) else(valD 0 (dgs (c::r)):Int); (v,smI v&&decide (Lib.itoa v=c::r))) else(0,false):=by
   intro k m hd hk hm;have hkl:k+(dgs (c::r)).length=(c::r:Str).length:=by
    have:=congrArg List.length hd;rw[zR] at this;cases m <;> simp at hk <;> subst hk <;> simp at this ⊢ <;> omega
   have hkp:(0:Nat)<10^k:=Nat.pow_pos (by decide)
   refine oE (qwu (c::r) (by rw[zf]; omega) _ k 0 hd hkl hkp) ?_
   rw[<-hm];cases hq:(dgs (c::r)).all dig
   ·exact .ret rfl
   ·have hv:=qBX _ 0 0 hq (by decide)
    have hp:10^(0+(dgs (c::r)).length)<=10^18:=Nat.pow_le_pow_right (by decide) (by rw[zf] at hkl; omega)
    generalize hV:valD 0 (dgs (c::r))=V at*
    show Ok (Option.bind (bif decide ((k:Int)=1) then some (wi64 (0-(V:Int))) else some (V:Int)) fun s8=>(qdh s8).bind fun r_1=>bif r_1 then(qag s8).bind fun r2=>some (s8,decide (r2=c::r)) else some (s8,false)) _
    have hfin:∀v:Int,i64P v->Ok ((qdh v).bind fun r_1=>bif r_1 then(qag v).bind fun r2=>some (v,decide (r2=c::r)) else some (v,false)) fun y=>y=(v,smI v&&decide (Lib.itoa v=c::r)):=by
     intro v hv;refine oE (qnt v) ?_
     cases hs:smI v
     ·exact .ret rfl
     ·exact oE (qbE hv) (.ret rfl)
    cases m
    ·rw[zc] at hk;subst hk;exact oE (a:=(V:Int)) rfl (hfin (V:Int) ⟨by omega,by omega⟩)
    ·rw[zb] at hk;subst hk;refine oE (a:=-(V:Int)) ?_ (hfin (-(V:Int)) ⟨by omega,by omega⟩)
     show some (wi64 (0-(V:Int)))=_;rw[wi (by omega)]; congr 1; omega
  refine ok_eq ?_
  unfold qdz;refine oE (a:=false) ?_ (oG (inB0 (by simp)) ?_)
  ·rw[dec_f (by rw[zf]; omega),dec_f (by rw[zf]; omega)]; rfl
  show Ok (Option.bind (bif decide ((Int.ofNat c.toNat)=45) then some 1 else some 0) _) _;rw[hm];cases hb:c==45
  ·exact oE (a:=0) rfl (fin 0 false (by show c::r=bif c==45 then r else c::r; rw[hb]; rfl) rfl hb.symm)
  ·exact oE (a:=1) rfl (fin 1 true (by show r=bif c==45 then r else c::r; rw[hb]; rfl) rfl hb.symm)
theorem qky{n:Int}(h:smI n=true):(rnum (Lib.itoa n)).1=n:=by
 have h1:=qdx h;have h2:=qyH n;have h3:=qry n.natAbs;have h4:(Lib.itoa n).length≠0:=by
  have:=qtQ n;intro e;rw[zm1.1 e] at this;cases this
 unfold rnum;rw[if_neg (by omega),h2.1,h3.all,zb,h2.2]
 show(bif decide (n<0) then -(valD 0 (Lib.decDigits n.natAbs):Int) else(valD 0 (Lib.decDigits n.natAbs):Int))=n;rw[h3.val];by_cases h5:n<0
 ·rw[dec_t h5,zb]; omega
 ·rw[dec_f h5,zc]; omega
theorem qzB(t:Str)(f k:Nat)(hf:f<=k)(hk:k<t.length):t.drop f=(t.take k).drop f++t.getD k 0::t.drop (k+1):=by
 conv=>lhs; rw[<-zS1 k t]
 rw[zx1 (by simp; omega),z51 hk,gD_eq hk]
theorem qts(t:Str)(f k:Nat)(hf:f<=k)(hk:k<t.length):(t.take (k+1)).drop f=(t.take k).drop f++[t.getD k 0]:=by
 rw[qdP 0 hk,zx1 (by simp; omega)]
theorem qBY(s:Str)(hl:s.length<=1000000):qiX s=some (splB 32 s):=by
 unfold qiX;suffices h:Ok (iter (fun x=>qjK s x.1 x.2.1 x.2.2) (0,0,[])) (fun e=>e=splB 32 s) by rw[ok_eq h]; rfl
 refine oL (fun x:Int×Int×List Str=>∃f k:Nat,x.1=(f:Int)/\x.2.1=(k:Int)/\((f<=k/\k<=s.length/\splB 32 s=x.2.2++splB 32 (s.drop f)/\(32:UInt8)∉(s.take k).drop f/\x.2.2.length<=k)\/(k=s.length+1/\x.2.2=splB 32 s))) (fun x=>s.length+1-x.2.1.toNat) ⟨0,0,rfl,rfl,.inl ⟨by omega,by omega,by simp,by simp,by simp⟩⟩ ?_
 rintro⟨fr,i,out⟩ ⟨f,k,h1,h2,h3⟩
 simp only at h1 h2 h3;subst h1 h2;unfold qjK;simp only;rcases h3 with⟨h3,h4,h5,h6,h7⟩ | ⟨h3,h4⟩
 ·rw[dec_t (show(k:Int)<=(s.length:Int) by omega),zb]
  by_cases hk:k=s.length
  ·rw[dec_t (show(k:Int)=(s.length:Int) by omega),zb,z7]
   simp only;rw[zb,gd_t (inR_t h3 h4),gd_t (qaF (by omega)),z7,w1 (n:=1000001) (by omega) (by omega),za,za]
   refine .ret ⟨⟨k+1,k+1,rfl,rfl,.inr ⟨by omega,?_⟩⟩,by simp only[za]; omega⟩
   have e:(s.take k).drop f=s.drop f:=by rw[hk,zF1]
   rw[e] at h6 ⊢;rw[h5,qvi h6]
  ·have hk:k<s.length:=by omega
   rw[dec_f (show ¬(k:Int)=(s.length:Int) by omega),zc,gd_t (inB_t hk),z7,za,eqU _ 32 32 rfl]
   simp only;cases hb:s.getD k 0==32 with
   | true=>
    rw[zv2] at hb;rw[zb,gd_t (inR_t h3 h4),gd_t (qaF (by omega)),z7,w1 (n:=1000001) (by omega) (by omega),za]
    refine .ret ⟨⟨k+1,k+1,rfl,rfl,.inl ⟨by omega,by omega,?_,by simp,by simp; omega⟩⟩,by simp only[za]; omega⟩
    rw[h5,qzB s f k h3 hk,hb,qnr _ h6,zw]; rfl
   | false=>
    rw[z72] at hb;rw[zc,z7,w1 (n:=1000001) (by omega) (by omega)]
    refine .ret ⟨⟨f,k+1,rfl,rfl,.inl ⟨by omega,by omega,h5,?_,by simp only; omega⟩⟩,by simp only[za]; omega⟩
    rw[qts s f k h3 hk];simp only[zI,zZ,not_or];exact⟨h6,fun e=>hb e.symm⟩
 ·rw[dec_f (show ¬(k:Int)<=(s.length:Int) by omega)]
  exact .ret h4
def segI(n:Net)(x:Str):Int:=if n.2.1.findIdx (fun s=>decide (s.1=x))<n.2.1.length then((n.2.1.findIdx (fun s=>decide (s.1=x)):Nat):Int) else -1
def portI(n:Net)(x:Str):Int:=if n.2.2.1.findIdx (fun s=>decide (s.1=x))<n.2.2.1.length then((n.2.2.1.findIdx (fun s=>decide (s.1=x)):Nat):Int) else -1
def staI(n:Net)(x:Str):Int:=if n.2.2.2.1.findIdx (fun s=>decide (s.1=x))<n.2.2.2.1.length then((n.2.2.2.1.findIdx (fun s=>decide (s.1=x)):Nat):Int) else -1
def hopI(n:Net)(x:Str):Hop:=(segI n (cut45 x).1,(cut45 x).2)
theorem rcfind(l:List Str)(x:Str)(hl:l.length<=1000000):qgV l x=some (if l.findIdx (fun y=>decide (y=x))<l.length then((l.findIdx (fun y=>decide (y=x)):Nat):Int) else -1):=by
 unfold qgV;rw[qeK (ε:=Unit⊕Int) (step:=fun v=>qgr l x v) l [] (fun y=>decide (y=x)) (fin:=.inl ()) (fun i=>.inr (i:Int)) (fun i hi hq=>by
  unfold qgr;rw[Sq.dlt hi,zb,gd_t (inB_t hi),za,hq,zc,w1 hi]) (fun i hi hq=>by
  unfold qgr;rw[Sq.dlt hi,zb,gd_t (inB_t hi),za,hq,zb]) (by
  unfold qgr;rw[dec_f]; rfl),z7]
 by_cases hf:l.findIdx (fun y=>decide (y=x))<l.length
 ·rw[if_pos hf,if_pos hf]; rfl
 ·rw[if_neg hf,if_neg hf]; rfl
theorem rcsta(n:Net)(hn:n.2.2.2.1.length<=1000)(x:Str):qgq n x=some (staI n x):=by
 unfold qgq staI;rw[qeK (ε:=Unit⊕Int) (step:=fun v=>qdY n x v) n.2.2.2.1 sta0 (fun y=>decide (y.1=x)) (fin:=.inl ()) (fun i=>.inr (i:Int)) (fun i hi hq=>by
  unfold qdY;rw[Sq.dlt hi,zb,gd_t (inB_t hi),za]
  show(bif decide ((n.2.2.2.1.getD i sta0).1=x) then _ else _)=_;rw[hq,zc,w1 hi]) (fun i hi hq=>by
  unfold qdY;rw[Sq.dlt hi,zb,gd_t (inB_t hi),za]
  show(bif decide ((n.2.2.2.1.getD i sta0).1=x) then _ else _)=_;rw[hq,zb]) (by
  unfold qdY;rw[dec_f]; rfl),z7]
 by_cases hf:n.2.2.2.1.findIdx (fun y=>decide (y.1=x))<n.2.2.2.1.length
 ·rw[if_pos hf,if_pos hf]; rfl
 ·rw[if_neg hf,if_neg hf]; rfl
theorem rcport{n:Net}(h:NB n)(x:Str):qkk n x=some (portI n x):=by
 unfold qkk;rw[qoK];show(qby n).bind _=_;rw[qp6 h.s h.p h.a,z7,gd_t (show inB 2 4=true from rfl)]
 show(qgV (n.2.2.1.map (·.1)) x).bind _=_;rw[rcfind _ x (by have:=h.p; simp; omega),z7,zQ,List.findIdx_map]; rfl
theorem rcseg{n:Net}(h:NB n)(x:Str):qil n x=some (segI n x):=by
 unfold qil;rw[qoK];show(qby n).bind _=_;rw[qp6 h.s h.p h.a,z7,gd_t (show inB 1 4=true from rfl)]
 show(qgV (n.2.1.map (·.1)) x).bind _=_;rw[rcfind _ x (by have:=h.s; simp; omega),z7,zQ,List.findIdx_map]; rfl
theorem qyM{n:Net}(h:NmP n){i:Int}(hi:ixB i n.2.2.1.length=true):portI n (portN n i)=i:=by
 have h1:=qxB h hi;rw[qvs h.nb] at h1;exact zD1 h1
theorem qBZ{n:Net}(h:NmP n){i:Int}(hi:ixB i n.2.2.2.1.length=true):staI n (staN n i)=i:=by
 obtain⟨h1,h2⟩:=ixB_t hi;unfold staI staN;rw[fidx n.2.2.2.1 sta0 (·.1) h.ad (by omega),if_pos (by omega),z03 h1]
theorem qFd{n:Net}(h:NmP n){x:Hop}(hi:ixB x.1 n.2.1.length=true):hopI n (hopV n x)=x:=by
 have h1:=qEf h hi;have hl:(hopV n x).length<=1000000:=by
  have:=h.nb.sn x.1;unfold hopV;cases x.2
  ·rw[zc]; omega
  ·rw[zb,zf]; omega
 have h2:qbO n (hopV n x)=some (hopI n (hopV n x)):=by
  refine ok_eq ?_
  unfold qbO;exact oE (pre45 _ hl) (oE (qBU h.nb _) (.ret rfl))
 rw[h1] at h2;exact(zD1 h2).symm
theorem qwv{A B:Type}(l:List A)(d:A)(g:A->B)(o m:Nat){step:Int×List B->Option ((Int×List B)⊕List B)}(ho:o<=m)(hm:m<=l.length)
  (hs:∀(k:Nat) (out:List B),o<=k->k<m->out.length<=k->step ((k:Int),out)=some (.inl (((k+1:Nat):Int),out++[g (l.getD k d)])))
  (he:∀out,step ((m:Int),out)=some (.inr out)):iter step ((o:Int),[])=some (((l.take m).drop o).map g):=by
 have key:∀(j k:Nat),k+j=m->o<=k->iter step ((k:Int),((l.take k).drop o).map g)=some (((l.take m).drop o).map g):=by
  intro j;induction j with
  | zero=>
   intro k hk _;refine qas ?_
   rw[show k=m by omega]; exact he _
  | succ j ih=>
   intro k hk hok;refine(qaJ (hs k _ hok (by omega) (by rw[zQ,zR,zm]; omega))).trans ?_
   have:((l.take k).drop o).map g++[g (l.getD k d)]=((l.take (k+1)).drop o).map g:=by
    rw[qdP d (by omega),zx1 (by rw[zm]; omega),zQ1]; rfl
   rw[this];exact ih (k+1) (by omega) (by omega)
 have:=key (m-o) o (by omega) (zP _)
 rw[z21 (by rw[zm]; omega)] at this
 exact this
def pathI(n:Net)(w:List Str):Pth:=(portI n (w.getD 0 []),portI n (w.getD 1 []),((w.take (min w.length 50)).drop 2).map (hopI n),0)
theorem rcpath{n:Net}(h:NB n){w:List Str}(hw:2<=w.length)(hx:∀x∈w,x.length<=1000000):qnc n w=some (pathI n w):=by
 refine ok_eq ?_
 unfold qnc;refine oG (inB0 (by omega)) (oE (rcport h _) (oG (inB_t (i:=1) (by omega)) (oE (rcport h _) (oE (a:=((w.take (min w.length 50)).drop 2).map (hopI n)) ?_ (.ret rfl)))))
 refine qwv w [] (hopI n) 2 (min w.length 50) (by omega) (by omega) (fun k out h2 hk ho=>?_) fun out=>?_
 ·show qgs n w (k:Int) out=_;have hkl:k<w.length:=by omega
  have hl:=hx _ (gmem (d:=[]) hkl);refine ok_eq ?_
  unfold qgs;rw[dec_t (show(k:Int)<(w.length:Int) by omega),dec_t (show(k:Int)<50 by omega),za]
  refine oE (a:=(true,out)) rfl (oG (inB_t hkl) (oE (a:=((cut45 (w.getD k [])).2,out)) ?_ (oE (a:=((cut45 (w.getD k [])).1,out)) ?_ (oE (rcseg h _) (oG (qaF (by show(out.length+1)*16<=_; omega)) (.ret ?_))))))
  ·cases hs:w.getD k [] with
   | nil=>rfl
   | cons a r=>
    rw[dec_t (by rw[zf]; omega),zb,gd_t (inB0 (by simp))]
    show some (decide ((Int.ofNat a.toNat)=45),out)=_;rw[eqU a 45 45 rfl];by_cases ha:a=45
    ·rw[show cut45 (a::r)=(r,true) from if_pos ha,ha]; rfl
    ·rw[show cut45 (a::r)=(a::r,false) from if_neg ha,z72.2 ha]
  ·cases hs:w.getD k [] with
   | nil=>rfl
   | cons a r=>
    by_cases ha:a=45
    ·rw[show cut45 (a::r)=(r,true) from if_pos ha]
     show gd _ (some (r,out))=_;rw[gd_t (by unfold cutG; simp; omega)]
    ·rw[show cut45 (a::r)=(a::r,false) from if_neg ha]; rfl
  ·rw[w1 (n:=50) (by omega) (by omega)]; rfl
 ·show qgs n w ((min w.length 50:Nat):Int) out=_;refine ok_eq ?_
  unfold qgs;refine oE (a:=(false,out)) ?_ (.ret rfl)
  by_cases hk:w.length<50
  ·rw[dec_f]; rfl
  ·rw[show min w.length 50=50 by omega]
   by_cases h50:w.length=50
   ·rw[dec_f]; rfl
   ·rw[dec_t]; rfl
abbrev r0:Rec:=(0,[],(0,0,0,0,0,[],0),[],0,0)
def rdV:List Str->Int
 | []=>0
 | a::_=>(rnum a).1
def kindI(s:Str):Int:=bif decide (kindL.getD 4 []=s) then 4 else bif decide (kindL.getD 3 []=s) then 3 else bif decide (kindL.getD 2 []=s) then 2 else bif decide (kindL.getD 1 []=s) then 1 else 0
def stpR(k i v:Int)(p:Pth):Rec:=(2,[],(k,i,v,p),[],0,0)
abbrev p00:Pth:=(0,0,[],0)
def readR(n:Net)(c:Str)(t:List Str):Rec:=
 bif decide (c=cOpen)&&decide (t.length=1) then stpR 1 (rdV t) 0 p00 else
 bif decide (c=qok)&&decide (t.length=1) then stpR 2 (rdV t) 0 p00 else
 bif decide (c=qjA)&&decide (t.length=1) then stpR 3 (staI n (t.getD 0 [])) 0 p00 else
 bif decide (c=cStop)&&decide (t.length=1) then stpR 4 (staI n (t.getD 0 [])) 0 p00 else
 bif decide (c=cWait)&&decide (t.length=1) then stpR 6 0 (rdV t) p00 else
 bif decide (c=cFlow)&&decide (3<=t.length) then stpR 5 0 (rdV t) (pathI n (t.drop 1)) else
 bif decide (c=cTele) then(1,((((c::t).take (min (c::t).length 40)).drop 1).map (fun x=>(rnum x).1),(0,0,0,p00),[],0,0)) else
 bif decide (c=qcO)&&decide (t.length=3) then(3,[],(0,0,0,p00),t.getD 1 [],kindI (t.getD 0 []),(rnum (t.getD 2 [])).1) else r0
theorem qDk(w:List Str)(hw:2<=w.length):iter (fun x:Int×Int=>qeV w x.1 x.2) (1,0)=some (kindI (w.getD 1 [])):=by
 have step:∀(i:Nat) (r:Int),i<5->qeV w (i:Int) r=some (.inl (((i+1:Nat):Int),bif decide (kindL.getD i []=w.getD 1 []) then(i:Int) else r)):=by
  intro i r hi;refine ok_eq ?_
  unfold qeV;refine oE (a:=kindL) rfl ?_
  rw[dec_t (show(i:Int)<((kindL.length:Nat):Int) by simp; omega)]
  rw[zb];refine oE (a:=kindL) rfl ?_
  refine oG (inB_t (n:=kindL.length) (show i<5 from hi)) ?_
  refine oG (show inB 1 w.length=true from inB_t (i:=1) (by omega)) ?_
  refine oE (a:=bif decide (kindL.getD i []=w.getD 1 []) then(i:Int) else r) ?_ (.ret ?_)
  ·rw[za];cases decide (kindL.getD i []=w.getD 1 []) <;> rfl
  ·rw[w1 (n:=5) (by omega) (by omega)]
 refine(qaJ (step 1 0 (by decide))).trans ((qaJ (step 2 _ (by decide))).trans ((qaJ (step 3 _ (by decide))).trans ((qaJ (step 4 _ (by decide))).trans (qas ?_))))
 show qeV w 5 _=_;unfold qeV kindI;cases decide (kindL.getD 4 []=w.getD 1 []) <;> cases decide (kindL.getD 3 []=w.getD 1 []) <;> cases decide (kindL.getD 2 []=w.getD 1 []) <;> cases decide (kindL.getD 1 []=w.getD 1 []) <;> rfl
theorem qF1(w:List Str)(hw:1<=w.length):iter (fun x:Int×List Int=>qeU w x.1 x.2) (1,[])=some (((w.take (min w.length 40)).drop 1).map fun x=>(rnum x).1):=by
 refine qwv w [] (fun x=>(rnum x).1) 1 (min w.length 40) (by omega) (by omega) (fun k out h2 hk ho=>?_) fun out=>?_
 ·show qeU w (k:Int) out=_;have hkl:k<w.length:=by omega
  refine ok_eq ?_
  unfold qeU;rw[dec_t (show(k:Int)<(w.length:Int) by omega),dec_t (show(k:Int)<40 by omega),za]
  refine oE (a:=(true,out)) rfl (oG (inB_t hkl) (oE (qxC _) (oG (qaF (by show(out.length+1)*8<=_; omega)) (.ret ?_))))
  rw[w1 (n:=50) (by omega) (by omega)]
 ·show qeU w ((min w.length 40:Nat):Int) out=_;refine ok_eq ?_
  unfold qeU;refine oE (a:=(false,out)) ?_ (.ret rfl)
  by_cases hk:w.length<40
  ·rw[dec_f]; rfl
  ·rw[show min w.length 40=40 by omega]
   by_cases h50:w.length=40
   ·rw[dec_f]; rfl
   ·rw[dec_t]; rfl
theorem rand(c d:Str)(t:List Str)(k:Nat)(p:Bool)(q:Bool)(h:p=q):(gd (inB 0 (c::t:List Str).length)<|bif decide ((c::t:List Str).getD 0 []=d) then some p else some false)=some (decide (c=d)&&q):=by
 rw[gd_t (inB0 (by simp)),h]
 exact qjT rfl
theorem qFe{n:Net}(h:NB n)(c:Str){t:List Str}(hx:∀x∈t,x.length<=1000000):qkl n (c::t)=some (readR n c t):=by
 unfold qkl;have hv:(bif decide (1<((c::t:List Str).length:Int)) then(gd (inB 1 (c::t:List Str).length)<|(qdz ((c::t:List Str).getD 1 [])).bind fun r=>some r.1) else some 0)=some (rdV t):=by
  cases t with
  | nil=>rfl
  | cons a r=>
   rw[dec_t (by simp only[zf]; omega),zb,gd_t (show inB 1 (c::a::r:List Str).length=true from inB_t (i:=1) (by simp))]
   exact ok_eq (oE (qxC a) (.ret rfl))
 have h2:∀ {A:Type} (k:Nat),decide (((c::t:List Str).length:Int)=((k+1:Nat):Int))=decide (t.length=k):=fun k=>by
  rw[zT,zz,zz,zf]; omega
 have h4:decide ((4:Int)<=((c::t:List Str).length:Int))=decide (3<=t.length):=by
  rw[zT,zz,zz,zf]; omega
 have e2:=fun d=>rand c d t 1 _ _ (h2 (A:=Nat) 1)
 have e4:=rand c cFlow t 1 _ _ h4;have e3:=rand c qcO t 1 _ _ (h2 (A:=Nat) 3);have i2:∀ {d:Str} {k:Nat},(decide (c=d)&&decide (t.length=k))=true->t.length=k:=fun hb=>by simp at hb; exact hb.2
 rw[hv,z7];rw[show(gd (inB 0 (c::t:List Str).length)<|bif decide ((c::t:List Str).getD 0 []=cOpen) then some (decide (((c::t:List Str).length:Int)=2)) else some false)=_ from e2 cOpen]
 rw[show(gd (inB 0 (c::t:List Str).length)<|bif decide ((c::t:List Str).getD 0 []=qok) then some (decide (((c::t:List Str).length:Int)=2)) else some false)=_ from e2 qok]
 rw[show(gd (inB 0 (c::t:List Str).length)<|bif decide ((c::t:List Str).getD 0 []=qjA) then some (decide (((c::t:List Str).length:Int)=2)) else some false)=_ from e2 qjA]
 rw[show(gd (inB 0 (c::t:List Str).length)<|bif decide ((c::t:List Str).getD 0 []=cStop) then some (decide (((c::t:List Str).length:Int)=2)) else some false)=_ from e2 cStop]
 rw[show(gd (inB 0 (c::t:List Str).length)<|bif decide ((c::t:List Str).getD 0 []=cWait) then some (decide (((c::t:List Str).length:Int)=2)) else some false)=_ from e2 cWait]
 rw[show(gd (inB 0 (c::t:List Str).length)<|bif decide ((c::t:List Str).getD 0 []=cFlow) then some (decide ((4:Int)<=((c::t:List Str).length:Int))) else some false)=_ from e4]
 rw[show(gd (inB 0 (c::t:List Str).length)<|bif decide ((c::t:List Str).getD 0 []=qcO) then some (decide (((c::t:List Str).length:Int)=4)) else some false)=_ from e3]
 unfold readR;cases b1:(decide (c=cOpen)&&decide (t.length=1)) with
 | true=>rfl
 | false=>
 cases b2:(decide (c=qok)&&decide (t.length=1)) with
 | true=>rfl
 | false=>
 cases b3:(decide (c=qjA)&&decide (t.length=1)) with
 | true=>
  have hl:=i2 b3;rw[(show inB 1 (c::t:List Str).length=true from inB_t (i:=1) (by rw[zf]; omega))]
  rw[show(c::t:List Str).getD 1 []=t.getD 0 [] from rfl]
  rw[rcsta _ h.a]; rfl
 | false=>
 cases b4:(decide (c=cStop)&&decide (t.length=1)) with
 | true=>
  have hl:=i2 b4;rw[(show inB 1 (c::t:List Str).length=true from inB_t (i:=1) (by rw[zf]; omega))]
  rw[show(c::t:List Str).getD 1 []=t.getD 0 [] from rfl]
  rw[rcsta _ h.a]; rfl
 | false=>
 cases b5:(decide (c=cWait)&&decide (t.length=1)) with
 | true=>rfl
 | false=>
 cases b6:(decide (c=cFlow)&&decide (3<=t.length)) with
 | true=>
  have hl:3<=t.length:=by simp at b6; exact b6.2
  rw[gd_t (show cutG (some (.i64,2)) none (c::t:List Str).length=true by unfold cutG; simp; omega)]
  rw[show(c::t:List Str).drop 2=t.drop 1 from rfl]
  rw[rcpath h (w:=t.drop 1) (by rw[zR]; omega) (fun x hm=>hx x (zf2 hm))]; rfl
 | false=>
 rw[show inB 0 (c::t:List Str).length=true from inB0 (by simp)]
 rw[show(c::t:List Str).getD 0 []=c from rfl]
 cases b7:decide (c=cTele) with
 | true=>rw[qF1 (c::t) (by simp)]; rfl
 | false=>
 cases b8:(decide (c=qcO)&&decide (t.length=3)) with
 | true=>
  have hl:=i2 b8;rw[(show inB 3 (c::t:List Str).length=true from inB_t (i:=3) (by rw[zf]; omega)),(show inB 2 (c::t:List Str).length=true from inB_t (i:=2) (by rw[zf]; omega))]
  rw[qxC,qDk (c::t) (by rw[zf]; omega)]; rfl
 | false=>rfl
theorem qFf(n:Net)(a:Str):readR n cOpen [a]=stpR 1 (rnum a).1 0 p00:=rfl
theorem qDl(n:Net)(a:Str):readR n qok [a]=stpR 2 (rnum a).1 0 p00:=rfl
theorem qDm(n:Net)(a:Str):readR n qjA [a]=stpR 3 (staI n a) 0 p00:=rfl
theorem qFg(n:Net)(a:Str):readR n cStop [a]=stpR 4 (staI n a) 0 p00:=rfl
theorem qFh(n:Net)(a:Str):readR n cWait [a]=stpR 6 0 (rnum a).1 p00:=rfl
theorem qFi(n:Net)(t:List Str):readR n cTele t=(1,((((cTele::t).take (min (cTele::t).length 40)).drop 1).map (fun x=>(rnum x).1),(0,0,0,p00),[],0,0)):=rfl
theorem qDn(n:Net)(a b d:Str):readR n qcO [a,b,d]=(3,[],(0,0,0,p00),b,kindI a,(rnum d).1):=rfl
theorem qFj(n:Net)(a b d:Str)(t:List Str):readR n cFlow (a::b::d::t)=stpR 5 0 (rnum a).1 (pathI n (b::d::t)):=by
 have h:decide (3<=(a::b::d::t:List Str).length)=true:=zb1 (by simp)
 unfold readR;rw[h]; rfl
theorem qDo{n:Net}(h:NmP n){i o:Int}{l:List Hop}(hi:ixB i n.2.2.1.length=true)(ho:ixB o n.2.2.1.length=true)(hl:l.length<=32)(hb:hopsB n l=true):pathI n (portN n i::portN n o::l.map (hopV n))=(i,o,l,0):=by
 have hbs:=zq.1 hb;unfold pathI;have e:((portN n i::portN n o::l.map (hopV n)).take (min (portN n i::portN n o::l.map (hopV n)).length 50)).drop 2=l.map (hopV n):=by
  rw[show min (portN n i::portN n o::l.map (hopV n)).length 50=(portN n i::portN n o::l.map (hopV n)).length by simp; omega,zF1]; rfl
 rw[e,zR2,show l.map (hopI n∘hopV n)=l by
   conv=>rhs; rw[<-za3 l]
   exact zZ1 fun x hx=>qFd h (hbs x hx)]
 show(portI n (portN n i),portI n (portN n o),l,0)=_;rw[qyM h hi,qyM h ho]
theorem qDp{n:Net}(h:NmP n){r:Rec}(hB:recB n r=true):∃c w,recV n r=c::w/\readR n c w=r:=by
 obtain⟨k,v,s,e⟩:=r;unfold recB at hB;unfold recV;split at hB
 ·rename_i h1;replace h1:k=1:=h1;subst h1;simp only[z8,zi] at hB;obtain⟨⟨h1,h2⟩,h3,h4,h5⟩:=hB;have hv:=zq.1 h5;rw[qws h1,qyK h2,if_pos rfl];refine⟨_,_,rfl,(qFi n _).trans ?_⟩
  have e:((cTele::v.map Lib.itoa).take (min (cTele::v.map Lib.itoa).length 40)).drop 1=v.map Lib.itoa:=by
   rw[show min (cTele::v.map Lib.itoa).length 40=(cTele::v.map Lib.itoa).length by simp; omega,zF1]; rfl
  rw[e,zR2,show v.map ((fun x=>(rnum x).1)∘Lib.itoa)=v by
   conv=>rhs; rw[<-za3 v]
   exact zZ1 fun x hx=>qky (hv x hx)]
 rename_i h1;rw[if_neg h1];split at hB
 ·rename_i h2;replace h2:k=2:=h2;subst h2;simp only[z8,zi] at hB;obtain⟨⟨h1,h2⟩,h3⟩:=hB;replace h1:v=[]:=zm1.1 h1;subst h1;rw[qyK h2,if_pos rfl];unfold stepB at h3;simp only[z8,zi1,zi] at h3;obtain⟨⟨h4,h5⟩,h6⟩:=h3;unfold qgK at h6;split at h6
  ·rename_i hk12;have hs:=qnv (h5.resolve_left (by omega)) h4
   simp only[z8,zi] at h6;obtain⟨h7,h8,h9⟩:=h6;rw[h9] at hs;rcases hk12 with hq | hq <;> rw[hq] at hs <;> rw[hs]
   ·exact⟨_,_,rfl,(qFf n _).trans (by rw[qky h8]; rfl)⟩
   ·exact⟨_,_,rfl,(qDl n _).trans (by rw[qky h8]; rfl)⟩
  rename_i hk12;split at h6
  ·rename_i hk34;have hs:=qnv (h5.resolve_left (by omega)) h4
   simp only[z8,zi] at h6;obtain⟨h7,h9⟩:=h6;rw[h9] at hs;have hv:staV n s.2.1=[staN n s.2.1]:=by unfold staV; rw[h7]; rfl
   rcases hk34 with hq | hq <;> rw[hq] at hs <;> rw[hs]
   ·exact⟨_,_,show stepV n (3,s.2.1,0,0,0,[],0)=qjA::[staN n s.2.1] by show qjA::staV n s.2.1=_; rw[hv],(qDm n _).trans (by rw[qBZ h h7]; rfl)⟩
   ·exact⟨_,_,show stepV n (4,s.2.1,0,0,0,[],0)=cStop::[staN n s.2.1] by show cStop::staV n s.2.1=_; rw[hv],(qFg n _).trans (by rw[qBZ h h7]; rfl)⟩
  split at h6
  ·rename_i hk5;unfold flowB at h6;simp only[z8,zi] at h6;obtain⟨g1,g2,g3,g4,g5,g6⟩:=h6;obtain⟨sk,si,sv,pi,po,pl,pr⟩:=s;simp only at hk5 g1 g2 g3 g4 g5 g6 h4;subst hk5 g2 h4;have hv:stepV n (5,0,sv,pi,po,pl,0)=cFlow::(Lib.itoa sv::portN n pi::portN n po::pl.map (hopV n)):=by
    show cFlow::Lib.itoa sv::(portV n pi++(portV n po++hopsV n pl))=_;unfold portV;rw[g4,g5,qsZ g6]; rfl
   refine⟨_,_,hv,(qFj n _ _ _ _).trans ?_⟩
   rw[qky g1,qDo h g4 g5 g3 g6]; rfl
  rename_i hk34 hk5;split at h6
  ·rename_i hk6;have hs:=qnv (h5.resolve_left hk5) h4;simp only[z8,zi] at h6;rw[h6.2,hk6] at hs;rw[hs];exact⟨_,_,rfl,(qFh n _).trans (by rw[qky h6.1]; rfl)⟩
  ·cases h6
 rename_i hk2;rw[if_neg hk2];split at hB
 ·rename_i h3;replace h3:k=3:=h3;subst h3;simp only[z8,zi] at hB;obtain⟨⟨h1,h2⟩,h3⟩:=hB;replace h1:v=[]:=zm1.1 h1;subst h1;rw[qws h2,if_pos rfl];obtain⟨sh,ek,ev⟩:=e;unfold entB at h3;simp only[z8] at h3;obtain⟨g1,g2,g3⟩:=h3;have g4:=ixB_t g1;have hv:entV (sh,ek,ev)=qcO::[kindL.getD ek.toNat [],sh,Lib.itoa ev]:=by
   unfold entV;simp only;rw[g1]; rfl
  refine⟨_,_,hv,(qDn n _ _ _).trans ?_⟩
  have hk:kindI (kindL.getD ek.toNat [])=ek:=by
   have:ek=1\/ek=2\/ek=3\/ek=4:=by omega
   rcases this with rfl | rfl | rfl | rfl <;> decide
  rw[hk,qky g3]
 ·cases hB
structure LineP(n:Net)(s:Str)(r:Rec)(b:Bool)(q:Rec):Prop where
 p:qc3 n s=some (r,b)
 w:(qiX s).bind (fun w=>qkl n w)=some q
 t:b=true->q=r/\RcI r/\recB n r=true/\joinS (recV n r)=s
 f:b=false->¬(recB n q=true/\joinS (recV n q)=s)
theorem qyN{n:Net}(h:NmP n){s:Str}(hl:s.length<=20000):∃r b q,LineP n s r b q:=by
 obtain⟨r,b,hp,hb⟩:=qBW h.nb hl;obtain⟨c,w,hs⟩:∃c w,splB 32 s=c::w:=List.exists_cons_of_ne_nil (qxx 32 s);have hw:=qBY s (by omega)
 have hr:=qFe h.nb c (t:=w) fun x hx=>by
  have:=qqf (c:=32) (s:=s) (x:=x) (by rw[hs]; exact .tail _ hx)
  omega
 refine⟨r,b,readR n c w,hp,by rw[hw,z7,hs]; exact hr,fun e=>?_,fun e he=>?_⟩
 ·obtain⟨h1,h2,h3⟩:=hb e;obtain⟨c',w',e1,e2⟩:=qDp h h2;have:=(qBR h h2).2.2;rw[h3,hs,e1] at this;obtain⟨rfl,rfl⟩:=zX1 this;exact⟨e2,h1,h2,h3⟩
 ·have:=qzA h he.1;rw[he.2,hp] at this;have:=(Prod.mk.inj (zD1 this)).2;rw[e] at this;cases this
structure RcA(n:Net)(l:List Rec):Prop where
 b:∀r∈l,recB n r=true
theorem RcA.snoc{n:Net}{l:List Rec}{r:Rec}(h:RcA n l)(hr:recB n r=true):RcA n (l++[r]):=⟨fun x hx=>by
 rcases zI.1 hx with hx | hx
 ·exact h.b x hx
 ·rw[zZ.1 hx]; exact hr⟩
def finC(z:List Rec⊕(List Rec×Int×Int)):List Rec×Int×Int:=z.elim (fun s=>(s,0,0)) fun s=>s
def finR(m:Nat)(z:(Int×List Rec)⊕(List Rec×Int×Int)):List Rec×Int×Int:=z.elim (fun s=>bif decide (s.1<(m:Int)) then([],wi64 ((s.2.length:Int)+1),3) else(s.2,0,0)) fun s=>s
structure ParR(n:Net)(e:List Rec×Int×Int)(m:Nat):Prop where
 k:e.2.2=0->e.2.1=0
 b:RcA n e.1
 l:e.1.length<=m
theorem scanR(n:Net)(text:Str)(f:Nat)(out:List Rec)(hl:text.length<=20000):∀(j k:Nat),f+k+j<=text.length->(10:UInt8)∉(text.drop (f+k)).take j->iter (fun x:Int×Int×List Rec=>qa3 n text x.1 x.2.1 x.2.2) ((f:Int),((f+k:Nat):Int),out)=iter (fun x:Int×Int×List Rec=>qa3 n text x.1 x.2.1 x.2.2) ((f:Int),((f+k+j:Nat):Int),out)
 | 0,k,_,_=>rfl
 | j+1,k,hk,h10=>by
  have hlt:f+k<text.length:=by omega
  rw[z51 hlt,List.take_succ_cons] at h10;have hc:text.getD (f+k) 0≠10:=fun e=>h10 (by
   rw[zk,zj hlt] at e;rw[show text[f+k]=10 from e]; exact .head _)
  have step:qa3 n text (f:Int) ((f+k:Nat):Int) out=some (.inl ((f:Int),((f+(k+1):Nat):Int),out)):=by
   refine ok_eq ?_
   unfold qa3;rw[dec_t (show((f+k:Nat):Int)<(text.length:Int) by omega),zb,za]
   refine oE (a:=(Sum.inl ((f:Int),out):(Int×List Rec)⊕(List Rec×Int×Int))) ?_ (.ret ?_)
   ·rw[gd_t (inB_t hlt),eqU _ 10 10 rfl,z72.2 hc]; rfl
   ·rw[w1 hlt]; rfl
  refine(qaJ step).trans ?_
  have:=scanR n text f out hl j (k+1) (by omega) (fun h=>h10 (.tail _ h))
  rw[show f+(k+1)+j=f+k+(j+1) by omega] at this
  exact this
theorem qFk{text T:Str}{f:Nat}(h:text.drop f=T)(hT:T≠[]):f+T.length=text.length/\f<=text.length:=by
 have:=congrArg List.length h;rw[zR] at this;have:0<T.length:=zM1.2 hT;omega
theorem split10(T:Str):(10:UInt8)∉T\/∃X R,T=X++10::R/\(10:UInt8)∉X:=by
 rcases qqe 10 T with⟨h,_⟩ | ⟨X,R,h,hX,_⟩
 ·exact .inl h
 ·exact .inr ⟨X,R,h,hX⟩
theorem qDq{n:Net}(h0:qbs n=0)(text:Str)(hl:text.length<=16384):∀(m:Nat) (T:Str) (f:Nat) (out:List Rec),T.length<=m->text.drop f=T->f<=text.length->out.length+T.length<=20000->RcA n out->
  ∃z z',iter (fun x:Str×List Rec=>qbp n x.1 x.2) (T,out)=some z/\iter (fun x:Int×Int×List Rec=>qa3 n text x.1 x.2.1 x.2.2) ((f:Int),(f:Int),out)=some z'/\finC z=finR text.length z'/\ParR n (finC z) (out.length+T.count 10):=by
 have h:=NmP.of h0;intro m;induction m with
 | zero=>
  intro T f out hm hd hf ho hr;have hT:T=[]:=zm1.1 (by omega)
  subst hT;have hfe:text.length=f:=by
   have:=congrArg List.length hd;rw[zR,zo] at this; omega
  refine⟨.inl out,.inl ((f:Int),out),qas rfl,qas ?_,?_,⟨fun _=>rfl,hr,by show out.length<=_; omega⟩⟩
  ·show qa3 n text (f:Int) (f:Int) out=_;unfold qa3;rw[dec_f]; rfl
  ·show _=(bif decide ((f:Int)<(text.length:Int)) then _ else _);rw[dec_f]; rfl
 | succ m ih=>
  intro T f out hm hd hf ho hr;by_cases hT:T=[]
  ·exact ih T f out (by rw[hT]; simp) hd hf ho hr
  have hpos:0<T.length:=zM1.2 hT;have hfl:=qFk hd hT;have hw:wi64 ((out.length:Int)+1)=((out.length+1:Nat):Int):=w1 (n:=20001) (by omega) (by omega)
  rcases split10 T with h10 | ⟨X,R,rfl,h10⟩
  ·obtain⟨r,b,q,L⟩:=qyN h (s:=T) (by omega)
   refine⟨.inr ([],((out.length+1:Nat):Int),3),.inl ((f:Int),out),qas ?_,?_,?_,⟨fun e=>(by cases e),⟨fun _ h=>(by cases h)⟩,zN _⟩⟩
   ·show qbp n T out=_;refine ok_eq ?_
    unfold qbp;rw[dec_f hT];refine oE (qFU h10) (oE L.p (oE (a:=(true,out)) ?_ (.ret ?_)))
    ·cases b <;> rfl
    ·rw[hw]
   ·have:=scanR n text f out (by omega) T.length 0 (by omega) (by rw[zC1,hd,zF1]; exact h10)
    refine this.trans (qas ?_)
    show qa3 n text (f:Int) ((f+0+T.length:Nat):Int) out=_;unfold qa3;rw[dec_f]; rfl
   ·show _=(bif decide ((f:Int)<(text.length:Int)) then _ else _);rw[dec_t,hw]; rfl
  ·rw[ze,zf] at hm ho hfl;obtain⟨r,b,q,L⟩:=qyN h (s:=X) (by omega)
   have hXt:(text.drop f).take X.length=X:=by rw[hd,zb2]
   have hc:text.getD (f+X.length) 0=10:=by
    have:(text.drop f).getD X.length 0=10:=by rw[hd,zk,zX (zP _),Nat.sub_self]; rfl
    rwa[zk,zE,<-zk] at this
   have hs1:(text.take (f+X.length)).drop f=X:=by rw[zY1,show f+X.length-f=X.length by omega,hXt]
   have hs2:(text.take (f+X.length+1)).drop f=X++[10]:=by
    rw[zY1,show f+X.length+1-f=X.length+1 by omega,hd,zT2,zB (by omega),show X.length+1-X.length=1 by omega]; rfl
   have hscan:=scanR n text f out (by omega) X.length 0 (by omega) (by rw[zC1,hXt]; exact h10)
   have hstep:∀v:(Int×List Rec)⊕(List Rec×Int×Int),Ok (Option.bind (α:=Bool×List Rec) (bif !decide ((fmtS n q).2=0) then some (true,out) else gd (inR (f:Int) ((f+X.length+1:Nat):Int) text.length)<|some (!decide ((fmtS n q).1=X++[10]),out)) fun s7=>bif s7.1 then some (Sum.inr ([],wi64 ((s7.2.length:Int)+1),3)) else gd (fits (s7.2.length+1) 136)<|some (Sum.inl (((f+X.length+1:Nat):Int),s7.2++[q]))) (fun y=>y=v)->
     qa3 n text (f:Int) ((f+0+X.length:Nat):Int) out=some (v.elim (fun s9=>.inl (s9.1,((f+X.length+1:Nat):Int),s9.2)) fun s10=>.inr (.inr s10)):=by
    intro v hv;obtain⟨u,hu1,hu2⟩:=hv;subst hu2;refine ok_eq ?_
    unfold qa3;rw[zC1,dec_t (show((f+X.length:Nat):Int)<(text.length:Int) by omega),zb,za,za]
    rw[w1 (n:=16384) (show f+X.length<16384 by omega) (by omega),za,hs1,hs2]
    refine oE (a:=u) ?_ ?_
    ·rw[gd_t (inB_t (show f+X.length<text.length by omega)),eqU _ 10 10 rfl,hc]
     show gd _ _=_;rw[gd_t (inR_t (show f<=f+X.length by omega) (show f+X.length<=text.length by omega))]
     refine ok_eq ?_
     obtain⟨w,hw1,hw2⟩:=zN1.1 L.w;exact oE hw1 (oE hw2 (oE (qtR h0 q) ⟨u,hu1,rfl⟩))
    ·cases u <;> exact .ret rfl
   cases hb:b with
   | true=>
    subst hb;obtain⟨rfl,hI,hB,hj⟩:=L.t rfl;have hfm:fmtS n q=(X++[10],0):=by
     unfold fmtS;rw[hB,hj]; rfl
    obtain⟨z,z',i1,i2,i3,i4⟩:=ih R (f+X.length+1) (out++[q]) (by omega) (by
     rw[show f+X.length+1=f+(X.length+1) by omega,<-zI1,hd,show(X++10::R).drop (X.length+1)=R by simp[zW1]]) (by omega) (by rw[ze,zO]; omega) (hr.snoc hB)
    refine⟨z,z',(qaJ (y:=(R,out++[q])) ?_).trans i1,?_,i3,i4.k,i4.b,?_⟩
    ·show qbp n (X++10::R) out=_;refine ok_eq ?_
     unfold qbp;rw[dec_f hT];refine oE (qBH h10 (by rw[ze,zf]; omega)) (oE L.p (oE (a:=(false,out)) rfl (oG (qaF (by show(out.length+1)*136<=_; omega)) (.ret rfl))))
    ·refine hscan.trans ((qaJ (y:=(((f+X.length+1:Nat):Int),((f+X.length+1:Nat):Int),out++[q])) (hstep (.inl (((f+X.length+1:Nat):Int),out++[q])) ?_)).trans i2)
     rw[hfm];refine oE (a:=(false,out)) ?_ (oG (qaF (by show(out.length+1)*136<=_; omega)) (.ret rfl))
     show gd _ _=_;rw[gd_t (inR_t (by omega) (by omega)),zb1 rfl]; rfl
    ·have:=i4.l;rw[ze,zO] at this;rw[List.count_append,List.count_cons_self,List.count_eq_zero.2 h10];omega
   | false=>
    subst hb;have hN:=L.f rfl;refine⟨.inr ([],((out.length+1:Nat):Int),3),.inr ([],((out.length+1:Nat):Int),3),qas ?_,?_,rfl,⟨fun e=>(by cases e),⟨fun _ h=>(by cases h)⟩,zN _⟩⟩
    ·show qbp n (X++10::R) out=_;refine ok_eq ?_
     unfold qbp;rw[dec_f hT];refine oE (qBH h10 (by rw[ze,zf]; omega)) (oE L.p (oE (a:=(true,out)) rfl (.ret ?_)))
     rw[hw]
    ·refine hscan.trans (qas (hstep (.inr ([],((out.length+1:Nat):Int),3)) ?_))
     refine oE (a:=(true,out)) ?_ (.ret ?_)
     ·unfold fmtS;cases hB:recB n q
      ·rfl
      ·show gd _ (some (!decide (joinS (recV n q)++[10]=X++[10]),out))=_;rw[gd_t (inR_t (by omega) (by omega)),dec_f (fun e=>hN ⟨hB,List.append_cancel_right e⟩)]; rfl
     ·rw[hw]
theorem rcnt(text:Str)(hl:text.length<=18000):∀(j k:Nat),k+j=min text.length 16385->iter (fun x:Int×Int=>qd5 text x.1 x.2) ((((text.take k).count 10:Nat):Int),(k:Int))=some (((text.take (min text.length 16385)).count 10:Nat):Int)
 | 0,k,hk=>by
  refine qas ?_
  show qd5 text _ (k:Int)=_;refine ok_eq ?_
  unfold qd5;refine oE (a:=false) ?_ (.ret (by rw[show min text.length 16385=k by omega]))
  by_cases h:k<text.length
  ·rw[dec_t,dec_f]; rfl
  ·rw[dec_f]; rfl
 | j+1,k,hk=>by
  have hlt:k<text.length:=by omega
  have hc:(text.take k).count 10<=k:=zA zF2 (by rw[zm]; omega)
  have step:qd5 text (((text.take k).count 10:Nat):Int) (k:Int)=some (.inl ((((text.take (k+1)).count 10:Nat):Int),((k+1:Nat):Int))):=by
   refine ok_eq ?_
   unfold qd5;rw[dec_t (show(k:Int)<(text.length:Int) by omega),dec_t (show(k:Int)<=16384 by omega)]
   refine oE (a:=true) rfl (oG (inB_t hlt) (oE (a:=(((text.take (k+1)).count 10:Nat):Int)) ?_ (.ret (by rw[w1 hlt]))))
   rw[za,eqU _ 10 10 rfl,qdP 0 hlt,List.count_append,List.count_singleton];cases hb:text.getD k 0==10
   ·rfl
   ·rw[zb,w1 (n:=20000) (by omega) (by omega)]; rfl
  exact(qaJ step).trans (rcnt text hl j (k+1) (by omega))
theorem last10{t:Str}(h:t≠[]):decide ((Int.ofNat (t.getD (t.length-1) 0).toNat)=10)=decide (t.getLast? = some 10):=by
 have hp:0<t.length:=zM1.2 h;rw[eqU _ 10 10 rfl,List.getLast?_eq_getElem?,zk,zj (by omega),zT,zv2,zz,zn2]
 simp
theorem qtU{n:Net}(h0:qbs n=0){text:Str}(hl:text.length<=18000):∃e,qc4 n text=some e/\qgW n text=some e/\ParR n e 400:=by
 have hc:text.count 10<=text.length:=zF2
 let b:Bool:=!decide (text=[])&&!decide (text.getLast? = some 10)
 let m:Int:=bif b then((text.count 10+1:Nat):Int) else((text.count 10:Nat):Int)
 have hw:wi64 (((text.count 10:Nat):Int)+1)=((text.count 10+1:Nat):Int):=w1 (n:=20000) (by omega) (by omega)
 have hC:∀e,Ok (bif (decide (16384<(text.length:Int)) || decide (400<m)) then some ([],0,4) else((iter (fun x:Str×List Rec=>qbp n x.1 x.2) (text,[])).bind fun s=>some (finC s))) (fun y=>y=e)->qc4 n text=some e:=by
  intro e he;refine ok_eq ?_
  unfold qc4;refine oE (qcK n) ?_
  rw[dec_t h0,zg,zc];refine oE (qBG _ 10) (oE (a:=b) ?_ (oE (a:=m) ?_ (oE (qei rfl) ?_)))
  ·by_cases ht:text=[]
   ·rw[dec_t ht];show some false=some (!decide (text=[])&&_);rw[dec_t ht]; rfl
   ·rw[dec_f ht];refine ok_eq (oE (qBI _ ht (by omega)) (.ret ?_))
    show _=(!decide (text=[])&&_);rw[dec_f ht]; rfl
  ·rw[hw];show(bif b then _ else _)=some (bif b then _ else _);cases b <;> rfl
  ·revert he
   cases(decide (16384<(text.length:Int)) || decide (400<m))
   ·rw[zc,zc]
    rintro⟨y,hy,rfl⟩
    obtain⟨z,h1,h2⟩:=zN1.1 hy;refine oE h1 ?_
    injection h2 with h2
    subst h2;cases z <;> exact .ret rfl
   ·exact fun h=>h
 have hR:∀e,Ok (bif (decide (16384<(text.length:Int)) || decide (400<m)) then some ([],0,4) else((iter (fun x:Int×Int×List Rec=>qa3 n text x.1 x.2.1 x.2.2) (0,0,[])).bind fun s=>some (finR text.length s))) (fun y=>y=e)->qgW n text=some e:=by
  intro e he;refine ok_eq ?_
  unfold qgW;refine oE (qcL n) ?_
  rw[dec_t h0,zg,zc];have hk:=rcnt text hl (min text.length 16385) 0 (by omega)
  have hk2:(text.take (min text.length 16385)).count 10<=16385:=zA zF2 (by rw[zm]; omega)
  refine oE hk (oE (a:=b) ?_ (oE (a:=bif b then(((text.take (min text.length 16385)).count 10+1:Nat):Int) else(((text.take (min text.length 16385)).count 10:Nat):Int)) ?_ (oE (a:=decide (16384<(text.length:Int)) || decide (400<m)) ?_ ?_)))
  ·by_cases ht:text=[]
   ·subst ht; rfl
   ·have hp:0<text.length:=zM1.2 ht;have hw2:wi64 ((text.length:Int)-1)=((text.length-1:Nat):Int):=by rw[wi (by omega)]; omega
    rw[dec_t (show(0:Int)<(text.length:Int) by omega),zb,hw2,gd_t (inB_t (by omega)),za,last10 ht]
    show _=some (!decide (text=[])&&_);rw[dec_f ht]; rfl
  ·rw[w1 (n:=20000) (by omega) (by omega)]
   cases b <;> rfl
  ·by_cases h16:(16384:Int)<(text.length:Int)
   ·rw[dec_t h16]; rfl
   ·rw[dec_f h16,zc,zj2,show min text.length 16385=text.length by omega,zF1]
  ·revert he
   cases(decide (16384<(text.length:Int)) || decide (400<m))
   ·rw[zc,zc]
    rintro⟨y,hy,rfl⟩
    obtain⟨z,h1,h2⟩:=zN1.1 hy;refine oE h1 ?_
    injection h2 with h2
    subst h2;cases z with
    | inl z=>
     show Ok (bif decide (z.1<(text.length:Int)) then _ else _) _;unfold finR;rw[za1];cases decide (z.1<(text.length:Int)) <;> exact .ret rfl
    | inr z=>exact .ret rfl
   ·exact fun h=>h
 by_cases hb:(decide (16384<(text.length:Int)) || decide (400<m))=true
 ·rw[hb] at hC hR;exact⟨([],0,4),hC _ (.ret rfl),hR _ (.ret rfl),⟨fun e=>(by cases e),⟨fun _ h=>(by cases h)⟩,zN _⟩⟩
 ·have hb:=zM.2 hb;rw[hb] at hC hR;rw[z22] at hb;have h1:=zh1 hb.1;have h2:=zh1 hb.2;have h3:text.count 10<=400:=by
   have:m=((text.count 10+1:Nat):Int)\/m=((text.count 10:Nat):Int):=by
    show(bif b then _ else _)=_\/(bif b then _ else _)=_;cases b
    ·exact .inr rfl
    ·exact .inl rfl
   omega
  obtain⟨z,z',i1,i2,i3,i4⟩:=qDq h0 text (by omega) text.length text 0 [] (zP _) rfl (zN _) (by simp; omega) ⟨fun _ h=>(by cases h)⟩
  refine⟨finC z,hC _ (oE i1 (.ret rfl)),hR _ (oE i2 (.ret i3.symm)),i4.k,i4.b,?_⟩
  have:=i4.l;rw[zo,z11] at this;omega
theorem qB0(n:Net)(t:Int):qgX n t=some (idleS n t):=by
 by_cases h0:qbs n=0
 ·have hn:=VNet.of h0;have m1:=hn.small.sg;have m2:=hn.small.po;have m3:=hn.small.st;by_cases ht:1<=t/\t<=60
  ·rw[qDd h0 ⟨by omega,by omega⟩ ht]
   unfold idleS;rw[if_neg (fun e=>e h0),rg_t ht]; rfl
  ·unfold qgX idleS;rw[qbd,qcL,z7,dec_t h0,if_neg (fun e=>e h0),show rg 1 60 t=false by unfold rg; simp; omega]
   by_cases h1:t<1
   ·rw[dec_t h1]; rfl
   ·rw[dec_f h1,dec_t (show 60<t by omega)]; rfl
 ·unfold qgX idleS;rw[qbd,qcL,z7,dec_f h0,if_pos h0]; rfl
theorem qDr(n:Net)(t:Int):DkS (idleS n t).1:=by
 unfold idleS;by_cases h0:qbs n=0
 ·have hn:=VNet.of h0;have m1:=hn.small.sg;have m2:=hn.small.po;have m3:=hn.small.st;rw[if_neg (fun e=>e h0)]
  cases rg 1 60 t
  ·exact⟨by simp,by simp,by simp,by simp⟩
  ·exact⟨by simp; omega,by simp; omega,by simp; omega,by simp; omega⟩
 ·rw[if_pos h0]; exact⟨by simp,by simp,by simp,by simp⟩
abbrev zC:Cn:=(([],[],[],[]),[],[],0)
theorem cng0{d:Dk}(h:DkS d):CnG (d,[],[],0) 0:=⟨h,by simp,by simp,by unfold SortT; simp,by simp,by simp,by simp⟩
theorem qDs(n:Net)(t:Int)(hp:1<=n.2.1.length+n.2.2.1.length):∃c e,qmY n t=some (c,e)/\qpL n t=some (c,e)/\CnG c 0/\c.2.2.2=0/\(qbs n=0->1<=t/\t<=60->c.1.1.length=n.2.1.length+n.2.2.1.length):=by
 unfold qmY qpL;rw[qbd,qES n t (fun _=>hp),qB0,z7]
 have hd:=qDr n t;by_cases h0:(idleS n t).2=0
 ·rw[dec_t h0];refine⟨((idleS n t).1,[],[],0),0,rfl,rfl,cng0 hd,rfl,fun h ht=>?_⟩
  unfold idleS;rw[if_neg (fun e=>e h),rg_t ht]
  simp
 ·rw[dec_f h0];refine⟨_,_,rfl,rfl,cng0 ⟨by simp,by simp,by simp,by simp⟩,rfl,fun h ht=>absurd ?_ h0⟩
  unfold idleS;rw[if_neg (fun e=>e h),rg_t ht]; rfl
noncomputable def runC(n:Net):List Rec->Nat->Cn->Cn×Int×Int
 | [],_,c=>(c,0,0)
 | r::t,k,c=>if(capp n c r).2=0 then runC n t (k+1) (capp n c r).1 else(c,((k+1:Nat):Int),(capp n c r).2)
theorem qyO{n:Net}{r:Rec}(h:recB n r=true):RecP r:=by
 have hh:noB r.2.2.1=true->r.2.2.1.2.2.2.2.2.1.length<=100:=fun h=>by rw[qws h]; decide
 unfold recB at h;split at h
 ·simp only[z8,zi] at h;exact⟨by omega,hh h.1.1⟩
 split at h
 ·simp only[z8,zi] at h;refine⟨by omega,?_⟩
  have h3:=h.2;unfold stepB at h3;simp only[z8,zi1,zi] at h3;by_cases h5:r.2.2.1.1=5
  ·have:=h3.2;unfold qgK at this;rw[if_neg (by omega),if_neg (by omega),if_pos h5] at this
   unfold flowB at this;simp only[z8,zi] at this;omega
  ·have:=h3.1.2.resolve_left h5;unfold bareB at this;simp only[z8,zi] at this;omega
 split at h
 ·simp only[z8,zi] at h;exact⟨by omega,hh h.1.2⟩
 ·cases h
theorem qxD{A:Type}{l:List A}{k:Nat}{x:A}{t:List A}{d:A}(he:l.drop k=x::t):k<l.length/\l.getD k d=x/\l.drop (k+1)=t:=by
 have hk:k<l.length:=by
  have:=congrArg List.length he;rw[zR,zf] at this; omega
 have hd:=z51 hk;rw[he] at hd;refine⟨hk,?_,(zX1 hd).2.symm⟩
 rw[zk,zj hk];exact(zX1 hd).1.symm
theorem qvt{A:Type}{l:List A}{k:Nat}(he:l.drop k=[])(hk:k<=l.length):k=l.length:=by
 have:=congrArg List.length he;rw[zR,zo] at this; omega
theorem qyP{n:Net}{rs:List Rec}(hb:RcA n rs)(hl:rs.length<=1000):∀(t:List Rec) (k:Nat) (c:Cn),rs.drop k=t->k<=rs.length->CnG c k->
  Ok (iter (fun x:Int×List Vl×List Int×List Int×List Bool×List Tel×List Acc4×Int×List Vl×List Int×List Int×List Bool×List Tel×List Acc4×Int=>
   qd1 n (rs,(0,0)) x.1 x.2.1 x.2.2.1 x.2.2.2.1 x.2.2.2.2.1 x.2.2.2.2.2.1 x.2.2.2.2.2.2.1 x.2.2.2.2.2.2.2.1 x.2.2.2.2.2.2.2.2.1 x.2.2.2.2.2.2.2.2.2.1 x.2.2.2.2.2.2.2.2.2.2.1 x.2.2.2.2.2.2.2.2.2.2.2.1 x.2.2.2.2.2.2.2.2.2.2.2.2.1 x.2.2.2.2.2.2.2.2.2.2.2.2.2.1 x.2.2.2.2.2.2.2.2.2.2.2.2.2.2)
   ((k:Int),[],[],[],[],[],[],0,c.1.1,c.1.2.1,c.1.2.2.1,c.1.2.2.2,c.2.1,c.2.2.1,c.2.2.2))
   fun s=>s.elim (fun s2=>(((s2.2.2.2.2.2.2.2.1,s2.2.2.2.2.2.2.2.2.1,s2.2.2.2.2.2.2.2.2.2.1,s2.2.2.2.2.2.2.2.2.2.2.1),s2.2.2.2.2.2.2.2.2.2.2.2.1,s2.2.2.2.2.2.2.2.2.2.2.2.2.1,s2.2.2.2.2.2.2.2.2.2.2.2.2.2),(0:Int),(0:Int))=runC n t k c)
    (fun s3=>(((s3.2.2.1,s3.2.2.2.1,s3.2.2.2.2.1,s3.2.2.2.2.2.1),s3.2.2.2.2.2.2.1,s3.2.2.2.2.2.2.2.1,s3.2.2.2.2.2.2.2.2),s3.1,s3.2.1)=runC n t k c)
 | [],k,c,he,hk,hi=>by
  have hk:=qvt he hk;refine⟨.inl ([],[],[],[],[],[],0,c.1.1,c.1.2.1,c.1.2.2.1,c.1.2.2.2,c.2.1,c.2.2.1,c.2.2.2),qas ?_,(rfl:(c,(0:Int),(0:Int))=runC n [] k c)⟩
  show qd1 n (rs,0,0) (k:Int) _ _ _ _ _ _ _ _ _ _ _ _ _ _=_;unfold qd1;rw[dec_f (by simp only; omega)]; rfl
 | r::t,k,c,he,hk,hi=>by
  obtain⟨h1,h2,h3⟩:=qxD (d:=r0) he;have hr:=qyO (hb.b r (by rw[<-h2]; exact gmem h1))
  have ha:qeA n c r=some (capp n c r):=apply_eq' n (hi.cns (by omega)) hi.srt ⟨hi.n0,by have:=hi.n1; omega⟩ r (by have:=hr.v; omega)
  have hs:∀z,(bif !decide ((capp n c r).2=0) then some (.inr (.inr (((k+1:Nat):Int),(capp n c r).2,c.1.1,c.1.2.1,c.1.2.2.1,c.1.2.2.2,c.2.1,c.2.2.1,c.2.2.2)))
    else some (.inl (((k+1:Nat):Int),[],[],[],[],[],[],0,(capp n c r).1.1.1,(capp n c r).1.1.2.1,(capp n c r).1.1.2.2.1,(capp n c r).1.1.2.2.2,(capp n c r).1.2.1,(capp n c r).1.2.2.1,(capp n c r).1.2.2.2)))=some z->
    qd1 n (rs,0,0) (k:Int) [] [] [] [] [] [] 0 c.1.1 c.1.2.1 c.1.2.2.1 c.1.2.2.2 c.2.1 c.2.2.1 c.2.2.2=some z:=by
   intro z hz;refine ok_eq ?_
   unfold qd1;rw[dec_t (by simp only; omega),w1 h1]
   simp only[za];rw[h2];exact oG (inB_t h1) (oE ha ⟨_,hz,rfl⟩)
  by_cases h0:(capp n c r).2=0
  ·obtain⟨e,e1,e2⟩:=qyP hb hl t (k+1) (capp n c r).1 h3 h1 (qsU hi (by omega) hr h0).1
   refine⟨e,(qaJ (hs _ (by rw[dec_t h0]; rfl))).trans e1,?_⟩
   unfold runC;rw[if_pos h0];exact e2
  ·refine⟨_,qas (hs _ (by rw[dec_f h0]; rfl)),?_⟩
   unfold runC;rw[if_neg h0];rfl
theorem qww{n:Net}{rs:List Rec}(hb:RcA n rs)(hl:rs.length<=1000):∀(t:List Rec) (k:Nat) (c:Cn),rs.drop k=t->k<=rs.length->CnG c k->
  Ok (iter (fun x:Int×List Vl×List Int×List Int×List Bool×List Tel×List Acc4×Int×List Vl×List Int×List Int×List Bool×List Tel×List Acc4×Int=>
   qfY n (rs,(0,0)) x.1 x.2.1 x.2.2.1 x.2.2.2.1 x.2.2.2.2.1 x.2.2.2.2.2.1 x.2.2.2.2.2.2.1 x.2.2.2.2.2.2.2.1 x.2.2.2.2.2.2.2.2.1 x.2.2.2.2.2.2.2.2.2.1 x.2.2.2.2.2.2.2.2.2.2.1 x.2.2.2.2.2.2.2.2.2.2.2.1 x.2.2.2.2.2.2.2.2.2.2.2.2.1 x.2.2.2.2.2.2.2.2.2.2.2.2.2.1 x.2.2.2.2.2.2.2.2.2.2.2.2.2.2)
   ((k:Int),[],[],[],[],[],[],0,c.1.1,c.1.2.1,c.1.2.2.1,c.1.2.2.2,c.2.1,c.2.2.1,c.2.2.2))
   fun s=>s.elim (fun s2=>(((s2.2.2.2.2.2.2.2.1,s2.2.2.2.2.2.2.2.2.1,s2.2.2.2.2.2.2.2.2.2.1,s2.2.2.2.2.2.2.2.2.2.2.1),s2.2.2.2.2.2.2.2.2.2.2.2.1,s2.2.2.2.2.2.2.2.2.2.2.2.2.1,s2.2.2.2.2.2.2.2.2.2.2.2.2.2),(0:Int),(0:Int))=runC n t k c)
    (fun s3=>(((s3.2.2.1,s3.2.2.2.1,s3.2.2.2.2.1,s3.2.2.2.2.2.1),s3.2.2.2.2.2.2.1,s3.2.2.2.2.2.2.2.1,s3.2.2.2.2.2.2.2.2),s3.1,s3.2.1)=runC n t k c)
 | [],k,c,he,hk,hi=>by
  have hk:=qvt he hk;refine⟨.inl ([],[],[],[],[],[],0,c.1.1,c.1.2.1,c.1.2.2.1,c.1.2.2.2,c.2.1,c.2.2.1,c.2.2.2),qas ?_,(rfl:(c,(0:Int),(0:Int))=runC n [] k c)⟩
  show qfY n (rs,0,0) (k:Int) _ _ _ _ _ _ _ _ _ _ _ _ _ _=_;unfold qfY;rw[dec_f (by simp only; omega)]; rfl
 | r::t,k,c,he,hk,hi=>by
  obtain⟨h1,h2,h3⟩:=qxD (d:=r0) he;have hr:=qyO (hb.b r (by rw[<-h2]; exact gmem h1))
  have ha:qi5 n c r=some (capp n c r):=qzx n (hi.cns (by omega)) hi.srt ⟨hi.n0,by have:=hi.n1; omega⟩ r (by have:=hr.v; omega) (by have:=hr.h; omega)
  have hs:∀z,(bif !decide ((capp n c r).2=0) then some (.inr (.inr (((k+1:Nat):Int),(capp n c r).2,c.1.1,c.1.2.1,c.1.2.2.1,c.1.2.2.2,c.2.1,c.2.2.1,c.2.2.2)))
    else some (.inl (((k+1:Nat):Int),[],[],[],[],[],[],0,(capp n c r).1.1.1,(capp n c r).1.1.2.1,(capp n c r).1.1.2.2.1,(capp n c r).1.1.2.2.2,(capp n c r).1.2.1,(capp n c r).1.2.2.1,(capp n c r).1.2.2.2)))=some z->
    qfY n (rs,0,0) (k:Int) [] [] [] [] [] [] 0 c.1.1 c.1.2.1 c.1.2.2.1 c.1.2.2.2 c.2.1 c.2.2.1 c.2.2.2=some z:=by
   intro z hz;refine ok_eq ?_
   unfold qfY;rw[dec_t (by simp only; omega),w1 h1]
   simp only[za];rw[h2];exact oG (inB_t h1) (oE ha ⟨_,hz,rfl⟩)
  by_cases h0:(capp n c r).2=0
  ·obtain⟨e,e1,e2⟩:=qww hb hl t (k+1) (capp n c r).1 h3 h1 (qsU hi (by omega) hr h0).1
   refine⟨e,(qaJ (hs _ (by rw[dec_t h0]; rfl))).trans e1,?_⟩
   unfold runC;rw[if_pos h0];exact e2
  ·refine⟨_,qas (hs _ (by rw[dec_f h0]; rfl)),?_⟩
   unfold runC;rw[if_neg h0];rfl
theorem qwx{n:Net}:∀(t:List Rec) (k:Nat) (c:Cn),RcA n t->k+t.length<=1000->CnG c k->∃j,j<=1000/\CnG (runC n t k c).1 j
 | [],k,c,_,hk,hi=>⟨k,by simp at hk; exact hk,hi⟩
 | r::t,k,c,hb,hk,hi=>by
  rw[zf] at hk;unfold runC;by_cases h0:(capp n c r).2=0
  ·rw[if_pos h0];exact qwx t (k+1) _ ⟨fun x hx=>hb.b x (.tail _ hx)⟩ (by omega) (qsU hi (by omega) (qyO (hb.b r (.head _))) h0).1
  ·rw[if_neg h0];exact⟨k,by omega,hi⟩
theorem qDt{n:Net}(h0:qbs n=0)(hp:1<=n.2.1.length+n.2.2.1.length){text:Str}(hl:text.length<=18000)(t:Int):∃y k,qfN n t text=some y/\qkr n t text=some y/\k<=1000/\CnG y.1 k:=by
 obtain⟨e,h1,h2,h3⟩:=qtU h0 hl;have hz:CnG zC 0:=cng0 ⟨by simp,by simp,by simp,by simp⟩
 by_cases he:e.2.2=0
 ·obtain⟨c,q,n1,n2,n3,n4,_⟩:=qDs n t hp;obtain⟨rs,el,ee⟩:=e;replace he:ee=0:=he;subst he;have hel:el=0:=h3.k rfl;subst hel;by_cases hq:q=0
  ·subst hq;obtain⟨j,hj,hg⟩:=qwx rs 0 c h3.b (by have:rs.length<=400:=h3.l; omega) n3
   refine⟨runC n rs 0 c,j,ok_eq ?_,ok_eq ?_,hj,hg⟩
   ·unfold qfN;refine oE h1 ?_
    rw[dec_t rfl,zg,zc];refine oE n1 ?_
    rw[dec_t rfl,zg,zc];obtain⟨s,hs1,hs2⟩:=qyP h3.b (zA (show rs.length<=400 from h3.l) (by decide)) rs 0 c rfl (zN _) n3
    refine oE hs1 ?_
    cases s with
    | inl s=>exact .ret hs2
    | inr s=>exact .ret hs2
   ·unfold qkr;refine oE h2 ?_
    rw[dec_t rfl,zg,zc];refine oE n2 ?_
    rw[dec_t rfl,zg,zc];obtain⟨s,hs1,hs2⟩:=qww h3.b (zA (show rs.length<=400 from h3.l) (by decide)) rs 0 c rfl (zN _) n3
    refine oE hs1 ?_
    cases s with
    | inl s=>exact .ret hs2
    | inr s=>exact .ret hs2
  ·refine⟨(zC,0,q),0,ok_eq ?_,ok_eq ?_,by decide,hz⟩
   ·unfold qfN;refine oE h1 ?_
    rw[dec_t rfl,zg,zc];refine oE n1 ?_
    rw[dec_f hq];exact .ret rfl
   ·unfold qkr;refine oE h2 ?_
    rw[dec_t rfl,zg,zc];refine oE n2 ?_
    rw[dec_f hq];exact .ret rfl
 ·refine⟨(zC,e.2),0,ok_eq ?_,ok_eq ?_,by decide,hz⟩
  ·unfold qfN;refine oE h1 ?_
   rw[dec_f he];exact .ret rfl
  ·unfold qkr;refine oE h2 ?_
   rw[dec_f he];exact .ret rfl
def shW(w:List Str)(l:List Int):Str:=(joinS w++l.flatMap fun x=>32::Lib.itoa x)++[10]
theorem qB1(x:Str):(qaH x).length=x.length:=by simp[qaH]
theorem cc_of(x:Str):ccT (qaH x)=some (qaH x):=rfl
theorem wr_eq{s x:Str}(h1:0<x.length+s.length)(h2:x.length+s.length<=1000000000):qaQ s (qaH x)=some ((s.length:Int),false,qaH (x++s)):=by
 unfold qaQ;rw[cc_of,z7,qB1,gd_t,qxy];rw[qaF (by omega),zk2]
 rw[zS]; exact h1
theorem qtV{l:List Int}(hi:∀x∈l,i64P x)(hl:l.length<=10):∀(t:List Int) (k:Nat) (x:Str),l.drop k=t->k<=l.length->x≠[]->x.length<=1000000+21*k->
  iter (fun x=>qcC l x.1 x.2) ((k:Int),qaH x)=some (qaH (x++t.flatMap fun x=>32::Lib.itoa x))
 | [],k,x,he,hk,hx,hb=>by
  have hk:=qvt he hk;refine qas ?_
  show qcC l (k:Int) (qaH x)=_;unfold qcC;rw[dec_f,List.flatMap_nil,zG]; rfl
 | y::t,k,x,he,hk,hx,hb=>by
  obtain⟨h1,h2,h3⟩:=qxD (d:=0) he;have hy:i64P y:=hi y (by rw[<-h2]; exact gmem h1)
  have h20:=qbe hy;have hs:qcC l (k:Int) (qaH x)=some (.inl (((k+1:Nat):Int),qaH (x++(32::Lib.itoa y)))):=by
   refine ok_eq ?_
   unfold qcC;rw[dec_t,w1 h1,za,h2]
   refine oG (inB_t h1) (oE (qBK hy) (oG (ble_t (by simp only[zO]; omega)) ?_))
   exact oE (wr_eq (s:=[32]++Lib.itoa y) (by simp; omega) (by simp only[ze,zO]; omega)) (.ret rfl)
  refine(qaJ hs).trans ?_
  rw[qtV hi hl t (k+1) _ h3 h1 (by simp) (by simp only[ze,zf]; omega),zO2,zw]
theorem qnw{w:List Str}{l:List Int}{x:Str}(hi:∀y∈l,i64P y)(hl:l.length<=10)(hw:w.length<=5)(hz:∀y∈w,y.length<=12)(hn:joinS w≠[])(hx:x.length<=900000):qbV w l (qaH x)=some (qaH (x++shW w l)):=by
 have h3:=qsV hz;have h4:=qns w;have h5:0<(joinS w).length:=zM1.2 hn;have h6:(l.flatMap fun x=>32::Lib.itoa x).length<=21*l.length:=by
  clear hl;induction l with
  | nil=>exact zP _
  | cons a l ih=>
   have:=ih fun y hy=>hi y (.tail _ hy)
   have:=qbe (hi a (.head _));rw[zO2,ze,zf,zf]; omega
 refine ok_eq ?_
 unfold qbV;refine oE (qxz (by omega) (fun y hy=>zA (hz y hy) (by decide))) (oE (wr_eq (by omega) (by omega)) ?_)
 refine oE (qtV hi hl l 0 (x++joinS w) rfl (by omega) (by intro e; rw[List.append_eq_nil_iff] at e; exact hn e.2) (by rw[ze]; omega)) ?_
 refine oE (wr_eq (s:=[10]) (by simp) (by simp only[ze,zO]; omega)) (.ret ?_)
 unfold shW;simp only[zw]
theorem qh1{w:List Str}{l:List Int}(hi:∀y∈l,i64P y)(hl:l.length<=5)(hw:w.length<=5)(hz:∀y∈w,y.length<=12):(shW w l).length<=200:=by
 have h3:=qsV hz;have h4:=qns w;have h6:(l.flatMap fun x=>32::Lib.itoa x).length<=21*l.length:=by
  clear hl;induction l with
  | nil=>exact zP _
  | cons a l ih=>
   have:=ih fun y hy=>hi y (.tail _ hy)
   have:=qbe (hi a (.head _));rw[zO2,ze,zf,zf]; omega
 unfold shW;simp only[ze,zO];omega
theorem qyQ{step:Int×List Int->Option ((Int×List Int)⊕List Int)}(m:Nat)(f:Nat->Str)(hs:∀(k:Nat) (x:Str),k<m->x.length<=900000->step ((k:Int),qaH x)=some (.inl (((k+1:Nat):Int),qaH (x++f k))))(he:∀b,step ((m:Int),b)=some (.inr b))(hf:∀k,k<m->(f k).length<=200):
  ∀(j k:Nat) (x:Str),k+j=m->x.length+200*j<=900000->iter step ((k:Int),qaH x)=some (qaH (x++(List.range' k j).flatMap f))/\(x++(List.range' k j).flatMap f).length<=x.length+200*j
 | 0,k,x,hk,hx=>by
  have hk:k=m:=by omega
  subst hk;refine⟨qas ?_,by simp⟩
  rw[he];simp
 | j+1,k,x,hk,hx=>by
  have h1:=hf k (by omega)
  obtain⟨i1,i2⟩:=qyQ m f hs he hf j (k+1) (x++f k) (by omega) (by rw[ze]; omega)
  rw[List.range'_succ,zO2,<-zw];refine⟨(qaJ (hs k x (by omega) (by omega))).trans i1,?_⟩
  rw[ze] at i2 ⊢;rw[ze] at i2 ⊢;omega
theorem qmQ{step:Int×List Int->Option ((Int×List Int)⊕List Int)}(m:Nat)(f:Nat->Str){x:Str}(hx:x.length+200*m<=900000)(hs:∀(k:Nat) (x:Str),k<m->x.length<=900000->step ((k:Int),qaH x)=some (.inl (((k+1:Nat):Int),qaH (x++f k))))(he:∀b,step ((m:Int),b)=some (.inr b))(hf:∀k,k<m->(f k).length<=200):
  Ok (iter step (0,qaH x)) fun y=>y=qaH (x++(List.range' 0 m).flatMap f)/\(x++(List.range' 0 m).flatMap f).length<=x.length+200*m:=
 have h:=qyQ m f hs he hf m 0 x (by omega) hx
 ⟨_,h.1,rfl,h.2⟩
abbrev qtW:Str:=[99,111,117,110,116]
def shV(c:Cn)(i:Nat):Str:=shW [[118,97,108,118,101]] [(i:Int),(c.1.1.getD i (0,0,false,false)).2.1,(c.1.1.getD i (0,0,false,false)).1]
def shR(n:Net)(c:Cn)(i:Nat):Str:=bif decide (c.1.2.1.getD i 0=0) then [] else shW [[114,97,116,101],segN n (i:Int)] [c.1.2.1.getD i 0]
def shP(n:Net)(c:Cn)(i:Nat):Str:=bif decide (c.1.2.2.1.getD i 0=0) then [] else shW [[112,111,114,116],portN n (i:Int)] [c.1.2.2.1.getD i 0]
def shS(n:Net)(c:Cn)(i:Nat):Str:=bif c.1.2.2.2.getD i false then shW [[112,117,109,112],staN n (i:Int)] [] else []
def shA(c:Cn)(i:Nat):Str:=shW [[97,99,99,111,117,110,116],(c.2.2.1.getD i a0).1] [(c.2.2.1.getD i a0).2.1,(c.2.2.1.getD i a0).2.2.1,(c.2.2.1.getD i a0).2.2.2.1,(c.2.2.1.getD i a0).2.2.2.2]
def showT(n:Net)(c:Cn):Str:=shW [qtW] [c.2.2.2]++(List.range' 0 c.1.1.length).flatMap (shV c)++(List.range' 0 n.2.1.length).flatMap (shR n c)++(List.range' 0 n.2.2.1.length).flatMap (shP n c)++(List.range' 0 n.2.2.2.1.length).flatMap (shS n c)++(List.range' 0 c.2.2.1.length).flatMap (shA c)
theorem one_i{x:Int}(h:i64P x):∀y∈[x],i64P y:=fun y hy=>by rw[zZ.1 hy]; exact h
theorem two_l{a x:Str}(ha:a.length<=12)(hx:x.length<=12):∀y∈[a,x],y.length<=12:=fun y hy=>by
 rcases zy.1 hy with rfl | hy
 ·exact ha
 ·rw[zZ.1 hy]; exact hx
theorem qyR(a x:Str):joinS [a,x]≠[]:=by rw[qfr]; simp
theorem nm_le{A:Type}{l:List A}{g:A->Str}{d:A}(h:∀x∈l,nameB (g x)=true){i:Nat}(hi:i<l.length):(g (l.getD i d)).length<=12:=qhm (h _ (gmem hi))
theorem qFl{n:Net}{c:Cn}(hd:qe3 n c.1=0)(ha:Ac.ValidP c.2.2.1)(hcc:0<=c.2.2.2/\c.2.2.2<=100000):qeJ n c=some (showT n c,0):=by
 have hv:=VDk.of hd;have h0:=hv.net;have hN:=NmP.of h0;have hsz:=hv.sz;have hlen:=hv.len;have hsm:=(VNet.of h0).small;have m1:=hsm.sg; have m2:=hsm.po; have m3:=hsm.st; have m4:=ha.n;have hval:=zq.1 hv.val;refine ok_eq ?_
 unfold qeJ;refine oE (qcK n) ?_
 rw[dec_t h0,zg,zc];refine oE (qjz n c.1) ?_
 rw[dec_t hd,zg,zc];refine oE (Ac.valid_eq (by omega)) ?_
 rw[Ac.validB_iff.2 ha,zg,zc];refine oE (a:=qaH []) rfl ?_
 have c1:joinS [qtW]≠[]:=by rw[qfq]; decide
 refine oE (qnw (w:=[qtW]) (l:=[c.2.2.2]) (one_i ⟨by omega,by omega⟩) (by simp) (by simp) (by decide) c1 (by simp)) ?_
 have l0:=qh1 (w:=[qtW]) (l:=[c.2.2.2]) (one_i ⟨by omega,by omega⟩) (by simp) (by simp) (by decide)
 refine oB (qmQ c.1.1.length (shV c) (by rw[zF]; omega) (fun k x hk hx=>?_) (fun b=>?_) (fun k hk=>?_)) ?_
 ·have h1:=hval _ (gmem (d:=(0,0,false,false)) hk);unfold qcx at h1;rw[z8,qhO,qhO] at h1;refine ok_eq ?_
  show Ok (qeE c (k:Int) (qaH x)) _;unfold qeE;rw[dec_t,w1 hk]
  simp only[za];refine oG (inB_t hk) (oE (qnw (fun y hy=>?_) (by simp) (by simp) (by decide) (by rw[qfq]; decide) hx) (.ret rfl))
  simp only[zy,z82,or_false] at hy;rcases hy with rfl | rfl | rfl <;> exact⟨by omega,by omega⟩
 ·show qeE c (c.1.1.length:Int) b=_;unfold qeE;rw[dec_f]; rfl
 ·have h1:=hval _ (gmem (d:=(0,0,false,false)) hk);unfold qcx at h1;rw[z8,qhO,qhO] at h1;refine qh1 (fun y hy=>?_) (by simp) (by simp) (by decide)
  simp only[zy,z82,or_false] at hy;rcases hy with rfl | rfl | rfl <;> exact⟨by omega,by omega⟩
 rintro _ ⟨rfl,b1⟩
 rw[zF] at b1 ⊢;refine oB (qmQ n.2.1.length (shR n c) (by omega) (fun k x hk hx=>?_) (fun b=>?_) (fun k hk=>?_)) ?_
 ·have hr:=hv.rate k;have hnm:(segN n (k:Int)).length<=12:=nm_le (g:=(·.1)) hN.sf hk;refine ok_eq ?_
  show Ok (qeF n c (k:Int) (qaH x)) _;unfold qeF shR;rw[dec_t,w1 hk]
  simp only[za];refine oG (inB_t hk) (oG (inB_t (show k<c.1.2.1.length by omega)) ?_)
  cases hz:decide (c.1.2.1.getD k 0=0)
  ·exact oE (ok_eq (oE (qnw (w:=[[114,97,116,101],segN n (k:Int)]) (one_i ⟨by omega,by omega⟩) (by simp) (by simp) (two_l (by decide) hnm) (qyR _ _) hx) (.ret rfl))) (.ret rfl)
  ·exact oE (a:=qaH x) rfl (.ret (by rw[zb,zG]))
 ·show qeF n c (n.2.1.length:Int) b=_;unfold qeF;rw[dec_f]; rfl
 ·have hr:=hv.rate k;unfold shR;cases decide (c.1.2.1.getD k 0=0)
  ·exact qh1 (one_i ⟨by omega,by omega⟩) (by simp) (by simp) (two_l (by decide) (nm_le (g:=(·.1)) hN.sf hk))
  ·exact zN _
 rintro _ ⟨rfl,b2⟩
 refine oB (qmQ n.2.2.1.length (shP n c) (zA (zh2 b2 _) (by omega)) (fun k x hk hx=>?_) (fun b=>?_) (fun k hk=>?_)) ?_
 ·have hr:=hv.prate k;have hnm:(portN n (k:Int)).length<=12:=nm_le (g:=(·.1)) hN.pf hk;refine ok_eq ?_
  show Ok (qeG n c (k:Int) (qaH x)) _;unfold qeG shP;rw[dec_t,w1 hk]
  simp only[za];refine oG (inB_t hk) (oG (inB_t (show k<c.1.2.2.1.length by omega)) ?_)
  cases hz:decide (c.1.2.2.1.getD k 0=0)
  ·exact oE (ok_eq (oE (qnw (w:=[[112,111,114,116],portN n (k:Int)]) (one_i ⟨by omega,by omega⟩) (by simp) (by simp) (two_l (by decide) hnm) (qyR _ _) hx) (.ret rfl))) (.ret rfl)
  ·exact oE (a:=qaH x) rfl (.ret (by rw[zb,zG]))
 ·show qeG n c (n.2.2.1.length:Int) b=_;unfold qeG;rw[dec_f]; rfl
 ·have hr:=hv.prate k;unfold shP;cases decide (c.1.2.2.1.getD k 0=0)
  ·exact qh1 (one_i ⟨by omega,by omega⟩) (by simp) (by simp) (two_l (by decide) (nm_le (g:=(·.1)) hN.pf hk))
  ·exact zN _
 rintro _ ⟨rfl,b3⟩
 refine oB (qmQ n.2.2.2.1.length (shS n c) (zA (zh2 b3 _) (by omega)) (fun k x hk hx=>?_) (fun b=>?_) (fun k hk=>?_)) ?_
 ·have hnm:(staN n (k:Int)).length<=12:=nm_le (g:=(·.1)) hN.af hk;refine ok_eq ?_
  show Ok (qeH n c (k:Int) (qaH x)) _;unfold qeH shS;rw[dec_t,w1 hk]
  simp only[za];refine oG (inB_t hk) (oG (inB_t (show k<c.1.2.2.2.length by omega)) ?_)
  cases hz:c.1.2.2.2.getD k false
  ·exact oE (a:=qaH x) rfl (.ret (by rw[zc,zG]))
  ·exact oE (ok_eq (oE (qnw (w:=[[112,117,109,112],staN n (k:Int)]) (l:=[]) (fun y hy=>by cases hy) (by simp) (by simp) (two_l (by decide) hnm) (qyR _ _) hx) (.ret rfl))) (.ret rfl)
 ·show qeH n c (n.2.2.2.1.length:Int) b=_;unfold qeH;rw[dec_f]; rfl
 ·unfold shS;cases c.1.2.2.2.getD k false
  ·exact zN _
  ·exact qh1 (fun y hy=>by cases hy) (by simp) (by simp) (two_l (by decide) (nm_le (g:=(·.1)) hN.af hk))
 rintro _ ⟨rfl,b4⟩
 have acc:∀k,k<c.2.2.1.length->(∀y∈[(c.2.2.1.getD k a0).2.1,(c.2.2.1.getD k a0).2.2.1,(c.2.2.1.getD k a0).2.2.2.1,(c.2.2.1.getD k a0).2.2.2.2],i64P y)/\(c.2.2.1.getD k a0).1.length<=12:=fun k hk=>by
  have h1:=ha.acc _ (gmem (d:=a0) hk);have h2:=ha.nm _ (gmem (d:=a0) hk);rw[qnu] at h2;unfold Ac.accP Ac.volP Ac.sgnP at h1;simp only[z8,zi] at h1;refine⟨fun y hy=>?_,qhm h2⟩
  simp only[zy,z82,or_false] at hy;rcases hy with rfl | rfl | rfl | rfl <;> exact⟨by omega,by omega⟩
 refine oB (qmQ c.2.2.1.length (shA c) (zA (zh2 b4 _) (by omega)) (fun k x hk hx=>?_) (fun b=>?_) (fun k hk=>?_)) ?_
 ·refine ok_eq ?_
  show Ok (qeI c (k:Int) (qaH x)) _;unfold qeI;rw[dec_t,w1 hk]
  simp only[za];exact oG (inB_t hk) (oE (qnw (acc k hk).1 (by simp) (by simp) (two_l (by decide) (acc k hk).2) (qyR _ _) hx) (.ret rfl))
 ·show qeI c (c.2.2.1.length:Int) b=_;unfold qeI;rw[dec_f]; rfl
 ·exact qh1 (acc k hk).1 (by simp) (by simp) (two_l (by decide) (acc k hk).2)
 rintro _ ⟨rfl,b5⟩
 refine oE (a:=showT n c) ?_ (.ret rfl)
 show qcR (qaH (showT n c))=_;unfold qcR;have hp:0<(qaH (showT n c)).length:=by
  rw[qB1];unfold showT shW;simp only[ze,zO];omega
 have hb:Nat.blt 0 (qaH (showT n c)).length=true:=by rw[zS]; exact hp
 rw[gd_t hb,gd_t (by rw[hb,qmO,dec_t rfl,dec_t rfl]; rfl),qmO]
theorem qmR{step:Str×Int->Option ((Str×Int)⊕Str)}(m:Nat)(f:Nat->Str){x:Str}(hx:x.length+200*m<=900000)(hs:∀(k:Nat) (x:Str),k<m->x.length<=900000->step (x,(k:Int))=some (.inl (x++f k,((k+1:Nat):Int))))(he:∀b,step (b,(m:Int))=some (.inr b))(hf:∀k,k<m->(f k).length<=200):
  Ok (iter step (x,0)) fun y=>y=x++(List.range' 0 m).flatMap f/\(x++(List.range' 0 m).flatMap f).length<=x.length+200*m:=by
 have key:∀(j k:Nat) (x:Str),k+j=m->x.length+200*j<=900000->iter step (x,(k:Int))=some (x++(List.range' k j).flatMap f)/\(x++(List.range' k j).flatMap f).length<=x.length+200*j:=by
  intro j;induction j with
  | zero=>
   intro k x hk hx;have hk:k=m:=by omega
   subst hk;refine⟨qas ?_,by simp⟩
   rw[he];simp
  | succ j ih=>
   intro k x hk hx;have h1:=hf k (by omega)
   obtain⟨i1,i2⟩:=ih (k+1) (x++f k) (by omega) (by rw[ze]; omega)
   rw[List.range'_succ,zO2,<-zw];refine⟨(qaJ (hs k x (by omega) (by omega))).trans i1,?_⟩
   rw[ze] at i2 ⊢;rw[ze] at i2 ⊢;omega
 have h:=key m 0 x (by omega) hx
 exact⟨_,h.1,rfl,h.2⟩
theorem cat_g{a b:Nat}(h:a+b<=2000000):Nat.ble (a+b) 9223372036854775807=true:=ble_t (by omega)
theorem qDu{n:Net}{c:Cn}(hd:qe3 n c.1=0)(ha:Ac.ValidP c.2.2.1)(hcc:0<=c.2.2.2/\c.2.2.2<=100000):qg3 n c=some (showT n c,0):=by
 have hv:=VDk.of hd;have h0:=hv.net;have hN:=NmP.of h0;have hsz:=hv.sz;have hlen:=hv.len;have hsm:=(VNet.of h0).small;have m1:=hsm.sg; have m2:=hsm.po; have m3:=hsm.st; have m4:=ha.n;have hval:=zq.1 hv.val;refine ok_eq ?_
 unfold qg3;refine oE (qcL n) ?_
 rw[dec_t h0,zg,zc];refine oE (qnq n c.1) ?_
 rw[dec_t hd,zg,zc];refine oE (Ac.rvalid_eq (by omega)) ?_
 rw[Ac.validB_iff.2 ha,zg,zc];have ic:i64P c.2.2.2:=⟨by omega,by omega⟩
 have l20:=qbe ic;refine oE (qbE ic) ?_
 refine oG (show Nat.ble (([99,111,117,110,116,32]:Str).length+(Lib.itoa c.2.2.2).length) 9223372036854775807=true from ble_t (by show 6+_<=_; omega)) ?_
 refine oG (show Nat.ble (([99,111,117,110,116,32]++Lib.itoa c.2.2.2:Str).length+([10]:Str).length) 9223372036854775807=true from ble_t (by rw[ze]; show 6+_+1<=_; omega)) ?_
 have e0:([99,111,117,110,116,32]++Lib.itoa c.2.2.2)++[10]=shW [qtW] [c.2.2.2]:=by simp[shW,qfq]
 rw[e0];have l0:=qh1 (w:=[qtW]) (l:=[c.2.2.2]) (one_i ⟨by omega,by omega⟩) (by simp) (by simp) (by decide)
 refine oB (qmR c.1.1.length (shV c) (by omega) (fun k x hk hx=>?_) (fun b=>?_) (fun k hk=>?_)) ?_
 ·have h1:=hval _ (gmem (d:=(0,0,false,false)) hk);unfold qcx at h1;rw[z8,qhO,qhO] at h1;have i1:i64P (k:Int):=⟨by omega,by omega⟩
  have i2:i64P (c.1.1.getD k (0,0,false,false)).2.1:=⟨by omega,by omega⟩
  have i3:i64P (c.1.1.getD k (0,0,false,false)).1:=⟨by omega,by omega⟩
  have j1:=qbe i1; have j2:=qbe i2; have j3:=qbe i3;refine ok_eq ?_
  show Ok (qgz c x (k:Int)) _;unfold qgz;rw[dec_t,w1 hk]
  simp only[za];refine oG (cat_g (by first | (simp only[ze,zf,zo]; omega) | omega)) (oE (qbE i1) (oG (cat_g (by first | (simp only[ze,zf,zo]; omega) | omega)) (oG (cat_g (by first | (simp only[ze,zf,zo]; omega) | omega)) (oG (inB_t hk) (oE (qbE i2) ?_)))))
  refine oG (cat_g (by first | (simp only[ze,zf,zo]; omega) | omega)) (oG (cat_g (by first | (simp only[ze,zf,zo]; omega) | omega)) (oG (inB_t hk) (oE (qbE i3) (oG (cat_g (by first | (simp only[ze,zf,zo]; omega) | omega)) (oG (cat_g (by first | (simp only[ze,zf,zo]; omega) | omega)) (.ret ?_))))))
  unfold shV;simp[shW,qfq]
 ·show qgz c b (c.1.1.length:Int)=_;unfold qgz;rw[dec_f]; rfl
 ·have h1:=hval _ (gmem (d:=(0,0,false,false)) hk);unfold qcx at h1;rw[z8,qhO,qhO] at h1;refine qh1 (fun y hy=>?_) (by simp) (by simp) (by decide)
  simp only[zy,z82,or_false] at hy;rcases hy with rfl | rfl | rfl <;> exact⟨by omega,by omega⟩
 rintro _ ⟨rfl,b1⟩
 refine oB (qmR n.2.1.length (shR n c) (by omega) (fun k x hk hx=>?_) (fun b=>?_) (fun k hk=>?_)) ?_
 ·have hr:=hv.rate k;have hnm:(segN n (k:Int)).length<=12:=nm_le (g:=(·.1)) hN.sf hk;have i1:i64P (c.1.2.1.getD k 0):=⟨by omega,by omega⟩
  have j1:=qbe i1;refine ok_eq ?_
  show Ok (qgA n c x (k:Int)) _;unfold qgA shR;rw[dec_t,w1 hk]
  simp only[za];refine oG (inB_t (show k<c.1.2.1.length by omega)) ?_
  cases hz:decide (c.1.2.1.getD k 0=0)
  ·refine oE (a:=x++shW [[114,97,116,101],segN n (k:Int)] [c.1.2.1.getD k 0]) (ok_eq ?_) (.ret rfl)
   show Ok (gd (Nat.ble (x.length+[114,97,116,101,32].length) 9223372036854775807)<|gd (inB (k:Int) n.2.1.length)<|gd (Nat.ble ((x++[114,97,116,101,32]).length+(segN n (k:Int)).length) 9223372036854775807)<|gd (Nat.ble (((x++[114,97,116,101,32])++segN n (k:Int)).length+[32].length) 9223372036854775807)<|(qag (c.1.2.1.getD k 0)).bind fun r8=>gd (Nat.ble ((((x++[114,97,116,101,32])++segN n (k:Int))++[32]).length+r8.length) 9223372036854775807)<|gd (Nat.ble (((((x++[114,97,116,101,32])++segN n (k:Int))++[32])++r8).length+[10].length) 9223372036854775807)<|some (((((x++[114,97,116,101,32])++segN n (k:Int))++[32])++r8)++[10])) _
   refine oG (cat_g (by first | (simp only[ze,zf,zo]; omega) | omega)) (oG (inB_t hk) (oG (cat_g (by first | (simp only[ze,zf,zo]; omega) | omega)) (oG (cat_g (by first | (simp only[ze,zf,zo]; omega) | omega)) (oE (qbE i1) (oG (cat_g (by first | (simp only[ze,zf,zo]; omega) | omega)) (oG (cat_g (by first | (simp only[ze,zf,zo]; omega) | omega)) (.ret ?_)))))))
   simp[shW,qfr]
  ·exact oE (a:=x) rfl (.ret (by rw[zb,zG]))
 ·show qgA n c b (n.2.1.length:Int)=_;unfold qgA;rw[dec_f]; rfl
 ·have hr:=hv.rate k;unfold shR;cases decide (c.1.2.1.getD k 0=0)
  ·exact qh1 (one_i ⟨by omega,by omega⟩) (by simp) (by simp) (two_l (by decide) (nm_le (g:=(·.1)) hN.sf hk))
  ·exact zN _
 rintro _ ⟨rfl,b2⟩
 refine oB (qmR n.2.2.1.length (shP n c) (zA (zh2 b2 _) (by omega)) (fun k x hk hx=>?_) (fun b=>?_) (fun k hk=>?_)) ?_
 ·have hr:=hv.prate k;have hnm:(portN n (k:Int)).length<=12:=nm_le (g:=(·.1)) hN.pf hk;have i1:i64P (c.1.2.2.1.getD k 0):=⟨by omega,by omega⟩
  have j1:=qbe i1;refine ok_eq ?_
  show Ok (qgB n c x (k:Int)) _;unfold qgB shP;rw[dec_t,w1 hk]
  simp only[za];refine oG (inB_t (show k<c.1.2.2.1.length by omega)) ?_
  cases hz:decide (c.1.2.2.1.getD k 0=0)
  ·refine oE (a:=x++shW [[112,111,114,116],portN n (k:Int)] [c.1.2.2.1.getD k 0]) (ok_eq ?_) (.ret rfl)
   show Ok (gd (Nat.ble (x.length+[112,111,114,116,32].length) 9223372036854775807)<|gd (inB (k:Int) n.2.2.1.length)<|gd (Nat.ble ((x++[112,111,114,116,32]).length+(portN n (k:Int)).length) 9223372036854775807)<|gd (Nat.ble (((x++[112,111,114,116,32])++portN n (k:Int)).length+[32].length) 9223372036854775807)<|(qag (c.1.2.2.1.getD k 0)).bind fun r8=>gd (Nat.ble ((((x++[112,111,114,116,32])++portN n (k:Int))++[32]).length+r8.length) 9223372036854775807)<|gd (Nat.ble (((((x++[112,111,114,116,32])++portN n (k:Int))++[32])++r8).length+[10].length) 9223372036854775807)<|some (((((x++[112,111,114,116,32])++portN n (k:Int))++[32])++r8)++[10])) _
   refine oG (cat_g (by first | (simp only[ze,zf,zo]; omega) | omega)) (oG (inB_t hk) (oG (cat_g (by first | (simp only[ze,zf,zo]; omega) | omega)) (oG (cat_g (by first | (simp only[ze,zf,zo]; omega) | omega)) (oE (qbE i1) (oG (cat_g (by first | (simp only[ze,zf,zo]; omega) | omega)) (oG (cat_g (by first | (simp only[ze,zf,zo]; omega) | omega)) (.ret ?_)))))))
   simp[shW,qfr]
  ·exact oE (a:=x) rfl (.ret (by rw[zb,zG]))
 ·show qgB n c b (n.2.2.1.length:Int)=_;unfold qgB;rw[dec_f]; rfl
 ·have hr:=hv.prate k;unfold shP;cases decide (c.1.2.2.1.getD k 0=0)
  ·exact qh1 (one_i ⟨by omega,by omega⟩) (by simp) (by simp) (two_l (by decide) (nm_le (g:=(·.1)) hN.pf hk))
  ·exact zN _
 rintro _ ⟨rfl,b3⟩
 refine oB (qmR n.2.2.2.1.length (shS n c) (zA (zh2 b3 _) (by omega)) (fun k x hk hx=>?_) (fun b=>?_) (fun k hk=>?_)) ?_
 ·have hnm:(staN n (k:Int)).length<=12:=nm_le (g:=(·.1)) hN.af hk;refine ok_eq ?_
  show Ok (qgC n c x (k:Int)) _;unfold qgC shS;rw[dec_t,w1 hk]
  simp only[za];refine oG (inB_t (show k<c.1.2.2.2.length by omega)) ?_
  cases hz:c.1.2.2.2.getD k false
  ·exact oE (a:=x) rfl (.ret (by rw[zc,zG]))
  ·refine oE (a:=x++shW [[112,117,109,112],staN n (k:Int)] []) (ok_eq ?_) (.ret rfl)
   show Ok (gd (Nat.ble (x.length+[112,117,109,112,32].length) 9223372036854775807)<|gd (inB (k:Int) n.2.2.2.1.length)<|gd (Nat.ble ((x++[112,117,109,112,32]).length+(staN n (k:Int)).length) 9223372036854775807)<|gd (Nat.ble (((x++[112,117,109,112,32])++staN n (k:Int)).length+[10].length) 9223372036854775807)<|some (((x++[112,117,109,112,32])++staN n (k:Int))++[10])) _;refine oG (cat_g (by first | (simp only[ze,zf,zo]; omega) | omega)) (oG (inB_t hk) (oG (cat_g (by first | (simp only[ze,zf,zo]; omega) | omega)) (oG (cat_g (by first | (simp only[ze,zf,zo]; omega) | omega)) (.ret ?_))))
   simp[shW,qfr]
 ·show qgC n c b (n.2.2.2.1.length:Int)=_;unfold qgC;rw[dec_f]; rfl
 ·unfold shS;cases c.1.2.2.2.getD k false
  ·exact zN _
  ·exact qh1 (fun y hy=>by cases hy) (by simp) (by simp) (two_l (by decide) (nm_le (g:=(·.1)) hN.af hk))
 rintro _ ⟨rfl,b4⟩
 have acc:∀k,k<c.2.2.1.length->(∀y∈[(c.2.2.1.getD k a0).2.1,(c.2.2.1.getD k a0).2.2.1,(c.2.2.1.getD k a0).2.2.2.1,(c.2.2.1.getD k a0).2.2.2.2],i64P y)/\(c.2.2.1.getD k a0).1.length<=12:=fun k hk=>by
  have h1:=ha.acc _ (gmem (d:=a0) hk);have h2:=ha.nm _ (gmem (d:=a0) hk);rw[qnu] at h2;unfold Ac.accP Ac.volP Ac.sgnP at h1;simp only[z8,zi] at h1;refine⟨fun y hy=>?_,qhm h2⟩
  simp only[zy,z82,or_false] at hy;rcases hy with rfl | rfl | rfl | rfl <;> exact⟨by omega,by omega⟩
 refine oB (qmR c.2.2.1.length (shA c) (zA (zh2 b4 _) (by omega)) (fun k x hk hx=>?_) (fun b=>?_) (fun k hk=>?_)) ?_
 ·obtain⟨hi,hnm⟩:=acc k hk;have i1:=hi _ (.head _); have i2:=hi _ (.tail _ (.head _)); have i3:=hi _ (.tail _ (.tail _ (.head _))); have i4:=hi _ (.tail _ (.tail _ (.tail _ (.head _))));have j1:=qbe i1; have j2:=qbe i2; have j3:=qbe i3; have j4:=qbe i4;refine ok_eq ?_
  show Ok (qgD c x (k:Int)) _;unfold qgD shA;rw[dec_t,w1 hk]
  simp only[za];generalize c.2.2.1.getD k a0=A at*
  obtain⟨A1,A2,A3,A4,A5⟩:=A;simp only at hnm i1 i2 i3 i4 j1 j2 j3 j4;refine oG (inB_t hk) (oG (cat_g (by first | (simp only[ze,zf,zo]; omega) | omega)) (oG (cat_g (by first | (simp only[ze,zf,zo]; omega) | omega)) (oG (cat_g (by first | (simp only[ze,zf,zo]; omega) | omega)) (oE (qbE i1) ?_))))
  refine oG (cat_g (by first | (simp only[ze,zf,zo]; omega) | omega)) (oG (cat_g (by first | (simp only[ze,zf,zo]; omega) | omega)) (oE (qbE i2) ?_))
  refine oG (cat_g (by first | (simp only[ze,zf,zo]; omega) | omega)) (oG (cat_g (by first | (simp only[ze,zf,zo]; omega) | omega)) (oE (qbE i3) ?_))
  refine oG (cat_g (by first | (simp only[ze,zf,zo]; omega) | omega)) (oG (cat_g (by first | (simp only[ze,zf,zo]; omega) | omega)) (oE (qbE i4) ?_))
  refine oG (cat_g (by first | (simp only[ze,zf,zo]; omega) | omega)) (oG (cat_g (by first | (simp only[ze,zf,zo]; omega) | omega)) (.ret ?_))
  simp[shW,qfr]
 ·show qgD c b (c.2.2.1.length:Int)=_;unfold qgD;rw[dec_f]; rfl
 ·exact qh1 (acc k hk).1 (by simp) (by simp) (two_l (by decide) (acc k hk).2)
 rintro _ ⟨rfl,b5⟩
 exact .ret rfl
theorem qB2{n:Net}(h0:qbs n=0){c:Cn}{k:Nat}(hc:CnG c k)(hk:k<=10000):∃e,qeJ n c=some e/\qg3 n c=some e:=by
 by_cases hd:qe3 n c.1=0
 ·cases hv:Ac.validB c.2.2.1 with
  | true=>
   have ha:=Ac.validB_iff.1 hv;have hn:=hc.n0; have hn1:=hc.n1;exact⟨_,qFl hd ha ⟨by omega,by omega⟩,qDu hd ha ⟨by omega,by omega⟩⟩
  | false=>
   have:=hc.a;refine⟨([],27),ok_eq ?_,ok_eq ?_⟩
   ·unfold qeJ;refine oE (qcK n) ?_
    rw[dec_t h0,zg,zc];refine oE (qjz n c.1) ?_
    rw[dec_t hd,zg,zc];refine oE (Ac.valid_eq (by omega)) ?_
    rw[hv]; exact .ret rfl
   ·unfold qg3;refine oE (qcL n) ?_
    rw[dec_t h0,zg,zc];refine oE (qnq n c.1) ?_
    rw[dec_t hd,zg,zc];refine oE (Ac.rvalid_eq (by omega)) ?_
    rw[hv]; exact .ret rfl
 ·refine⟨([],qe3 n c.1),ok_eq ?_,ok_eq ?_⟩
  ·unfold qeJ;refine oE (qcK n) ?_
   rw[dec_t h0,zg,zc];refine oE (qjz n c.1) ?_
   rw[dec_f hd]; exact .ret rfl
  ·unfold qg3;refine oE (qcL n) ?_
   rw[dec_t h0,zg,zc];refine oE (qnq n c.1) ?_
   rw[dec_f hd]; exact .ret rfl
/-! ### The line of a record whose shipper's name may be as long as memory -/
theorem qFm(n:Net){r:Rec}(hs:100000<r.2.2.2.1.length):recB n r=false:=by
 have hE:noE r.2.2.2=false:=by
  unfold noE;rw[dec_f (show ¬r.2.2.2.1=[] from fun e=>by rw[e] at hs; simp at hs)]; rfl
 have hN:entB r.2.2.2=false:=by
  unfold entB;cases h:Ac.nameP r.2.2.2.1 with
  | false=>simp
  | true=>
   rw[qnu] at h;have:=qhm h; omega
 unfold recB;rw[hE,hN];simp
theorem qB3{n:Net}(hn:NB n){r:Rec}(hr:RcJ r)(hs:r.2.2.2.1.length<=140737488351232):joinT (recV n r) [32]=some (joinS (recV n r)):=by
 by_cases h3:r.1=3
 ·have hl:=qns (recV n r);have e:recV n r=entV r.2.2.2:=by unfold recV; rw[if_neg (by omega),if_neg (by omega),if_pos h3]
  rw[e] at hl ⊢;have hi:=qbe hr.e;have hk:∀x∈kindL,x.length<=9:=by decide
  have h1:sumL (entV r.2.2.2)<=14+(r.2.2.2.1.length+20)/\(entV r.2.2.2).length<=4:=by
   unfold entV;cases hb:ixB (r.2.2.2.2.1-1) 4
   ·refine⟨?_,by simp⟩
    show sumL [qcO,r.2.2.2.1,Lib.itoa r.2.2.2.2.2]<=_;have:qcO.length=5:=rfl;simp only[sumL,z81,zK1,List.sum_cons,List.sum_nil]; omega
   ·refine⟨?_,by simp⟩
    have h4:=ixB_t hb;have:=hk _ (gmem (l:=kindL) (i:=r.2.2.2.2.1.toNat) (d:=[]) (by show _<5; omega))
    show sumL [qcO,kindL.getD r.2.2.2.2.1.toNat [],r.2.2.2.1,Lib.itoa r.2.2.2.2.2]<=_;have:qcO.length=5:=rfl;simp only[sumL,z81,zK1,List.sum_cons,List.sum_nil]; omega
  unfold joinT;rw[zj1 (by omega),zj1 (by show(joinS (entV r.2.2.2)).length<=_; omega)]; rfl
 ·have e:recV n r=recV n (r.1,r.2.1,r.2.2.1,[],r.2.2.2.2):=by
   unfold recV;split
   ·rfl
   split
   ·rfl
   rfl
  rw[e];have hz:=qxA hn (r:=(r.1,r.2.1,r.2.2.1,[],r.2.2.2.2)) ⟨hr.v,hr.vi,hr.i,hr.w,hr.h,zN _,hr.k,hr.e⟩;exact qxz hz.l hz.x
theorem qzC{n:Net}(h0:qbs n=0){r:Rec}(hr:RcJ r)(hs:r.2.2.2.1.length<=140737488351232):qdd n r=some (fmtS n r):=by
 by_cases hl:r.2.2.2.1.length<=100000
 ·exact qBP h0 ⟨hr.v,hr.vi,hr.i,hr.w,hr.h,hl,hr.k,hr.e⟩
 have hn:=(NmP.of h0).nb;have hB:=qFm n (r:=r) (by omega)
 refine ok_eq ?_
 unfold qdd fmtS;refine oE (qcK n) ?_
 rw[dec_t h0];refine oE (a:=(joinS (recV n r),recB n r)) (ok_eq ?_) ?_
 ·unfold qdb;refine oE (a:=(false,[])) rfl (oE (qyI hn hr) (oE (qB3 hn hr hs) (.ret (Prod.ext rfl ?_))))
  exact zg2 _
 ·rw[hB]; exact .ret rfl
/-! ### Records are compared -/
theorem qzD{p:Pth}(h:p.2.2.1.length<=100000):qfO p p=some true:=by
 unfold qfO;rw[dec_t (p:=p.1=p.1) rfl,dec_t (p:=p.2.1=p.2.1) rfl,dec_t (p:=(p.2.2.1.length:Int)=(p.2.2.1.length:Int)) rfl];simp only[zg,zc,z7];have hi:iter (fun x=>qdg p p x) 0=some (.inl ()):=by
  have:=qa1 (step:=fun x=>qdg p p x) p.2.2.1.length (fun i=>(i:Int)) (fun _=>true) (fin:=.inl ()) (bad:=.inr false) (fun i hi _ hq=>?_) (fun i hi _ hq=>by cases hq) (fun _=>?_)
  ·have e:(List.range p.2.2.1.length).all (fun _=>true)=true:=by simp
   rw[e] at this;exact this
  ·unfold qdg;rw[dec_t,zb,gd_t (inB_t hi),gd_t (inB_t hi),dec_t rfl]
   simp only[zd3,zk2,zg,zc];rw[w1 hi]
  ·unfold qdg;rw[dec_f]; rfl
 exact(congrArg (fun o=>Option.bind o _) hi).trans rfl
theorem qDv{r:Rec}(h1:r.2.1.length<=100000)(h2:r.2.2.1.2.2.2.2.2.1.length<=100000):qfH r r=some true:=by
 unfold qfH;rw[dec_t rfl,zb,sameI _ h1,z7,zb];have e:qbl r.2.2.1 r.2.2.1=some true:=by
  unfold qbl;rw[dec_t rfl,zb,dec_t rfl,zb,dec_t rfl,zb,dec_t rfl,zb];exact(congrArg (fun o=>Option.bind o _) (qzD (p:=r.2.2.1.2.2.2) h2)).trans rfl
 refine(congrArg (fun o=>Option.bind o _) e).trans ?_
 rw[z7,zb,dec_t rfl,dec_t rfl,dec_t rfl]; rfl
/-! ### A text means what it means by the reference -/
theorem qzE{n:Net}(h0:qbs n=0)(hp:1<=n.2.1.length+n.2.2.1.length){text:Str}(hl:text.length<=18000)(t:Int):qi7 n t text=some true:=by
 obtain⟨e,h1,h2,h3⟩:=qtU h0 hl;obtain⟨y,k,r1,r2,hk,hg⟩:=qDt h0 hp hl t;obtain⟨z,s1,s2⟩:=qB2 h0 hg (by omega)
 refine Ok.true ?_
 unfold qi7;refine oE h1 (oE h2 (oE r1 (oE r2 ?_)))
 refine oE (a:=false) ?_ ?_
 ·simp only[zG2,zg,zc];exact(congrArg (fun o=>Option.bind o _) (sameC (hg.cns (by omega)))).trans rfl
 rw[zc];have hi:iter (fun x=>qfo e e x) 0=some (.inl ()):=by
  have:=qa1 (step:=fun x=>qfo e e x) e.1.length (fun i=>(i:Int)) (fun _=>true) (fin:=.inl ()) (bad:=.inr false) (fun i hi _ hq=>?_) (fun i hi _ hq=>by cases hq) (fun _=>?_)
  ·have e:(List.range e.1.length).all (fun _=>true)=true:=by simp
   rw[e] at this;exact this
  ·have hb:=qyO (h3.b.b _ (gmem (d:=r0) hi));have hll:=h3.l;unfold qfo;rw[dec_t,zb,gd_t (inB_t hi),gd_t (inB_t hi),za,show(e.1.getD i (0,[],(0,0,0,0,0,[],0),[],0,0):Rec)=e.1.getD i r0 from rfl,
    qDv (by have:=hb.v; omega) (by have:=hb.h; omega),w1 hi]; rfl
  ·unfold qfo;rw[dec_f]; rfl
 refine oE hi ?_
 refine oE s1 (oE s2 ?_)
 rw[dec_t rfl,dec_t rfl]; exact .ret rfl
abbrev recTy:Ty:=.pair (.int .i64) (.pair (.sl (.int .i64)) (.pair (.pair (.int .i64) (.pair (.int .i64) (.pair (.int .i64) (.pair (.int .i64) (.pair (.int .i64) (.pair (.sl (.pair (.int .i64) .bool)) (.int .i64))))))) (.pair .str (.pair (.int .i64) (.int .i64)))))
theorem wf_i{x:Int}(h:(Lit.int .i64 x).wf=true):i64P x:=by simpa[Lit.wf,IntKind.min,IntKind.max,IntKind.signed,IntKind.bits,i64P] using h
theorem qDw{l:List Int}(hl:∀x∈l,i64P x)(text:Str){r:Rec}(hw:WfT recTy r)(hs:SmT 140737488351232 recTy r){t:Int}(ht:i64P t):qhZ l text r t=some true:=by
 obtain⟨_,⟨_,w1⟩,⟨_,w2,w3,_⟩,_,w4,w5⟩:=hw;obtain⟨_,_,_,hs,_⟩:=hs;have hs:r.2.2.2.1.length<=140737488351232:=hs;refine Ok.true ?_
 have hwk:Ok qeB (fun b=>b=true):=⟨true,qzp,rfl⟩
 have fin:Ok ((qeB).bind fun r=>some r) (fun b=>b=true):=oB hwk fun b hb=>.ret hb
 unfold qhZ;have key:∀b:Bool,(b=false->text.length<=18000/\r.2.1.length<=100/\r.2.2.1.2.2.2.2.2.1.length<=100)->Ok (bif b then((qeB).bind fun r3=>some r3) else
   ((qpA l).bind fun r4=>(qdX r4.1 r4.2).bind fun r5=>(qdd r5.1 r).bind fun r6=>(qfW r5.1 r).bind fun r7=>
    bif decide (r6.2=r7.2) then(bif decide (r6.1=r7.1) then((qnb t 63).bind fun r8=>(qi7 r5.1 (wi64 (r8-1)) text).bind fun r9=>bif r9 then((qeB).bind fun r10=>some r10) else some false) else some false) else some false)) (fun b=>b=true):=by
  intro b hb;cases b with
  | true=>exact fin
  | false=>
   obtain⟨b1,b2,b3⟩:=hb rfl;rw[zc];obtain⟨s,e,hsr⟩:=qFy hl;refine oE e (oB (qFB hsr) ?_)
   rintro⟨n,s2,q2⟩ ⟨_,_,k,hn⟩
   simp only at hn;have h0:=chk0 hn;have hp:1<=n.2.1.length+n.2.2.1.length:=by have:=hn.some'; omega
   have hr:RcJ r:=⟨zA b2 (by decide),fun x hx=>wf_i (w1 x hx),wf_i w2,wf_i w3,zA b3 (by decide),wf_i w4,wf_i w5⟩
   refine oE (qzC h0 hr hs) (oE (qtR h0 r) ?_)
   rw[dec_t rfl,dec_t rfl,zb,zb];refine oE (a:=t%63) ?_ (oE (qzE h0 hp b1 _) fin)
   unfold qnb;rw[qDY ht (by decide) (by decide)]; rfl
 refine oE (a:=(!decide ((l.length:Int)<=400)) || (decide (18000<(text.length:Int)) || (decide (100<(r.2.1.length:Int)) || decide (100<(r.2.2.1.2.2.2.2.2.1.length:Int))))) ?_ (key _ fun hb=>?_)
 ·rw[qFO];generalize decide ((l.length:Int)<=400)=c1;generalize decide (18000<(text.length:Int))=c2;generalize decide (100<(r.2.1.length:Int))=c3;generalize decide (100<(r.2.2.1.2.2.2.2.2.1.length:Int))=c4;cases c1 <;> cases c2 <;> cases c3 <;> cases c4 <;> rfl
 ·simp only[z22,z52] at hb;obtain⟨_,h2,h3,h4⟩:=hb;omega
end Go.Proofs.YtmdijohmddokhaaGreatDoor
