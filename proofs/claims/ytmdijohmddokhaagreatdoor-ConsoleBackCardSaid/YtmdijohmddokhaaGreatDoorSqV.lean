/- The second engine, part V: names for what is computed; from a contract to a law's statement; how arguments are read. No condition. -/
import Derived.Test.YtmdijohmddokhaaGreatDoorSqU
import Derived.Carry
import Derived.OpenShut
import Derived.ProofKit
namespace Go.Sq
open Go Go.RowKit Go.ChangeShapes Go.WideShapes
abbrev wi64(n:Int):Int:=IntKind.i64.wrap n
abbrev wu64(n:Int):Int:=IntKind.u64.wrap n
abbrev wu32(n:Int):Int:=IntKind.u32.wrap n
abbrev wu8(n:Int):Int:=IntKind.u8.wrap n
def qqs(k:IntKind)(m n:Int):Int:=k.wrap (BitVec.ofInt k.bits m&&&BitVec.ofInt k.bits n).toNat
/-! ### Loops and guards, for the laws -/
theorem qq3{σ ε:Type}{step:σ->Option (σ⊕ε)}(I:σ->Prop)(μ:σ->Nat)(Q:ε->Prop)
  (h:∀x,I x->(∃e,step x=some (.inr e)/\Q e)\/∃y,step x=some (.inl y)/\I y/\μ y<μ x) {x:σ} (hx:I x):∃e,iter step x=some e/\Q e:=by
 have key:∀n x,μ x<n->I x->∃e,iter step x=some e/\Q e:=by
  intro n;induction n with
  | zero=>intro x hx; omega
  | succ n ih=>
   intro x hn hx;rcases h x hx with⟨e,h1,h2⟩ | ⟨y,h1,h2,h3⟩
   ·exact⟨e,qaV h1,h2⟩
   ·rw[qbp h1]; exact ih y (by omega) h2
 exact key _ x (Nat.lt_succ_self _) hx
def iterN{σ ε:Type}(step:σ->Option (σ⊕ε)):Nat->σ->Option ε
 | 0,_=>none
 | n+1,x=>match step x with
  | some (.inl y)=>iterN step n y
  | some (.inr e)=>some e
  | none=>none
theorem qxJ{σ ε:Type}{step:σ->Option (σ⊕ε)}:∀ {n:Nat} {x:σ} {e:ε},iterN step n x=some e->iter step x=some e
 | 0,_,_,h=>by cases h
 | n+1,x,e,h=>by
  simp only[iterN] at h;split at h
  ·rename_i y hy; rw[qbp hy]; exact qxJ h
  ·rename_i e' he; injection h with h; subst h; exact qaV he
  ·cases h
theorem gd_t{A:Type}{c:Bool}{x:Option A}(h:c=true):gd c x=x:=by subst h; rfl
def LeO{A:Type}(a b:Option A):Prop:=∀y,a=some y->b=some y
theorem LeO.refl{A:Type}(a:Option A):LeO a a:=fun _ h=>h
theorem LeO.bind{A B:Type}{a b:Option A}{f g:A->Option B}(h:LeO a b)(hf:∀x,LeO (f x) (g x)):LeO (a.bind f) (b.bind g):=by
 intro y hy;obtain⟨x,h1,h2⟩:=zV2.1 hy;rw[h x h1]; exact hf x y h2
theorem LeO.gd{A:Type}{c:Bool}{a b:Option A}(h:LeO a b):LeO (Sq.gd c a) (Sq.gd c b):=by
 cases c with
 | true=>exact h
 | false=>exact .refl _
theorem LeO.bif{A:Type}{c:Bool}{a b a' b':Option A}(h:LeO a b)(h':LeO a' b'):LeO (bif c then a else a') (bif c then b else b'):=by
 cases c with
 | true=>exact h
 | false=>exact h'
theorem LeO.elim{A B C:Type}{s:A⊕B}{f f':A->Option C}{g g':B->Option C}(h:∀x,LeO (f x) (f' x))(h':∀x,LeO (g x) (g' x)):LeO (s.elim f g) (s.elim f' g'):=by
 cases s with
 | inl x=>exact h x
 | inr x=>exact h' x
theorem LeO.iter{σ ε:Type}{n:Nat}{step step':σ->Option (σ⊕ε)}(h:∀x,LeO (step x) (step' x)){x:σ}:LeO (iterN step n x) (Sq.iter step' x):=by
 intro y hy;refine qxJ (n:=n) ?_
 induction n generalizing x with
 | zero=>cases hy
 | succ n ih=>
  simp only[iterN] at hy ⊢;split at hy
  ·rename_i z hz; rw[h x _ hz]; exact ih hy
  ·rename_i e he; rw[h x _ he]; exact hy
  ·cases hy
theorem Fr.below{w w':World}{M:Nat->Prop}(h:Fr w M w')(hM:∀g,¬M g):Below w.heap.size w w':=⟨h.os,h.tape,h.output,h.size,fun k hk=>h.blk k hk (hM k)⟩
theorem qyM{P:Program}{j:J}(hv:j.vars=[])(ha:j.arrs=[])(x:CT j.ct)(W:World)(hgl:qgM (fun g=>g<W.heap.size) W):MemOk P (fun g=>g<W.heap.size) W Env.none (j.put0 x):=by
 have hV:∀b,(j.put0 x).v b=none:=by
  intro b;show(j.put (fun _=>.any) (fun _ _=>.any) x).v b=none
  simp[J.put,J.putL,mkSt,hv,qfd,lookV]
 have hA:∀b,(j.put0 x).a b=none:=by
  intro b;show(j.put (fun _=>.any) (fun _ _=>.any) x).a b=none
  simp[J.put,J.putL,mkSt,ha,qkb,lookA]
 have hno:∀b,¬(j.put0 x).present b:=by
  intro b h;unfold St.present at h;rw[hV,hA] at h;simp at h
 refine⟨fun b _=>rfl,fun b ty k h=>?_,fun b A h=>?_,fun b b' v v' g h=>(hno b h).elim,fun b v g h=>(hno b h).elim,fun g h=>h,fun b v h=>(by cases h),hgl⟩
 ·rw[hV] at h; cases h
 ·rw[hA] at h; cases h
section
variable {H:Type} {enc:TypeId×Value->H} {P:Program}
theorem qoM(hl:laidOutB P=true){W W':World}(hb:Below W.heap.size W W'){sp:Nat->Bool}:
  ∀ {ts:List TypeId} {vs:List Value} {ds:List (DataW H)} {ps:List MemPlace},(ts.all fun t=>P.readableRec t&&decide (t<P.types.size))=true->
   DataW.TrodAll enc P W 0 (fun _=>true) true ts vs ds ps->(∀x∈ps,x.block<W.heap.size)->(∀x∈ps,sp x.block=true)->DataW.TrodAll enc P W' 0 sp true ts vs ds ps
 | [],[],[],_,_,h,_,_=>h
 | t::ts,v::vs,d::ds,ps,ht,h,hlt,hs=>by
  obtain⟨p,q,h1,h2,rfl⟩:=h;simp only[z11,z8,zj] at ht;refine⟨p,q,WideElems.Trod_stays hl ht.1.1 ht.1.2 h1 (fun x hx=>hb.same (hlt x (by simp[hx]))) (fun x hx=>hs x (by simp[hx])),?_,rfl⟩
  exact qoM hl hb ht.2 h2 (fun x hx=>hlt x (by simp[hx])) (fun x hx=>hs x (by simp[hx]))
 | [],_::_,_,_,_,h,_,_=>by simp[DataW.TrodAll] at h
 | [],[],_::_,_,_,h,_,_=>by simp[DataW.TrodAll] at h
 | _::_,[],_,_,_,h,_,_=>by simp[DataW.TrodAll] at h
 | _::_,_::_,[],_,_,h,_,_=>by simp[DataW.TrodAll] at h
theorem qBN{e:Fun}{fn:Func}{s:ChangeSpec}{tb:TypeId}{W:World}{args:Array Value}{ds:List (DataW H)}{before:List MemPlace}{x:CT e.ji.ct}{y:CT e.jo.ct}
  (hl:laidOutB P=true) (hts:(fn.params.toList.all fun t=>P.readableRec t&&decide (t<P.types.size))=true) (hr:fn.resultTypes=#[tb]) (htb:P.underlying tb=some .bool)
  (hv:s.vars=[]) (hfn:s.fn H (ds++[])={ results:=[.lit (.bool true)],args:=ds })
  (hW:DataW.Whole enc P fn.params.toList s.vars false W args.toList ds [] before) (hc:FunOk P e) (hjv:e.ji.vars=[]) (hja:e.ji.arrs=[]) (hnr:e.nr=1) (hy:(e.jo.put0 y).r 0=.v .bool true) (htw:e.tw x=some y) (hlen:args.toList.length=e.np)
  (hden:∀(i:Nat) (v:Value),args.toList[i]? = some v->Den P (fun g=>g<W.heap.size) W Env.none ((e.ji.put0 x).r i) v) (hgl:qgM (fun g=>g<W.heap.size) W:=by intro p hp; cases hp):
  Calls P e.f args W fun en W'=>∃v,en=.returned v/\s.post enc P fn false true false false W args v W':=by
 have hnm:e.ji.names=[]:=by simp[J.names,hjv,hja]
 have hrun:=hc.run x y htw (fun g=>g<W.heap.size) W Env.none args.toList hlen (qyM hjv hja x W hgl) hden
 rw[Array.toArray_toList] at hrun;refine hrun.mono fun en W' ⟨r,F',ρ',he,hfr,_,_,_,_,_,hd⟩=>⟨r,he,?_⟩
 obtain rfl:r=.bool true:=by
  unfold resSV at hd;rw[hnr] at hd;have hd':Den P F' W' ρ' ((e.jo.put0 y).r 0) r:=hd;rw[hy] at hd';exact hd'.bool rfl
 have hb:=hfr.below (fun g ⟨b,_,hb,_⟩=>by rw[hnm] at hb; cases hb)
 have hlt:∀p∈before,p.block<W.heap.size:=fun p hp=>hW.lt p hp
 have hWW:=hW;obtain⟨p,q,hA,hV,rfl,hz,hn⟩:=hW;have hV2:=hV;rw[hv] at hV;obtain rfl:q=[]:=hV;have hA':∀sp:Nat->Bool,(∀x∈p++[],sp x.block=true)->DataW.TrodAll enc P W' 0 sp true fn.params.toList args.toList (s.fn H (ds++[])).args (p++[]):=by
  intro sp hs;rw[hfn,zM];exact qoM hl hb hts hA (fun x hx=>hlt x (by simp[hx])) (fun x hx=>hs x (by simp[hx]))
 have hres:∀(b:Nat) (sp:Nat->Bool) (hd:Bool),DataW.TrodAll enc P W' b sp hd fn.resultTypes.toList ((Value.bool true).resultList fn.resultTypes.size) (s.fn H (ds++[])).results []:=by
  intro b sp hd;rw[hr,hfn];exact trodAll_cons_mk (shut_bool htb _) trodAll_mk0
 have hvars:∀sp:Nat->Bool,DataW.TrodVars enc P W' sp s.vars (s.fn H (ds++[])).vars []:=by
  intro sp;rw[hv,hfn]; rfl
 have hok:∀(j:Nat) (t:TypeId) (r:Value),fn.resultTypes[j]? = some t->((Value.bool true).resultList fn.resultTypes.size)[j]? = some r->Value.okWide P W' .any 0 t r:=ok_one hr rfl (okWide_bool_mk htb _);have hold:∀x∈p++[],(fun b=>decide (b<W.heap.size)) x.block=true:=fun x hx=>by simpa using hlt x hx
 refine⟨ds,[],p++[],[],p++[],[],hWW,hres _ _ _,hA' _ hold,hvars _,World.keptBut_mono (fun x hx=>⟨hx,Or.inr (by simpa using hx)⟩) (hb.frame (· ∈ p++[])),fun _=>?_⟩
 refine⟨hok,_,_,([]++(p++[]))++[],⟨[]++(p++[]),[],trodAll_append (hA' _ (fun _ _=>rfl)) (hres _ _ _),hvars _,rfl,?_,?_⟩,?_⟩
 ·intro b off hp;have hp':MemPlace.cell b off∈p++[]:=by simpa using hp
  rw[hb.frozen (hlt _ hp')];exact hz b off hp'
 ·intro ha; cases ha
 ·intro x hx _; simpa using hx
theorem qEB{W:World}{r:Go.Reach}{b0:Nat}{a:Addr}{e:TypeId}{n:Nat}(h:W.has P r b0 a e n):a.block<W.heap.size:=by
 obtain⟨_,_,row,cells,hs,_⟩:=h;unfold World.shape? at hs;by_cases hlt:a.block<W.heap.size
 ·exact hlt
 ·rw[Array.getElem?_eq_none (by omega)] at hs
  simp at hs
theorem qBO{W:World}{r:Go.Reach}{b0:Nat}{t e:TypeId}{v:Value}{d:DataW H}{ps:List MemPlace}{sp:Nat->Bool}{held:Bool}(ht:P.underlying t=some (.slice e))(he:P.underlying e=some (.int .i64))(hc:P.cellsOf e=1)
  (hval:Value.okWide P W r b0 t v) (hd:DataW.Trod enc P W 0 sp held t v d ps):
  ∃l:List Int,RdV (fun g=>g<W.heap.size) W (.sl (.int .i64)) l v/\(l.length:Int)<=9223372036854775807/\∀x∈l,-9223372036854775808<=x/\x<=9223372036854775807:=by
 obtain⟨a,len,cap,rfl⟩:=okWide_slice ht hval;obtain⟨fuel,hf⟩:=hd;rcases open_ints ht he hc hf with⟨h,_⟩ | ⟨a',len',cap',zs,h,_,hle,hcap,hlz,_,hcell,hwf⟩
 ·have h':Value.slice a len cap=.slice none 0 0:=by simpa[Value.cells] using h
  injection h' with h1 h2 h3
  subst h1 h2 h3;exact⟨[],⟨_,⟨none,0,rfl,rfl⟩,rfl⟩,by simp,by simp⟩
 ·have h':Value.slice a len cap=.slice (some a') len' cap':=by simpa[Value.cells] using h
  injection h' with h1 h2 h3
  subst h1 h2 h3;have hz:len<=zs.length:=by rw[hlz]; split <;> omega
  have hblk:a'.block<W.heap.size:=by
   simp only[Value.okWide,ht,Cell.okWide,Cell.ok] at hval;exact qEB hval.2.2
  have hlen:(zs.take len).length=len:=by simp[hz]
  have hlen2:[Value.slice (some a') len cap]=[Value.slice (some a') (zs.take len).length cap]:=by rw[hlen]
  refine⟨zs.take len,⟨[.slice (some a') len cap],⟨some a',cap,hlen2,?_⟩,rfl⟩,?_,?_⟩
  ·refine⟨fun _=>hblk,zG (Nat.le_of_eq hlen) hle,hcap,fun i x hx=>?_⟩
   have hx':(zs.take len)[i]? = some x:=hx;have hi:i<len:=by have:=(zr.1 hx').1; omega
   refine⟨[.int .i64 x],rfl,fun j v hj=>?_⟩
   cases j with
   | succ j=>simp at hj
   | zero=>
    simp only[zt2,zn1] at hj; subst hj;have hz2:zs.getD i 0=x:=by
     rw[zp,if_pos hi] at hx';rw[zh,hx']; rfl
    have:=hcell i (by omega)
    rw[hz2] at this;show W.cell? (a'.add (i*1+0))=_;rw[zJ2,zP1]; exact this
  ·rw[hlen];have:len<=maxLen:=zG hle hcap;unfold maxLen at this;omega
  ·intro x hx;have:=hwf x (zj2 hx);simpa[Lit.wf,IntKind.min,IntKind.max,IntKind.signed,IntKind.bits] using this
end
end Go.Sq
