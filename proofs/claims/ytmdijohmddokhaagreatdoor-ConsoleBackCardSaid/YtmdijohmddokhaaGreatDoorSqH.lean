/- The second engine, part H: slices of slices, lengths, struct literals, equality of structs, function values; all value operations. No condition. -/
import Derived.Test.YtmdijohmddokhaaGreatDoorSqG
namespace Go.Sq
open Go Go.RowKit
def inR(lo hi:Int)(n:Nat):Bool:=decide (0<=lo)&&decide (lo<=hi)&&decide (hi<=n)
def cutG(lo hi:Option (IntKind×Int))(n:Nat):Bool:=
 match lo,hi with
 | none,none=>true
 | none,some (_,h)=>decide (0<=h)&&decide (h<=n)
 | some (_,l),none=>decide (0<=l)&&decide (l<=n)
 | some (_,l),some (_,h)=>inR l h n
def cutL{α:Type}(lo hi:Option (IntKind×Int))(x:List α):List α:=
 match lo,hi with
 | none,none=>x
 | none,some (_,h)=>x.take h.toNat
 | some (_,l),none=>x.drop l.toNat
 | some (_,l),some (_,h)=>(x.take h.toNat).drop l.toNat
def bdLo(lo:Option (IntKind×Int)):Nat:=match lo with | none=>0 | some (_,l)=>l.toNat
def bdHi(hi:Option (IntKind×Int))(n:Nat):Nat:=match hi with | none=>n | some (_,h)=>h.toNat
theorem qtN{α:Type}{lo hi:Option (IntKind×Int)}{x:List α}(h:cutG lo hi x.length=true):
  bdLo lo<=bdHi hi x.length/\bdHi hi x.length<=x.length/\(∀k l,lo=some (k,l)->0<=l)/\(∀k l,hi=some (k,l)->0<=l)/\cutL lo hi x=(x.take (bdHi hi x.length)).drop (bdLo lo):=by
 cases lo with
 | none=>
  cases hi with
  | none=>refine⟨zu1 _,z61 _,(fun _ _ h=>by cases h),(fun _ _ h=>by cases h),?_⟩; simp[cutL,bdHi,bdLo]
  | some b=>
   obtain⟨k,h'⟩:=b;simp only[cutG,z8,zj] at h;refine⟨zu1 _,by simp only[bdHi]; omega,(fun _ _ h=>by cases h),(fun _ _ e=>by injection e with e; injection e with _ e; subst e; exact h.1),?_⟩; simp[cutL,bdHi,bdLo]
 | some a=>
  obtain⟨k,l⟩:=a;cases hi with
  | none=>
   simp only[cutG,z8,zj] at h;refine⟨by simp only[bdHi,bdLo]; omega,z61 _,(fun _ _ e=>by injection e with e; injection e with _ e; subst e; exact h.1),(fun _ _ h=>by cases h),?_⟩; simp[cutL,bdHi,bdLo]
  | some b=>
   obtain⟨k',h'⟩:=b;simp only[cutG,inR,z8,zj] at h;refine⟨by simp only[bdHi,bdLo]; omega,by simp only[bdHi]; omega,(fun _ _ e=>by injection e with e; injection e with _ e; subst e; exact h.1.1),(fun _ _ e=>by injection e with e; injection e with _ e; subst e; omega),rfl⟩
def valOf(b:Option (IntKind×Int)):Option Value:=b.map fun x=>.int x.1 x.2
section
variable {P:Program} {w:World}
theorem qmC{isS:Bool}{n c:Nat}{lo hi:Option (IntKind×Int)}(h1:bdLo lo<=bdHi hi n)(h2:bdHi hi n<=c)(h3:∀k l,lo=some (k,l)->0<=l)(h4:∀k l,hi=some (k,l)->0<=l):
  (Instr.sliceBounds isS n c (valOf lo) (valOf hi) none).run P w=.ok (bdLo lo,bdHi hi n,c) w:=by
 have hb:∀(k:IntKind) (i:Int) (y:Nat) (code:BoundsCode),0<=i->i<=y->(Instr.sliceBound (.int k i) y code).run P w=.ok i.toNat w:=by
  intro k i y code h h';simp[Instr.sliceBound,asIntOf,h,h']
 cases lo with
 | none=>
  cases hi with
  | none=>simp[Instr.sliceBounds,valOf,bdLo,bdHi]
  | some b=>
   obtain⟨k,h'⟩:=b;have e:=hb k h' c (if isS=true then .sliceAcap else .sliceAlen) (h4 k h' rfl) (by simp only[bdHi] at h2; omega)
   simp[Instr.sliceBounds,valOf,bdLo,bdHi,e]
 | some a=>
  obtain⟨k,l⟩:=a;cases hi with
  | none=>
   have e:=hb k l n .sliceB (h3 k l rfl) (by simp only[bdLo,bdHi] at h1; have:=h3 k l rfl; omega)
   simp[Instr.sliceBounds,valOf,bdLo,bdHi,e]
  | some b=>
   obtain⟨k',h'⟩:=b;have e:=hb k' h' c (if isS=true then .sliceAcap else .sliceAlen) (h4 k' h' rfl) (by simp only[bdHi] at h2; omega)
   have e2:=hb k l h'.toNat .sliceB (h3 k l rfl) (by simp only[bdLo,bdHi] at h1; have:=h3 k l rfl; omega)
   simp[Instr.sliceBounds,valOf,bdLo,bdHi,e,e2]
theorem qrk{n c:Nat}{lo:Option (IntKind×Int)}{k k':IntKind}{h:Int}(h0:0<=h)(h1:bdLo lo<=h.toNat)(h2:h.toNat<=c)(h3:∀k l,lo=some (k,l)->0<=l):
  (Instr.sliceBounds true n c (valOf lo) (some (.int k h)) (some (.int k' h))).run P w=.ok (bdLo lo,h.toNat,h.toNat) w:=by
 have hb:∀(k:IntKind) (i:Int) (y:Nat) (code:BoundsCode),0<=i->i<=y->(Instr.sliceBound (.int k i) y code).run P w=.ok i.toNat w:=by
  intro k i y code h h';simp[Instr.sliceBound,asIntOf,h,h']
 have e1:=hb k' h c .slice3Acap h0 (by omega)
 have e2:=hb k h h.toNat .slice3B h0 (by omega)
 cases lo with
 | none=>simp[Instr.sliceBounds,valOf,bdLo,e1,e2]
 | some a=>
  obtain⟨q,l⟩:=a;have e3:=hb q l h.toNat .slice3C (h3 q l rfl) (by simp only[bdLo] at h1; have:=h3 q l rfl; omega)
  simp[Instr.sliceBounds,valOf,bdLo,e1,e2,e3]
end
def bd(st:St):Option Operand->Option (Option (IntKind×Int))
 | none=>some none
 | some x=>match(st.ev x).int? with
  | some b=>some (some b)
  | none=>none
def qpT:Option Operand->List Key
 | none=>[]
 | some x=>qac x
section
variable {P:Program} {w0:World} {M:Mod} {N:Nat} {st:St} {Γ:List TI} {rty:TypeId}
theorem qvf{st':St}{rd:List Key}{F:Nat->Prop}{w:World}{ρ:Env}{a:Act}(hr:Rel' P w0 M N F ρ st' a w)(hag:∀κ∈rd,agree st st' κ){x:Option Operand}{b:Option (IntKind×Int)}
  (h:bd st x=some b) (hx:∀κ∈qpT x,κ∈rd):x.map a.eval=valOf b:=by
 cases x with
 | none=>simp only[bd] at h; injection h with h; subst h; rfl
 | some x=>
  simp only[bd] at h;split at h
  ·rename_i b' hb;injection h with h; subst h
   obtain⟨k,n⟩:=b';have:=(hr.evx hag hx (x:=x)).int hb;simp[valOf,this]
  ·cases h
def qiL(Γ:List TI)(t:TypeId)(k:Nat):Bool:=
 match look Γ t with
 | some i=>match i.desc with
  | .slice e=>match look Γ e with
   | some j=>Nat.beq j.size k
   | none=>false
  | _=>false
 | none=>false
theorem qf9(hΓ:Tys P Γ){t:TypeId}{k:Nat}(h:qiL Γ t k=true):∃e,P.underlying t=some (.slice e)/\∀w:World,(sizeOf e).run P w=.ok k w:=by
 unfold qiL at h;split at h
 ·rename_i i hl;obtain⟨hi,rfl⟩:=qau hΓ hl;split at h
  ·rename_i e hd;split at h
   ·rename_i j hl2;obtain⟨hj,rfl⟩:=qau hΓ hl2;exact⟨_,by rw[hi.und,hd],fun w=>by rw[run_sizeOf' hj,zc h]⟩
   ·cases h
  ·cases h
 ·cases h
def isStr(Γ:List TI)(t:TypeId):Bool:=
 match look Γ t with
 | some i=>match i.desc with
  | .string=>true
  | _=>false
 | none=>false
theorem qth(hΓ:Tys P Γ){t:TypeId}(h:isStr Γ t=true):P.underlying t=some .string:=by
 unfold isStr at h;split at h
 ·rename_i i hl;obtain⟨hi,rfl⟩:=qau hΓ hl;split at h
  ·rename_i hd; rw[hi.und,hd]
  ·cases h
 ·cases h
def qwo(Γ:List TI)(st:St)(t:TypeId)(x:Operand)(lo hi:Option Operand):Option VR:=
 match bd st lo,bd st hi with
 | some l,some h=>match st.ev x with
  | .v (.sl e) y=>bif qiL Γ t e.size then some ⟨cutG l h (List.length (α:=e.den) y),qac x++(qpT lo++qpT hi),.v (.sl e) (cutL (α:=e.den) l h y)⟩ else none
  | .v .str y=>bif isStr Γ t then some ⟨cutG l h (List.length (α:=UInt8) y),qac x++(qpT lo++qpT hi),.v .str (cutL (α:=UInt8) l h y)⟩ else none
  | _=>none
 | _,_=>none
theorem qyp(l:List UInt8)(a b:Nat):(⟨⟨l⟩⟩:ByteArray).extract a b=⟨⟨(l.take b).drop a⟩⟩:=by
 apply ByteArray.ext;rw[ByteArray.data_extract];apply Array.ext';simp[z42]
theorem qCO{F:Nat->Prop}{e:Ty}{x:List e.den}{ad:Addr}{cap L H:Nat}{w:World}(h1:0<cap->F ad.block)(h2:x.length<=cap)(h3:cap<=maxLen)
  (h4:∀(i:Nat) (y:e.den),x[i]? = some y->∃es,RdC F w e y es/\∀j v,es[j]? = some v->w.cell? (ad.add (i*e.size+j))=some v) (hL:L<=H) (hH:H<=x.length):
  RdC F w (.sl e) ((x.take H).drop L) [.slice (if cap=L then some ad else some (ad.add (L*e.size))) (H-L) (cap-L)]:=by
 have hlen:((x.take H).drop L).length=H-L:=by simp; omega
 refine⟨(if cap=L then some ad else some (ad.add (L*e.size))),cap-L,?_,?_⟩
 ·show [Value.slice _ (H-L) (cap-L)]=[Value.slice _ ((x.take H).drop L).length (cap-L)];rw[hlen]
 ·have hget:∀(i:Nat) (y:e.den),((x.take H).drop L)[i]? = some y->i<H-L/\x[L+i]? = some y:=by
   intro i y hy;have hi:i<((x.take H).drop L).length:=(zr.1 hy).1;rw[zB,zp] at hy;split at hy
   ·exact⟨by omega,hy⟩
   ·cases hy
  by_cases hc:cap=L
  ·rw[if_pos hc];refine⟨fun h=>by omega,by rw[hlen]; omega,by omega,fun i y hy=>?_⟩
   obtain⟨hi,_⟩:=hget i y hy;omega
  ·rw[if_neg hc];refine⟨fun h=>by rw[qls]; exact h1 (by omega),by rw[hlen]; omega,by omega,fun i y hy=>?_⟩
   obtain⟨hi,hx⟩:=hget i y hy;obtain⟨es,g1,g2⟩:=h4 _ y hx;refine⟨es,g1,fun j v hj=>?_⟩
   rw[qrg,show L*e.size+(i*e.size+j)=(L+i)*e.size+j by rw[z31]; omega]
   exact g2 j v hj
theorem qzn{a:Act}{w:World}{t:TypeId}{x:Operand}{lo hi:Option Operand}{l h':Option (IntKind×Int)}(y:List UInt8)(hu:P.underlying t=some .string)(hxd:a.eval x=.string ⟨⟨y⟩⟩)
  (hld:lo.map a.eval=valOf l) (hhd:hi.map a.eval=valOf h') (hg:cutG l h' y.length=true) (dst:Option Tmp) (pos:String) (af:Array Edge) (gd:Option (Nat×Bool)):
  (execOp a.eval ⟨dst,.slice t x lo hi none,rty,pos,af,gd⟩).run P w=.ok (.value (.string ⟨⟨cutL l h' y⟩⟩)) w:=by
 obtain⟨c1,c2,c3,c4,c5⟩:=qtN hg;have hb:(Instr.sliceBounds false (⟨⟨y⟩⟩:ByteArray).size (⟨⟨y⟩⟩:ByteArray).size (valOf l) (valOf h') none).run P w=.ok (bdLo l,bdHi h' y.length,(⟨⟨y⟩⟩:ByteArray).size) w:=qmC (P:=P) (w:=w) (isS:=false) c1 c2 c3 c4;rw[c5,<-qyp];simp only[execOp,hxd,hld,hhd,zU1,Instr.sliceAt,Instr.slice,zl,zt hu,ze,Option.isSome_none,zQ1,if_false,hb,zo]
theorem qyq(hΓ:Tys P Γ){t:TypeId}{x:Operand}{lo hi:Option Operand}{r:VR}(h:qwo Γ st t x lo hi=some r)(hg:r.g=true):VOk P w0 M N st (.slice t x lo hi none) rty r:=by
 unfold qwo at h;split at h
 ·rename_i l h' hl hh;split at h
  ·rename_i e y hx;cases hs:qiL Γ t e.size with
   | false=>rw[hs] at h; cases h
   | true=>
    rw[hs] at h; injection h with h; subst h
    obtain⟨et,hu,hsz⟩:=qf9 hΓ hs;obtain⟨c1,c2,c3,c4,c5⟩:=qtN (α:=e.den) hg;intro st' hag F ρ a w hr dst pos af gd;have hxd:=hr.evx hag (fun _ h=>mem_l h) (x:=x)
    have hld:=qvf hr hag hl (fun _ h=>mem_r (mem_l h))
    have hhd:=qvf hr hag hh (fun _ h=>mem_r (mem_r h))
    rw[hx] at hxd;generalize he:a.eval x=u at hxd;cases hxd with
    | v hv=>
     obtain⟨cs,⟨ad,cap,rfl,h2⟩,rfl⟩:=hv;have hcap:bdHi h' (List.length (α:=e.den) y)<=cap\/ad=none:=by
      cases ad with
      | none=>exact .inr rfl
      | some ad=>exact .inl (zG c2 h2.2.1)
     have hle:bdHi h' (List.length (α:=e.den) y)<=cap:=by
      cases ad with
      | none => have hn:List.length (α:=e.den) y=0:=by simp only at h2; rw[h2]; rfl
                omega
      | some ad=>exact zG c2 h2.2.1
     refine⟨.slice (if cap=bdLo l then ad else ad.map (·.add (bdLo l*e.size))) (bdHi h' (List.length (α:=e.den) y)-bdLo l) (cap-bdLo l),?_,?_⟩
     ·have hb:=qmC (P:=P) (w:=w) (isS:=true) c1 hle c3 c4;simp only[execOp,he,hld,hhd,mkV,Ty.agg,zb,zM1,zU1,Instr.sliceAt,Instr.slice,zl,zt hu,ze,hb,hsz,zo]
     ·simp only;rw[c5];cases ad with
      | none=>
       have hn:y=[]:=h2;subst hn;refine .v ⟨[.slice none 0 (cap-bdLo l)],⟨none,cap-bdLo l,?_,?_⟩,?_⟩
       ·simp
       ·simp
       ·simp only[mkV,Ty.agg,zb,zM1];have h0:bdHi h' (List.length (α:=e.den) [])=0:=by have:=c2; simpa using this
        rw[h0]; simp
      | some ad=>
       obtain⟨h3,h4,h5,h6⟩:=h2;have:=qCO h3 h4 h5 h6 c1 c2;refine .v ⟨_,this,?_⟩
       simp only[mkV,Ty.agg,zb,zM1,zf1]
  ·rename_i y hx;cases hs:isStr Γ t with
   | false=>rw[hs] at h; cases h
   | true=>
    rw[hs] at h; injection h with h; subst h
    have hu:=qth hΓ hs;intro st' hag F ρ a w hr dst pos af gd;have hxd:=(hr.evx hag (fun _ h=>mem_l h) (x:=x)).str (by rw[hx]; rfl)
    have hld:=qvf hr hag hl (fun _ h=>mem_r (mem_l h))
    have hhd:=qvf hr hag hh (fun _ h=>mem_r (mem_r h))
    exact⟨_,qzn y hu hxd hld hhd hg dst pos af gd,.ofStr _⟩
  ·cases h
 ·cases h
/-! ### Lengths -/
def lenOk(Γ:List TI)(t:TypeId):SV->Bool
 | .v .str _=>isStr Γ t
 | _=>match look Γ t with
  | some i=>match i.desc with
   | .slice _=>true
   | _=>false
  | none=>false
def lenS(st:St):SV->Option (List Key×Int)
 | .v .str l=>some ([],Int.ofNat (List.length (α:=UInt8) l))
 | .v (.sl e) l=>some ([],Int.ofNat (List.length (α:=e.den) l))
 | .raw (.slice none 0 _)=>some ([],0)
 | .own b=>match st.a b with
  | some (.arr _ _ l)=>some ([.a b],Int.ofNat l.length)
  | _=>none
 | _=>none
def evLen(Γ:List TI)(st:St)(t:TypeId)(x:Operand):Option VR:=
 match lenS st (st.ev x) with
 | some (ks,n)=>bif lenOk Γ t (st.ev x) then some ⟨true,qac x++ks,.v (.int .i64) n⟩ else none
 | none=>none
theorem qoz(hΓ:Tys P Γ){t:TypeId}{s:SV}(h:lenOk Γ t s=true)(hs:∀l,s≠.v .str l){p:Option Addr}{n c:Nat}{w:World}:(Builtin.len_ #[t] rty #[.slice p n c]).run P w=.ok (goInt n) w:=by
 have:∃e,P.underlying t=some (.slice e):=by
  unfold lenOk at h;split at h
  ·rename_i l; exact absurd rfl (hs l)
  ·split at h
   ·rename_i i hl;obtain⟨hi,rfl⟩:=qau hΓ hl;split at h
    ·rename_i e hd; exact⟨e,by rw[hi.und,hd]⟩
    ·cases h
   ·cases h
 obtain⟨e,hu⟩:=this;simp[Builtin.len_,zt hu]
theorem qBz(hΓ:Tys P Γ){t:TypeId}{x:Operand}{r:VR}(h:evLen Γ st t x=some r):VOk P w0 M N st (.call { callee:=.builtin .len,args:=#[x],argTypes:=#[t] }) rty r:=by
 unfold evLen at h;split at h
 ·rename_i ks n hn;cases hk:lenOk Γ t (st.ev x) with
  | false=>rw[hk] at h; cases h
  | true=>
   rw[hk] at h; injection h with h; subst h
   intro st' hag F ρ a w hr dst pos af gd;have hxd:=hr.evx hag (fun _ h=>mem_l h) (x:=x)
   have fin:∀u,a.eval x=u->(Builtin.len_ #[t] rty #[u]).run P w=.ok (.int .i64 n) w->∃u,(execOp a.eval ⟨dst,.call { callee:=.builtin .len,args:=#[x],argTypes:=#[t] },rty,pos,af,gd⟩).run P w=.ok (.value u) w/\Den P F w ρ (.v (.int .i64) n) u:=by
    intro u hu hr';exact⟨_,by simp only[execOp,resolve,invoke,builtin,zl,zo,ze,zJ1,zh1,zc2,hu,hr'],.ofInt _ _⟩
   unfold lenS at hn;split at hn
   ·rename_i l hx;injection hn with hn; injection hn with e1 e2; subst e1 e2
    rw[hx] at hk;have hu:=qth hΓ hk;refine fin _ (hxd.str (by rw[hx]; rfl)) ?_
    simp[Builtin.len_,zt hu]; rfl
   ·rename_i e l hx;injection hn with hn; injection hn with e1 e2; subst e1 e2
    rw[hx] at hxd hk;generalize he:a.eval x=u at hxd;cases hxd with
    | v hv=>
     obtain⟨cs,⟨ad,cap,rfl,h2⟩,rfl⟩:=hv;exact fin _ he (qoz hΓ hk (fun l' e=>by cases e))
   ·rename_i c hx;injection hn with hn; injection hn with e1 e2; subst e1 e2
    rw[hx] at hxd hk;generalize he:a.eval x=u at hxd;cases hxd with
    | raw=>exact fin _ he (qoz hΓ hk (fun l' e=>by cases e))
   ·rename_i b hx;split at hn
    ·rename_i tya e l hA;injection hn with hn; injection hn with e1 e2; subst e1 e2
     have hA':st'.a b=some (.arr tya e l):=by rw[<-hA]; exact(hag (.a b) (by simp)).symm
     rw[hx] at hxd hk;generalize he:a.eval x=u at hxd;cases hxd with
     | own hρ=>
      obtain⟨u',c1,xs,c2,c3⟩:=hr.mem.arr b _ hA';rw[hρ] at c1; injection c1 with c1; subst c1
      rcases c2.2 with⟨_,h2,hl0⟩ | ⟨g,cap,cur,h2,_⟩
      ·subst h2;refine fin _ he ?_
       rw[hl0]; exact qoz hΓ hk (fun l' e=>by cases e)
      ·subst h2; exact fin _ he (qoz hΓ hk (fun l' e=>by cases e))
    ·cases hn
   ·cases hn
 ·cases h
def evMM(st:St)(mx:Bool)(x y:Operand):Option VR:=
 match(st.ev x).int?,(st.ev y).int? with
 | some (k,m),some (_,n)=>some ⟨true,qac x++qac y,.v (.int k) (bif mx then(max m n:Int) else(min m n:Int))⟩
 | _,_=>none
theorem qzo{x y:Operand}{t1 t2:TypeId}{r:VR}:
  (evMM st true x y=some r->VOk P w0 M N st (.call { callee:=.builtin .max,args:=#[x,y],argTypes:=#[t1,t2] }) rty r)∧
  (evMM st false x y=some r->VOk P w0 M N st (.call { callee:=.builtin .min,args:=#[x,y],argTypes:=#[t1,t2] }) rty r):=by
 constructor
 all_goals
  intro h;unfold evMM at h;split at h
  ·rename_i k m k' n hx hy;injection h with h; subst h
   intro st' hag F ρ a w hr dst pos af gd;have hxd:=(hr.evx hag (fun _ h=>mem_l h) (x:=x)).int hx
   have hyd:=(hr.evx hag (fun _ h=>mem_r h) (x:=y)).int hy
   refine⟨_,?_,.ofInt _ _⟩
   have e1:(if n>m then n else m)=max m n:=by split <;> omega
   have e2:(if n<m then n else m)=min m n:=by split <;> omega
   simp only[execOp,resolve,invoke,builtin,zl,zo,ze,zJ1,zh1,zc2,hxd,hyd,run_max_int2,run_min_int2,e1,e2];rfl
  ·cases h
end
end Go.Sq
