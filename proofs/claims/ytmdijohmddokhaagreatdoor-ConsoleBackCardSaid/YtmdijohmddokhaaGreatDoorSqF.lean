/- The second engine, part F: operations that make a value, one by one. No condition. -/
import Derived.Test.YtmdijohmddokhaaGreatDoorSqE
namespace Go.Sq
open Go Go.RowKit
def qbJ:TypeDesc->Bool
 | .struct _ | .array _ _=>true
 | _=>false
theorem qrg(a:Addr)(m n:Nat):(a.add m).add n=a.add (m+n):=by
 unfold Addr.add;by_cases h1:m=0 <;> by_cases h2:n=0 <;> simp[h1,h2] <;> omega
theorem add_zero'(a:Addr):a.add 0=a:=by simp[Addr.add]
section
variable {P:Program} {w:World}
theorem qrh{i:TI}(h:i.ok P):(isAgg i.t).run P w=.ok (qbJ i.desc) w:=by
 unfold isAgg;rw[zl,zt h.und w];cases i.desc <;> rfl
theorem run_sizeOf'{i:TI}(h:i.ok P):(sizeOf i.t).run P w=.ok i.size w:=by
 obtain⟨x,h1,h2,_⟩:=h.info;simp[sizeOf,typeInfo,h1,h2]
theorem run_zeroValue'{i:TI}(h:i.ok P):(zeroValue i.t).run P w=.ok i.zero w:=by
 obtain⟨x,h1,h2,h3,h4⟩:=h.info;simp[zeroValue,typeInfo,h1,h4]
theorem run_fieldAt'{i f:TI}{fs:Array Field}{fd:Field}{n:Nat}{a:Addr}(h:i.ok P)(hd:i.desc=.struct fs)(hf:fs[n]? = some fd)(h2:f.ok P)(h3:f.t=fd.type)(h4:0<f.size):
  (Instr.fieldAt i.t (.pointer (some a)) n).run P w=.ok (.pointer (some (a.add fd.offset))) w:=by
 have hu:=h.und;rw[hd] at hu;have hs:=run_sizeOf' (w:=w) h2;rw[h3] at hs;obtain⟨z,hz⟩:∃z,f.size=z+1:=⟨f.size-1,by omega⟩
 rw[hz] at hs;simp[Instr.fieldAt,zt hu,hf,Instr.sureAddr,fieldPlace,hs]
theorem run_loadAgg'{i:TI}(h:i.ok P)(ha:qbJ i.desc=true){ad:Addr}{cs:List Value}(hl:cs.length=i.size)(hc:∀j v,cs[j]? = some v->w.cell? (ad.add j)=some v):
  (loadVar i.t ad).run P w=.ok (.agg cs.toArray) w:=by
 have h1:=qrh (w:=w) h;have h2:=run_sizeOf' (w:=w) h;rw[ha] at h1;rw[<-hl] at h2;simp[loadVar,h1,h2,zP2 w ad cs hc]
theorem qu9{i:TI}(h:i.ok P)(ha:qbJ i.desc=false){ad:Addr}{v:Value}(hc:w.cell? ad=some v):
  (loadVar i.t ad).run P w=.ok v w:=by
 have h1:=qrh (w:=w) h;rw[ha] at h1;simp[loadVar,h1,run_load,hc]
end
structure VR where
 g:Bool
 rd:List Key
 s:SV
def VOk(P:Program)(w0:World)(M:Mod)(N:Nat)(st0:St)(op:Op)(rty:TypeId)(r:VR):Prop:=
 ∀st,(∀κ∈r.rd,agree st0 st κ)->∀F ρ a w,Rel' P w0 M N F ρ st a w->∀dst pos af g,∃u,(execOp a.eval ⟨dst,op,rty,pos,af,g⟩).run P w=.ok (.value u) w/\Den P F w ρ r.s u
section
variable {P:Program} {w0:World} {M:Mod} {N:Nat} {st:St} {Γ:List TI} {rty:TypeId}
/-! ### Moves, tests, conversions -/
def qxe(st:St)(x:Operand):Option VR:=some ⟨true,qac x,st.ev x⟩
theorem qva{x:Operand}{r:VR}(h:qxe st x=some r):VOk P w0 M N st (.move x) rty r/\VOk P w0 M N st (.assign x) rty r:=by
 unfold qxe at h;injection h with h; subst h
 exact⟨fun st' hag F ρ a w hr _ _ _ _=>⟨_,rfl,hr.evx hag (fun _ h=>h)⟩,fun st' hag F ρ a w hr _ _ _ _=>⟨_,rfl,hr.evx hag (fun _ h=>h)⟩⟩
def isK:Operand->Bool
 | .const _=>true
 | _=>false
def qCM(Γ:List TI)(op:BinOp)(t:TypeId)(x y:SV):Option (Bool×SV):=
 match x,y,op with
 | .v (.sl e) l,.raw (.slice none 0 0),.eql=>match look Γ t with
  | some ⟨_,.slice _,_,_,_,_,_⟩=>some (true,.nilq (List.length (α:=e.den) l))
  | _=>none
 | _,_,_=>none
def qzh(Γ:List TI)(op:BinOp)(t:TypeId)(ky:Bool)(x y:SV):Option (Bool×SV):=
 match x.int?,y.int? with
 | some (k,m),some (k',n)=>bif qzb op then binSh op k m n else bif decide (k=k') then binI op k m n else none
 | _,_=>match x.str?,y.str? with
  | some l,some l'=>binS op l l'
  | _,_=>match x.bool?,y.bool? with
   | some b,some c=>match look Γ t with
    | some ⟨_,.bool,_,_,_,_,_⟩=>match op with
     | .eql=>some (true,.v .bool (b==c))
     | .neq=>some (true,.v .bool (!(b==c)))
     | _=>none
    | _=>none
   | _,_=>match x.err?,y.nilI&&ky with
    | some b,true=>match look Γ t with
     | some ⟨_,.interface _,_,_,_,_,_⟩=>match op with
      | .eql=>some (true,.v .bool (!b))
      | .neq=>some (true,.v .bool b)
      | _=>none
     | _=>none
    | _,_=>qCM Γ op t x y
def evBin(Γ:List TI)(st:St)(op:BinOp)(t:TypeId)(x y:Operand):Option VR:=
 match qzh Γ op t (isK y) (st.ev x) (st.ev y) with
 | some (g,s)=>some ⟨g,qac x++qac y,s⟩
 | none=>none
theorem mem_l{x y:List Key}{κ:Key}(h:κ∈x):κ∈x++y:=zD.2 (.inl h)
theorem mem_r{x y:List Key}{κ:Key}(h:κ∈y):κ∈x++y:=zD.2 (.inr h)
theorem qtH{F:Nat->Prop}{w:World}{ρ:Env}(hΓ:Tys P Γ){op:BinOp}{t:TypeId}{X Y:Operand}{x y s:SV}{u v:Value}(h:qzh Γ op t (isK Y) x y=some (true,s))
  (hx:Den P F w ρ x u) (hy:Den P F w ρ y v):∃r,(do eqGuard op t X Y u v; binOp op t u v).run P w=.ok r w/\Den P F w ρ s r:=by
 unfold qzh at h;split at h
 ·rename_i k m k' n e1 e2;rw[hx.int e1,hy.int e2];cases hs:qzb op with
  | true=>rw[hs] at h; exact qzc h rfl X Y
  | false=>
   rw[hs] at h;by_cases hk:k=k'
   ·subst hk; simp only[z82,za,zb] at h; exact qBt h rfl X Y
   ·simp only[hk,decide_false,zb] at h; cases h
 ·split at h
  ·rename_i l l' e1 e2;rw[hx.str e1,hy.str e2];exact qBu h rfl X Y
  ·split at h
   ·rename_i b c e1 e2;rw[hx.bool e1,hy.bool e2];split at h
    ·rename_i t' z1 z2 z3 z4 z5 hl;obtain⟨hi,ht⟩:=qau hΓ hl;have hu:=hi.und;simp only at ht hu;subst ht;split at h
     ·injection h with h; injection h with _ h; subst h
      exact⟨_,by simp[eqGuard_at_bool,run_eql_bool w _ b c hu],.ofBool _⟩
     ·injection h with h; injection h with _ h; subst h
      exact⟨_,by simp[eqGuard_at_bool,run_neq_bool w _ b c hu],.ofBool _⟩
     ·cases h
    ·cases h
   ·split at h
    ·rename_i b e1 e2;rw[z8] at e2;obtain⟨e2,e3⟩:=e2;obtain rfl:=hy.nilI e2;have hu:=hx.err e1;obtain⟨yv,rfl⟩:∃yv,Y=.const yv:=by cases Y <;> first | exact⟨_,rfl⟩ | cases e3
     split at h
     ·rename_i t' z0 z1 z2 z3 z4 z5 hl;obtain⟨hi,ht⟩:=qau hΓ hl;have hu':=hi.und;simp only at ht hu';subst ht;have heq:∀v,(if b=true then ∃t' v',v=Value.iface t' v' else v=.nilIface)->(Op.equal t' v .nilIface).run P w=.ok (!b) w:=by
       intro v hv;cases b with
       | true=>
        rw[if_pos rfl] at hv; obtain⟨t2,v2,rfl⟩:=hv;show(Op.equalIn 10000 _ _ _).run P w=_;unfold Op.equalIn;simp[zt hu']
       | false=>
        rw[if_neg (by simp)] at hv; subst hv
        show(Op.equalIn 10000 _ _ _).run P w=_;unfold Op.equalIn;simp[zt hu']
      have hg:∀op':BinOp,(eqGuard op' t' X (.const yv) u .nilIface).run P w=.ok () w:=by
       intro op';cases b with
       | true=>rw[if_pos rfl] at hu; obtain⟨t2,v2,rfl⟩:=hu; cases op' <;> simp[eqGuard]
       | false=>rw[if_neg (by simp)] at hu; subst hu; cases op' <;> simp[eqGuard]
      have hb:∀op':BinOp,(op'=.eql\/op'=.neq)->binOp op' t' u .nilIface=(if op'=.eql then(do pure (.bool (<- Op.equal t' u .nilIface))) else(do pure (.bool (!(<- Op.equal t' u .nilIface))))):=by
       intro op' ho;cases b with
       | true=>rw[if_pos rfl] at hu; obtain⟨t2,v2,rfl⟩:=hu; rcases ho with rfl | rfl <;> rfl
       | false=>rw[if_neg (by simp)] at hu; subst hu; rcases ho with rfl | rfl <;> rfl
      split at h
      ·injection h with h; injection h with _ h; subst h
       refine⟨.bool (!b),?_,.ofBool _⟩
       rw[zl,hg,ze,hb _ (.inl rfl),if_pos rfl,zl,heq u hu]; rfl
      ·injection h with h; injection h with _ h; subst h
       refine⟨.bool b,?_,.ofBool _⟩
       rw[zl,hg,ze,hb _ (.inr rfl),if_neg (by simp),zl,heq u hu]; simp
      ·cases h
     ·cases h
    ·unfold qCM at h;split at h
     ·rename_i e l _ _ _ _;split at h
      ·rename_i t' z1 z2 z3 z4 z5 z6 hl;obtain⟨hi,ht⟩:=qau hΓ hl;have hu:=hi.und;simp only at ht hu;subst ht;injection h with h; injection h with _ h; subst h
       cases hx with
       | v hv=>
        obtain⟨cs,⟨ad,cap,rfl,h2⟩,rfl⟩:=hv;cases hy;refine⟨.bool ad.isNone,?_,.nilq fun hb=>?_⟩
        ·have hq:∀n:Nat,(Op.equal t' (.slice ad n cap) (.slice none 0 0)).run P w=.ok ad.isNone w:=by
          intro n;show(Op.equalIn 10000 _ _ _).run P w=_;unfold Op.equalIn;cases ad <;> simp[zt hu]
         simp only[mkV,Ty.agg,zb,zM1];show(do eqGuard .eql t' X Y _ _; do pure (Value.bool (<- Op.equal t' _ _))).run P w=_;have hg:∀n:Nat,(eqGuard .eql t' X Y (.slice ad n cap) (.slice none 0 0)).run P w=.ok () w:=by intro n; simp[eqGuard]
         rw[zl,hg,ze,zl,hq]; rfl
        ·cases ad with
         | none => have h2:l=[]:=h2
                   rw[h2]; rfl
         | some a=>cases hb
      ·cases h
     ·cases h
theorem qBw(hΓ:Tys P Γ){op:BinOp}{t t2:TypeId}{x y:Operand}{r:VR}(h:evBin Γ st op t x y=some r)(hg:r.g=true):VOk P w0 M N st (.binOp op t x y t2) rty r:=by
 unfold evBin at h;split at h
 ·rename_i g s hb;injection h with h; subst h
  simp only at hg; subst hg;intro st' hag F ρ a w hr dst pos af gd;obtain⟨v,h1,h2⟩:=qtH hΓ hb (hr.evx hag (fun _ h=>mem_l h)) (hr.evx hag (fun _ h=>mem_r h)) (X:=x)
  exact⟨v,by simp only[execOp,zl,zo] at h1 ⊢; rw[h1]; rfl,h2⟩
 ·cases h
def evUn(st:St)(op:UnOp)(x:Operand):Option VR:=
 match op,(st.ev x).bool?,(st.ev x).int? with
 | .not,some b,_=>some ⟨true,qac x,.v .bool (!b)⟩
 | .neg,_,some (k,n)=>some ⟨true,qac x,.v (.int k) (k.wrap (0-n))⟩
 | .xor,_,some (k,n)=>some ⟨true,qac x,.v (.int k) (k.wrap (BitVec.ofInt k.bits (if k.signed then -1 else k.max)^^^BitVec.ofInt k.bits n).toNat)⟩
 | _,_,_=>none
theorem qDs{op:UnOp}{t:TypeId}{x:Operand}{r:VR}(h:evUn st op x=some r):VOk P w0 M N st (.unOp op t x) rty r:=by
 unfold evUn at h;split at h
 ·rename_i e1;injection h with h; subst h
  intro st' hag F ρ a w hr dst pos af gd;have:=(hr.evx hag (fun _ h=>h)).bool e1
  exact⟨_,by simp only[execOp,this,Op.unary,zl,zo,ze],.ofBool _⟩
 ·rename_i e1;injection h with h; subst h
  intro st' hag F ρ a w hr dst pos af gd;have:=(hr.evx hag (fun _ h=>h)).int e1
  exact⟨_,by simp only[execOp,this,Op.unary,Op.intArith,zl,zo,ze],.ofInt _ _⟩
 ·rename_i e1;injection h with h; subst h
  intro st' hag F ρ a w hr dst pos af gd;have:=(hr.evx hag (fun _ h=>h)).int e1
  exact⟨_,by simp only[execOp,this,Op.unary,Op.intBits,zl,zo,ze],.ofInt _ _⟩
 ·cases h
def qzi(Γ:List TI)(st:St)(src dst:TypeId)(x:Operand):Option VR:=
 match look Γ src,look Γ dst with
 | some i,some j=>match j.desc with
  | .int k=>match(st.ev x).int? with
   | some (_,n)=>some ⟨true,qac x,.v (.int k) (k.wrap n)⟩
   | none=>none
  | .string=>match(st.ev x).str? with
   | some l=>match i.desc with
    | .string=>some ⟨true,qac x,.v .str l⟩
    | _=>none
   | none=>none
  | _=>none
 | _,_=>none
theorem qzj(hΓ:Tys P Γ){src dst:TypeId}{x:Operand}{r:VR}(h:qzi Γ st src dst x=some r):VOk P w0 M N st (.convert src dst x) rty r:=by
 unfold qzi at h;split at h
 ·rename_i i j hi hj;obtain⟨hi1,hi2⟩:=qau hΓ hi;obtain⟨hj1,hj2⟩:=qau hΓ hj;have hu:=hi1.und;have hv:=hj1.und;rw[hi2] at hu;rw[hj2] at hv;split at h
  ·rename_i k e0;split at h
   ·rename_i k0 n e1;injection h with h; subst h
    intro st' hag F ρ a w hr dst pos af gd;have:=(hr.evx hag (fun _ h=>h)).int e1
    rw[e0] at hv;refine⟨.int k (k.wrap n),?_,.ofInt _ _⟩
    simp[execOp,this,convert,zt hu,zt hv,Conv.intToInt]
   ·cases h
  ·rename_i e0;split at h
   ·rename_i l e1;split at h
    ·rename_i e2;injection h with h; subst h
     intro st' hag F ρ a w hr dst pos af gd;have:=(hr.evx hag (fun _ h=>h)).str e1
     rw[e0] at hv;rw[e2] at hu;refine⟨.string ⟨⟨l⟩⟩,?_,.ofStr _⟩
     simp[execOp,this,convert,zt hu,zt hv]
    ·cases h
   ·cases h
  ·cases h
 ·cases h
def qzk(st:St)(c x y:Operand):Option VR:=
 match(st.ev c).bool? with
 | some b=>some ⟨true,qac c++(qac x++qac y),match(st.ev x).bool?,(st.ev y).bool? with
  | some p,some q=>.v .bool (bif b then p else q)
  | _,_=>bif b then st.ev x else st.ev y⟩
 | none=>none
theorem qBx{a:Act}{w:World}(dst:Option Nat)(x y z:Operand)(b:Bool)(hb:a.eval x=.bool b)(pos:String)(af:Array Edge)(g:Option (Nat×Bool)):(execOp a.eval ⟨dst,.pick x y z,rty,pos,af,g⟩).run P w=.ok (.value (if b then a.eval y else a.eval z)) w:=by
 simp only[execOp,hb,asBool,zl,zo,ze]
theorem qzl{c x y:Operand}{r:VR}(h:qzk st c x y=some r)(hg:r.g=true):VOk P w0 M N st (.pick c x y) rty r:=by
 unfold qzk at h;split at h
 ·rename_i b e1;injection h with h; subst h
  intro st' hag F ρ a w hr dst pos af gd;have h1:=(hr.evx hag (fun _ h=>mem_l h)).bool e1
  refine⟨_,qBx _ c x y b h1 _ _ _,?_⟩
  have hx:=hr.evx hag (fun _ h=>mem_r (mem_l h)) (x:=x)
  have hy:=hr.evx hag (fun _ h=>mem_r (mem_r h)) (x:=y)
  simp only;split
  ·rename_i p q hp hq;cases b with
   | true=>simp only[if_true,za]; rw[hx.bool hp]; exact .ofBool _
   | false=>simp only[zQ1,if_false,zb]; rw[hy.bool hq]; exact .ofBool _
  ·cases b with
   | true=>simp only[if_true,za]; exact hx
   | false=>simp only[zQ1,if_false,zb]; exact hy
 ·cases h
end
end Go.Sq
