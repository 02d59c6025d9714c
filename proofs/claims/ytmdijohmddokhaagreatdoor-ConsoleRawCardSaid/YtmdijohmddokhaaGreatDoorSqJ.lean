/- Lemmas. No condition. -/
import Derived.WalkKit
import Derived.WalkLawsBesides
import Derived.MapKept
import Derived.Maps.RangeRun
import Derived.Scope
import Derived.ChangeKeysEq
namespace Go.Sq
open Go Go.RowKit
abbrev Y7{A B C D E F G:Type}(x:A×B×C×D×E×F×G):A×B×C×D×E×F×G:=(x.1,x.2.1,x.2.2.1,x.2.2.2.1,x.2.2.2.2.1,x.2.2.2.2.2.1,x.2.2.2.2.2.2)
abbrev Y6{A B C D E F:Type}(x:A×B×C×D×E×F):A×B×C×D×E×F:=(x.1,x.2.1,x.2.2.1,x.2.2.2.1,x.2.2.2.2.1,x.2.2.2.2.2)
abbrev U2{A B R:Type}(f:A→B→R)(x:A×B):R:=f x.1 x.2
abbrev U3{A B C R:Type}(f:A→B→C→R)(x:A×B×C):R:=f x.1 x.2.1 x.2.2
abbrev U4{A B C D R:Type}(f:A→B→C→D→R)(x:A×B×C×D):R:=f x.1 x.2.1 x.2.2.1 x.2.2.2
abbrev U5{A B C D E R:Type}(f:A→B→C→D→E→R)(x:A×B×C×D×E):R:=f x.1 x.2.1 x.2.2.1 x.2.2.2.1 x.2.2.2.2
abbrev U6{A B C D E F R:Type}(f:A→B→C→D→E→F→R)(x:A×B×C×D×E×F):R:=f x.1 x.2.1 x.2.2.1 x.2.2.2.1 x.2.2.2.2.1 x.2.2.2.2.2
abbrev U9{A B C D E F G H I R:Type}(f:A→B→C→D→E→F→G→H→I→R)(x:A×B×C×D×E×F×G×H×I):R:=f x.1 x.2.1 x.2.2.1 x.2.2.2.1 x.2.2.2.2.1 x.2.2.2.2.2.1 x.2.2.2.2.2.2.1 x.2.2.2.2.2.2.2.1 x.2.2.2.2.2.2.2.2
abbrev U13{A B C D E F G H I J K L M R:Type}(f:A→B→C→D→E→F→G→H→I→J→K→L→M→R)(x:A×B×C×D×E×F×G×H×I×J×K×L×M):R:=f x.1 x.2.1 x.2.2.1 x.2.2.2.1 x.2.2.2.2.1 x.2.2.2.2.2.1 x.2.2.2.2.2.2.1 x.2.2.2.2.2.2.2.1 x.2.2.2.2.2.2.2.2.1 x.2.2.2.2.2.2.2.2.2.1 x.2.2.2.2.2.2.2.2.2.2.1 x.2.2.2.2.2.2.2.2.2.2.2.1 x.2.2.2.2.2.2.2.2.2.2.2.2
set_option linter.defProp false
def z7:=@Option.bind_some
def z8:=@Bool.and_eq_true
def za:=@Int.toNat_natCast
def zb:=@cond_true
def zc:=@cond_false
def zd:=@Nat.eq_of_beq_eq_true
def ze:=@List.length_append
def zf:=@List.length_cons
def zg:=@Bool.not_true
def zh:=@Go.Result.andThen_ok
def zi:=@decide_eq_true_eq
def zj:=@List.getElem?_eq_getElem
def zk:=@List.getD_eq_getElem?_getD
def zl:=@Go.Sem.run_bind
def zm:=@List.length_take
def zn:=@Go.Sem.run_pure
def zo:=@List.length_nil
def zp:=@List.getElem?_eq_some_iff
def zq:=@List.all_eq_true
def zr:=@List.getElem?_take
def zt:=@Bool.not_eq_true'
def zu:=@Go.run_underlying
def zw:=@List.append_assoc
def zx:=@of_decide_eq_true
def zy:=@List.mem_cons
def zz:=@decide_eq_true_iff
def zA:=@Nat.le_trans
def zB:=@List.take_of_length_le
def zD:=@Nat.mul_le_mul_right
def zE:=@List.getElem?_drop
def zF:=@List.nil_append
def zG:=@List.append_nil
def zH:=@List.getElem?_map
def zI:=@List.mem_append
def zJ:=@Nat.le_of_ble_eq_true
def zK:=@List.mem_of_getElem?
def zL:=@Bool.true_and
def zM:=@Bool.eq_false_iff
def zN:=@Nat.zero_le
def zO:=@List.length_singleton
def zP:=@Nat.le_refl
def zQ:=@List.length_map
def zR:=@List.length_drop
def zS:=@Nat.blt_eq
def zT:=@Bool.eq_iff_iff
def zU:=@List.mem_range
def zV:=@List.mem_cons_of_mem
def zW:=@List.mem_map
def zX:=@List.getElem?_append_right
def zY:=@List.getElem?_append_left
def zZ:=@List.mem_singleton
def z01:=@Array.getElem?_eq_some_iff
def z11:=@Nat.zero_add
def z21:=@List.drop_of_length_le
def z41:=@List.all_cons
def z51:=@List.drop_eq_getElem_cons
def z61:=@Nat.add_mul
def z71:=@Int.ofNat_eq_natCast
def z81:=@List.map_cons
def z91:=@Array.getD_eq_getD_getElem?
def za1:=@Sum.elim_inl
def zb1:=@decide_eq_true
def zc1:=@List.all_eq_not_any_not
def zd1:=@Nat.ble_eq
def ze1:=@Nat.min_eq_left
def zf1:=@Option.map_some
def zg1:=@Option.map_eq_some_iff
def zh1:=@of_decide_eq_false
def zi1:=@Bool.or_eq_true
def zj1:=@Nat.ble_eq_true_of_le
def zk1:=@List.eq_nil_of_length_eq_zero
def zl1:=@List.take_append_of_le_length
def zm1:=@List.length_eq_zero_iff
def zn1:=@Array.length_toList
def zo1:=@Go.Addr.add_lit
def zp1:=@List.cons_append
def zq1:=@List.getElem?_of_mem
def zr1:=@List.map_toArray
def zs1:=@List.length_set
def zt1:=@Option.some.injEq
def zu1:=@Bool.not_false
def zv1:=@Nat.le_succ_of_le
def zw1:=@Nat.lt_of_lt_of_le
def zx1:=@List.drop_append_of_le_length
def zy1:=@List.getElem?_eq_none
def zz1:=@List.mem_map_of_mem
def zA1:=@List.size_toArray
def zB1:=@List.length_eq_one_iff
def zC1:=@Nat.add_zero
def zD1:=@Option.some.inj
def zE1:=@Option.ne_none_iff_exists'
def zF1:=@List.take_length
def zG1:=@Array.getElem?_eq_getElem
def zH1:=@Nat.one_mul
def zI1:=@List.drop_drop
def zJ1:=@Go.RowKit.Below.heap_alloc
def zK1:=@List.map_nil
def zL1:=@decide_eq_decide
def zM1:=@List.length_pos_iff
def zN1:=@Option.bind_eq_some_iff
def zO1:=@List.take_take
def zP1:=@Option.map_none
def zQ1:=@List.map_append
def zR1:=@List.ext_getElem?
def zS1:=@List.take_append_drop
def zT1:=@Go.Code.wp_mono
def zU1:=@Array.getElem?_toList
def zV1:=@List.headD_cons
def zW1:=@List.drop_append
def zX1:=@List.cons.inj
def zY1:=@List.drop_take
def zZ1:=@List.map_congr_left
def z02:=@Bool.false_eq_true
def z12:=@Array.getElem?_setIfInBounds
def z22:=@Bool.or_eq_false_iff
def z32:=@Nat.add_sub_cancel_left
def z42:=@Nat.le_mul_of_pos_right
def z52:=@decide_eq_false_iff_not
def z62:=@Array.size_append
def z72:=@beq_eq_false_iff_ne
def z82:=@List.not_mem_nil
def z92:=@List.drop_zero
def za2:=@Nat.eq_zero_or_pos
def zb2:=@List.take_left
def zc2:=@List.length_replicate
def zd2:=@Nat.mul_comm
def ze2:=@Nat.succ_mul
def zf2:=@List.mem_of_mem_drop
def zg2:=@Bool.not_not
def zh2:=@Nat.add_le_add_right
def zi2:=@List.any_eq_false
def zj2:=@Bool.false_or
def zk2:=@Bool.and_true
def zl2:=@List.getElem?_cons_zero
def zm2:=@Go.heap_alloc_new
def zn2:=@Option.getD_some
def zo2:=@List.any_eq_true
def zp2:=@List.mem_flatMap
def zq2:=@Bool.not_eq_true
def zr2:=@Bool.and_false
def zs2:=@Go.setRow_heap
def zt2:=@Nat.mul_one
def zu2:=@List.getElem?_set_self
def zv2:=@beq_iff_eq
def zw2:=@List.findIdx_lt_length
def zx2:=@Nat.zero_mul
def zy2:=@Go.setRow_other
def zz2:=@Go.grownCap_le_maxLen
def zA2:=@List.mem_cons_self
def zB2:=@Array.getElem?_modify
def zC2:=@List.mem_filter
def zD2:=@List.mem_of_mem_take
def zE2:=@List.getElem?_set_ne
def zF2:=@List.count_le_length
def zG2:=@decide_true
def zH2:=@Nat.lt_or_ge
def zI2:=@List.take_succ_eq_append_getElem
def zJ2:=@Array.toList_append
def zK2:=@List.eraseIdx_eq_take_drop_succ
def zL2:=@decide_eq_false
def zM2:=@decide_not
def zN2:=@Go.MapKept.run_getObj_map
def zO2:=@List.flatMap_cons
def zP2:=@Go.size_zeroCells
def zQ2:=@Go.growslice_fits
def zR2:=@List.map_map
def zS2:=@Int.add_zero
def zT2:=@List.take_append
def zU2:=@Go.World.cell?_of_block
def zV2:=@Nat.div_lt_of_lt_mul
def zW2:=@Go.IntKind.wrap_i64
def zX2:=@List.perm_append_singleton
def zY2:=@Go.Lib.strCells_length
def zZ2:=@Go.run_callFunc_extern
def z03:=@Int.toNat_of_nonneg
def z13:=@Nat.div_add_mod
def z23:=@UInt8.toNat_inj
def z33:=@Nat.beq_refl
def z43:=@Go.run_loadCells_list
def z53:=@Option.isSome_some
def z63:=@List.pairwise_cons
def z73:=@Bool.false_and
def z83:=@Go.run_storeCells_at
def z93:=@Go.grownCap_ge
def za3:=@List.map_id
def zb3:=@List.take_add
def zc3:=@List.getElem_mem
def zd3:=@beq_self_eq_true
inductive Ty where
 | unit | int (k:IntKind) | bool | str | sl (e:Ty) | pair (a b:Ty) | err | map (k v:Ty) | fnc (f:Nat) | fnl (fs:List Nat) | arr (n:Nat) (e:Ty) | clo (f:Nat) (e:Ty)
 deriving DecidableEq
def Ty.den:Ty->Type
 | .unit=>Unit
 | .int _=>Int
 | .bool=>Bool
 | .str=>List UInt8
 | .sl e=>List e.den
 | .pair a b=>a.den×b.den
 | .err=>Bool
 | .map k v=>List (k.den×v.den)
 | .fnc _=>Unit
 | .fnl _=>Nat
 | .arr _ e=>List e.den
 | .clo _ e=>e.den
def Ty.dflt:(T:Ty)->T.den
 | .unit=>()
 | .int _=>(0:Int)
 | .bool=>false
 | .str=>([]:List UInt8)
 | .sl _=>[]
 | .pair a b=>(a.dflt,b.dflt)
 | .err=>false
 | .map _ _=>[]
 | .fnc _=>()
 | .fnl _=>(0:Nat)
 | .arr n e=>List.replicate n e.dflt
 | .clo _ e=>e.dflt
def Ty.size:Ty->Nat
 | .unit=>0
 | .pair a b=>a.size+b.size
 | .arr n e=>n*e.size
 | _=>1
def Ty.agg:Ty->Bool
 | .unit | .pair _ _ | .arr _ _=>true
 | _=>false
def RdAr(δ:Type)(R:δ->List Value->Prop):Nat->List δ->List Value->Prop
 | 0,l,cs=>l=[]/\cs=[]
 | n+1,l,cs=>∃x r c cs',l=x::r/\cs=c++cs'/\R x c/\RdAr δ R n r cs'
theorem RdAr.size{δ:Type}{R:δ->List Value->Prop}{k:Nat}(hR:∀x c,R x c->c.length=k):∀ {n:Nat} {l:List δ} {cs:List Value},RdAr δ R n l cs->cs.length=n*k/\l.length=n
 | 0,_,_,⟨rfl,rfl⟩=>by simp
 | n+1,_,_,⟨x,r,c,cs',rfl,rfl,h1,h2⟩=>by
  obtain⟨a,b⟩:=RdAr.size hR h2;rw[ze,hR _ _ h1,a,zf,b,z61,zH1]; exact⟨by omega,rfl⟩
theorem RdAr.all{δ:Type}{R:δ->List Value->Prop}{p:Value->Prop}(hR:∀x c,R x c->∀v∈c,p v):∀ {n:Nat} {l:List δ} {cs:List Value},RdAr δ R n l cs->∀v∈cs,p v
 | 0,_,_,⟨rfl,rfl⟩,v,hv=>by cases hv
 | n+1,_,_,⟨x,r,c,cs',rfl,rfl,h1,h2⟩,v,hv=>by
  rcases zI.1 hv with hv | hv
  ·exact hR _ _ h1 v hv
  ·exact RdAr.all hR h2 v hv
theorem RdAr.mono{δ:Type}{R R':δ->List Value->Prop}(hR:∀x c,R x c->R' x c):∀ {n:Nat} {l:List δ} {cs:List Value},RdAr δ R n l cs->RdAr δ R' n l cs
 | 0,_,_,h=>h
 | n+1,_,_,⟨x,r,c,cs',e1,e2,h1,h2⟩=>⟨x,r,c,cs',e1,e2,hR _ _ h1,RdAr.mono hR h2⟩
theorem RdAr.get{δ:Type}{R:δ->List Value->Prop}{k:Nat}(hR:∀x c,R x c->c.length=k)(d:δ):∀ {n:Nat} {l:List δ} {cs:List Value} {i:Nat},RdAr δ R n l cs->i<n->R (l.getD i d) ((cs.drop (i*k)).take k)∧
  ∀ {z:δ} {ds:List Value},R z ds->RdAr δ R n (l.set i z) (cs.take (i*k)++ds++cs.drop (i*k+k))
 | 0,_,_,_,_,h=>by omega
 | n+1,_,_,0,⟨x,r,c,cs',rfl,rfl,h1,h2⟩,_=>by
  have hc:=hR _ _ h1;refine⟨?_,fun{z ds} hz=>?_⟩
  ·rw[zx2,z92,zl1 (by omega),zB (by omega)]; exact h1
  ·rw[zx2,List.take_zero,zF,z11,zx1 (by omega),z21 (by omega),zF]
   exact⟨z,r,ds,cs',rfl,rfl,hz,h2⟩
 | n+1,_,_,i+1,⟨x,r,c,cs',rfl,rfl,h1,h2⟩,hi=>by
  have hc:=hR _ _ h1;obtain⟨a,b⟩:=RdAr.get hR d (i:=i) h2 (by omega)
  have e:(i+1)*k=c.length+i*k:=by rw[z61,zH1,hc]; omega
  refine⟨?_,fun{z ds} hz=>?_⟩
  ·rw[e,zW1,z21 (by omega),zF,z32]; exact a
  ·refine⟨x,r.set i z,c,cs'.take (i*k)++ds++cs'.drop (i*k+k),rfl,?_,h1,b hz⟩
   rw[e,zT2,zB (l:=c) (by omega),z32,Nat.add_assoc,zW1,z21 (l:=c) (by omega),zF,z32]
   simp only[zw]
def RdSl(F:Nat->Prop)(w:World)(δ:Type)(k:Nat)(R:δ->List Value->Prop)(l:List δ)(cs:List Value):Prop:=
 ∃ad cap,cs=[.slice ad l.length cap]/\match ad with
  | none=>l=[]
  | some a=>(0<cap->F a.block)/\l.length<=cap/\cap<=maxLen/\∀(i:Nat) (x:δ),l[i]? = some x->∃es,R x es/\∀j v,es[j]? = some v->w.cell? (a.add (i*k+j))=some v
def RdErr(b:Bool)(cs:List Value):Prop:=∃v,cs=[v]/\v.oneCell'=true/\if b=true then ∃t u,v=.iface t u else v=.nilIface
def mkV(T:Ty)(cs:List Value):Value:=bif T.agg then .agg cs.toArray else cs.headD undef
def RdMp(F:Nat->Prop)(w:World)(κ δ:Type)(Rk:κ->Value->Prop)(Rv:δ->Value->Prop)(l:List (κ×δ))(cs:List Value):Prop:=
 (cs=[.map none]/\l=[])\/∃r es clock,cs=[.map (some r)]/\F r/\w.heap[r]? = some (.map es clock)/\MapKept.Stamped es clock∧
  ∃Z:List ((κ×δ)×MapEntry),Z.map (·.1)=l/\(Z.map (·.2)).Perm es.toList/\∀z,z∈Z->Rk z.1.1 z.2.key/\Rv z.1.2 z.2.val
def fnAt(fs:List Nat):Nat->Option Nat
 | 0=>none
 | x+1=>fs[x]?
def fnVal(fs:List Nat)(x:Nat):Value:=match fnAt fs x with
 | some f=>.func (.func f) #[] #[]
 | none=>.nilFunc
theorem qzF(fs:List Nat)(x:Nat):(fnVal fs x).oneCell'=true:=by
 unfold fnVal; split <;> rfl
def RdC(F:Nat->Prop)(w:World):(T:Ty)->T.den->List Value->Prop
 | .unit,_,cs=>cs=[]
 | .int k,n,cs=>cs=[.int k n]
 | .bool,b,cs=>cs=[.bool b]
 | .str,l,cs=>cs=[.string ⟨⟨l⟩⟩]
 | .sl e,l,cs=>RdSl F w e.den e.size (RdC F w e) l cs
 | .pair a b,x,cs=>∃c1 c2,cs=c1++c2/\RdC F w a x.1 c1/\RdC F w b x.2 c2
 | .err,b,cs=>RdErr b cs
 | .map k v,l,cs=>RdMp F w k.den v.den (fun x u=>∃c,RdC F w k x c/\u=mkV k c) (fun x u=>∃c,RdC F w v x c/\u=mkV v c) l cs
 | .fnc f,_,cs=>cs=[.func (.func f) #[] #[]]
 | .fnl fs,x,cs=>cs=[fnVal fs x]
 | .arr n e,l,cs=>RdAr e.den (RdC F w e) n l cs
 | .clo f e,x,cs=>∃ad es,cs=[.func (.func f) #[] #[.pointer (some (Addr.add ad 0))]]/\F ad.block/\RdC F w e x es/\∀j u,es[j]? = some u->w.cell? (ad.add j)=some u
theorem qhn(a:Addr)(n:Nat):(a.add n).block=a.block:=by unfold Addr.add; split <;> rfl
theorem RdC.size{F:Nat->Prop}{w:World}:∀ {T:Ty} {x:T.den} {cs:List Value},RdC F w T x cs->cs.length=T.size
 | .unit,_,_,h=>by cases h; rfl
 | .int _,_,_,h=>by cases h; rfl
 | .bool,_,_,h=>by cases h; rfl
 | .str,_,_,h=>by cases h; rfl
 | .sl _,_,_,h=>by obtain⟨_,_,rfl,_⟩:=h; rfl
 | .pair a b,_,_,h=>by obtain⟨c1,c2,rfl,h1,h2⟩:=h; rw[ze,h1.size,h2.size]; rfl
 | .err,_,_,h=>by obtain⟨_,rfl,_⟩:=h; rfl
 | .map _ _,_,_,h=>by rcases h with⟨rfl,_⟩ | ⟨_,_,_,rfl,_⟩ <;> rfl
 | .fnc _,_,_,h=>by cases h; rfl
 | .fnl _,_,_,h=>by cases h; rfl
 | .arr n e,_,_,h=>(RdAr.size (fun _ _ h=>h.size) h).1
 | .clo _ _,_,_,h=>by obtain⟨_,_,rfl,_⟩:=h; rfl
theorem RdC.one{F:Nat->Prop}{w:World}:∀ {T:Ty} {x:T.den} {cs:List Value},RdC F w T x cs->∀v∈cs,v.oneCell'=true
 | .unit,_,_,h=>by cases h; simp
 | .int _,_,_,h=>by cases h; simp; rfl
 | .bool,_,_,h=>by cases h; simp; rfl
 | .str,_,_,h=>by cases h; simp; rfl
 | .sl _,_,_,h=>by obtain⟨_,_,rfl,_⟩:=h; simp; rfl
 | .pair a b,_,_,h=>by
  obtain⟨c1,c2,rfl,h1,h2⟩:=h;intro v hv;rcases zI.1 hv with hv | hv
  ·exact h1.one v hv
  ·exact h2.one v hv
 | .err,_,_,h=>by obtain⟨v,rfl,h1,_⟩:=h; simpa using h1
 | .map _ _,_,_,h=>by rcases h with⟨rfl,_⟩ | ⟨_,_,_,rfl,_⟩ <;> (simp; rfl)
 | .fnc _,_,_,h=>by cases h; simp; rfl
 | .fnl fs,x,_,h=>by cases h; simp; exact qzF fs x
 | .arr n e,_,_,h=>RdAr.all (fun _ _ h=>h.one) h
 | .clo _ _,_,_,h=>by obtain⟨_,_,rfl,_⟩:=h; simp; rfl
theorem RdC.mono{F F':Nat->Prop}{w w':World}(hF:∀g,F g->F' g)(hw:∀g,F g->w'.heap[g]? = w.heap[g]?):∀ {T:Ty} {x:T.den} {cs:List Value},RdC F w T x cs->RdC F' w' T x cs
 | .unit,_,_,h=>h
 | .int _,_,_,h=>h
 | .bool,_,_,h=>h
 | .str,_,_,h=>h
 | .sl e,l,_,h=>by
  obtain⟨ad,cap,rfl,h⟩:=h;refine⟨ad,cap,rfl,?_⟩
  cases ad with
  | none=>exact h
  | some a=>
   obtain⟨h1,h2,h3,h4⟩:=h;refine⟨fun hc=>hF _ (h1 hc),h2,h3,fun i x hx=>?_⟩
   obtain⟨es,g1,g2⟩:=h4 i x hx;have hi:=(zp.1 hx).1;exact⟨es,g1.mono hF hw,fun j v hj=>(zU2 (hw _ (by rw[qhn]; exact h1 (zw1 (Nat.lt_of_le_of_lt (zN _) hi) h2)))).trans (g2 j v hj)⟩
 | .pair a b,_,_,h=>by obtain⟨c1,c2,rfl,h1,h2⟩:=h; exact⟨c1,c2,rfl,h1.mono hF hw,h2.mono hF hw⟩
 | .err,_,_,h=>h
 | .map k v,l,_,h=>by
  rcases h with h | ⟨r,es,clock,rfl,h1,h2,h3,Z,h4,h5,h6⟩
  ·exact .inl h
  ·refine .inr ⟨r,es,clock,rfl,hF _ h1,(hw _ h1).trans h2,h3,Z,h4,h5,fun z hz=>?_⟩
   obtain⟨⟨c1,p1,p2⟩,⟨c2,q1,q2⟩⟩:=h6 z hz;exact⟨⟨c1,p1.mono hF hw,p2⟩,⟨c2,q1.mono hF hw,q2⟩⟩
 | .fnc _,_,_,h=>h
 | .fnl _,_,_,h=>h
 | .arr n e,_,_,h=>RdAr.mono (fun _ _ h=>h.mono hF hw) h
 | .clo f e,_,_,h=>by
  obtain⟨ad,es,h1,h2,h3,h4⟩:=h;exact⟨ad,es,h1,hF _ h2,h3.mono hF hw,fun j u hj=>(zU2 (hw _ (by rw[qhn]; exact h2))).trans (h4 j u hj)⟩
def RdV(F:Nat->Prop)(w:World)(T:Ty)(x:T.den)(v:Value):Prop:=∃cs,RdC F w T x cs/\v=mkV T cs
def HL:List Ty->Type
 | []=>Unit
 | T::r=>T.den×HL r
inductive SV where
 | v (T:Ty) (x:T.den)
 | raw (v:Value)
 | any
 | ptr (b o:Nat)
 | nptr (b o:Nat)
 | ael (b k i o:Nat)
 | pel (b n k i o:Nat)
 | aix (b k i o n m:Nat)
 | pre (b hi n:Nat)
 | rest (b k lo n:Nat)
 | own (b:Nat)
 | sel (T:Ty) (x:T.den) (o:Nat)
 | agg (cs:List SV)
 | tup (cs:List SV)
 | when (c:Bool) (s:SV)
 | clo (f:FuncId) (cs:List SV)
 | fn (ps:List Ty) (r:Ty) (g:HL ps->Option r.den)
 | fmap (ps:List Ty) (r:Ty) (ks:List (List UInt8)) (g:HL (.str::ps)->Option r.den)
 | cut (e:Ty) (l:List e.den)
 | nilq (n:Nat)
 | fzd (b:Nat) (T:Ty) (x:T.den)
 | kr (t:Nat)
 | kc (b o:Nat)
abbrev SV.i(n:Int):SV:=.v (.int .i64) n
abbrev SV.b(x:Bool):SV:=.v .bool x
abbrev Env:=Nat->Option Value
def Env.none:Env:=fun _=>.none
def RdL(F:Nat->Prop)(w:World):(ps:List Ty)->HL ps->List Value->Prop
 | [],_,vs=>vs=[]
 | T::r,x,vs=>∃v vs',vs=v::vs'/\RdV F w T x.1 v/\RdL F w r x.2 vs'
structure Fr(w0:World)(M:Nat->Prop)(w:World):Prop where
 os:w.os=w0.os
 tape:w.tape=w0.tape
 output:w.output=w0.output
 size:w0.heap.size<=w.heap.size
 blk:∀g,g<w0.heap.size->¬M g->w.heap[g]? = w0.heap[g]?
theorem Fr.refl(w:World)(M:Nat->Prop):Fr w M w:=⟨rfl,rfl,rfl,zP _,fun _ _ _=>rfl⟩
theorem Fr.trans{w0 w1 w2:World}{M M':Nat->Prop}(h:Fr w0 M w1)(h':Fr w1 M' w2)(hM:∀g,M' g->g<w0.heap.size->M g):Fr w0 M w2:=
 ⟨h'.os.trans h.os,h'.tape.trans h.tape,h'.output.trans h.output,zA h.size h'.size,fun g hg hn=>(h'.blk g (zw1 hg h.size) (fun hm=>hn (hM g hm hg))).trans (h.blk g hg hn)⟩
def qFn(F:Nat->Prop)(w:World)(T:Ty)(x:T.den)(e:Ending)(w':World):Prop:=
 ∃r F',e=.returned r/\Fr w (fun _=>False) w'/\(∀g,F g->F' g)/\(∀g,F' g->F g\/w.heap.size<=g)/\(∀g,F' g->g<w'.heap.size)/\RdV F' w' T x r
def FnVal(P:Program)(F:Nat->Prop)(w:World)(ps:List Ty)(r:Ty)(g:HL ps->Option r.den)(v:Value):Prop:=
 (v=.nilFunc/\∀x,g x=none)\/∃f caps,v=.func (.func f) #[] caps/\(∃fn,P.funcs[f]? = some fn/\(fn.name == "runtime.NumGoroutine")=false/\fn.body.isNone=false)∧
  ∀x y,g x=some y->∀F' w' vs,(∀b,F b->F' b)->(∀b,F b->w'.heap[b]? = w.heap[b]?)->(∀b,F' b->b<w'.heap.size)->RdL F' w' ps x vs->
   Calls P f (vs.toArray++caps) w' (qFn F' w' r y)
theorem FnVal.mono{P:Program}{F F':Nat->Prop}{w w':World}{ps:List Ty}{r:Ty}{g:HL ps->Option r.den}{v:Value}(h:FnVal P F w ps r g v)(hF:∀b,F b->F' b)(hw:∀b,F b->w'.heap[b]? = w.heap[b]?):FnVal P F' w' ps r g v:=by
 rcases h with h | ⟨f,caps,h1,h2,h3⟩
 ·exact .inl h
 ·exact .inr ⟨f,caps,h1,h2,fun x y hy F'' w'' vs hFF hww=>h3 x y hy F'' w'' vs (fun b hb=>hFF b (hF b hb)) (fun b hb=>(hww b (hF b hb)).trans (hw b hb))⟩
inductive Den (P:Program) (F:Nat->Prop) (w:World):Env->SV->Value->Prop
 | v {U T x u}:RdV F w T x u->Den P F w U (.v T x) u
 | raw {U} (u:Value):Den P F w U (.raw u) u
 | any {U} (u:Value):Den P F w U .any u
 | ptr {U b o g}:U b=some (.pointer (some ⟨g,0,none⟩))->Den P F w U (.ptr b o) (.pointer (some ⟨g,o,none⟩))
 | nptr {U b o u}:(u=.pointer none\/∃g,U b=some (.pointer (some ⟨g,0,none⟩))/\u=.pointer (some ⟨g,o,none⟩))->Den P F w U (.nptr b o) u
 | ael {U b k i o g n cap}:U b=some (.slice (some ⟨g,0,none⟩) n cap)->i<n->Den P F w U (.ael b k i o) (.pointer (some ⟨g,i*k+o,none⟩))
 | pel {U b n k i o g}:U b=some (.pointer (some ⟨g,0,none⟩))->i<n->Den P F w U (.pel b n k i o) (.pointer (some ⟨g,o+i*k,none⟩))
 | aix {U b k i o n m g n' cap}:U b=some (.slice (some ⟨g,0,none⟩) n' cap)->i<n'->m<n->Den P F w U (.aix b k i o n m) (.pointer (some ⟨g,i*k+(o+m),none⟩))
 | pre {U b hi g n cap}:U b=some (.slice (some ⟨g,0,none⟩) n cap)->hi<=n->Den P F w U (.pre b hi n) (.slice (some ⟨g,0,none⟩) hi cap)
 | rest {U b k lo g n cap}:U b=some (.slice (some ⟨g,0,none⟩) n cap)->lo<=n->n<=cap->Den P F w U (.rest b k lo n) (.slice (if cap=lo then some ⟨g,0,none⟩ else some ⟨g,lo*k,none⟩) (n-lo) (cap-lo))
 | own {U b u}:U b=some u->Den P F w U (.own b) u
 | sel {U T x o es} {ad:Addr}:F ad.block->RdC F w T x es->(∀j u,es[j]? = some u->w.cell? (ad.add j)=some u)->Den P F w U (.sel T x o) (.pointer (some (ad.add o)))
 | agg {U} {ss:List SV} {vs:List Value}:ss.length=vs.length->(∀(i:Nat) (s:SV) (u:Value),ss[i]? = some s->vs[i]? = some u->Den P F w U s u)->(∀u∈vs,u.oneCell'=true)->Den P F w U (.agg ss) (.agg vs.toArray)
 | tup {U} {ss:List SV} {vs:List Value}:ss.length=vs.length->(∀(i:Nat) (s:SV) (u:Value),ss[i]? = some s->vs[i]? = some u->Den P F w U s u)->Den P F w U (.tup ss) (.tuple vs.toArray)
 | when {U} {c:Bool} {s:SV} {u:Value}:(c=true->Den P F w U s u)->(c=false->u=undef)->Den P F w U (.when c s) u
 | clo {U} {f:FuncId} {ss:List SV} {vs:List Value}:ss.length=vs.length->(∀(i:Nat) (s:SV) (u:Value),ss[i]? = some s->vs[i]? = some u->Den P F w U s u)->Den P F w U (.clo f ss) (.func (.func f) #[] vs.toArray)
 | fn {U ps r g u}:FnVal P F w ps r g u->Den P F w U (.fn ps r g) u
 | fmap {U ps r ks g m es clock} {vs:List Value}:F m->w.heap[m]? = some (.map es clock)->MapKept.Stamped es clock->vs.length=ks.length->(es.toList.map (fun e=>(e.key,e.val))).Perm ((ks.map fun k=>(Value.string ⟨⟨k⟩⟩)).zip vs)->(∀(i:Nat) (k:List UInt8) (v:Value),ks[i]? = some k->vs[i]? = some v->FnVal P F w ps r (fun x=>g (k,x)) v)->Den P F w U (.fmap ps r ks g) (.map (some m))
 | nilq {U} {n:Nat} {b:Bool}:(b=true->n=0)->Den P F w U (.nilq n) (.bool b)
 | fzd {U b T x u}:U b=some u->RdV F w T x u->Den P F w U (.fzd b T x) u
 | cut {U} {e:Ty} {l:List e.den} {ad:Option Addr}:RdC F w (.sl e) l [.slice ad l.length l.length]->Den P F w U (.cut e l) (.slice ad l.length l.length)
theorem Den.mono{P:Program}{F F':Nat->Prop}{w w':World}{U:Env}{s:SV}{u:Value}(h:Den P F w U s u):
  (∀g,F g->F' g)->(∀g,F g->w'.heap[g]? = w.heap[g]?)->∀U':Env,(∀b x,U b=some x->U' b=some x)->Den P F' w' U' s u:=by
 induction h with
 | v h=>
  intro hF hw U' _;obtain⟨cs,h1,h2⟩:=h;exact .v ⟨cs,h1.mono hF hw,h2⟩
 | raw u=>intro _ _ U' _; exact .raw u
 | any u=>intro _ _ U' _; exact .any u
 | ptr h=>intro _ _ U' hρ; exact .ptr (hρ _ _ h)
 | nptr h=>intro _ _ U' hρ; exact .nptr (h.imp (fun h=>h) fun⟨g,h1,h2⟩=>⟨g,hρ _ _ h1,h2⟩)
 | ael h hi=>intro _ _ U' hρ; exact .ael (hρ _ _ h) hi
 | pel h hi=>intro _ _ U' hρ; exact .pel (hρ _ _ h) hi
 | aix h hi hm=>intro _ _ U' hρ; exact .aix (hρ _ _ h) hi hm
 | pre h hi=>intro _ _ U' hρ; exact .pre (hρ _ _ h) hi
 | rest h h1 h2=>intro _ _ U' hρ; exact .rest (hρ _ _ h) h1 h2
 | own h=>intro _ _ U' hρ; exact .own (hρ _ _ h)
 | sel h1 h2 h3=>
  intro hF hw U' _;exact .sel (hF _ h1) (h2.mono hF hw) (fun j u hj=>(zU2 (hw _ (by rw[qhn]; exact h1))).trans (h3 j u hj))
 | agg hl _ h1 ih=>intro hF hw U' hρ; exact .agg hl (fun i s v hs hv=>ih i s v hs hv hF hw U' hρ) h1
 | tup hl _ ih=>intro hF hw U' hρ; exact .tup hl (fun i s v hs hv=>ih i s v hs hv hF hw U' hρ)
 | when _ hu ih=>intro hF hw U' hρ; exact .when (fun hc=>ih hc hF hw U' hρ) hu
 | clo hl _ ih=>intro hF hw U' hρ; exact .clo hl (fun i s v hs hv=>ih i s v hs hv hF hw U' hρ)
 | nilq h=>intro _ _ U' _; exact .nilq h
 | fzd h1 h2=>
  intro hF hw U' hρ;obtain⟨cs,h3,h4⟩:=h2;exact .fzd (hρ _ _ h1) ⟨cs,h3.mono hF hw,h4⟩
 | cut h=>intro hF hw U' _; exact .cut (h.mono hF hw)
 | fn h=>intro hF hw U' _; exact .fn (h.mono hF hw)
 | fmap h1 h2 h3 h4 h5 h6=>intro hF hw U' _; exact .fmap (hF _ h1) ((hw _ h1).trans h2) h3 h4 h5 fun i k v hk hv=>(h6 i k v hk hv).mono hF hw
def blkOf:Value->Option Nat
 | .pointer (some a)=>some a.block
 | .slice (some a) _ (_+1)=>some a.block
 | .map (some r)=>some r
 | _=>none
inductive Ob where
 | arr (ty:TypeId) (e:Ty) (l:List e.den)
 | map (nn:Bool) (ty:TypeId) (k v:Ty) (l:List (k.den×v.den))
 | iter (on:Bool) (k v:Ty) (c:List (k.den×v.den))
def OwnR(w:World)(e:TypeId)(k:Nat)(v:Value)(n:Nat)(xs:List Value):Prop:=
 xs.length=n*k/\((∃ad,v=.slice ad 0 0/\n=0)∨
  ∃g cap cur,v=.slice (some ⟨g,0,none⟩) n (cap+1)/\w.heap[g]? = some (.cells cur e (0,0))/\n<=cap+1/\cap+1<=maxLen/\cur.size=(cap+1)*k/\cur.toList.take (n*k)=xs)
theorem OwnR.of{w:World}{e:TypeId}{k:Nat}{v:Value}{n:Nat}{xs:List Value}(h:w.ownsRow 0 e k v n xs):OwnR w e k v n xs:=by
 refine⟨h.1,?_⟩
 rcases h.2 with⟨h2,h3⟩ | ⟨g,cap,cur,rfl,_,h4,h5,h6⟩
 ·exact .inl ⟨none,h2,h3⟩
 ·cases cap with
  | zero=>exact .inl ⟨some ⟨g,0,none⟩,by rw[show n=0 by omega],by omega⟩
  | succ cap=>exact .inr ⟨g,cap,cur,rfl,h4,h5,h6⟩
theorem OwnR.to{w:World}{e:TypeId}{k:Nat}{v:Value}{n:Nat}{xs:List Value}(h:OwnR w e k v n xs):(∃ad,v=.slice ad 0 0/\n=0/\xs=[])\/(w.ownsRow 0 e k v n xs/\∃g cap,v=.slice (some ⟨g,0,none⟩) n (cap+1)):=by
 rcases h.2 with⟨ad,h2,h3⟩ | ⟨g,cap,cur,rfl,h4,h5,h6⟩
 ·exact .inl ⟨ad,h2,h3,zk1 (by rw[h.1,h3]; simp)⟩
 ·exact .inr ⟨⟨h.1,.inr ⟨g,cap+1,cur,rfl,zN _,h4,h5,h6⟩⟩,g,cap,rfl⟩
theorem OwnR.nil(w:World)(e:TypeId)(k:Nat)(ad:Option Addr):OwnR w e k (.slice ad 0 0) 0 []:=⟨by simp,.inl ⟨ad,rfl,rfl⟩⟩
theorem OwnR.cells{w:World}{e:TypeId}{k:Nat}{v:Value}{n:Nat}{xs:List Value}(h:OwnR w e k v n xs){g m cap:Nat}(hv:v=.slice (some ⟨g,0,none⟩) m cap):∀j u,xs[j]? = some u->w.cell? ((⟨g,0,none⟩:Addr).add j)=some u:=by
 rcases h.to with⟨ad,_,_,rfl⟩ | ⟨h1,g',cap',h2⟩
 ·intro j u hj; simp at hj
 ·rw[hv] at h2; injection h2 with e1 e2 e3; injection e1 with e1; injection e1 with e1; subst e1 e2 e3
  exact h1.cells (g:=g) (by rw[hv]; rfl)
theorem qmS{a:Addr}{n c g:Nat}(h:blkOf (.slice (some a) n c)=some g):g=a.block:=by
 cases c with
 | zero=>cases h
 | succ c=>injection h with h; exact h.symm
theorem qxE(ad:Option Addr)(n:Nat):blkOf (.slice ad n 0)=none:=by cases ad <;> rfl
structure MapEs(F:Nat->Prop)(w:World)(k v:Ty)(l:List (k.den×v.den))(es:Array MapEntry)(clock:Nat):Prop where
 st:MapKept.Stamped es clock
 ent:∃Z:List ((k.den×v.den)×MapEntry),Z.map (·.1)=l/\(Z.map (·.2)).Perm es.toList/\∀z,z∈Z->RdV F w k z.1.1 z.2.key/\RdV F w v z.1.2 z.2.val
def bornT(ty:TypeId):Bool:=Nat.ble 1000000 ty
def PermB(ty:TypeId)(L:List MapEntry)(es:Array MapEntry)(clock:Nat):Prop:=
 L.Perm es.toList/\(bornT ty=true->L=es.toList/\clock=es.size/\∀(i:Nat) (e:MapEntry),L[i]? = some e->e.born=i)
structure MapEb(ty:TypeId)(F:Nat->Prop)(w:World)(k v:Ty)(l:List (k.den×v.den))(es:Array MapEntry)(clock:Nat):Prop where
 st:MapKept.Stamped es clock
 ent:∃Z:List ((k.den×v.den)×MapEntry),Z.map (·.1)=l/\PermB ty (Z.map (·.2)) es clock/\∀z,z∈Z->RdV F w k z.1.1 z.2.key/\RdV F w v z.1.2 z.2.val
theorem MapEb.es{ty:TypeId}{F:Nat->Prop}{w:World}{k v:Ty}{l:List (k.den×v.den)}{es:Array MapEntry}{clock:Nat}(h:MapEb ty F w k v l es clock):MapEs F w k v l es clock:=by
 obtain⟨h1,Z,h2,h3,h4⟩:=h;exact⟨h1,Z,h2,h3.1,h4⟩
theorem MapEs.eb{ty:TypeId}(ht:bornT ty=false){F:Nat->Prop}{w:World}{k v:Ty}{l:List (k.den×v.den)}{es:Array MapEntry}{clock:Nat}(h:MapEs F w k v l es clock):MapEb ty F w k v l es clock:=by
 obtain⟨h1,Z,h2,h3,h4⟩:=h;exact⟨h1,Z,h2,⟨h3,fun h=>by rw[ht] at h; cases h⟩,h4⟩
theorem MapEs.size{F:Nat->Prop}{w:World}{k v:Ty}{l:List (k.den×v.den)}{es:Array MapEntry}{clock:Nat}(h:MapEs F w k v l es clock):es.size=l.length:=by
 obtain⟨Z,rfl,h2,_⟩:=h.ent;have:=h2.length_eq;simp at this;simp[this]
def ItOk(F:Nat->Prop)(w:World)(k v:Ty)(c:List (k.den×v.den))(mo:Option Nat)(since:Nat)(seen:Array Nat)(last:Nat):Prop:=
 (mo=none/\c.tail=[])\/∃m es clock,mo=some m/\F m/\w.heap[m]? = some (.map es clock)/\MapKept.Stamped es clock/\since=clock/\last=clock∧
  (∃L:List MapEntry,L.Perm (leftOf es seen).toList/\L.length=c.tail.length/\∀(i:Nat) (x:k.den×v.den) (e:MapEntry),c.tail[i]? = some x->L[i]? = some e->RdV F w k x.1 e.key/\RdV F w v x.2 e.val)∧
  ∀s,seen.back? = some s->∃e∈es.toList,e.born=s/\∃x,c.head? = some x/\RdV F w k x.1 e.key/\RdV F w v x.2 e.val
def ObOk(F:Nat->Prop)(w:World):Ob->Value->Prop
 | .arr ty e l,u=>∃xs,OwnR w ty e.size u l.length xs/\∀(i:Nat) (x:e.den),l[i]? = some x->RdC F w e x ((xs.drop (i*e.size)).take e.size)
 | .map nn ty k v l,u=>(nn=false/\u=.map none/\l=[])\/∃r es clock,u=.map (some r)/\w.heap[r]? = some (.map es clock)/\MapEb ty F w k v l es clock
 | .iter on k v c,u=>∃it mo since seen last,u=.pointer (some ⟨it,0,none⟩)/\w.heap[it]? = some (.mapIter mo since seen last)/\ItOk F w k v c mo since seen last/\(on=true->mo≠none/\seen.back?≠none)
structure St where
 r:Nat->SV
 c:Nat->Nat->SV
 v:Nat->Option (TypeId×Nat)
 a:Nat->Option Ob
 d:Nat->Bool
def St.present(st:St)(b:Nat):Prop:=st.v b≠none\/st.a b≠none
def globs:List (Nat×((T:Ty)×T.den)):=[(1,⟨.pair (.int .u64) (.pair (.int .u64) (.pair (.int .u64) (.pair (.int .u64) (.pair (.int .u64) (.pair (.int .u64) (.pair (.int .u64) (.pair (.int .u64) (.pair (.int .u64) (.pair (.int .u64) (.pair (.int .u64) (.pair (.int .u64) (.pair (.int .u64) (.pair (.int .u64) (.pair (.int .u64) (.pair (.int .u64) (.pair (.int .u64) (.pair (.int .u64) (.pair (.int .u64) (.int .u64))))))))))))))))))),((1:Int),(10:Int),(100:Int),(1000:Int),(10000:Int),(100000:Int),(1000000:Int),(10000000:Int),(100000000:Int),(1000000000:Int),(10000000000:Int),(100000000000:Int),(1000000000000:Int),(10000000000000:Int),(100000000000000:Int),(1000000000000000:Int),(10000000000000000:Int),(100000000000000000:Int),(1000000000000000000:Int),(10000000000000000000:Int))⟩),(4,⟨.err,true⟩),(5,⟨.err,true⟩)]
def qho(F:Nat->Prop)(w:World):Prop:=∀p∈globs,F p.1/\∃es,RdC F w p.2.1 p.2.2 es/\(∀j u,es[j]? = some u->w.cell? ⟨p.1,j,none⟩=some u)/\∃t fz,w.heap[p.1]? = some (.cells es.toArray t fz)
theorem qho.mono{F F':Nat->Prop}{w w':World}(h:qho F w)(hF:∀g,F g->F' g)(hw:∀g,F g->w'.heap[g]? = w.heap[g]?):qho F' w':=fun p hp=>by
 obtain⟨h1,es,h2,h3,t,fz,h4⟩:=h p hp;exact⟨hF _ h1,es,h2.mono hF hw,fun j u hj=>(zU2 (hw _ h1)).trans (h3 j u hj),t,fz,(hw _ h1).trans h4⟩
def gfind:List (Nat×((T:Ty)×T.den))->Nat->SV
 | [],_=>.any
 | p::r,g=>bif Nat.beq p.1 g then .sel p.2.1 p.2.2 0 else gfind r g
theorem qwy(l:List (Nat×((T:Ty)×T.den)))(g:Nat):gfind l g=.any\/∃p∈l,p.1=g/\gfind l g=.sel p.2.1 p.2.2 0:=by
 induction l with
 | nil=>exact .inl rfl
 | cons p r ih=>
  unfold gfind;cases h:Nat.beq p.1 g with
  | true=>exact .inr ⟨p,by simp,zd h,rfl⟩
  | false=>
   simp only[zc];rcases ih with h | ⟨q,h1,h2,h3⟩
   ·exact .inl h
   ·exact .inr ⟨q,by simp[h1],h2,h3⟩
structure MemOk(P:Program)(F:Nat->Prop)(w:World)(U:Env)(st:St):Prop where
 dom:∀b,st.d b=false->U b=none
 var:∀b ty k,st.v b=some (ty,k)->∃g arr,U b=some (.pointer (some ⟨g,0,none⟩))/\w.heap[g]? = some (.cells arr ty (0,0))/\arr.size=k∧
  ∀j x,arr[j]? = some x->Den P F w U (st.c b j) x/\x.oneCell'=true
 arr:∀b A,st.a b=some A->∃u,U b=some u/\ObOk F w A u
 sep:∀b b' v v' g,st.present b->st.present b'->U b=some v->U b'=some v'->blkOf v=some g->blkOf v'=some g->b=b'
 own:∀b v g,st.present b->U b=some v->blkOf v=some g->¬F g
 fb:∀g,F g->g<w.heap.size
 one:∀b v,U b=some v->v.oneCell'=true
 glob:qho F w
structure Mod where
 blk:Nat->Prop
 pin:Nat->Option Value
def Mod.none:Mod:=⟨fun _=>False,fun _=>.none⟩
structure Rel'(P:Program)(w0:World)(M:Mod)(N:Nat)(F:Nat->Prop)(U:Env)(st:St)(a:Act)(w:World):Prop where
 fr:Fr w0 M.blk w
 mem:MemOk P F w U st
 lo:∀b v g,st.present b->U b=some v->blkOf v=some g->M.blk g\/w0.heap.size<=g
 regs:∀t,Den P F w U (st.r t) (a.tmps.getD t undef)
 sz:a.tmps.size=N
 df:a.defers=[]
 pin:∀b v,M.pin b=some v->U b=some v
def Rel(P:Program)(w0:World)(M:Mod)(N:Nat)(F0:Nat->Prop)(st:St)(a:Act)(w:World):Prop:=
 ∃F U,Rel' P w0 M N F U st a w/\(∀g,F0 g->F g)/\(∀g,F g->F0 g\/M.blk g\/w0.heap.size<=g)
structure KO(K:Type) where
 eq:K->K->Bool
 lt:K->K->Bool
def mget{K V:Type}(o:KO K):List (K×V)->K->Option V
 | [],_=>none
 | p::r,x=>bif o.eq x p.1 then some p.2 else mget o r x
def ment{K V:Type}(o:KO K):List (K×V)->K->V->List (K×V)
 | [],x,z=>[(x,z)]
 | p::r,x,z=>bif o.eq x p.1 then p::r else p::ment o r x z
def strLt:List UInt8->List UInt8->Bool
 | _,[]=>false
 | [],_::_=>true
 | a::s,b::t=>decide (a<b) || (decide (a=b)&&strLt s t)
def keyO:(k:Ty)->KO k.den
 | .int _=>⟨fun(a b:Int)=>decide (a=b),fun(a b:Int)=>decide (a<b)⟩
 | .str=>⟨fun(a b:List UInt8)=>decide (a=b),strLt⟩
 | .bool=>⟨fun(a b:Bool)=>a==b,fun(a b:Bool)=>!a&&b⟩
 | .pair a b=>⟨fun x y=>(keyO a).eq x.1 y.1&&(keyO b).eq x.2 y.2,fun x y=>(keyO a).lt x.1 y.1 || ((keyO a).eq x.1 y.1&&(keyO b).lt x.2 y.2)⟩
 | .unit=>⟨fun _ _=>true,fun _ _=>false⟩
 | _=>⟨fun _ _=>false,fun _ _=>false⟩
theorem qxF{K V:Type}(o:KO K)(x y:K)(z:V):∀l:List (K×V),(mget o (ment o l x z) y).getD z=(mget o l y).getD z
 | []=>by
  unfold ment mget;cases h:o.eq y x <;> simp[mget,h]
 | p::r=>by
  unfold ment;cases h:o.eq x p.1 with
  | true=>rfl
  | false=>
   simp only[zc,mget];cases h2:o.eq y p.1 with
   | true=>rfl
   | false=>exact qxF o x y z r
def SameG(A B:Option Ob):Prop:=A=B\/∃ty k v l l',A=some (.map true ty k v l)/\B=some (.map true ty k v l')/\bornT ty=true/\∀x,(mget (keyO k) l x).getD v.dflt=(mget (keyO k) l' x).getD v.dflt
theorem SameG.symm{A B:Option Ob}(h:SameG A B):SameG B A:=by
 rcases h with rfl | ⟨ty,k,v,l,l',h1,h2,h3,h4⟩
 ·exact .inl rfl
 ·exact .inr ⟨ty,k,v,l',l,h2,h1,h3,fun x=>(h4 x).symm⟩
theorem SameG.trans{A B C:Option Ob}(h:SameG A B)(h':SameG B C):SameG A C:=by
 rcases h with rfl | ⟨ty,k,v,l,l',h1,h2,h3,h4⟩
 ·exact h'
 ·rcases h' with rfl | ⟨ty',k',v',m,m',g1,g2,g3,g4⟩
  ·exact .inr ⟨ty,k,v,l,l',h1,h2,h3,h4⟩
  ·rw[h2] at g1;injection g1 with g1
   injection g1 with _ e1 e2 e3 e4
   subst e1 e2 e3;have e4:=eq_of_heq e4;subst e4;exact .inr ⟨ty,k,v,l,m',h1,g2,h3,fun x=>(h4 x).trans (g4 x)⟩
def addE(k:Ty)(x:k.den):Option Ob->Option Ob
 | some (.map true ty k' v l)=>if h:k=k' then(bif bornT ty then some (.map true ty k' v (ment (keyO k') l (h ▸ x) v.dflt)) else some (.map true ty k' v l)) else some (.map true ty k' v l)
 | A=>A
theorem qrz(k:Ty)(x:k.den)(A:Option Ob):SameG (addE k x A) A:=by
 unfold addE;split
 ·rename_i ty k' v l;split
  ·rename_i h;subst h;cases hb:bornT ty with
   | true=>exact .inr ⟨ty,k,v,_,l,rfl,rfl,hb,fun y=>qxF _ _ _ _ _⟩
   | false=>exact .inl rfl
  ·exact .inl rfl
 ·exact .inl rfl
inductive Key where
 | r (t:Nat) | c (b o:Nat) | v (b:Nat) | a (b:Nat) | d (b:Nat) | g (b:Nat)
 deriving DecidableEq
inductive Wr where
 | r (t:Nat) (s:SV) | c (b o:Nat) (s:SV) | v (b:Nat) (x:Option (TypeId×Nat)) | a (b:Nat) (x:Option Ob) | d (b:Nat) | e (b:Nat) (k:Ty) (x:k.den)
def Wr.keys:Wr->List Key
 | .r t _=>[.r t] | .c b o _=>[.c b o] | .v b _=>[.v b] | .a b _=>[.a b,.g b] | .d b=>[.d b] | .e b _ _=>[.a b]
def wkeys:List Wr->List Key
 | []=>[]
 | x::l=>x.keys++wkeys l
def St.put(st:St):Wr->St
 | .r t s=>{ st with r:=fun x=>bif Nat.beq x t then s else st.r x }
 | .c b o s=>{ st with c:=fun x y=>bif Nat.beq x b&&Nat.beq y o then s else st.c x y }
 | .v b i=>{ st with v:=fun x=>bif Nat.beq x b then i else st.v x }
 | .a b i=>{ st with a:=fun x=>bif Nat.beq x b then i else st.a x }
 | .d b=>{ st with d:=fun x=>bif Nat.beq x b then true else st.d x }
 | .e b k y=>{ st with a:=fun x=>bif Nat.beq x b then addE k y (st.a b) else st.a x }
def St.app(st:St):List Wr->St
 | []=>st
 | x::l=>(st.put x).app l
def agree(st st':St):Key->Prop
 | .r t=>st.r t=st'.r t
 | .c b o=>st.c b o=st'.c b o
 | .v b=>st.v b=st'.v b
 | .a b=>st.a b=st'.a b
 | .d b=>st.d b=st'.d b
 | .g b=>SameG (st.a b) (st'.a b)
def Key.noG:Key->Bool
 | .g _=>false
 | _=>true
theorem St.ext'{st st':St}(h:∀κ,κ.noG=true->agree st st' κ):st=st':=by
 obtain⟨r,c,v,a,d⟩:=st;obtain⟨r',c',v',a',d'⟩:=st';have h1:r=r':=funext fun t=>h (.r t) rfl
 have h2:c=c':=funext fun b=>funext fun o=>h (.c b o) rfl
 have h3:v=v':=funext fun b=>h (.v b) rfl
 have h4:a=a':=funext fun b=>h (.a b) rfl
 have h5:d=d':=funext fun b=>h (.d b) rfl
 subst h1 h2 h3 h4 h5;rfl
def ofV:Value->SV
 | .int k n=>.v (.int k) n
 | .bool b=>.v .bool b
 | .string s=>.v .str s.data.toList
 | u=>.raw u
def St.ev(st:St):Operand->SV
 | .tmp t=>st.r t
 | .const u=>ofV u
 | .func f=>.clo f []
 | .global g=>gfind globs g
def qaa:Operand->List Key
 | .tmp t=>[.r t]
 | _=>[]
def RT(P:Program)(w0:World)(M:Mod)(N:Nat)(F0:Nat->Prop)(ops:Array Oper)(o:Oper)(st0:St)(rd:List Key)(wr:List Wr):Prop:=
 ∀st,(∀κ∈rd,agree st0 st κ)->∀a w,Rel P w0 M N F0 st a w->
  if Region.wanted o (yielded ops a.tmps) then o.wp P a w (fun a' w'=>Rel P w0 M N F0 (st.app wr) a' w') (fun _ _ _=>False)
  else Rel P w0 M N F0 (st.app wr) (a.put o.dst undef) w
def qcU(b:Nat):Nat->List SV->List Wr
 | _,[]=>[]
 | o,s::r=>.c b o s::qcU b (o+1) r
def qh7(b:Nat):Nat->Nat->List Key
 | _,0=>[]
 | o,n+1=>.c b o::qh7 b (o+1) n
theorem qhp{b:Nat}:∀ {n o j:Nat},j<n->Key.c b (o+j)∈qh7 b o n
 | 0,_,_,h=>by omega
 | n+1,o,0,_=>by simp[qh7]
 | n+1,o,j+1,h=>by
  have:=qhp (b:=b) (n:=n) (o:=o+1) (j:=j) (by omega)
  rw[show o+1+j=o+(j+1) by omega] at this
  simp[qh7,this]
theorem qcy(st:St)(l l':List Wr):st.app (l++l')=(st.app l).app l':=by
 induction l generalizing st with
 | nil=>rfl
 | cons x l ih=>exact ih _
theorem bq{x y:Nat}(h:x≠y):Nat.beq x y=false:=zM.2 (fun e=>h (zd e))
theorem qjV(b:Nat):∀(cs:List SV) (o:Nat) (st:St),(st.app (qcU b o cs)).r=st.r/\(st.app (qcU b o cs)).v=st.v/\(st.app (qcU b o cs)).a=st.a/\(st.app (qcU b o cs)).d=st.d∧
  (∀b' j,b'≠b->(st.app (qcU b o cs)).c b' j=st.c b' j)/\(∀j,(j<o\/o+cs.length<=j)->(st.app (qcU b o cs)).c b j=st.c b j)/\(∀j s,cs[j]? = some s->(st.app (qcU b o cs)).c b (o+j)=s)
 | [],o,st=>⟨rfl,rfl,rfl,rfl,fun _ _ _=>rfl,fun _ _=>rfl,fun j s h=>by simp at h⟩
 | c::r,o,st=>by
  obtain⟨h1,h2,h3,h4,h5,h6,h7⟩:=qjV b r (o+1) (st.put (.c b o c));have hp:∀b' j,(st.put (.c b o c)).c b' j=if b'=b/\j=o then c else st.c b' j:=by
   intro b' j;show(bif Nat.beq b' b&&Nat.beq j o then c else st.c b' j)=_;by_cases e1:b'=b
   ·by_cases e2:j=o
    ·subst e1 e2; simp
    ·simp[bq e2,e2]
   ·simp[bq e1,e1]
  refine⟨h1,h2,h3,h4,fun b' j hb=>(h5 b' j hb).trans (by rw[hp,if_neg (fun h=>hb h.1)]),fun j hj=>(h6 j ?_).trans (by rw[hp,if_neg]; rintro⟨_,rfl⟩; simp at hj; omega),fun j s hs=>?_⟩
  ·simp at hj ⊢; omega
  ·cases j with
   | zero=>
    simp at hs; subst hs;exact(h6 o (.inl (by omega))).trans (by rw[hp,if_pos ⟨rfl,rfl⟩])
   | succ j=>
    have:=h7 j s (by simpa using hs)
    rw[<-this,show o+(j+1)=o+1+j by omega]; rfl
def Env.set(U:Env)(b:Nat)(u:Value):Env:=fun x=>if x=b then some u else U x
theorem ObOk.keep{F F':Nat->Prop}{w w':World}{A:Ob}{u:Value}(h:ObOk F w A u)(hF:∀g,F g->F' g)(hw:∀g,F g->w'.heap[g]? = w.heap[g]?)
  (hb:∀g,blkOf u=some g->w'.heap[g]? = w.heap[g]?):ObOk F' w' A u:=by
 have hc:=hw;cases A with
 | arr ty e l=>
  obtain⟨xs,⟨h1,h2⟩,h3⟩:=h;refine⟨xs,⟨h1,?_⟩,fun i x hx=>(h3 i x hx).mono hF hc⟩
  rcases h2 with h2 | ⟨g,cap,cur,rfl,a2,a3⟩
  ·exact .inl h2
  ·exact .inr ⟨g,cap,cur,rfl,(hb g rfl).trans a2,a3⟩
 | map nn ty k v l=>
  rcases h with h | ⟨r,es,clock,rfl,h2,h3,Z,h4,h5,h6⟩
  ·exact .inl h
  refine .inr ⟨r,es,clock,rfl,(hb r rfl).trans h2,h3,Z,h4,h5,fun z hz=>?_⟩
  obtain⟨⟨c1,p1,p2⟩,⟨c2,q1,q2⟩⟩:=h6 z hz;exact⟨⟨c1,p1.mono hF hc,p2⟩,⟨c2,q1.mono hF hc,q2⟩⟩
 | iter on k v c=>
  obtain⟨it,mo,since,seen,last,rfl,h1,h2,h3⟩:=h;refine⟨it,mo,since,seen,last,rfl,(hb it rfl).trans h1,?_,h3⟩
  rcases h2 with h2 | ⟨m,es,clock,rfl,a1,a2,a3,a4,a5,⟨L,b1,b2,b3⟩,a6⟩
  ·exact .inl h2
  ·refine .inr ⟨m,es,clock,rfl,hF _ a1,(hw _ a1).trans a2,a3,a4,a5,⟨L,b1,b2,fun i x e hx he=>?_⟩,fun s hs=>?_⟩
   ·obtain⟨⟨c1,p1,p2⟩,⟨c2,q1,q2⟩⟩:=b3 i x e hx he;exact⟨⟨c1,p1.mono hF hc,p2⟩,⟨c2,q1.mono hF hc,q2⟩⟩
   ·obtain⟨e,e1,e2,x,e3,⟨c1,p1,p2⟩,⟨c2,q1,q2⟩⟩:=a6 s hs;exact⟨e,e1,e2,x,e3,⟨c1,p1.mono hF hc,p2⟩,⟨c2,q1.mono hF hc,q2⟩⟩
theorem ObOk.lt{F:Nat->Prop}{w:World}{A:Ob}{u:Value}(h:ObOk F w A u){g:Nat}(hg:blkOf u=some g):g<w.heap.size:=by
 cases A with
 | arr ty e l=>
  obtain⟨xs,⟨h1,h2⟩,h3⟩:=h;rcases h2 with⟨ad,rfl,_⟩ | ⟨g',cap,cur,rfl,a2,a3⟩
  ·rw[qxE] at hg; cases hg
  ·cases hg; exact(z01.1 a2).1
 | map nn ty k v l=>
  rcases h with⟨_,rfl,_⟩ | ⟨r,es,clock,rfl,h2,_⟩
  ·cases hg
  ·cases hg; exact(z01.1 h2).1
 | iter on k v c=>
  obtain⟨it,mo,since,seen,last,rfl,h1,_⟩:=h;cases hg; exact(z01.1 h1).1
theorem ObOk.one{F:Nat->Prop}{w:World}{A:Ob}{u:Value}(h:ObOk F w A u):u.oneCell'=true:=by
 cases A with
 | arr ty e l=>
  obtain⟨xs,⟨h1,h2⟩,h3⟩:=h;rcases h2 with⟨ad,rfl,_⟩ | ⟨g',cap,cur,rfl,_⟩ <;> rfl
 | map nn ty k v l=>rcases h with⟨_,rfl,_⟩ | ⟨r,es,clock,rfl,_⟩ <;> rfl
 | iter on k v c=>obtain⟨it,mo,since,seen,last,rfl,_⟩:=h; rfl
theorem ObOk.novar{F:Nat->Prop}{w:World}{A:Ob}{u:Value}(h:ObOk F w A u){g:Nat}(hu:u=.pointer (some ⟨g,0,none⟩)){arr:Array Value}{ty:TypeId}{z:Nat×Nat}(hg:w.heap[g]? = some (.cells arr ty z)):False:=by
 subst hu;cases A with
 | arr ty e l=>obtain⟨xs,⟨_,h2⟩,_⟩:=h; rcases h2 with⟨_,hh,_⟩ | ⟨_,_,_,hh,_⟩ <;> cases hh
 | map nn ty k v l=>rcases h with⟨_,hh,_⟩ | ⟨_,_,_,hh,_⟩ <;> cases hh
 | iter on k v c=>
  obtain⟨it,mo,since,seen,last,e,h1,_⟩:=h;injection e with e; injection e with e; cases e
  rw[h1] at hg; cases hg
section
variable {P:Program} {w0:World} {M:Mod} {N:Nat} {F0:Nat->Prop} {ops:Array Oper}
variable {F:Nat->Prop} {U:Env} {st:St} {a:Act} {w:World}
theorem qwz(u:Value):Den P F w U (ofV u) u:=by
 cases u with
 | int k n=>exact .v ⟨[.int k n],rfl,rfl⟩
 | bool b=>exact .v ⟨[.bool b],rfl,rfl⟩
 | string s=>exact .v ⟨[.string s],rfl,rfl⟩
 | _=>exact .raw _
theorem Rel'.evx{st0:St}{rd:List Key}(h:Rel' P w0 M N F U st a w)(hag:∀κ∈rd,agree st0 st κ){x:Operand}(hx:∀κ∈qaa x,κ∈rd):Den P F w U (st0.ev x) (a.eval x):=by
 cases x with
 | tmp t=>
  have:st0.r t=st.r t:=hag (.r t) (hx _ (by simp[qaa]))
  show Den P F w U (st0.r t) _;rw[this]; exact h.regs t
 | const u=>exact qwz u
 | func f=>exact .clo (ss:=[]) (vs:=[]) rfl (fun i s u h=>by simp at h)
 | global g=>
  show Den P F w U (gfind globs g) (.pointer (some ⟨g,0,none⟩));rcases qwy globs g with e | ⟨p,hp,rfl,e⟩
  ·rw[e]; exact .any _
  ·rw[e];obtain⟨h1,es,h2,h3,_⟩:=h.mem.glob p hp;exact .sel (ad:=⟨p.1,0,none⟩) (o:=0) h1 h2 (fun j u hj=>by rw[zo1,z11]; exact h3 j u hj)
theorem qB4(a:Act)(d:Nat)(v:Value)(hd:d<a.tmps.size)(t:Nat):
  (a.put (some d) v).tmps.getD t undef=if t=d then v else a.tmps.getD t undef:=by
 simp only[Act.put,z91,z12];by_cases h:d=t
 ·subst h; simp[hd]
 ·simp[h,Ne.symm h]
theorem MemOk.congr{st':St}(h:MemOk P F w U st)(hc:st'.c=st.c)(hv:st'.v=st.v)(ha:st'.a=st.a)(hd:st'.d=st.d):MemOk P F w U st':=by
 obtain⟨r,c,v,a',d⟩:=st';subst hc hv ha hd;exact⟨h.dom,h.var,h.arr,h.sep,h.own,h.fb,h.one,h.glob⟩
theorem Rel'.setR(h:Rel' P w0 M N F U st a w){d:Nat}{s:SV}{u:Value}(hd:d<N)(hv:Den P F w U s u):
  Rel' P w0 M N F U (st.put (.r d s)) (a.put (some d) u) w:=by
 refine⟨h.fr,h.mem.congr rfl rfl rfl rfl,h.lo,fun t=>?_,by simp[Act.put,h.sz],h.df,h.pin⟩
 rw[qB4 a d u (by rw[h.sz]; exact hd)]
 show Den P F w U (bif Nat.beq t d then s else st.r t) _;by_cases ht:t=d
 ·subst ht; simp[hv]
 ·simp only[bq ht,zc,if_neg ht]; exact h.regs t
theorem MemOk.lt(h:MemOk P F w U st){b:Nat}{v:Value}{g:Nat}(hp:st.present b)(hr:U b=some v)(hg:blkOf v=some g):g<w.heap.size:=by
 rcases hp with hp | hp
 ·obtain⟨x,hx⟩:=zE1.1 hp;obtain⟨g',arr,h1,h2,_⟩:=h.var b x.1 x.2 hx;rw[h1] at hr; cases hr
  cases hg
  exact(z01.1 h2).1
 ·obtain⟨A,hA⟩:=zE1.1 hp;obtain⟨v',h1,h2⟩:=h.arr b A hA;rw[h1] at hr; cases hr
  exact h2.lt hg
theorem MemOk.named(h:MemOk P F w U st){b:Nat}(hp:st.present b):∃v,U b=some v:=by
 rcases hp with hp | hp
 ·obtain⟨x,hx⟩:=zE1.1 hp;obtain⟨g',arr,h1,_⟩:=h.var b x.1 x.2 hx;exact⟨_,h1⟩
 ·obtain⟨A,hA⟩:=zE1.1 hp;obtain⟨v',h1,_⟩:=h.arr b A hA;exact⟨_,h1⟩
theorem MemOk.move{X F':Nat->Prop}{w':World}(h:MemOk P F w U st)(hf:Fr w X w')(hX:∀b v g,st.present b->U b=some v->blkOf v=some g->¬X g)(hXF:∀g,F g->¬X g)
  (hFF:∀g,F g->F' g) (hF':∀g,F' g->F g\/X g\/w.heap.size<=g) (hb:∀g,F' g->g<w'.heap.size):MemOk P F' w' U st:=by
 have hw:∀g,F g->w'.heap[g]? = w.heap[g]?:=fun g hg=>hf.blk g (h.fb g hg) (hXF g hg)
 refine⟨h.dom,?_,?_,h.sep,?_,hb,h.one,h.glob.mono hFF hw⟩
 ·intro b ty k hv;obtain⟨g,arr,h1,h2,h3,h4⟩:=h.var b ty k hv;exact⟨g,arr,h1,(hf.blk g (z01.1 h2).1 (hX b _ g (.inl (by rw[hv]; simp)) h1 rfl)).trans h2,h3,fun j x hj=>⟨(h4 j x hj).1.mono hFF hw U (fun _ _ h=>h),(h4 j x hj).2⟩⟩
 ·intro b A hA;obtain⟨v,h1,h2⟩:=h.arr b A hA;have hp:st.present b:=.inr (by rw[hA]; simp)
  exact⟨v,h1,h2.keep hFF hw (fun g hg=>hf.blk g (h2.lt hg) (hX b v g hp h1 hg))⟩
 ·intro b v g hp hr hg hF;rcases hF' g hF with h1 | h1 | h1
  ·exact h.own b v g hp hr hg h1
  ·exact hX b v g hp hr hg h1
  ·exact absurd (h.lt hp hr hg) (Nat.not_lt.2 h1)
theorem Rel'.move{X F':Nat->Prop}{w':World}(h:Rel' P w0 M N F U st a w)(hf:Fr w X w')(hX:∀b v g,st.present b->U b=some v->blkOf v=some g->¬X g)(hXF:∀g,F g->¬X g)
  (hFF:∀g,F g->F' g) (hF':∀g,F' g->F g\/X g\/w.heap.size<=g) (hb:∀g,F' g->g<w'.heap.size) (hlo:∀g,X g->g<w0.heap.size->M.blk g):Rel' P w0 M N F' U st a w':=
 ⟨h.fr.trans hf hlo,h.mem.move hf hX hXF hFF hF' hb,h.lo,fun t=>(h.regs t).mono hFF (fun g hg=>hf.blk g (h.mem.fb g hg) (hXF g hg)) U (fun _ _ h=>h),h.sz,h.df,h.pin⟩
theorem Rel'.grow{F':Nat->Prop}{w':World}(h:Rel' P w0 M N F U st a w)(hf:Fr w (fun _=>False) w')(hFF:∀g,F g->F' g)(hF':∀g,F' g->F g\/w.heap.size<=g)(hb:∀g,F' g->g<w'.heap.size):Rel' P w0 M N F' U st a w':=
 h.move hf (fun _ _ _ _ _ _ h=>h) (fun _ _ h=>h) hFF (fun g hg=>(hF' g hg).elim .inl (fun h=>.inr (.inr h))) hb (fun _ h=>h.elim)
theorem Rel'.grow0{w':World}(h:Rel' P w0 M N F U st a w)(hf:Fr w (fun _=>False) w'):Rel' P w0 M N F U st a w':=
 h.grow hf (fun _ h=>h) (fun _ h=>.inl h) (fun g hg=>zw1 (h.mem.fb g hg) hf.size)
theorem Rel'.drew(h:Rel' P w0 M N F U st a w):Rel' P w0 M N F U st a w.drew:=h.grow0 ⟨rfl,rfl,rfl,zP _,fun _ _ _=>rfl⟩
theorem qd9(w:World)(o:Obj):Fr w (fun _=>False) (w.alloc o):=⟨rfl,rfl,rfl,by simp,fun g hg _=>zJ1 w _ g hg⟩
theorem Rel'.less{st':St}(h:Rel' P w0 M N F U st a w)(e1:st'.r=st.r)(e2:st'.c=st.c)(e3:st'.d=st.d)(e4:∀b x,st'.v b=some x->st.v b=some x)(e5:∀b x,st'.a b=some x->st.a b=some x):Rel' P w0 M N F U st' a w:=by
 have hp:∀b,st'.present b->st.present b:=by
  rintro b (hp | hp)
  ·obtain⟨x,hx⟩:=zE1.1 hp; exact .inl (by rw[e4 b x hx]; simp)
  ·obtain⟨x,hx⟩:=zE1.1 hp; exact .inr (by rw[e5 b x hx]; simp)
 refine⟨h.fr,⟨fun b hb=>h.mem.dom b (by rw[<-e3]; exact hb),fun b ty k hv=>by rw[e2]; exact h.mem.var b ty k (e4 b _ hv),fun b A hA=>h.mem.arr b A (e5 b A hA),fun b b' v v' g p p'=>h.mem.sep b b' v v' g (hp b p) (hp b' p'),fun b v g p=>h.mem.own b v g (hp b p),h.mem.fb,h.mem.one,h.mem.glob⟩,fun b v g p=>h.lo b v g (hp b p),fun t=>by rw[e1]; exact h.regs t,h.sz,h.df,h.pin⟩
theorem Rel'.dropV(h:Rel' P w0 M N F U st a w)(b:Nat):Rel' P w0 M N F U (st.put (.v b none)) a w:=
 h.less rfl rfl rfl (fun b' x hx=>by
  have hx':(bif Nat.beq b' b then none else st.v b')=some x:=hx;cases hb:Nat.beq b' b with
  | true=>rw[hb] at hx'; cases hx'
  | false=>rw[hb] at hx'; exact hx') (fun _ _ h=>h)
theorem Rel'.dropA(h:Rel' P w0 M N F U st a w)(b:Nat):Rel' P w0 M N F U (st.put (.a b none)) a w:=
 h.less rfl rfl rfl (fun _ _ h=>h) (fun b' x hx=>by
  have hx':(bif Nat.beq b' b then none else st.a b')=some x:=hx;cases hb:Nat.beq b' b with
  | true=>rw[hb] at hx'; cases hx'
  | false=>rw[hb] at hx'; exact hx')
theorem Rel'.name(h:Rel' P w0 M N F U st a w){b:Nat}{u:Value}(hb:st.d b=false)(h1:u.oneCell'=true):Rel' P w0 M N F (U.set b u) (st.put (.d b)) a w:=by
 have hρb:=h.mem.dom b hb;have hρ:∀b' x,U b'=some x->(U.set b u) b'=some x:=fun b' x hx=>by
  unfold Env.set; rw[if_neg (fun e=>by subst e; rw[hρb] at hx; cases hx)]; exact hx
 have hne:∀b',st.present b'->(U.set b u) b'=U b':=fun b' hp=>by
  unfold Env.set; rw[if_neg]; rintro rfl;obtain⟨v,hv⟩:=h.mem.named hp;rw[hρb] at hv; cases hv
 have up:∀ {s v},Den P F w U s v->Den P F w (U.set b u) s v:=fun hd=>hd.mono (fun _ h=>h) (fun _ _=>rfl) _ hρ
 refine⟨h.fr,⟨?_,?_,?_,?_,?_,h.mem.fb,?_,h.mem.glob⟩,?_,fun t=>up (h.regs t),h.sz,h.df,fun b' v hp=>hρ _ _ (h.pin b' v hp)⟩
 ·intro b' hb';have hb2:(bif Nat.beq b' b then true else st.d b')=false:=hb';cases e:Nat.beq b' b with
  | true=>rw[e] at hb2; cases hb2
  | false=>
   rw[e] at hb2;unfold Env.set; rw[if_neg (fun h=>by subst h; simp at e)]; exact h.mem.dom b' hb2
 ·intro b' ty k hv;obtain⟨g,arr,a1,a2,a3,a4⟩:=h.mem.var b' ty k hv;exact⟨g,arr,hρ _ _ a1,a2,a3,fun j x hj=>⟨up (a4 j x hj).1,(a4 j x hj).2⟩⟩
 ·intro b' A hA;obtain⟨v,a1,a2⟩:=h.mem.arr b' A hA;exact⟨v,hρ _ _ a1,a2⟩
 ·intro b1 b2 v1 v2 g p1 p2 r1 r2;rw[hne b1 p1] at r1; rw[hne b2 p2] at r2;exact h.mem.sep b1 b2 v1 v2 g p1 p2 r1 r2
 ·intro b' v g p r;rw[hne b' p] at r;exact h.mem.own b' v g p r
 ·intro b' v hv;unfold Env.set at hv;by_cases e:b'=b
  ·rw[if_pos e] at hv; cases hv; exact h1
  ·rw[if_neg e] at hv; exact h.mem.one b' v hv
 ·intro b' v g p r;rw[hne b' p] at r;exact h.lo b' v g p r
theorem Rel'.addA(h:Rel' P w0 M N F U st a w){b:Nat}{u:Value}{A:Ob}(hρ:U b=some u)(hv:st.v b=none)(hob:ObOk F w A u)
  (hs:∀g,blkOf u=some g->(∀b' v,b'≠b->st.present b'->U b'=some v->blkOf v≠some g)/\¬F g/\(M.blk g\/w0.heap.size<=g)):Rel' P w0 M N F U (st.put (.a b (some A))) a w:=by
 have hp:∀b',(st.put (.a b (some A))).present b'->b'≠b->st.present b':=by
  rintro b' (hp | hp) hne
  ·exact .inl hp
  ·refine .inr ?_
   have hp':(bif Nat.beq b' b then some A else st.a b')≠none:=hp;rw[bq hne] at hp'; exact hp'
 refine⟨h.fr,⟨h.mem.dom,?_,?_,?_,?_,h.mem.fb,h.mem.one,h.mem.glob⟩,?_,h.regs,h.sz,h.df,h.pin⟩
 ·exact h.mem.var
 ·intro b' A' hA;have hA':(bif Nat.beq b' b then some A else st.a b')=some A':=hA;cases e:Nat.beq b' b with
  | true=>
   rw[e] at hA'; injection hA' with hA'; subst hA'
   have:=zd e; subst this;exact⟨u,hρ,hob⟩
  | false=>rw[e] at hA'; exact h.mem.arr b' A' hA'
 ·intro b1 b2 v1 v2 g p1 p2 r1 r2 g1 g2;by_cases e1:b1=b
  ·by_cases e2:b2=b
   ·rw[e1,e2]
   ·subst e1; rw[hρ] at r1; cases r1
    exact absurd g2 ((hs g g1).1 b2 v2 e2 (hp b2 p2 e2) r2)
  ·by_cases e2:b2=b
   ·subst e2; rw[hρ] at r2; cases r2
    exact absurd g1 ((hs g g2).1 b1 v1 e1 (hp b1 p1 e1) r1)
   ·exact h.mem.sep b1 b2 v1 v2 g (hp _ p1 e1) (hp _ p2 e2) r1 r2 g1 g2
 ·intro b' v g p r hg;by_cases e:b'=b
  ·subst e; rw[hρ] at r; cases r; exact(hs g hg).2.1
  ·exact h.mem.own b' v g (hp b' p e) r hg
 ·intro b' v g p r hg;by_cases e:b'=b
  ·subst e; rw[hρ] at r; cases r; exact(hs g hg).2.2
  ·exact h.lo b' v g (hp b' p e) r hg
theorem Rel'.addV(h:Rel' P w0 M N F U st a w){b g:Nat}{ty:TypeId}{cs:List SV}{arr:Array Value}(hρ:U b=some (.pointer (some ⟨g,0,none⟩)))(ha:st.a b=none)
  (hheap:w.heap[g]? = some (.cells arr ty (0,0))) (hl:cs.length=arr.size) (hc:∀(j:Nat) (s:SV) (x:Value),cs[j]? = some s->arr[j]? = some x->Den P F w U s x/\x.oneCell'=true)
  (hs:∀b' v,b'≠b->st.present b'->U b'=some v->blkOf v≠some g) (hF:¬F g) (hlo:M.blk g\/w0.heap.size<=g):Rel' P w0 M N F U (st.app (.v b (some (ty,cs.length))::qcU b 0 cs)) a w:=by
 obtain⟨h1,h2,h3,h4,h5,h6,h7⟩:=qjV b cs 0 (st.put (.v b (some (ty,cs.length))));have hV:∀b',(st.app (.v b (some (ty,cs.length))::qcU b 0 cs)).v b'=if b'=b then some (ty,cs.length) else st.v b':=by
  intro b';show(St.app _ (qcU b 0 cs)).v b'=_;rw[h2];show(bif Nat.beq b' b then _ else st.v b')=_;by_cases e:b'=b
  ·subst e; simp
  ·simp[bq e,e]
 have hA:∀b',(st.app (.v b (some (ty,cs.length))::qcU b 0 cs)).a b'=st.a b':=fun b'=>congrFun h3 b'
 have hD:∀b',(st.app (.v b (some (ty,cs.length))::qcU b 0 cs)).d b'=st.d b':=fun b'=>congrFun h4 b'
 have hp:∀b',(st.app (.v b (some (ty,cs.length))::qcU b 0 cs)).present b'->b'≠b->st.present b':=by
  intro b' hp hne;unfold St.present at hp ⊢;rw[hV,hA,if_neg hne] at hp;exact hp
 refine⟨h.fr,⟨fun b' hb'=>h.mem.dom b' (by rw[<-hD]; exact hb'),?_,?_,?_,?_,h.mem.fb,h.mem.one,h.mem.glob⟩,?_,fun t=>?_,h.sz,h.df,h.pin⟩
 ·intro b' ty' k' hv;rw[hV] at hv;by_cases e:b'=b
  ·subst e;rw[if_pos rfl] at hv; injection hv with hv; injection hv with hv1 hv2; subst hv1 hv2
   refine⟨g,arr,hρ,hheap,hl.symm,fun j x hx=>?_⟩
   have hj:j<cs.length:=by rw[hl]; exact(z01.1 hx).1
   have hs':cs[j]? = some cs[j]:=zj hj;have hc':=h7 j _ hs';rw[z11] at hc';show Den P F _ _ ((St.app _ (qcU b' 0 cs)).c b' j) x/\_;rw[hc'];exact hc j _ x hs' hx
  ·rw[if_neg e] at hv;obtain⟨g',arr',a1,a2,a3,a4⟩:=h.mem.var b' ty' k' hv;refine⟨g',arr',a1,a2,a3,fun j x hx=>⟨?_,(a4 j x hx).2⟩⟩
   show Den P F _ _ ((St.app _ (qcU b 0 cs)).c b' j) x;rw[h5 b' j e];exact(a4 j x hx).1
 ·intro b' A hA';rw[hA] at hA';exact h.mem.arr b' A hA'
 ·intro b1 b2 v1 v2 g' p1 p2 r1 r2 g1 g2;by_cases e1:b1=b
  ·by_cases e2:b2=b
   ·rw[e1,e2]
   ·subst e1; rw[hρ] at r1; cases r1
    cases g1
    exact absurd g2 (hs b2 v2 e2 (hp b2 p2 e2) r2)
  ·by_cases e2:b2=b
   ·subst e2; rw[hρ] at r2; cases r2
    cases g2
    exact absurd g1 (hs b1 v1 e1 (hp b1 p1 e1) r1)
   ·exact h.mem.sep b1 b2 v1 v2 g' (hp _ p1 e1) (hp _ p2 e2) r1 r2 g1 g2
 ·intro b' v g' p r hg;by_cases e:b'=b
  ·subst e; rw[hρ] at r; cases r; cases hg; exact hF
  ·exact h.mem.own b' v g' (hp b' p e) r hg
 ·intro b' v g' p r hg;by_cases e:b'=b
  ·subst e; rw[hρ] at r; cases r; cases hg; exact hlo
  ·exact h.lo b' v g' (hp b' p e) r hg
 ·show Den P F w U ((St.app _ (qcU b 0 cs)).r t) _;rw[h1]; exact h.regs t
theorem MemOk.absent(h:MemOk P F w U st){b:Nat}(hb:st.d b=false):st.v b=none/\st.a b=none/\¬st.present b:=by
 have hρ:=h.dom b hb;have hp:¬st.present b:=fun hp=>by obtain⟨v,hv⟩:=h.named hp; rw[hρ] at hv; cases hv
 refine⟨?_,?_,hp⟩
 ·cases hx:st.v b with
  | none=>rfl
  | some x=>exact absurd (.inl (by rw[hx]; simp)) hp
 ·cases hx:st.a b with
  | none=>rfl
  | some x=>exact absurd (.inr (by rw[hx]; simp)) hp
theorem Rel'.newVar(h:Rel' P w0 M N F U st a w){b d:Nat}{ty:TypeId}{cs:List SV}{arr:Array Value}(hb:st.d b=false)(hd:d<N)(hk:cs.length=arr.size)
  (hden:∀(j:Nat) (s:SV) (x:Value),cs[j]? = some s->arr[j]? = some x->Den P F w U s x/\x.oneCell'=true):
  Rel' P w0 M N F (U.set b (.pointer (some ⟨w.heap.size,0,none⟩))) (st.app ((.d b::.v b (some (ty,cs.length))::qcU b 0 cs)++[.r d (.ptr b 0)]))
   (a.put (some d) (.pointer (some ⟨w.heap.size,0,none⟩))) (w.alloc (.cells arr ty)):=by
 obtain⟨_,hna,hnp⟩:=h.mem.absent hb;have hρb:=h.mem.dom b hb;have h1:=(h.grow0 (qd9 w (.cells arr ty))).name (b:=b) (u:=.pointer (some ⟨w.heap.size,0,none⟩)) hb rfl;have hset:(U.set b (.pointer (some ⟨w.heap.size,0,none⟩))) b=some (.pointer (some ⟨w.heap.size,0,none⟩)):=by unfold Env.set; rw[if_pos rfl]
 have hρ:∀b' x,U b'=some x->(U.set b (.pointer (some ⟨w.heap.size,0,none⟩))) b'=some x:=fun b' x hx=>by
  unfold Env.set; rw[if_neg (fun e=>by subst e; rw[hρb] at hx; cases hx)]; exact hx
 have h2:=h1.addV (cs:=cs) (arr:=arr) (ty:=ty) hset hna (zm2 w _) hk (fun j s x hs hx=>⟨(hden j s x hs hx).1.mono (fun _ h=>h) (fun g hg=>zJ1 w _ g (h.mem.fb g hg)) _ hρ,(hden j s x hs hx).2⟩)
  (fun b' v hne hp hv hg=>by
   have hv':U b'=some v:=by unfold Env.set at hv; rwa[if_neg hne] at hv
   exact Nat.lt_irrefl _ (h.mem.lt (b:=b') (v:=v) hp hv' hg))
  (fun hF=>Nat.lt_irrefl _ (h.mem.fb _ hF)) (.inr h.fr.size)
 rw[qcy];exact h2.setR hd (.ptr hset)
theorem Rel'.setVar(h:Rel' P w0 M N F U st a w){b k g:Nat}{ty:TypeId}{arr':Array Value}{st':St}(hv:st.v b=some (ty,k))(hρ:U b=some (.pointer (some ⟨g,0,none⟩)))
  (hs:arr'.size=k) (e1:st'.r=st.r) (e2:st'.v=st.v) (e3:st'.a=st.a) (e4:st'.d=st.d) (e5:∀b' j,b'≠b->st'.c b' j=st.c b' j)
  (hc:∀j x,arr'[j]? = some x->Den P F w U (st'.c b j) x/\x.oneCell'=true):Rel' P w0 M N F U st' a (w.setRow g arr'):=by
 obtain⟨g0,arr,a1,a2,a3,a4⟩:=h.mem.var b ty k hv;rw[hρ] at a1; injection a1 with a1; injection a1 with a1; injection a1 with a1; cases a1
 have hpb:st.present b:=.inl (by rw[hv]; simp)
 have hother:∀g',g'≠g->(w.setRow g arr').heap[g']? = w.heap[g']?:=fun g' hne=>zy2 w g g' arr' hne
 have hFg:∀g',F g'->g'≠g:=fun g' hF e=>by subst e; exact h.mem.own b _ _ hpb hρ rfl hF
 have up:∀ {U s v},Den P F w U s v->Den P F (w.setRow g arr') U s v:=fun hd=>hd.mono (fun _ h=>h) (fun g' hF=>hother g' (hFg g' hF)) _ (fun _ _ h=>h)
 have hP:∀b',st'.present b'↔st.present b':=fun b'=>by unfold St.present; rw[e2,e3]
 refine⟨⟨h.fr.os,h.fr.tape,h.fr.output,by simpa using h.fr.size,fun g' hg' hM=>?_⟩,⟨?_,?_,?_,?_,?_,fun g' hF=>by simpa using h.mem.fb g' hF,h.mem.one,h.mem.glob.mono (fun _ h=>h) fun g' hF=>hother g' (hFg g' hF)⟩,?_,?_,h.sz,h.df,h.pin⟩
 ·rw[hother g' ?_]; exact h.fr.blk g' hg' hM
  rintro rfl
  rcases h.lo b _ _ hpb hρ rfl with hm | hm
  ·exact hM hm
  ·exact absurd hg' (Nat.not_lt.2 hm)
 ·intro b' hb'; rw[e4] at hb'; exact h.mem.dom b' hb'
 ·intro b' ty' k' hv';rw[e2] at hv';by_cases e:b'=b
  ·subst e;rw[hv] at hv'; injection hv' with hv'; injection hv' with hv1 hv2; subst hv1 hv2
   exact⟨g,arr',hρ,zs2 w g arr arr' ty (0,0) a2,hs,fun j x hx=>⟨up (hc j x hx).1,(hc j x hx).2⟩⟩
  ·obtain⟨g',arr2,b1,b2,b3,b4⟩:=h.mem.var b' ty' k' hv';have hne:g'≠g:=by
    rintro rfl
    exact e (h.mem.sep b' b _ _ g' (.inl (by rw[hv']; simp)) hpb b1 hρ rfl rfl)
   exact⟨g',arr2,b1,(hother g' hne).trans b2,b3,fun j x hx=>⟨by rw[e5 b' j e]; exact up (b4 j x hx).1,(b4 j x hx).2⟩⟩
 ·intro b' A hA;rw[e3] at hA;obtain⟨v,b1,b2⟩:=h.mem.arr b' A hA;refine⟨v,b1,b2.keep (fun _ h=>h) (fun g' hF=>hother g' (hFg g' hF)) (fun g' hg'=>hother g' ?_)⟩
  rintro rfl
  have:=h.mem.sep b' b _ _ g' (.inr (by rw[hA]; simp)) hpb b1 hρ hg' rfl
  subst this;rw[hρ] at b1; cases b1
  exact(b2.novar rfl a2).elim
 ·intro b1 b2 v1 v2 g' p1 p2; exact h.mem.sep b1 b2 v1 v2 g' ((hP _).1 p1) ((hP _).1 p2)
 ·intro b' v g' p; exact h.mem.own b' v g' ((hP _).1 p)
 ·intro b' v g' p; exact h.lo b' v g' ((hP _).1 p)
 ·intro t; rw[e1]; exact up (h.regs t)
/-! ### Operations that only make a value -/
theorem qcD{o:Oper}(hg:o.guard=none):Region.wanted o (yielded ops a.tmps)=true:=by simp[Region.wanted,hg]
theorem RT.value{o:Oper}{d:Nat}{st0:St}{rd:List Key}{s:SV}(hg:o.guard=none)(hdst:o.dst=some d)(hd:d<N)
  (f:∀st,(∀κ∈rd,agree st0 st κ)->∀F U a w,Rel' P w0 M N F U st a w->∃u,(execOp a.eval o).run P w=.ok (.value u) w/\Den P F w U s u):RT P w0 M N F0 ops o st0 rd [.r d s]:=by
 intro st hp a w ⟨F,U,h,hF⟩;rw[if_pos (qcD hg)];obtain⟨v,hr,hv⟩:=f st hp F U a w h;unfold Oper.wp;rw[hr];show Rel P w0 M N F0 _ (a.put o.dst v) w;rw[hdst];exact⟨F,U,h.setR hd hv,hF⟩
theorem RT.stepW{o:Oper}{st0:St}{rd:List Key}{wr:List Wr}(hg:o.guard=none)
  (f:∀st,(∀κ∈rd,agree st0 st κ)->∀F U a w,Rel' P w0 M N F U st a w->∃u U' F' w',((execOp a.eval o).run P w=.ok (.value u) w'\/((execOp a.eval o).run P w=.ok .skip w'/\u=undef))∧
   Rel' P w0 M N F' U' (st.app wr) (a.put o.dst u) w'/\(∀g,F g->F' g)/\(∀g,F' g->F g\/M.blk g\/w0.heap.size<=g)):
  RT P w0 M N F0 ops o st0 rd wr:=by
 intro st hp a w ⟨F,U,h,hF⟩;rw[if_pos (qcD hg)];obtain⟨v,U',F',w',hr,hk,f1,f2⟩:=f st hp F U a w h;unfold Oper.wp;have hh:Rel P w0 M N F0 (st.app wr) (a.put o.dst v) w':=⟨F',U',hk,fun g hg=>f1 g (hF.1 g hg),fun g hg=>(f2 g hg).elim (fun h=>hF.2 g h) .inr⟩
 rcases hr with hr | ⟨hr,rfl⟩ <;> rw[hr] <;> exact hh
end
def memN:List Nat->Nat->Bool
 | [],_=>false
 | t::l,x=>Nat.beq x t || memN l x
theorem qaU{l:List Nat}{x:Nat}:memN l x=true↔x∈l:=by
 induction l with
 | nil=>simp[memN]
 | cons a l ih=>
  simp only[memN,zi1,ih,zy];constructor
  ·rintro(h | h)
   ·exact .inl (zd h)
   ·exact .inr h
  ·rintro(rfl | h)
   ·exact .inl (z33 _)
   ·exact .inr h
theorem lb{m n:Nat}(h:Nat.ble m n=true:=by rfl):m<=n:=zJ h
def thenQ(R:St->Prop)(Q:Exit->St->Prop):Exit->St->Prop
 | .normal,st=>R st
 | e,st=>Q e st
def qDx(id:Nat)(Q:Exit->St->Prop):Exit->St->Prop
 | .exit id',st=>bif Nat.beq id' id then Q .normal st else Q (.exit id') st
 | e,st=>Q e st
def qFo(Q:Exit->St->Prop):Exit->St->Prop
 | .goto _,_=>False
 | e,st=>Q e st
def Key.eqb:Key->Key->Bool
 | .r t,.r t'=>Nat.beq t t'
 | .c t o,.c t' o'=>Nat.beq t t'&&Nat.beq o o'
 | .v t,.v t'=>Nat.beq t t'
 | .a t,.a t'=>Nat.beq t t'
 | .d t,.d t'=>Nat.beq t t'
 | .g t,.g t'=>Nat.beq t t'
 | _,_=>false
theorem Key.eqb_self(κ:Key):κ.eqb κ=true:=by cases κ <;> simp[Key.eqb]
def keyIn(κ:Key):List Key->Bool
 | []=>false
 | x::l=>κ.eqb x || keyIn κ l
theorem qlI{κ:Key}{l:List Key}(h:κ∈l):keyIn κ l=true:=by
 induction l with
 | nil=>cases h
 | cons x l ih=>
  simp only[keyIn,zi1];rcases zy.1 h with rfl | h
  ·exact .inl (Key.eqb_self _)
  ·exact .inr (ih h)
def disj(x y:List Key×List Key):Bool:=
 x.2.all (fun κ=>!keyIn κ y.1&&!keyIn κ y.2)&&y.2.all (fun κ=>!keyIn κ x.1)
def befOf(acc:List Nat)(es:List Edge):Nat:=es.foldl (fun s e=>if Region.binds .any e then s|||2^e.on|||acc.getD e.on 0 else s) 0
def befL:List Oper->List Nat->List Nat
 | [],acc=>acc
 | o::r,acc=>befL r (acc++[befOf acc o.after.toList])
def qtX:List Oper->Nat->Bool
 | [],_=>true
 | o::r,i=>o.after.toList.all (fun e=>!Region.binds .any e || Nat.blt e.on i)&&qtX r (i+1)
def qzG(bef:List Nat)(feet:List (List Key×List Key)):Bool:=
 (List.range feet.length).all fun j=>(List.range j).all fun i=>(bef.getD j 0).testBit i || disj (feet.getD i ([],[])) (feet.getD j ([],[]))
def qoL(l:List Oper)(feet:List (List Key×List Key)):Bool:=qtX l 0&&qzG (befL l []) feet
inductive Reach (l:List Oper):Nat->Nat->Prop
 | edge {j i:Nat} {o:Oper} {e:Edge}:l[j]? = some o->e∈o.after->Region.binds .any e=true->e.on=i->Reach l j i
 | more {j k i:Nat} {o:Oper} {e:Edge}:l[j]? = some o->e∈o.after->Region.binds .any e=true->e.on=k->Reach l k i->Reach l j i
theorem qyS{acc:List Nat}{es:List Edge}{i:Nat}(h:(befOf acc es).testBit i=true):∃e∈es,Region.binds .any e=true/\(e.on=i\/(acc.getD e.on 0).testBit i=true):=by
 unfold befOf at h;have key:∀(es:List Edge) (s:Nat),(es.foldl (fun s e=>if Region.binds .any e then s|||2^e.on|||acc.getD e.on 0 else s) s).testBit i=true->
   s.testBit i=true\/∃e∈es,Region.binds .any e=true/\(e.on=i\/(acc.getD e.on 0).testBit i=true):=by
  intro es;induction es with
  | nil=>intro s h; exact .inl h
  | cons e es ih=>
   intro s h;rcases ih _ h with h | ⟨e',he',hb⟩
   ·by_cases hb:Region.binds .any e=true
    ·simp only[if_pos hb] at h;simp only[Nat.testBit_or,zi1,Nat.testBit_two_pow,zi] at h;rcases h with(h | h) | h
     ·exact .inl h
     ·exact .inr ⟨e,by simp,hb,.inl h⟩
     ·exact .inr ⟨e,by simp,hb,.inr h⟩
    ·simp only[if_neg hb] at h; exact .inl h
   ·exact .inr ⟨e',by simp[he'],hb⟩
 rcases key es 0 h with h | h
 ·simp at h
 ·exact h
theorem qvu(l:List Oper):∀(r:List Oper) (acc:List Nat),(∀j,r[j]? = l[acc.length+j]?)->(∀j i,(acc.getD j 0).testBit i=true->Reach l j i)->
  ∀j i,((befL r acc).getD j 0).testBit i=true->Reach l j i
 | [],acc,_,hacc=>hacc
 | o::r,acc,hr,hacc=>by
  refine qvu l r (acc++[befOf acc o.after.toList]) (fun j=>?_) (fun j i h=>?_)
  ·have:=hr (j+1); simp only[List.getElem?_cons_succ] at this; rw[this]; congr 1; simp; omega
  ·have ho:l[acc.length]? = some o:=by have:=hr 0; simpa using this.symm
   by_cases h1:j<acc.length
   ·refine hacc j i ?_
    rwa[zk,zY h1,<-zk] at h
   ·by_cases h2:j=acc.length
    ·subst h2;have h3:(befOf acc o.after.toList).testBit i=true:=by simpa[zk] using h
     obtain⟨e,he,hb,hc⟩:=qyS h3;rcases hc with hc | hc
     ·exact .edge ho (by simpa using he) hb hc
     ·exact .more ho (by simpa using he) hb rfl (hacc _ _ hc)
    ·exfalso;rw[zk,zy1 (by simp; omega)] at h
     simp at h
theorem qqI:∀(r:List Oper) (k:Nat),qtX r k=true->∀j o,r[j]? = some o->∀e∈o.after,Region.binds .any e=true->e.on<k+j
 | [],_,_,j,o,h=>by simp at h
 | o0::r,k,h,j,o,ho=>by
  simp only[qtX,z8,zq] at h;cases j with
  | zero=>
   simp at ho; subst ho;intro e he hb;have:=h.1 e (by simpa using he)
   simp only[hb,zg,zj2] at this;have h2:e.on<k:=zS ▸ this;simpa using h2
  | succ j=>
   intro e he hb;have:=qqI r (k+1) h.2 j o (by simpa using ho) e he hb
   omega
section
variable {P:Program} {w0:World} {M:Mod} {N:Nat} {F0:Nat->Prop} {ops:Array Oper}
variable {F:Nat->Prop} {U:Env} {st:St} {a:Act} {w:World}
theorem agree.refl(st:St)(κ:Key):agree st st κ:=by cases κ <;> first | rfl | exact .inl rfl
theorem agree.trans{a b c:St}{κ:Key}(h:agree a b κ)(h':agree b c κ):agree a c κ:=by cases κ <;> first | exact Eq.trans h h' | exact SameG.trans h h'
theorem agree.symm{a b:St}{κ:Key}(h:agree a b κ):agree b a κ:=by cases κ <;> first | exact Eq.symm h | exact SameG.symm h
structure qdr(P:Program)(w0:World)(M:Mod)(N:Nat)(F0:Nat->Prop)(ops:Array Oper) where
 o:Oper
 st0:St
 rd:List Key
 wr:List Wr
 h:RT P w0 M N F0 ops o st0 rd wr
def qdr.pre(x:qdr P w0 M N F0 ops)(st:St):Prop:=∀κ∈x.rd,agree x.st0 st κ
def qdr.foot(x:qdr P w0 M N F0 ops):List Key×List Key:=(x.rd,wkeys x.wr)
def runL(st:St):List (qdr P w0 M N F0 ops)->St
 | []=>st
 | x::l=>runL (st.app x.wr) l
def preL(st:St):List (qdr P w0 M N F0 ops)->Prop
 | []=>True
 | x::l=>x.pre st/\preL (st.app x.wr) l
def QK(P:Program)(w0:World)(M:Mod)(N:Nat)(F0:Nat->Prop)(K:St->Prop):Exit->Act->World->Prop
 | .normal,a,w=>∃st',K st'/\Rel P w0 M N F0 st' a w
 | _,_,_=>False
def G(P:Program)(w0:World)(M:Mod)(N:Nat)(F0:Nat->Prop)(draw:Bool)(ops:Array Oper)(st0:St)(feet:List (List Key×List Key))(rest:List Oper)(st:St)(K:St->Prop):Prop:=
 ∀L:List (qdr P w0 M N F0 ops),L.map qdr.foot=feet->L.map (·.o)++rest=ops.toList->preL st0 L->runL st0 L=st->
  ∀a w,Rel P w0 M N F0 st0 a w->if draw then wpAny P .any ops (QK P w0 M N F0 K) ops.size (Array.replicate ops.size false) a { w with drawn:=w.drawn+1 } else wpList P ops (QK P w0 M N F0 K) ops.toList a w
theorem qwA(st:St)(l l':List (qdr P w0 M N F0 ops)):runL st (l++l')=runL (runL st l) l':=by
 induction l generalizing st with
 | nil=>rfl
 | cons x l ih=>exact ih _
theorem qrA(st:St)(l l':List (qdr P w0 M N F0 ops)):preL st (l++l')↔preL st l/\preL (runL st l) l':=by
 induction l generalizing st with
 | nil=>simp[preL,runL]
 | cons x l ih=>simp only[zp1,preL,runL,ih,and_assoc]
theorem G.step{draw:Bool}{st0:St}{feet:List (List Key×List Key)}{rest:List Oper}{K:St->Prop}{o:Oper}{rd:List Key}{wr:List Wr}
  (h:RT P w0 M N F0 ops o st rd wr) (hk:G P w0 M N F0 draw ops st0 (feet++[(rd,wkeys wr)]) rest (st.app wr) K):G P w0 M N F0 draw ops st0 feet (o::rest) st K:=by
 intro L hf ho hpre hr;refine hk (L++[⟨o,st,rd,wr,h⟩]) (by simp[hf,qdr.foot]) (by simp[<-ho]) ?_ (by rw[qwA,hr]; rfl)
 rw[qrA,hr];exact⟨hpre,fun κ _=>agree.refl _ κ,trivial⟩
theorem qoM{K:St->Prop}:∀(L:List (qdr P w0 M N F0 ops)) (st:St) (a:Act) (w:World),preL st L->Rel P w0 M N F0 st a w->K (runL st L)->wpList P ops (QK P w0 M N F0 K) (L.map (·.o)) a w
 | [],st,a,w,_,hr,hK=>⟨st,hK,hr⟩
 | x::L,st,a,w,⟨hp,hpre⟩,hr,hK=>by
  have h:=x.h st hp a w hr;show wpList P ops (QK P w0 M N F0 K) (x.o::L.map (·.o)) a w;unfold wpList;split
  ·rename_i hw;rw[if_pos hw] at h;refine .inl ?_
   have h2:=Oper.wp_mono (K':=wpList P ops (QK P w0 M N F0 K) (L.map (·.o))) (fun a' w' hr'=>qoM L _ a' w' hpre hr' hK) h
   exact wp_calm h2
  ·rename_i hw;rw[if_neg hw] at h;exact qoM L _ _ _ hpre h hK
where
 wp_calm {o:Oper} {a:Act} {w:World} {K':Act->World->Prop} {Q:Exit->Act->World->Prop} (h:o.wp P a w K' (fun _ _ _=>False)):o.wp P a w K' Q:=by
  unfold Oper.wp at*
  generalize (execOp a.eval o).run P w=r at*
  cases r with
  | ok n w'=>
   cases n <;> simp only[Oper.upon] at h ⊢ <;>
    first
     | exact h
     | exact Calls.mono h (fun e w'' he=>by
       cases e with
       | returned v=>exact he
       | panicked c=>exact he.elim
       | outgrown=>exact(by obtain⟨_,_,hh⟩:=he; exact hh.elim))
  | halt x w'=>cases x <;> simp only[Oper.upon] at h ⊢
theorem G.done{st0:St}{feet:List (List Key×List Key)}{K:St->Prop}(hK:K st):G P w0 M N F0 false ops st0 feet [] st K:=by
 intro L _ ho hpre hr a w hrel;simp only[zG] at ho;rw[if_neg (by simp),<-ho]
 exact qoM L st0 a w hpre hrel (by rw[hr]; exact hK)
theorem qzH(st:St)(x:Wr)(κ:Key)(h:κ∉x.keys):agree (st.put x) st κ:=by
 have bq:∀ {a b:Nat},a≠b->Nat.beq a b=false:=fun hne=>zM.2 (fun e=>hne (zd e))
 cases x with
 | r t s=>
  cases κ <;> first | rfl | exact .inl rfl | skip
  rename_i t';show(bif Nat.beq t' t then s else st.r t')=st.r t';rw[bq (fun e=>h (by rw[e]; exact .head _))]; rfl
 | c b o s=>
  cases κ <;> first | rfl | exact .inl rfl | skip
  rename_i b' o';show(bif Nat.beq b' b&&Nat.beq o' o then s else st.c b' o')=st.c b' o';by_cases e:b'=b
  ·subst e; rw[bq (a:=o') (b:=o) (fun e=>h (by rw[e]; exact .head _))]; simp
  ·rw[bq e]; simp
 | v b y=>
  cases κ <;> first | rfl | exact .inl rfl | skip
  rename_i b';show(bif Nat.beq b' b then y else st.v b')=st.v b';rw[bq (fun e=>h (by rw[e]; exact .head _))]; rfl
 | a b y=>
  cases κ <;> first | rfl | exact .inl rfl | skip
  ·rename_i b';show(bif Nat.beq b' b then y else st.a b')=st.a b';rw[bq (fun e=>h (by rw[e]; exact .head _))]; rfl
  ·rename_i b';show SameG (bif Nat.beq b' b then y else st.a b') (st.a b');rw[bq (fun e=>h (by rw[e]; exact .tail _ (.head _)))]; exact .inl rfl
 | d b=>
  cases κ <;> first | rfl | exact .inl rfl | skip
  rename_i b';show(bif Nat.beq b' b then true else st.d b')=st.d b';rw[bq (fun e=>h (by rw[e]; exact .head _))]; rfl
 | e b k y=>
  cases κ <;> first | rfl | exact .inl rfl | skip
  ·rename_i b';show(bif Nat.beq b' b then addE k y (st.a b) else st.a b')=st.a b';rw[bq (fun e=>h (by rw[e]; exact .head _))]; rfl
  ·rename_i b';show SameG (bif Nat.beq b' b then addE k y (st.a b) else st.a b') (st.a b');by_cases e:b'=b
   ·subst e; simp only[z33,zb]; exact qrz k y _
   ·rw[bq e]; exact .inl rfl
theorem qzI{st st':St}(x:Wr){κ:Key}(h:agree st st' κ):agree (st.put x) (st'.put x) κ:=by
 cases x with
 | a b y=>
  cases κ <;> first | exact h | skip
  ·rename_i b';show(bif Nat.beq b' b then y else st.a b')=(bif Nat.beq b' b then y else st'.a b');rw[(h:st.a b'=st'.a b')]
  ·rename_i b';show SameG (bif Nat.beq b' b then y else st.a b') (bif Nat.beq b' b then y else st'.a b');cases Nat.beq b' b with
   | true=>exact .inl rfl
   | false=>exact h
 | e b k y=>
  cases κ <;> first | exact h | skip
  ·rename_i b';show(bif Nat.beq b' b then addE k y (st.a b) else st.a b')=(bif Nat.beq b' b then addE k y (st'.a b) else st'.a b');cases hb:Nat.beq b' b with
   | true=>have e:=zd hb; subst e; rw[(h:st.a b'=st'.a b')]
   | false=>exact h
  ·rename_i b';show SameG (bif Nat.beq b' b then addE k y (st.a b) else st.a b') (bif Nat.beq b' b then addE k y (st'.a b) else st'.a b');cases hb:Nat.beq b' b with
   | true=>
    have e:=zd hb; subst e;exact(qrz k y _).trans ((show SameG (st.a b') (st'.a b') from h).trans (qrz k y _).symm)
   | false=>exact h
 | _=>cases κ <;> simp only[agree,St.put] at h ⊢ <;> first | exact h | rw[h]
theorem qoN:∀(l:List Wr) (st:St) (κ:Key),κ∉wkeys l->agree (st.app l) st κ
 | [],st,κ,_=>agree.refl st κ
 | x::l,st,κ,h=>by
  simp only[wkeys,zI,not_or] at h;exact(qoN l (st.put x) κ h.2).trans (qzH st x κ h.1)
theorem qlJ:∀(l:List Wr) {st st':St} {κ:Key},agree st st' κ->agree (st.app l) (st'.app l) κ
 | [],_,_,_,h=>h
 | x::l,_,_,_,h=>qlJ l (qzI x h)
def selL(X:Nat->Bool):Nat->St->List (qdr P w0 M N F0 ops)->St
 | _,st,[]=>st
 | i,st,x::l=>selL X (i+1) (if X i then st.app x.wr else st) l
theorem qmT(X Y:Nat->Bool)(κ:Key):∀(L:List (qdr P w0 M N F0 ops)) (i:Nat) (st st':St),agree st st' κ->(∀j x,L[j]? = some x->κ∈wkeys x.wr->X (i+j)=Y (i+j))->agree (selL X i st L) (selL Y i st' L) κ
 | [],_,_,_,h,_=>h
 | x::L,i,st,st',h,hXY=>by
  refine qmT X Y κ L (i+1) _ _ ?_ (fun j y hj hκ=>by have:=hXY (j+1) y (by simpa using hj) hκ; rwa[show i+(j+1)=i+1+j by omega] at this)
  by_cases hκ:κ∈wkeys x.wr
  ·have:=hXY 0 x rfl hκ;simp only[zC1] at this;rw[this];split
   ·exact qlJ _ h
   ·exact h
  ·have a1:agree (if X i=true then st.app x.wr else st) st κ:=by split; exact qoN _ _ _ hκ; exact agree.refl _ _
   have a2:agree (if Y i=true then st'.app x.wr else st') st' κ:=by split; exact qoN _ _ _ hκ; exact agree.refl _ _
   exact a1.trans (h.trans a2.symm)
theorem qrl:∀(L:List (qdr P w0 M N F0 ops)) (i:Nat) (st:St) (X:Nat->Bool),(∀j,j<L.length->X (i+j)=true)->selL X i st L=runL st L
 | [],_,_,_,_=>rfl
 | x::L,i,st,X,h=>by
  have h0:=h 0 (by simp)
  simp only[zC1] at h0;simp only[selL,h0,if_true,runL];exact qrl L (i+1) _ X (fun j hj=>by have:=h (j+1) (by simpa using hj); rwa[show i+(j+1)=i+1+j by omega] at this)
theorem qoO:∀(L:List (qdr P w0 M N F0 ops)) (i:Nat) (st:St) (X:Nat->Bool),(∀j,j<L.length->X (i+j)=false)->selL X i st L=st
 | [],_,_,_,_=>rfl
 | x::L,i,st,X,h=>by
  have h0:=h 0 (by simp)
  simp only[zC1] at h0;simp only[selL,h0,z02,if_false];exact qoO L (i+1) _ X (fun j hj=>by have:=h (j+1) (by simpa using hj); rwa[show i+(j+1)=i+1+j by omega] at this)
theorem qol(X:Nat->Bool):∀(L L':List (qdr P w0 M N F0 ops)) (i:Nat) (st:St),selL X i st (L++L')=selL X (i+L.length) (selL X i st L) L'
 | [],L',i,st=>rfl
 | x::L,L',i,st=>by
  simp only[zp1,selL,qol X L L',zf];rw[show i+1+L.length=i+(L.length+1) by omega]
theorem qB5{L:List (qdr P w0 M N F0 ops)}{st0:St}(hpre:preL st0 L){i:Nat}{x:qdr P w0 M N F0 ops}(hx:L[i]? = some x):
  x.pre (selL (fun j=>decide (j<i)) 0 st0 L)/\(selL (fun j=>decide (j<i)) 0 st0 L).app x.wr=selL (fun j=>decide (j<i+1)) 0 st0 L:=by
 have hi:i<L.length:=(zp.1 hx).1;obtain⟨A,B,rfl,rfl⟩:∃A B,L=A++x::B/\A.length=i:=⟨L.take i,L.drop (i+1),by
  rw[<-(zp.1 hx).2,<-z51 hi,zS1],by simp; omega⟩
 have e1:selL (fun j=>decide (j<A.length)) 0 st0 (A++x::B)=runL st0 A:=by
  rw[qol,qrl A 0 st0 _ (by intro j hj; simpa using hj),qoO (x::B) _ _ _ (by intro j _; simp)]
 have e2:selL (fun j=>decide (j<A.length+1)) 0 st0 (A++x::B)=(runL st0 A).app x.wr:=by
  rw[qol,qrl A 0 st0 _ (by intro j hj; simp; omega)]
  simp only[selL,z11,Nat.lt_succ_self,zG2,if_true];rw[qoO B _ _ _ (by intro j _; simp)]
 rw[qrA] at hpre;rw[e1,e2];exact⟨hpre.2.1,rfl⟩
structure Free(L:List (qdr P w0 M N F0 ops)):Prop where
 back:∀j x,L[j]? = some x->∀e∈x.o.after,Region.binds .any e=true->e.on<j
 pair:∀i j x y,i<j->L[i]? = some x->L[j]? = some y->Reach (L.map (·.o)) j i\/((∀κ,κ∈wkeys x.wr->κ∉y.rd/\κ∉wkeys y.wr)/\(∀κ,κ∈wkeys y.wr->κ∉x.rd))
theorem qEg(L:List (qdr P w0 M N F0 ops))(h:qoL (L.map (·.o)) (L.map qdr.foot)=true):Free L:=by
 unfold qoL at h;rw[z8] at h;refine⟨fun j x hx e he hb=>?_,fun i j x y hij hx hy=>?_⟩
 ·have:=qqI _ 0 h.1 j x.o (by simp[hx]) e he hb
  omega
 ·have hj:j<L.length:=(zp.1 hy).1;have h2:=h.2;unfold qzG at h2;simp only[zq,zU,zQ,zi1] at h2;rcases h2 j hj i hij with h3 | h3
  ·exact .inl (qvu _ _ [] (by simp) (by simp) j i h3)
  ·refine .inr ?_
   have fx:(L.map qdr.foot).getD i ([],[])=x.foot:=by simp[zk,hx]
   have fy:(L.map qdr.foot).getD j ([],[])=y.foot:=by simp[zk,hy]
   rw[fx,fy] at h3;unfold disj qdr.foot at h3;simp only[z8,zq,zt] at h3;refine⟨fun κ hκ=>⟨fun hm=>?_,fun hm=>?_⟩,fun κ hκ hm=>?_⟩
   ·have:=(h3.1 κ hκ).1; rw[qlI hm] at this; cases this
   ·have:=(h3.1 κ hκ).2; rw[qlI hm] at this; cases this
   ·have:=h3.2 κ hκ; rw[qlI hm] at this; cases this
def cnt:Nat->(Nat->Bool)->Nat
 | 0,_=>0
 | n+1,p=>cnt n p+if p n then 1 else 0
theorem qvv:∀(n:Nat) (p q:Nat->Bool),(∀j,j<n->p j=q j)->cnt n p=cnt n q
 | 0,_,_,_=>rfl
 | n+1,p,q,h=>by simp only[cnt,qvv n p q (fun j hj=>h j (by omega)),h n (by omega)]
theorem qxG:∀(n:Nat) (p q:Nat->Bool) (i:Nat),i<n->p i=true->q i=false->(∀j,j≠i->q j=p j)->cnt n q+1=cnt n p
 | 0,_,_,i,h,_,_,_=>by omega
 | n+1,p,q,i,h,hp,hq,hj=>by
  by_cases e:i=n
  ·subst e;simp only[cnt,hp,hq,qvv i q p (fun j hj'=>hj j (by omega))]; simp
  ·have:=qxG n p q i (by omega) hp hq hj
   simp only[cnt,hj n (fun e'=>e e'.symm)]; omega
theorem qxH:∀(n:Nat) (p:Nat->Bool),cnt n p=0->∀j,j<n->p j=false
 | 0,_,_,j,h=>by omega
 | n+1,p,h,j,hj=>by
  simp only[cnt] at h;by_cases e:j=n
  ·subst e;cases hp:p j with
   | false=>rfl
   | true=>rw[hp] at h; simp at h
  ·exact qxH n p (by omega) j (by omega)
theorem qDy:∀(n:Nat) (p:Nat->Bool),cnt n p<=n
 | 0,_=>zP _
 | n+1,p=>by have:=qDy n p; simp only[cnt]; split <;> omega
theorem qwB{l:Array Bool}{i:Nat}(h:i<l.size)(b c:Bool):l.getD i b=l.getD i c:=by
 simp[z91,zG1 h]
theorem qwC{K:St->Prop}{L:List (qdr P w0 M N F0 ops)}{st0:St}(ho:L.map (·.o)=ops.toList)(hpre:preL st0 L)(hf:Free L)(hK:K (runL st0 L)):
  ∀(fuel:Nat) (listed:Array Bool) (a:Act) (w:World),listed.size=ops.size->cnt ops.size (fun j=>!listed.getD j true)<=fuel->
   (∀j x,L[j]? = some x->listed.getD j true=true->∀e∈x.o.after,Region.binds .any e=true->listed.getD e.on true=true)->
   Rel P w0 M N F0 (selL (fun j=>listed.getD j true) 0 st0 L) a w->wpAny P .any ops (QK P w0 M N F0 K) fuel listed a w:=by
 have hlen:L.length=ops.size:=by have:=congrArg List.length ho; simpa using this
 have hop:∀(i:Nat) (x:qdr P w0 M N F0 ops),L[i]? = some x->ops[i]? = some x.o:=by
  intro i x hx;have:(L.map (·.o))[i]? = some x.o:=by simp[hx]
  rw[ho] at this; simpa using this
 have hL:∀i,i<ops.size->∃x,L[i]? = some x:=fun i hi=>⟨L[i]'(by omega),zj (by omega)⟩
 -- all listed
 have hend:∀(listed:Array Bool) (a:Act) (w:World),(∀j,j<ops.size->listed.getD j true=true)->Rel P w0 M N F0 (selL (fun j=>listed.getD j true) 0 st0 L) a w->QK P w0 M N F0 K .normal a w:=by
  intro listed a w hall hr;rw[qrl L 0 st0 _ (by intro j hj; rw[z11]; exact hall j (by omega))] at hr
  exact⟨_,hK,hr⟩
 have hready:∀(listed:Array Bool),listed.size=ops.size->Region.ready .any ops listed=[]->∀j,j<ops.size->listed.getD j true=true:=by
  intro listed hs hr j;induction j using Nat.strongRecOn with
  | _ j ih=>
   intro hj;cases hl:listed.getD j true with
   | true=>rfl
   | false=>
    exfalso;obtain⟨x,hx⟩:=hL j hj;have:j∈Region.ready .any ops listed:=mem_ready.2 ⟨hl,x.o,hop j x hx,fun e he hb=>by
     have hlt:=hf.back j x hx e he hb;rw[qwB (by omega) false true]
     exact ih e.on hlt (by omega)⟩
    rw[hr] at this; cases this
 intro fuel;induction fuel with
 | zero=>
  intro listed a w hs hc hcl hr;have hall:∀j,j<ops.size->listed.getD j true=true:=fun j hj=>by
   have:=qxH _ _ (Nat.le_zero.1 hc) j hj; simpa using this
  refine⟨?_,hend listed a w hall hr⟩
  cases hrd:Region.ready .any ops listed with
  | nil=>rfl
  | cons i r=>
   exfalso;have hi:=mem_ready.1 (show i∈Region.ready .any ops listed by rw[hrd]; simp)
   obtain⟨h1,o,h2,_⟩:=hi;rw[hall i (z01.1 h2).1] at h1; cases h1
 | succ fuel ih=>
  intro listed a w hs hc hcl hr;refine⟨fun h0=>hend listed a w (hready listed hs h0) hr,fun i hi=>?_⟩
  obtain⟨hun,o,hoi,hdep⟩:=mem_ready.1 hi;have hisz:i<ops.size:=(z01.1 hoi).1;obtain⟨x,hx⟩:=hL i hisz;have hxo:x.o=o:=by have:=hop i x hx; rw[hoi] at this; injection this with this; exact this.symm
  subst hxo
  -- what waits for what
  have hreach:∀j k,Reach (L.map (·.o)) j k->listed.getD j true=true->j<ops.size->listed.getD k true=true/\k<ops.size:=by
   intro j k h;induction h with
   | @edge j' k' o' e' hj he hb hk=>
    intro hl hjs;obtain⟨y,hy⟩:=hL j' hjs
    have hyo : y.o = o' := by have h1:(L.map (·.o))[j']? = some y.o:=by simp[hy]
                              rw[hj] at h1; injection h1 with h1; exact h1.symm
    subst hyo hk;exact⟨hcl j' y hy hl _ he hb,Nat.lt_trans (hf.back j' y hy _ he hb) hjs⟩
   | @more j' m' k' o' e' hj he hb hk _ ih2=>
    intro hl hjs;obtain⟨y,hy⟩:=hL j' hjs
    have hyo : y.o = o' := by have h1:(L.map (·.o))[j']? = some y.o:=by simp[hy]
                              rw[hj] at h1; injection h1 with h1; exact h1.symm
    subst hyo hk;exact ih2 (hcl j' y hy hl _ he hb) (Nat.lt_trans (hf.back j' y hy _ he hb) hjs)
  have hreachi:∀k,Reach (L.map (·.o)) i k->listed.getD k true=true:=by
   intro k h;have hedge:∀(o':Oper) (e:Edge),(L.map (·.o))[i]? = some o'->e∈o'.after->Region.binds .any e=true->listed.getD e.on true=true/\e.on<ops.size:=by
    intro o' e h1 he hb;have h1':(L.map (·.o))[i]? = some x.o:=by simp[hx]
    rw[h1'] at h1; cases h1
    have hlt:=hf.back i x hx e he hb;have:=hdep e he hb;rw[qwB (by omega) true false]
    exact⟨this,by omega⟩
   cases h with
   | edge h1 he hb hk=>subst hk; exact(hedge _ _ h1 he hb).1
   | more h1 he hb hk h2=>subst hk; exact(hreach _ _ h2 (hedge _ _ h1 he hb).1 (hedge _ _ h1 he hb).2).1
  -- who writes what number i reads or writes stands in the text's order to it
  have hsame:∀κ,(κ∈x.rd\/κ∈wkeys x.wr)->∀j y,L[j]? = some y->κ∈wkeys y.wr->j≠i->listed.getD j true=decide (j<i):=by
   intro κ hκ j y hy hw hne;have hjs:j<ops.size:=by rw[<-hlen]; exact(zp.1 hy).1
   rcases Nat.lt_or_gt_of_ne hne with hlt | hgt
   ·rw[zb1 hlt];rcases hf.pair j i y x hlt hy hx with h | ⟨h1,h2⟩
    ·exact hreachi j h
    ·rcases hκ with hκ | hκ
     ·exact absurd hκ (h1 κ hw).1
     ·exact absurd hκ (h1 κ hw).2
   ·rw[zL2 (by omega)]
    rcases hf.pair i j x y hgt hx hy with h | ⟨h1,h2⟩
    ·cases hl:listed.getD j true with
     | false=>rfl
     | true=>have:=(hreach j i h hl hjs).1; rw[hun] at this; cases this
    ·rcases hκ with hκ | hκ
     ·exact absurd hκ (h2 κ hw)
     ·exact absurd hw (h1 κ hκ).2
  obtain⟨hp,happ⟩:=qB5 hpre hx;have hagree:∀κ,(κ∈x.rd\/κ∈wkeys x.wr)->agree (selL (fun j=>decide (j<i)) 0 st0 L) (selL (fun j=>listed.getD j true) 0 st0 L) κ:=by
   intro κ hκ;refine qmT _ _ κ L 0 st0 st0 (agree.refl _ _) (fun j y hy hw=>?_)
   rw[z11];by_cases e:j=i
   ·subst e; rw[hun]; simp
   ·exact(hsame κ hκ j y hy hw e).symm
  have hp':x.pre (selL (fun j=>listed.getD j true) 0 st0 L):=fun κ hκ=>(hp κ hκ).trans (hagree κ (.inl hκ))
  have hnext:(selL (fun j=>listed.getD j true) 0 st0 L).app x.wr=selL (fun j=>(listed.setIfInBounds i true).getD j true) 0 st0 L:=by
   refine St.ext' fun κ _=>?_
   have hset:∀j,j≠i->(listed.setIfInBounds i true).getD j true=listed.getD j true:=fun j hj=>getD_set_ne true (Ne.symm hj)
   have hseti:(listed.setIfInBounds i true).getD i true=true:=by
    simp[z91,z12];split <;> simp
   by_cases hκ:κ∈wkeys x.wr
   ·refine(qlJ x.wr (hagree κ (.inr hκ)).symm).trans ?_
    rw[happ];refine qmT _ _ κ L 0 st0 st0 (agree.refl _ _) (fun j y hy hw=>?_)
    rw[z11];by_cases e:j=i
    ·subst e; rw[hseti]; simp
    ·rw[hset j e,hsame κ (.inr hκ) j y hy hw e];rcases Nat.lt_or_gt_of_ne e with h | h
     ·rw[zb1 h,zb1 (by omega)]
     ·rw[zL2 (by omega),zL2 (by omega)]
   ·refine(qoN x.wr _ κ hκ).trans ?_
    refine qmT _ _ κ L 0 st0 st0 (agree.refl _ _) (fun j y hy hw=>?_)
    rw[z11];by_cases e:j=i
    ·subst e;have:y=x:=by rw[hx] at hy; injection hy with hy; exact hy.symm
     subst this; exact absurd hw hκ
    ·rw[hset j e]
  have hrt:=x.h _ hp' a w hr;have hgo:∀a' w',Rel P w0 M N F0 ((selL (fun j=>listed.getD j true) 0 st0 L).app x.wr) a' w'->wpAny P .any ops (QK P w0 M N F0 K) fuel (listed.setIfInBounds i true) a' w':=by
   intro a' w' hr';rw[hnext] at hr';have hset:∀j,j≠i->(listed.setIfInBounds i true).getD j true=listed.getD j true:=fun j hj=>getD_set_ne true (Ne.symm hj)
   have hseti:(listed.setIfInBounds i true).getD i true=true:=by
    simp[z91,z12];split <;> simp
   refine ih (listed.setIfInBounds i true) a' w' (by simp[hs]) ?_ ?_ hr'
   ·have:=qxG ops.size (fun j=>!listed.getD j true) (fun j=>!(listed.setIfInBounds i true).getD j true) i hisz (by simp only[hun]; rfl) (by simp only[hseti]; rfl) (fun j hj=>by simp only[hset j hj])
    omega
   ·intro j y hy hl e he hb;by_cases ee:e.on=i
    ·rw[ee]; exact hseti
    ·rw[hset _ ee];by_cases ej:j=i
     ·subst ej;have hyx:y=x:=by rw[hx] at hy; injection hy with hy; exact hy.symm
      subst hyx;have hlt:=hf.back j y hy e he hb;rw[qwB (by omega) true false]
      exact hdep e he hb
     ·rw[hset j ej] at hl;exact hcl j y hy hl e he hb
  unfold wpOp;rw[hoi];simp only[];split
  ·rename_i hw;rw[if_pos hw] at hrt;exact .inl (qoM.wp_calm (Oper.wp_mono hgo hrt))
  ·rename_i hw;rw[if_neg hw] at hrt;exact hgo _ _ hrt
theorem G.drawn{st0 st:St}{feet:List (List Key×List Key)}{K:St->Prop}(hfree:qoL ops.toList feet=true)(hK:K st):G P w0 M N F0 true ops st0 feet [] st K:=by
 intro L hfe ho hpre hr a w ⟨F,U,hrel,hF⟩;simp only[zG] at ho;rw[if_pos rfl];have hf:Free L:=qEg L (by rw[ho,hfe]; exact hfree)
 have hg:∀j,(Array.replicate ops.size false).getD j true=true->ops.size<=j:=by
  intro j hj;rcases zH2 j ops.size with h | h
  ·simp[z91,h] at hj
  ·exact h
 have hlen:L.length=ops.size:=by have:=congrArg List.length ho; simpa using this
 refine qwC ho hpre hf (by rw[hr]; exact hK) ops.size _ a _ (by simp) (qDy _ _) ?_ ?_
 ·intro j x hx hl;have:=hg j hl;have h2:=(zp.1 hx).1;omega
 ·rw[qoO L 0 st0 _ (by
   intro j hj;rw[z11];cases h:(Array.replicate ops.size false).getD j true with
   | false=>rfl
   | true=>have:=hg j h; omega)]
  exact⟨F,U,hrel.drew,hF⟩
end
section
variable {P:Program} {w0:World} {M:Mod} {N:Nat} {F0:Nat->Prop}
variable {st:St} {Q:Exit->St->Prop}
def QX(P:Program)(w0:World)(M:Mod)(N:Nat)(F0:Nat->Prop)(Q:Exit->St->Prop):Exit->Act->World->Prop:=fun e a w=>∃st',Q e st'/\Rel P w0 M N F0 st' a w
def W(P:Program)(w0:World)(M:Mod)(N:Nat)(F0:Nat->Prop)(c:Code)(st:St)(Q:Exit->St->Prop):Prop:=∀a w,Rel P w0 M N F0 st a w->c.wp P (QX P w0 M N F0 Q) a w
def Le(P:Program)(w0:World)(M:Mod)(N:Nat)(F0:Nat->Prop)(st st':St):Prop:=∀a w,Rel P w0 M N F0 st a w->Rel P w0 M N F0 st' a w
theorem W.le{c:Code}{st':St}(h:Le P w0 M N F0 st st')(hw:W P w0 M N F0 c st' Q):W P w0 M N F0 c st Q:=fun a w hr=>hw a w (h a w hr)
theorem Le.refl:Le P w0 M N F0 st st:=fun _ _ h=>h
theorem W.region{id:Nat}{l:List Oper}(h:G P w0 M N F0 false l.toArray st [] l st (Q .normal)):W P w0 M N F0 (.region id l.toArray false) st Q:=by
 intro a w hr;have h1:=h [] rfl rfl trivial rfl a w hr;rw[if_neg (by simp)] at h1
 refine zT1 ?_ (wp_region_list h1)
 intro e a w hq;cases e <;> first | exact hq | exact hq.elim
theorem W.drawn{id:Nat}{l:List Oper}(hm:P.follows .mixedOrders=true)(h:G P w0 M N F0 true l.toArray st [] l st (Q .normal)):W P w0 M N F0 (.region id l.toArray true) st Q:=by
 intro a w hr;have h1:=h [] rfl rfl trivial rfl a w hr;rw[if_pos rfl] at h1;refine zT1 ?_ (wp_region_any hm h1)
 intro e a w hq;cases e <;> first | exact hq | exact hq.elim
theorem W.seq{x y:Code}(h:W P w0 M N F0 x st (thenQ (fun st'=>W P w0 M N F0 y st' Q) Q)):W P w0 M N F0 (.seq x y) st Q:=by
 intro a w hr;refine wp_seq (zT1 ?_ (h a w hr))
 rintro e a w ⟨st',hq,hr'⟩
 cases e <;> first | exact hq a w hr' | exact⟨st',hq,hr'⟩
theorem W.block{id:Nat}{c:Code}(h:W P w0 M N F0 c st (qDx id Q)):W P w0 M N F0 (.block id c) st Q:=by
 intro a w hr;refine wp_block (zT1 ?_ (h a w hr))
 rintro e a w ⟨st',hq,hr'⟩
 cases e with
 | exit id'=>
  simp only[qDx] at hq;by_cases e:id'=id
  ·subst e; simp only[z33,zb] at hq;simp only[Exit.inBlock,if_true]; exact⟨st',hq,hr'⟩
  ·have hb:Nat.beq id' id=false:=zM.2 (fun h=>e (zd h))
   simp only[hb,zc] at hq;simp only[Exit.inBlock,if_neg e]; exact⟨st',hq,hr'⟩
 | _=>exact⟨st',hq,hr'⟩
theorem W.scope{c:Code}(h:W P w0 M N F0 c st (qFo Q)):W P w0 M N F0 (.scope c) st Q:=by
 intro a w hr;refine wp_scope_straight (zT1 ?_ (h a w hr))
 rintro e a w ⟨st',hq,hr'⟩
 cases e <;> first | exact⟨st',hq,hr'⟩ | exact hq.elim
theorem W.exit{id:Nat}(h:Q (.exit id) st):W P w0 M N F0 (.exit id) st Q:=fun _ _ hr=>wp_exit ⟨st,h,hr⟩
theorem W.ret(h:Q .ret st):W P w0 M N F0 .ret st Q:=fun _ _ hr=>wp_ret ⟨st,h,hr⟩
theorem W.skip(h:Q .normal st):W P w0 M N F0 .skip st Q:=fun _ _ hr=>wp_skip ⟨st,h,hr⟩
theorem W.loop{c:Code}{α:Type}(f:α->St)(p:α->Prop)(μ:α->Nat)(i0:α)(h0:Le P w0 M N F0 st (f i0))(hp:p i0)
  (round:∀i,p i->W P w0 M N F0 c (f i) (thenQ (fun st'=>∃j,p j/\μ j<μ i/\Le P w0 M N F0 st' (f j)) Q)):W P w0 M N F0 (.loop c) st Q:=by
 intro a w hr b k cs;have key:∀n i a w,μ i=n->p i->Rel P w0 M N F0 (f i) a w->
   ∃e a' w',QX P w0 M N F0 Q e a' w'/\Arrives P (lone (b.at a (.code c::.inLoop c::k)) cs w) b k cs e a' w':=by
  intro n;induction n using Nat.strongRecOn with
  | _ n ih=>
   intro i a w hn hpi hrel;obtain⟨e,a₁,w₁,⟨st',hq,hr'⟩,harr⟩:=round i hpi a w hrel b (.inLoop c::k) cs;cases e with
   | normal=>
    obtain⟨j,hpj,hlt,hle⟩:=hq;obtain⟨e₂,a₂,w₂,hq₂,harr₂⟩:=ih (μ j) (hn ▸ hlt) j a₁ w₁ rfl hpj (hle a₁ w₁ hr');exact⟨e₂,a₂,w₂,hq₂,.of_steps (Steps.trans harr (.one step_inLoop)) harr₂⟩
   | exit id=>exact⟨_,a₁,w₁,⟨st',hq,hr'⟩,.pass (x:=.inLoop c) rfl (fun _ _=>.inl (by simp)) harr⟩
   | goto l=>exact⟨_,a₁,w₁,⟨st',hq,hr'⟩,.pass (x:=.inLoop c) rfl (fun _ _=>.inl (by simp)) harr⟩
   | ret=>exact⟨_,a₁,w₁,⟨st',hq,hr'⟩,.pass (x:=.inLoop c) rfl (fun _ _=>.inl (by simp)) harr⟩
   | panic ch=>exact⟨_,a₁,w₁,⟨st',hq,hr'⟩,.pass (x:=.inLoop c) rfl (fun _ _=>.inl (by simp)) harr⟩
   | outgrown=>exact⟨_,a₁,w₁,⟨st',hq,hr'⟩,.pass (x:=.inLoop c) rfl (fun _ _=>.inl (by simp)) harr⟩
 obtain⟨e,a',w',hq,harr⟩:=key _ i0 a w rfl hp (h0 a w hr);exact⟨e,a',w',hq,.of_steps (.one step_loop) harr⟩
end
structure TI where
 t:TypeId
 desc:TypeDesc
 size:Nat
 bytes:Nat
 zero:Value
 T:Ty
 eq:Bool
structure TI.ok(P:Program)(i:TI):Prop where
 und:P.underlying i.t=some i.desc
 inf:(P.info? i.t).map (fun x=>(x.size,x.bytes,x.zero))=some (i.size,i.bytes,some i.zero)
 eqs:i.eq=true->P.eqGuardType P.depth i.t=false/\P.stoodInHeld i.t=false
def Tys(P:Program):List TI->Prop
 | []=>True
 | i::r=>i.ok P/\Tys P r
def look:List TI->TypeId->Option TI
 | [],_=>none
 | i::r,t=>bif Nat.beq i.t t then some i else look r t
theorem qao{P:Program}:∀ {Γ:List TI} {t:TypeId} {i:TI},Tys P Γ->look Γ t=some i->i.ok P/\i.t=t
 | [],_,_,_,h=>by cases h
 | j::r,t,i,⟨h0,h1⟩,h=>by
  have h':(bif Nat.beq j.t t then some j else look r t)=some i:=h;cases e:Nat.beq j.t t with
  | true=>rw[e] at h'; injection h' with h'; subst h'; exact⟨h0,zd e⟩
  | false=>rw[e] at h'; exact qao h1 h'
theorem TI.ok.info{P:Program}{i:TI}(h:i.ok P):∃x,P.info? i.t=some x/\x.size=i.size/\x.bytes=i.bytes/\x.zero=some i.zero:=by
 have h2:=h.inf;cases hx:P.info? i.t with
 | none=>rw[hx] at h2; cases h2
 | some x=>rw[hx] at h2; injection h2 with h2; injection h2 with h3 h4; injection h4 with h4 h5; exact⟨x,rfl,h3,h4,h5⟩
def SV.int?:SV->Option (IntKind×Int)
 | .v (.int k) n=>some (k,n)
 | _=>none
def SV.bool?:SV->Option Bool
 | .v .bool b=>some b
 | _=>none
def SV.str?:SV->Option (List UInt8)
 | .v .str l=>some l
 | _=>none
def SV.err?:SV->Option Bool
 | .v .err b=>some b
 | _=>none
def SV.nilI:SV->Bool
 | .raw .nilIface=>true
 | _=>false
section
variable {P:Program} {F:Nat->Prop} {w:World} {U:Env} {s:SV} {u:Value}
theorem Den.int{k:IntKind}{n:Int}(h:Den P F w U s u)(e:s.int? = some (k,n)):u=.int k n:=by
 cases h with
 | v h=>
  rename_i T x;cases T <;> simp only[SV.int?] at e <;> first | (cases e; done) | (injection e with e; injection e with e1 e2; subst e1 e2; obtain⟨cs,h1,h2⟩:=h; cases h1; exact h2)
 | _=>simp only[SV.int?] at e; cases e
theorem Den.bool{b:Bool}(h:Den P F w U s u)(e:s.bool? = some b):u=.bool b:=by
 cases h with
 | v h=>
  rename_i T x;cases T <;> simp only[SV.bool?] at e <;> first | (cases e; done) | (cases e; obtain⟨cs,h1,h2⟩:=h; cases h1; exact h2)
 | _=>simp only[SV.bool?] at e; cases e
theorem Den.str{l:List UInt8}(h:Den P F w U s u)(e:s.str? = some l):u=.string ⟨⟨l⟩⟩:=by
 cases h with
 | v h=>
  rename_i T x;cases T <;> simp only[SV.str?] at e <;> first | (cases e; done) | (cases e; obtain⟨cs,h1,h2⟩:=h; cases h1; exact h2)
 | _=>simp only[SV.str?] at e; cases e
theorem Den.err{b:Bool}(h:Den P F w U s u)(e:s.err? = some b):if b=true then ∃t v,u=.iface t v else u=.nilIface:=by
 cases h with
 | v h=>
  rename_i T x;cases T <;> simp only[SV.err?] at e <;> first | (cases e; done) | (cases e; obtain⟨cs,⟨v,rfl,_,h1⟩,h2⟩:=h; cases h2; exact h1)
 | _=>simp only[SV.err?] at e; cases e
theorem Den.nilI(h:Den P F w U s u)(e:s.nilI=true):u=.nilIface:=by
 cases h with
 | raw h=>cases u <;> first | rfl | cases e
 | _=>cases e
theorem Den.ofInt(k:IntKind)(n:Int):Den P F w U (.v (.int k) n) (.int k n):=.v ⟨[.int k n],rfl,rfl⟩
theorem Den.ofBool(b:Bool):Den P F w U (.v .bool b) (.bool b):=.v ⟨[.bool b],rfl,rfl⟩
theorem Den.ofStr(l:List UInt8):Den P F w U (.v .str l) (.string ⟨⟨l⟩⟩):=.v ⟨[.string ⟨⟨l⟩⟩],rfl,rfl⟩
end
/-! ### Binary operations -/
def i64(k:IntKind)(n:Int):SV:=.v (.int k) n
def shAmt(k:IntKind)(n:Int):Nat:=min n.toNat k.bits
def binI(op:BinOp)(k:IntKind)(m n:Int):Option (Bool×SV):=
 match op with
 | .add=>some (true,.v (.int k) (k.wrap (m+n)))
 | .sub=>some (true,.v (.int k) (k.wrap (m-n)))
 | .mul=>some (true,.v (.int k) (k.wrap (m*n)))
 | .quo=>some (!decide (n=0),.v (.int k) (k.wrap (m.tdiv n)))
 | .rem=>some (!decide (n=0),.v (.int k) (m.tmod n))
 | .and=>some (true,.v (.int k) (k.wrap (BitVec.ofInt k.bits m&&&BitVec.ofInt k.bits n).toNat))
 | .or=>some (true,.v (.int k) (k.wrap (BitVec.ofInt k.bits m|||BitVec.ofInt k.bits n).toNat))
 | .xor=>some (true,.v (.int k) (k.wrap (BitVec.ofInt k.bits m^^^BitVec.ofInt k.bits n).toNat))
 | .andNot=>some (true,.v (.int k) (k.wrap (BitVec.ofInt k.bits m &&& ~~~BitVec.ofInt k.bits n).toNat))
 | .lss=>some (true,.v .bool (decide (m<n)))
 | .leq=>some (true,.v .bool (decide (m<=n)))
 | .gtr=>some (true,.v .bool (decide (n<m)))
 | .geq=>some (true,.v .bool (decide (n<=m)))
 | .eql=>some (true,.v .bool (decide (m=n)))
 | .neq=>some (true,.v .bool (!decide (m=n)))
 | _=>none
def binSh(op:BinOp)(k:IntKind)(m n:Int):Option (Bool×SV):=
 match op with
 | .shl=>some (!decide (n<0),.v (.int k) (k.wrap (m*2^shAmt k n)))
 | .shr=>some (!decide (n<0),.v (.int k) (m.fdiv (2^shAmt k n)))
 | _=>none
def binS(op:BinOp)(x y:List UInt8):Option (Bool×SV):=
 match op with
 | .add=>some (Nat.ble (x.length+y.length) 9223372036854775807,.v .str (x++y))
 | .eql=>some (true,.v .bool (decide (x=y)))
 | .neq=>some (true,.v .bool (!decide (x=y)))
 | .lss=>some (true,.v .bool (Op.bytesLess x y))
 | .leq=>some (true,.v .bool (Op.bytesLess x y || decide (x=y)))
 | .gtr=>some (true,.v .bool (!(Op.bytesLess x y || decide (x=y))))
 | .geq=>some (true,.v .bool (!Op.bytesLess x y))
 | _=>none
def qzJ:BinOp->Bool
 | .shl | .shr=>true
 | _=>false
section
variable {P:Program} {F:Nat->Prop} {w:World} {U:Env}
theorem qB6{op:BinOp}{t:TypeId}{k:IntKind}{m n:Int}{g:Bool}{s:SV}(h:binI op k m n=some (g,s))(hg:g=true)(X Y:Operand):
  ∃r,(do eqGuard op t X Y (.int k m) (.int k n); binOp op t (.int k m) (.int k n)).run P w=.ok r w/\Den P F w U s r:=by
 subst hg;cases op <;> simp only[binI] at h <;> first | (cases h; done) | (injection h with h; injection h with h1 h2; subst h2)
 case quo=>
  have h1':n≠0:=by intro e; subst e; simp at h1
  exact⟨_,by simp[eqGuard,binOp,Op.intDiv,h1'],.ofInt _ _⟩
 case rem=>
  have h1':n≠0:=by intro e; subst e; simp at h1
  exact⟨_,by simp[eqGuard,binOp,Op.intDiv,h1'],.ofInt _ _⟩
 all_goals first
  | (refine⟨_,?_,.ofInt _ _⟩; simp[eqGuard,binOp,Op.intArith]; done)
  | (refine⟨_,?_,.ofBool _⟩; simp[eqGuard,binOp,Op.intCmp]; done)
  | (refine⟨_,?_,.ofBool _⟩; simp only[eqGuard_at_int,binOp,Op.intCmp,ne_eq,not_true_eq_false,if_false]; rfl)
  | (refine⟨_,?_,.ofInt _ _⟩; simp only[eqGuard,binOp,ne_eq,not_true_eq_false,if_false]; rfl)
theorem qzK{op:BinOp}{t:TypeId}{k k':IntKind}{m n:Int}{g:Bool}{s:SV}(h:binSh op k m n=some (g,s))(hg:g=true)(X Y:Operand):
  ∃r,(do eqGuard op t X Y (.int k m) (.int k' n); binOp op t (.int k m) (.int k' n)).run P w=.ok r w/\Den P F w U s r:=by
 subst hg;cases op <;> simp only[binSh] at h <;> first | (cases h; done) | (injection h with h; injection h with h1 h2; subst h2)
 all_goals
  have h1':¬n<0:=by simpa using h1
  exact⟨_,by simp[eqGuard,binOp,Op.shift,h1']; rfl,.ofInt _ _⟩
theorem qrB(l:List UInt8):(⟨⟨l⟩⟩:ByteArray).toList=l:=by rw[ByteArray.toList_eq]
theorem qzL(x y:List UInt8):(⟨⟨x⟩⟩:ByteArray)++⟨⟨y⟩⟩=⟨⟨x++y⟩⟩:=by
 apply ByteArray.ext;simp[ByteArray.data_append]
theorem qwD(op:BinOp)(t:TypeId)(X Y:Operand)(a b:ByteArray):eqGuard op t X Y (.string a) (.string b)=pure ():=by
 cases op <;> simp[eqGuard]
theorem qB7{op:BinOp}{t:TypeId}{x y:List UInt8}{g:Bool}{s:SV}(h:binS op x y=some (g,s))(hg:g=true)(X Y:Operand):
  ∃r,(do eqGuard op t X Y (.string ⟨⟨x⟩⟩) (.string ⟨⟨y⟩⟩); binOp op t (.string ⟨⟨x⟩⟩) (.string ⟨⟨y⟩⟩)).run P w=.ok r w/\Den P F w U s r:=by
 subst hg;simp only[qwD];have heq:(x==y)=decide (x=y):=by rw[zT]; simp
 cases op <;> simp only[binS] at h <;> first | (cases h; done) | (injection h with h; injection h with h1 h2; subst h2)
 case add=>
  have h1':=zJ h1;refine⟨.string ⟨⟨x++y⟩⟩,?_,.ofStr _⟩
  have hs:¬(((⟨⟨x⟩⟩:ByteArray).size+(⟨⟨y⟩⟩:ByteArray).size:Nat):Int)>IntKind.i64.max:=by
   show ¬((x.length+y.length:Nat):Int)>9223372036854775807;omega
  simp only[binOp,Op.stringOp,if_neg hs,qzL,zl,zn,zh]
 all_goals exact⟨_,by simp only[binOp,Op.stringOp,qrB,heq,zl,zn,zh],.ofBool _⟩
end
def qtt{δ:Type}(f:δ->List SV)(d:δ)(l:List δ):Nat->Nat->List SV
 | _,0=>[]
 | i,n+1=>f (l.getD i d)++qtt f d l (i+1) n
def split:(T:Ty)->T.den->List SV
 | .unit,_=>[]
 | .pair a b,x=>split a x.1++split b x.2
 | .int k,x=>[.v (.int k) x]
 | .bool,x=>[.v .bool x]
 | .str,x=>[.v .str x]
 | .sl e,x=>[.v (.sl e) x]
 | .err,x=>[.v .err x]
 | .map k v,x=>[.v (.map k v) x]
 | .fnc f,x=>[.v (.fnc f) x]
 | .fnl f,x=>[.v (.fnl f) x]
 | .clo f e,x=>[.v (.clo f e) x]
 | .arr n e,x=>qtt (split e) e.dflt x 0 n
def rawAs:(T:Ty)->Value->Option T.den
 | .sl _,.slice none 0 _=>some []
 | .err,.nilIface=>some false
 | .map _ _,.map none=>some []
 | .fnl _,.nilFunc=>some (0:Nat)
 | _,_=>none
def fnIx:List Nat->Nat->Option Nat
 | [],_=>none
 | g::r,f=>bif Nat.beq f g then some 1 else(match fnIx r f with
  | some (x+1)=>some (x+2)
  | _=>none)
theorem qzM:∀ {fs:List Nat} {f x:Nat},fnIx fs f=some x->fnAt fs x=some f
 | [],_,_,h=>by cases h
 | g::r,f,x,h=>by
  unfold fnIx at h;cases hb:Nat.beq f g with
  | true=>
   rw[hb] at h;have:=zd hb;subst this;cases h; rfl
  | false=>
   rw[hb] at h; simp only[zc] at h;split at h
   ·rename_i y hy;cases h
    exact qzM (fs:=r) hy
   ·cases h
theorem qxI{fs:List Nat}{f x:Nat}(h:fnAt fs x=some f):fnVal fs x=.func (.func f) #[] #[]:=by
 unfold fnVal; rw[h]
theorem qB8{fs:List Nat}{f x:Nat}(h:fnIx fs f=some x):fnVal fs x=.func (.func f) #[] #[]:=qxI (qzM h)
def fncAs:(T:Ty)->Nat->List SV->Option T.den
 | .fnc f,f',[]=>bif Nat.beq f' f then some () else none
 | .fnl fs,f',[]=>fnIx fs f'
 | .clo f e,f',[.sel e' x 0]=>if h:f'=f/\e'=e then some (h.2 ▸ x) else none
 | _,_,_=>none
def SV.as(T:Ty):SV->Option T.den
 | .v T' x=>if h:T'=T then some (h ▸ x) else none
 | .raw u=>rawAs T u
 | .clo f cs=>fncAs T f cs
 | .cut e l=>if h:Ty.sl e=T then some (h ▸ (show(Ty.sl e).den from l)) else none
 | _=>none
def asm1(T:Ty):List SV->Option (T.den×List SV)
 | s::l=>match s.as T with
  | some x=>some (x,l)
  | none=>none
 | []=>none
def asmA{δ:Type}(g:List SV->Option (δ×List SV)):Nat->List SV->Option (List δ×List SV)
 | 0,l=>some ([],l)
 | n+1,l=>match g l with
  | some (x,l1)=>match asmA g n l1 with
   | some (r,l2)=>some (x::r,l2)
   | none=>none
  | none=>none
def asm:(T:Ty)->List SV->Option (T.den×List SV)
 | .unit,l=>some ((),l)
 | .pair a b,l=>match asm a l with
  | some (x,l1)=>match asm b l1 with
   | some (y,l2)=>some ((x,y),l2)
   | none=>none
  | none=>none
 | .int k,l=>asm1 (.int k) l
 | .bool,l=>asm1 .bool l
 | .str,l=>asm1 .str l
 | .sl e,l=>asm1 (.sl e) l
 | .err,l=>asm1 .err l
 | .map k v,l=>asm1 (.map k v) l
 | .fnc f,l=>asm1 (.fnc f) l
 | .fnl f,l=>asm1 (.fnl f) l
 | .clo f e,l=>asm1 (.clo f e) l
 | .arr n e,l=>asmA (asm e) n l
def SV.dat(T:Ty):SV->Option T.den
 | .agg cs=>bif T.agg then match asm T cs with
   | some (x,[])=>some x
   | _=>none
  else none
 | s=>s.as T
def SV.cells:SV->Option (List SV)
 | .v T x=>some (split T x)
 | .agg cs=>some cs
 | .ptr b o=>some [.ptr b o]
 | .ael b k i o=>some [.ael b k i o]
 | .pel b n k i o=>some [.pel b n k i o]
 | .aix b k i o n m=>some [.aix b k i o n m]
 | .own b=>some [.own b]
 | .sel T x o=>some [.sel T x o]
 | .clo f cs=>some [.clo f cs]
 | .fn ps r g=>some [.fn ps r g]
 | .raw u=>bif u.oneCell' then some [.raw u] else none
 | _=>none
def sub:(T:Ty)->T.den->Nat->(T':Ty)->Option T'.den
 | .pair a b,x,o,T'=>if h:o=0/\Ty.pair a b=T' then some (h.2 ▸ x) else bif Nat.blt o a.size then sub a x.1 o T' else sub b x.2 (o-a.size) T'
 | .unit,x,o,T'=>if h:o=0/\Ty.unit=T' then some (h.2 ▸ x) else none
 | .int k,x,o,T'=>if h:o=0/\Ty.int k=T' then some (h.2 ▸ x) else none
 | .bool,x,o,T'=>if h:o=0/\Ty.bool=T' then some (h.2 ▸ x) else none
 | .str,x,o,T'=>if h:o=0/\Ty.str=T' then some (h.2 ▸ x) else none
 | .sl e,x,o,T'=>if h:o=0/\Ty.sl e=T' then some (h.2 ▸ x) else none
 | .err,x,o,T'=>if h:o=0/\Ty.err=T' then some (h.2 ▸ x) else none
 | .map k v,x,o,T'=>if h:o=0/\Ty.map k v=T' then some (h.2 ▸ x) else none
 | .fnc f,x,o,T'=>if h:o=0/\Ty.fnc f=T' then some (h.2 ▸ x) else none
 | .fnl f,x,o,T'=>if h:o=0/\Ty.fnl f=T' then some (h.2 ▸ x) else none
 | .clo f e,x,o,T'=>if h:o=0/\Ty.clo f e=T' then some (h.2 ▸ x) else none
 | .arr n e,x,o,T'=>if h:o=0/\Ty.arr n e=T' then some (h.2 ▸ x) else bif Nat.blt o (n*e.size) then sub e (List.getD (α:=e.den) x (o/e.size) e.dflt) (o%e.size) T' else none
section
variable {P:Program} {F:Nat->Prop} {w:World} {U:Env}
theorem qvw{T:Ty}{x:T.den}{u:Value}(h:RdV F w T x u)(ha:T.agg=false):RdC F w T x [u]:=by
 obtain⟨cs,h1,h2⟩:=h;have hl:=h1.size;have hs:T.size=1:=by cases T <;> first | rfl | cases ha
 rw[hs] at hl;obtain⟨c,rfl⟩:=zB1.1 hl;simp only[mkV,ha,zc] at h2;subst h2; exact h1
theorem qzN{T:Ty}{x:T.den}{u:Value}(h:RdC F w T x [u])(ha:T.agg=false):RdV F w T x u:=⟨[u],h,by simp[mkV,ha]⟩
theorem qzO{T:Ty}{u:Value}{x:T.den}(h:rawAs T u=some x):RdV F w T x u:=by
 unfold rawAs at h;split at h
 ·cases h; exact⟨[_],⟨none,_,rfl,rfl⟩,rfl⟩
 ·cases h; exact⟨[_],⟨_,rfl,rfl,by simp⟩,rfl⟩
 ·cases h; exact⟨[_],.inl ⟨rfl,rfl⟩,rfl⟩
 ·cases h; exact⟨[_],(rfl:_=[fnVal _ 0]),rfl⟩
 ·cases h
theorem qvx{T:Ty}{f:Nat}{ss:List SV}{vs:List Value}{x:T.den}(h:fncAs T f ss=some x)(hl:ss.length=vs.length)(hd:∀(i:Nat) (s:SV) (u:Value),ss[i]? = some s->vs[i]? = some u->Den P F w U s u):RdV F w T x (.func (.func f) #[] vs.toArray):=by
 cases T with
 | fnc g=>
  cases ss with
  | cons _ _=>cases h
  | nil=>
   have h':(bif Nat.beq f g then some () else none)=some x:=h;cases hb:Nat.beq f g with
   | false=>rw[hb] at h'; cases h'
   | true=>
    have:=zd hb;subst this;cases vs with
    | nil=>exact⟨[_],rfl,rfl⟩
    | cons _ _=>cases hl
 | fnl gs=>
  cases ss with
  | cons _ _=>cases h
  | nil=>
   cases vs with
   | nil=>exact⟨[_],congrArg (fun u=>[u]) (qB8 h).symm,rfl⟩
   | cons _ _=>cases hl
 | clo g e=>
  cases ss with
  | nil=>cases h
  | cons s ss=>
   cases ss with
   | cons _ _=>cases s with
    | sel e' y o=>cases o <;> cases h
    | _=>cases h
   | nil=>
    cases s with
    | sel e' y o=>
     cases o with
     | succ _=>cases h
     | zero=>
      have h':(if hh:f=g/\e'=e then some ((hh.2 ▸ y:e.den)) else none)=some x:=h
      split at h'
      ·rename_i hh;obtain⟨rfl,rfl⟩:=hh;injection h' with h'; subst h'
       cases vs with
       | nil=>cases hl
       | cons v vs=>
        cases vs with
        | cons _ _=>cases hl
        | nil=>
         have h0:=hd 0 _ v rfl rfl;cases h0 with
         | sel q1 q2 q3=>exact⟨[_],⟨_,_,rfl,q1,q2,q3⟩,rfl⟩
      ·cases h'
    | _=>cases h
 | _=>cases h
theorem cut_v{e:Ty}{l:List e.den}{u:Value}(h:Den P F w U (.cut e l) u):Den P F w U (.v (.sl e) l) u:=by
 cases h with
 | cut hr=>exact .v ⟨_,hr,rfl⟩
theorem qqJ{T:Ty}{s:SV}{u:Value}{x:T.den}(h:s.as T=some x)(hd:Den P F w U s u):RdV F w T x u:=by
 cases hd with
 | v hv=>
  rename_i T' y;simp only[SV.as] at h;split at h
  ·rename_i e;subst e; cases h; exact hv
  ·cases h
 | raw=>exact qzO h
 | clo hl hd=>exact qvx h hl hd
 | cut hr=>
  simp only[SV.as] at h;split at h
  ·rename_i e;subst e; cases h; exact⟨_,hr,rfl⟩
  ·cases h
 | _=>simp only[SV.as] at h; cases h
theorem drop_cons{α:Type}{l l':List α}{s:α}(h:s::l'=l):l'=l.drop 1:=by subst h; rfl
theorem qh8{T:Ty}(ha:T.agg=false){l l':List SV}{vs:List Value}{x:T.den}(h:asm1 T l=some (x,l'))(hl:l.length=vs.length)
  (hd:∀(i:Nat) (s:SV) (u:Value),l[i]? = some s->vs[i]? = some u->Den P F w U s u):l'=l.drop 1/\RdC F w T x (vs.take 1)/\1<=l.length:=by
 cases l with
 | nil=>cases h
 | cons s l=>
  cases vs with
  | nil=>simp at hl
  | cons u vs=>
   simp only[asm1] at h;split at h
   ·rename_i y hy;injection h with h; injection h with h1 h2; subst h1 h2
    exact⟨rfl,by simpa using qvw (qqJ hy (hd 0 s u rfl rfl)) ha,by simp⟩
   ·cases h
theorem qom:∀ {T:Ty} {l l':List SV} {vs:List Value} {x:T.den},asm T l=some (x,l')->l.length=vs.length->
  (∀(i:Nat) (s:SV) (u:Value),l[i]? = some s->vs[i]? = some u->Den P F w U s u)->l'=l.drop T.size/\RdC F w T x (vs.take T.size)/\T.size<=l.length
 | .unit,l,l',vs,x,h,hl,hd=>by
  simp only[asm] at h; injection h with h; injection h with h1 h2; subst h1 h2
  exact⟨rfl,by simp[RdC,Ty.size],zN _⟩
 | .pair a b,l,l',vs,x,h,hl,hd=>by
  simp only[asm] at h;split at h
  ·rename_i x1 l1 h1;split at h
   ·rename_i x2 l2 h2;injection h with h; injection h with e1 e2; subst e1 e2
    obtain⟨a1,a2,a3⟩:=qom h1 hl hd;subst a1;obtain⟨b1,b2,b3⟩:=qom (vs:=vs.drop a.size) h2 (by simp[hl]) (fun i s u hs hu=>hd (a.size+i) s u (by simpa[zE] using hs) (by simpa[zE] using hu))
    subst b1;refine⟨by rw[zI1]; rfl,⟨vs.take a.size,(vs.drop a.size).take b.size,?_,a2,b2⟩,by simp at b3; show a.size+b.size<=_; omega⟩
    show vs.take (a.size+b.size)=_;rw[zb3]
   ·cases h
  ·cases h
 | .int k,l,l',vs,x,h,hl,hd=>qh8 rfl h hl hd
 | .bool,l,l',vs,x,h,hl,hd=>qh8 rfl h hl hd
 | .str,l,l',vs,x,h,hl,hd=>qh8 rfl h hl hd
 | .sl e,l,l',vs,x,h,hl,hd=>qh8 rfl h hl hd
 | .err,l,l',vs,x,h,hl,hd=>qh8 rfl h hl hd
 | .map k v,l,l',vs,x,h,hl,hd=>qh8 rfl h hl hd
 | .fnc _,l,l',vs,x,h,hl,hd=>qh8 rfl h hl hd
 | .fnl _,l,l',vs,x,h,hl,hd=>qh8 rfl h hl hd
 | .clo _ _,l,l',vs,x,h,hl,hd=>qh8 rfl h hl hd
 | .arr n e,l,l',vs,x,h,hl,hd=>by
  have key:∀(n:Nat) (l l':List SV) (vs:List Value) (x:List e.den),asmA (asm e) n l=some (x,l')->l.length=vs.length->(∀(i:Nat) (s:SV) (u:Value),l[i]? = some s->vs[i]? = some u->Den P F w U s u)->
    l'=l.drop (n*e.size)/\RdAr e.den (RdC F w e) n x (vs.take (n*e.size))/\n*e.size<=l.length:=by
   intro n;induction n with
   | zero=>
    intro l l' vs x h hl hd;simp only[asmA] at h; injection h with h; injection h with h1 h2; subst h1 h2
    exact⟨by simp,⟨rfl,by simp⟩,by simp⟩
   | succ n ih=>
    intro l l' vs x h hl hd;simp only[asmA] at h;split at h
    ·rename_i x1 l1 h1;split at h
     ·rename_i x2 l2 h2;injection h with h; injection h with e1 e2; subst e1 e2
      obtain⟨a1,a2,a3⟩:=qom h1 hl hd;subst a1;obtain⟨b1,b2,b3⟩:=ih _ _ (vs.drop e.size) _ h2 (by simp[hl]) (fun i s u hs hu=>hd (e.size+i) s u (by simpa[zE] using hs) (by simpa[zE] using hu))
      subst b1;have he:(n+1)*e.size=e.size+n*e.size:=by rw[z61,zH1]; omega
      refine⟨by rw[zI1,he],⟨x1,x2,vs.take e.size,(vs.drop e.size).take (n*e.size),rfl,by rw[he,zb3],a2,b2⟩,?_⟩
      rw[zR] at b3; omega
     ·cases h
    ·cases h
  exact key n l l' vs x h hl hd
theorem qda{T:Ty}{s:SV}{u:Value}{x:T.den}(h:s.dat T=some x)(hd:Den P F w U s u):RdV F w T x u:=by
 cases hd with
 | agg hl hi h1=>
  rename_i ss vs;simp only[SV.dat] at h;cases ha:T.agg with
  | false=>rw[ha] at h; cases h
  | true=>
   rw[ha] at h;simp only[zb] at h;split at h
   ·rename_i y hy;cases h
    obtain⟨a1,a2,a3⟩:=qom hy hl hi;have:vs.take T.size=vs:=by
     rw[zB];have:=congrArg List.length a1;simp at this; omega
    rw[this] at a2;exact⟨vs,a2,by simp[mkV,ha]⟩
   ·cases h
 | @v T' y _ hv=>exact qqJ (U:=U) (show SV.as T (SV.v T' y)=some x from h) (.v hv:Den P F w U _ _)
 | raw u=>exact qqJ (U:=U) (show SV.as T (SV.raw u)=some x from h) (.raw u:Den P F w U _ _)
 | clo hl hd=>exact qvx h hl hd
 | @cut e l _ hr=>exact qqJ (U:=U) (show SV.as T (SV.cut e l)=some x from h) (.cut hr:Den P F w U _ _)
 | _=>simp only[SV.dat,SV.as] at h; cases h
theorem qoP:∀ {T:Ty} {x:T.den} {cs:List Value},RdC F w T x cs->(split T x).length=cs.length/\∀(i:Nat) (s:SV) (u:Value),(split T x)[i]? = some s->cs[i]? = some u->Den P F w U s u
 | .unit,x,cs,h=>by cases h; exact⟨rfl,fun i s u hs=>by simp[split] at hs⟩
 | .pair a b,x,cs,h=>by
  obtain⟨c1,c2,rfl,h1,h2⟩:=h;obtain⟨a1,a2⟩:=qoP h1;obtain⟨b1,b2⟩:=qoP h2;refine⟨by simp[split,a1,b1],fun i s u hs hu=>?_⟩
  simp only[split] at hs;by_cases hi:i<c1.length
  ·rw[zY (by omega)] at hs
   rw[zY hi] at hu;exact a2 i s u hs hu
  ·rw[zX (by omega)] at hs
   rw[zX (by omega)] at hu
   rw[a1] at hs;exact b2 _ s u hs hu
 | .int k,x,cs,h=>one_split h (by rfl)
 | .bool,x,cs,h=>one_split h (by rfl)
 | .str,x,cs,h=>one_split h (by rfl)
 | .sl e,x,cs,h=>one_split h (by rfl)
 | .err,x,cs,h=>one_split h (by rfl)
 | .map k v,x,cs,h=>one_split h (by rfl)
 | .fnc _,x,cs,h=>one_split h (by rfl)
 | .fnl _,x,cs,h=>one_split h (by rfl)
 | .clo _ _,x,cs,h=>one_split h (by rfl)
 | .arr n e,x,cs,h=>by
  have key:∀(n i:Nat) (l:List e.den) (cs:List Value),RdAr e.den (RdC F w e) n (l.drop i) cs->(qtt (split e) e.dflt l i n).length=cs.length/\∀(j:Nat) (s:SV) (u:Value),(qtt (split e) e.dflt l i n)[j]? = some s->cs[j]? = some u->Den P F w U s u:=by
   intro n;induction n with
   | zero=>
    rintro i l cs ⟨_,rfl⟩
    exact⟨rfl,fun j s u hs=>by simp[qtt] at hs⟩
   | succ n ih=>
    rintro i l _ ⟨y,r,c1,c2,e1,rfl,h1,h2⟩
    have hi:i<l.length:=by
     have:=congrArg List.length e1;rw[zR,zf] at this; omega
    rw[z51 hi] at e1;injection e1 with e1 e2
    have hg:l.getD i e.dflt=y:=by rw[<-e1]; simp[hi]
    subst e2;obtain⟨a1,a2⟩:=qoP h1;obtain⟨b1,b2⟩:=ih (i+1) l c2 h2;simp only[qtt,hg];refine⟨by simp[a1,b1],fun j s u hs hu=>?_⟩
    by_cases hj:j<c1.length
    ·rw[zY (by omega)] at hs
     rw[zY hj] at hu;exact a2 j s u hs hu
    ·rw[zX (by omega)] at hs
     rw[zX (by omega)] at hu
     rw[a1] at hs;exact b2 _ s u hs hu
  exact key n 0 x cs h
where
 one_split {T:Ty} {x:T.den} {cs:List Value} (h:RdC F w T x cs) (ha:T.agg=false):[SV.v T x].length=cs.length/\∀(i:Nat) (s:SV) (u:Value),[SV.v T x][i]? = some s->cs[i]? = some u->Den P F w U s u:=by
  have hl:=h.size;have hs:T.size=1:=by cases T <;> first | rfl | cases ha
  rw[hs] at hl;obtain⟨c,rfl⟩:=zB1.1 hl;refine⟨rfl,fun i s u h1 h2=>?_⟩
  cases i with
  | zero=>simp at h1 h2; subst h1 h2; exact .v (qzN h ha)
  | succ i=>simp at h1
theorem qrC{u:Value}(h:u.oneCell'=true):u.cells=#[u]:=by cases u <;> first | rfl | (simp[Value.oneCell'] at h)
theorem sing{s:SV}{u:Value}(hd:Den P F w U s u)(h1:u.oneCell'=true):[s].length=u.cells.size/\∀(i:Nat) (s':SV) (u':Value),[s][i]? = some s'->u.cells[i]? = some u'->Den P F w U s' u'/\u'.oneCell'=true:=by
 rw[qrC h1];refine⟨rfl,fun i s' u' hs hu=>?_⟩
 cases i with
 | zero=>simp at hs hu; subst hs hu; exact⟨hd,h1⟩
 | succ i=>simp at hs
theorem qrD(hone:∀b v,U b=some v->v.oneCell'=true){s:SV}{u:Value}{cs:List SV}(h:s.cells=some cs)(hd:Den P F w U s u):
  cs.length=u.cells.size/\∀(i:Nat) (s':SV) (u':Value),cs[i]? = some s'->u.cells[i]? = some u'->Den P F w U s' u'/\u'.oneCell'=true:=by
 cases hd with
 | @v T x _ hv=>
  obtain⟨es,h1,rfl⟩:=hv;simp only[SV.cells] at h; cases h
  obtain⟨a1,a2⟩:=qoP (P:=P) (U:=U) h1;have hc:(mkV T es).cells=es.toArray:=by
   unfold mkV;cases ha:T.agg with
   | true=>rfl
   | false=>
    have hs:T.size=1:=by cases T <;> first | rfl | cases ha
    have hl:=h1.size;rw[hs] at hl;obtain⟨c,rfl⟩:=zB1.1 hl;exact qrC (h1.one c (by simp))
  rw[hc];refine⟨by simpa using a1,fun i s' u' hs hu=>?_⟩
  have hu':es[i]? = some u':=by simpa using hu
  exact⟨a2 i s' u' hs hu',h1.one u' (zK hu')⟩
 | agg hl hi h1=>
  rename_i ss vs;simp only[SV.cells] at h; cases h
  refine⟨by simpa[Value.cells] using hl,fun i s' u' hs hu=>?_⟩
  have hu':vs[i]? = some u':=by simpa[Value.cells] using hu
  exact⟨hi i s' u' hs hu',h1 u' (zK hu')⟩
 | raw u=>
  simp only[SV.cells] at h;cases h1:u.oneCell' with
  | false=>rw[h1] at h; cases h
  | true=>rw[h1] at h; cases h; exact sing (.raw u) h1
 | any=>cases h
 | ptr hb=>simp only[SV.cells] at h; cases h; exact sing (.ptr hb) rfl
 | nptr hb=>simp only[SV.cells] at h; cases h
 | ael hb hi=>simp only[SV.cells] at h; cases h; exact sing (.ael hb hi) rfl
 | pel hb hi=>simp only[SV.cells] at h; cases h; exact sing (.pel hb hi) rfl
 | aix hb hi hm=>simp only[SV.cells] at h; cases h; exact sing (.aix hb hi hm) rfl
 | rest=>cases h
 | pre=>cases h
 | own hb=>simp only[SV.cells] at h; cases h; exact sing (.own hb) (hone _ _ hb)
 | sel a1 a2 a3=>simp only[SV.cells] at h; cases h; exact sing (.sel a1 a2 a3) rfl
 | tup=>cases h
 | cut=>cases h
 | nilq=>cases h
 | fzd=>cases h
 | when=>cases h
 | clo a1 a2=>simp only[SV.cells] at h; cases h; exact sing (.clo a1 a2) rfl
 | fn hf=>simp only[SV.cells] at h; cases h; exact sing (.fn hf) (by rcases hf with⟨rfl,_⟩ | ⟨f,caps,rfl,_⟩ <;> rfl)
 | fmap=>cases h
theorem qlK:∀ {T:Ty} {x:T.den} {o:Nat} {T':Ty} {y:T'.den} {cs:List Value},sub T x o T'=some y->RdC F w T x cs->RdC F w T' y ((cs.drop o).take T'.size)/\o+T'.size<=cs.length
 | .pair a b,x,o,T',y,cs,h,hr=>by
  simp only[sub] at h;split at h
  ·rename_i hh;obtain⟨rfl,rfl⟩:=hh;cases h
   have hl:=hr.size;exact⟨by rw[z92,zB (by omega)]; exact hr,by omega⟩
  ·obtain⟨c1,c2,rfl,h1,h2⟩:=hr;have hl1:=h1.size;cases hlt:Nat.blt o a.size with
   | true=>
    rw[hlt] at h;obtain⟨a1,a2⟩:=qlK h h1;refine⟨?_,by simp; omega⟩
    rw[zx1 (by omega),zl1 (by simp; omega)]
    exact a1
   | false=>
    rw[hlt] at h;have hge:a.size<=o:=by
     rcases zH2 o a.size with h' | h'
     ·rw[show Nat.blt o a.size=true by rw[zS]; exact h'] at hlt; cases hlt
     ·exact h'
    obtain⟨a1,a2⟩:=qlK h h2;refine⟨?_,by simp; omega⟩
    rw[show o=c1.length+(o-a.size) by omega,zW1,z21 (by omega),zF,z32]
    exact a1
 | .unit,x,o,T',y,cs,h,hr=>one_sub h hr
 | .int k,x,o,T',y,cs,h,hr=>one_sub h hr
 | .bool,x,o,T',y,cs,h,hr=>one_sub h hr
 | .str,x,o,T',y,cs,h,hr=>one_sub h hr
 | .sl e,x,o,T',y,cs,h,hr=>one_sub h hr
 | .err,x,o,T',y,cs,h,hr=>one_sub h hr
 | .map k v,x,o,T',y,cs,h,hr=>one_sub h hr
 | .fnc _,x,o,T',y,cs,h,hr=>one_sub h hr
 | .fnl _,x,o,T',y,cs,h,hr=>one_sub h hr
 | .clo _ _,x,o,T',y,cs,h,hr=>one_sub h hr
 | .arr n e,x,o,T',y,cs,h,hr=>by
  simp only[sub] at h;split at h
  ·rename_i hh;obtain⟨rfl,rfl⟩:=hh;cases h
   have hl:=hr.size;exact⟨by rw[z92,zB (by omega)]; exact hr,by omega⟩
  ·cases hlt:Nat.blt o (n*e.size) with
   | false=>rw[hlt] at h; cases h
   | true=>
    rw[hlt] at h; simp only[zb] at h;rw[zS] at hlt;have hr':RdAr e.den (RdC F w e) n x cs:=hr;have hpos:0<e.size:=by
     rcases za2 e.size with h0 | h0
     ·rw[h0] at hlt; omega
     ·exact h0
    have hq:o/e.size<n:=(Nat.div_lt_iff_lt_mul hpos).2 hlt;obtain⟨g1,_⟩:=RdAr.get (fun _ _ h=>RdC.size h) e.dflt hr' hq
    obtain⟨a1,a2⟩:=qlK h g1;have hs:=g1.size;have hdm:=z13 o e.size;rw[zd2] at hdm;rw[zY1,zI1,zO1] at a1;have hmod:=Nat.mod_lt o hpos;have hle:(o%e.size)+T'.size<=e.size:=by omega
    rw[ze1 (by omega),hdm] at a1
    refine⟨a1,?_⟩
    have hcs:=(RdAr.size (fun _ _ h=>RdC.size h) hr').1
    have:o/e.size*e.size+e.size<=n*e.size:=by
     have:=zD e.size (show o/e.size+1<=n from hq)
     rwa[z61,zH1] at this
    omega
where
 one_sub {T:Ty} {x:T.den} {o:Nat} {T':Ty} {y:T'.den} {cs:List Value} (h:(if h:o=0/\T=T' then some (h.2 ▸ x) else none)=some y) (hr:RdC F w T x cs):RdC F w T' y ((cs.drop o).take T'.size)/\o+T'.size<=cs.length:=by
  split at h
  ·rename_i hh;obtain⟨rfl,rfl⟩:=hh;cases h
   have hl:=hr.size;exact⟨by rw[z92,zB (by omega)]; exact hr,by omega⟩
  ·cases h
end
def qbW:TypeDesc->Bool
 | .struct _ | .array _ _=>true
 | _=>false
theorem qon(a:Addr)(m n:Nat):(a.add m).add n=a.add (m+n):=by
 unfold Addr.add;by_cases h1:m=0 <;> by_cases h2:n=0 <;> simp[h1,h2] <;> omega
theorem add_zero'(a:Addr):a.add 0=a:=by simp[Addr.add]
section
variable {P:Program} {w:World}
theorem qrE{i:TI}(h:i.ok P):(isAgg i.t).run P w=.ok (qbW i.desc) w:=by
 unfold isAgg;rw[zl,zu h.und w];cases i.desc <;> rfl
theorem run_sizeOf'{i:TI}(h:i.ok P):(sizeOf i.t).run P w=.ok i.size w:=by
 obtain⟨x,h1,h2,_⟩:=h.info;simp[sizeOf,typeInfo,h1,h2]
theorem run_zeroValue'{i:TI}(h:i.ok P):(zeroValue i.t).run P w=.ok i.zero w:=by
 obtain⟨x,h1,h2,h3,h4⟩:=h.info;simp[zeroValue,typeInfo,h1,h4]
theorem run_fieldAt'{i f:TI}{fs:Array Field}{fd:Field}{n:Nat}{a:Addr}(h:i.ok P)(hd:i.desc=.struct fs)(hf:fs[n]? = some fd)(h2:f.ok P)(h3:f.t=fd.type)(h4:0<f.size):
  (Instr.fieldAt i.t (.pointer (some a)) n).run P w=.ok (.pointer (some (a.add fd.offset))) w:=by
 have hu:=h.und;rw[hd] at hu;have hs:=run_sizeOf' (w:=w) h2;rw[h3] at hs;obtain⟨z,hz⟩:∃z,f.size=z+1:=⟨f.size-1,by omega⟩
 rw[hz] at hs;simp[Instr.fieldAt,zu hu,hf,Instr.sureAddr,fieldPlace,hs]
theorem run_loadAgg'{i:TI}(h:i.ok P)(ha:qbW i.desc=true){ad:Addr}{cs:List Value}(hl:cs.length=i.size)(hc:∀j v,cs[j]? = some v->w.cell? (ad.add j)=some v):
  (loadVar i.t ad).run P w=.ok (.agg cs.toArray) w:=by
 have h1:=qrE (w:=w) h;have h2:=run_sizeOf' (w:=w) h;rw[ha] at h1;rw[<-hl] at h2;simp[loadVar,h1,h2,z43 w ad cs hc]
theorem qvy{i:TI}(h:i.ok P)(ha:qbW i.desc=false){ad:Addr}{v:Value}(hc:w.cell? ad=some v):
  (loadVar i.t ad).run P w=.ok v w:=by
 have h1:=qrE (w:=w) h;rw[ha] at h1;simp[loadVar,h1,run_load,hc]
end
structure VR where
 g:Bool
 rd:List Key
 s:SV
def VOk(P:Program)(w0:World)(M:Mod)(N:Nat)(st0:St)(op:Op)(rty:TypeId)(r:VR):Prop:=
 ∀st,(∀κ∈r.rd,agree st0 st κ)->∀F U a w,Rel' P w0 M N F U st a w->∀dst pos af g,∃u,(execOp a.eval ⟨dst,op,rty,pos,af,g⟩).run P w=.ok (.value u) w/\Den P F w U r.s u
section
variable {P:Program} {w0:World} {M:Mod} {N:Nat} {st:St} {Γ:List TI} {rty:TypeId}
/-! ### Moves, tests, conversions -/
def qxJ(st:St)(x:Operand):Option VR:=some ⟨true,qaa x,st.ev x⟩
theorem qvz{x:Operand}{r:VR}(h:qxJ st x=some r):VOk P w0 M N st (.move x) rty r/\VOk P w0 M N st (.assign x) rty r:=by
 unfold qxJ at h;cases h
 exact⟨fun st' hag F U a w hr _ _ _ _=>⟨_,rfl,hr.evx hag (fun _ h=>h)⟩,fun st' hag F U a w hr _ _ _ _=>⟨_,rfl,hr.evx hag (fun _ h=>h)⟩⟩
def isK:Operand->Bool
 | .const _=>true
 | _=>false
def qDz(Γ:List TI)(op:BinOp)(t:TypeId)(x y:SV):Option (Bool×SV):=
 match x,y,op with
 | .v (.sl e) l,.raw (.slice none 0 0),.eql=>match look Γ t with
  | some ⟨_,.slice _,_,_,_,_,_⟩=>some (true,.nilq (List.length (α:=e.den) l))
  | _=>none
 | _,_,_=>none
def qzP(Γ:List TI)(op:BinOp)(t:TypeId)(ky:Bool)(x y:SV):Option (Bool×SV):=
 match x.int?,y.int? with
 | some (k,m),some (k',n)=>bif qzJ op then binSh op k m n else bif decide (k=k') then binI op k m n else none
 | _,_=>match x.str?,y.str? with
  | some l,some l'=>binS op l l'
  | _,_=>match x.bool?,y.bool? with
   | some b,some c=>match look Γ t with
    | some ⟨_,.bool,_,_,_,_,_⟩=>match op with
     | .eql=>some (true,.v .bool (b==c))
     | .neq=>some (true,.v .bool (!(b==c)))
     | _=>none
    | _=>none
   | _,_=>match x.err?,y.nilI&&ky with
    | some b,true=>match look Γ t with
     | some ⟨_,.interface _,_,_,_,_,_⟩=>match op with
      | .eql=>some (true,.v .bool (!b))
      | .neq=>some (true,.v .bool b)
      | _=>none
     | _=>none
    | _,_=>qDz Γ op t x y
def evBin(Γ:List TI)(st:St)(op:BinOp)(t:TypeId)(x y:Operand):Option VR:=
 match qzP Γ op t (isK y) (st.ev x) (st.ev y) with
 | some (g,s)=>some ⟨g,qaa x++qaa y,s⟩
 | none=>none
theorem mem_l{x y:List Key}{κ:Key}(h:κ∈x):κ∈x++y:=zI.2 (.inl h)
theorem mem_r{x y:List Key}{κ:Key}(h:κ∈y):κ∈x++y:=zI.2 (.inr h)
theorem qtY{F:Nat->Prop}{w:World}{U:Env}(hΓ:Tys P Γ){op:BinOp}{t:TypeId}{X Y:Operand}{x y s:SV}{u v:Value}(h:qzP Γ op t (isK Y) x y=some (true,s))
  (hx:Den P F w U x u) (hy:Den P F w U y v):∃r,(do eqGuard op t X Y u v; binOp op t u v).run P w=.ok r w/\Den P F w U s r:=by
 unfold qzP at h;split at h
 ·rename_i k m k' n e1 e2;rw[hx.int e1,hy.int e2];cases hs:qzJ op with
  | true=>rw[hs] at h; exact qzK h rfl X Y
  | false=>
   rw[hs] at h;by_cases hk:k=k'
   ·subst hk; simp only[zG2,zb,zc] at h; exact qB6 h rfl X Y
   ·simp only[hk,decide_false,zc] at h; cases h
 ·split at h
  ·rename_i l l' e1 e2;rw[hx.str e1,hy.str e2];exact qB7 h rfl X Y
  ·split at h
   ·rename_i b c e1 e2;rw[hx.bool e1,hy.bool e2];split at h
    ·rename_i t' z1 z2 z3 z4 z5 hl;obtain⟨hi,ht⟩:=qao hΓ hl;have hu:=hi.und;simp only at ht hu;subst ht;split at h
     ·injection h with h; injection h with _ h; subst h
      exact⟨_,by simp[eqGuard_at_bool,run_eql_bool w _ b c hu],.ofBool _⟩
     ·injection h with h; injection h with _ h; subst h
      exact⟨_,by simp[eqGuard_at_bool,run_neq_bool w _ b c hu],.ofBool _⟩
     ·cases h
    ·cases h
   ·split at h
    ·rename_i b e1 e2;rw[z8] at e2;obtain⟨e2,e3⟩:=e2;obtain rfl:=hy.nilI e2;have hu:=hx.err e1;obtain⟨yv,rfl⟩:∃yv,Y=.const yv:=by cases Y <;> first | exact⟨_,rfl⟩ | cases e3
     split at h
     ·rename_i t' z0 z1 z2 z3 z4 z5 hl;obtain⟨hi,ht⟩:=qao hΓ hl;have hu':=hi.und;simp only at ht hu';subst ht;have heq:∀v,(if b=true then ∃t' v',v=Value.iface t' v' else v=.nilIface)->(Op.equal t' v .nilIface).run P w=.ok (!b) w:=by
       intro v hv;cases b with
       | true=>
        rw[if_pos rfl] at hv; obtain⟨t2,v2,rfl⟩:=hv;show(Op.equalIn 10000 _ _ _).run P w=_;unfold Op.equalIn;simp[zu hu']
       | false=>
        rw[if_neg (by simp)] at hv; subst hv
        show(Op.equalIn 10000 _ _ _).run P w=_;unfold Op.equalIn;simp[zu hu']
      have hg:∀op':BinOp,(eqGuard op' t' X (.const yv) u .nilIface).run P w=.ok () w:=by
       intro op';cases b with
       | true=>rw[if_pos rfl] at hu; obtain⟨t2,v2,rfl⟩:=hu; cases op' <;> simp[eqGuard]
       | false=>rw[if_neg (by simp)] at hu; subst hu; cases op' <;> simp[eqGuard]
      have hb:∀op':BinOp,(op'=.eql\/op'=.neq)->binOp op' t' u .nilIface=(if op'=.eql then(do pure (.bool (<- Op.equal t' u .nilIface))) else(do pure (.bool (!(<- Op.equal t' u .nilIface))))):=by
       intro op' ho;cases b with
       | true=>rw[if_pos rfl] at hu; obtain⟨t2,v2,rfl⟩:=hu; rcases ho with rfl | rfl <;> rfl
       | false=>rw[if_neg (by simp)] at hu; subst hu; rcases ho with rfl | rfl <;> rfl
      split at h
      ·injection h with h; injection h with _ h; subst h
       refine⟨.bool (!b),?_,.ofBool _⟩
       rw[zl,hg,zh,hb _ (.inl rfl),if_pos rfl,zl,heq u hu]; rfl
      ·injection h with h; injection h with _ h; subst h
       refine⟨.bool b,?_,.ofBool _⟩
       rw[zl,hg,zh,hb _ (.inr rfl),if_neg (by simp),zl,heq u hu]; simp
      ·cases h
     ·cases h
    ·unfold qDz at h;split at h
     ·rename_i e l _ _ _ _;split at h
      ·rename_i t' z1 z2 z3 z4 z5 z6 hl;obtain⟨hi,ht⟩:=qao hΓ hl;have hu:=hi.und;simp only at ht hu;subst ht;injection h with h; injection h with _ h; subst h
       cases hx with
       | v hv=>
        obtain⟨cs,⟨ad,cap,rfl,h2⟩,rfl⟩:=hv;cases hy;refine⟨.bool ad.isNone,?_,.nilq fun hb=>?_⟩
        ·have hq:∀n:Nat,(Op.equal t' (.slice ad n cap) (.slice none 0 0)).run P w=.ok ad.isNone w:=by
          intro n;show(Op.equalIn 10000 _ _ _).run P w=_;unfold Op.equalIn;cases ad <;> simp[zu hu]
         simp only[mkV,Ty.agg,zc,zV1];show(do eqGuard .eql t' X Y _ _; do pure (Value.bool (<- Op.equal t' _ _))).run P w=_;have hg:∀n:Nat,(eqGuard .eql t' X Y (.slice ad n cap) (.slice none 0 0)).run P w=.ok () w:=by intro n; simp[eqGuard]
         rw[zl,hg,zh,zl,hq]; rfl
        ·cases ad with
         | none => have h2:l=[]:=h2
                   rw[h2]; rfl
         | some a=>cases hb
      ·cases h
     ·cases h
theorem qB9(hΓ:Tys P Γ){op:BinOp}{t t2:TypeId}{x y:Operand}{r:VR}(h:evBin Γ st op t x y=some r)(hg:r.g=true):VOk P w0 M N st (.binOp op t x y t2) rty r:=by
 unfold evBin at h;split at h
 ·rename_i g s hb;cases h
  simp only at hg; subst hg;intro st' hag F U a w hr dst pos af gd;obtain⟨v,h1,h2⟩:=qtY hΓ hb (hr.evx hag (fun _ h=>mem_l h)) (hr.evx hag (fun _ h=>mem_r h)) (X:=x)
  exact⟨v,by simp only[execOp,zl,zn] at h1 ⊢; rw[h1]; rfl,h2⟩
 ·cases h
def evUn(st:St)(op:UnOp)(x:Operand):Option VR:=
 match op,(st.ev x).bool?,(st.ev x).int? with
 | .not,some b,_=>some ⟨true,qaa x,.v .bool (!b)⟩
 | .neg,_,some (k,n)=>some ⟨true,qaa x,.v (.int k) (k.wrap (0-n))⟩
 | .xor,_,some (k,n)=>some ⟨true,qaa x,.v (.int k) (k.wrap (BitVec.ofInt k.bits (if k.signed then -1 else k.max)^^^BitVec.ofInt k.bits n).toNat)⟩
 | _,_,_=>none
theorem qEh{op:UnOp}{t:TypeId}{x:Operand}{r:VR}(h:evUn st op x=some r):VOk P w0 M N st (.unOp op t x) rty r:=by
 unfold evUn at h;split at h
 ·rename_i e1;cases h
  intro st' hag F U a w hr dst pos af gd;have:=(hr.evx hag (fun _ h=>h)).bool e1
  exact⟨_,by simp only[execOp,this,Op.unary,zl,zn,zh],.ofBool _⟩
 ·rename_i e1;cases h
  intro st' hag F U a w hr dst pos af gd;have:=(hr.evx hag (fun _ h=>h)).int e1
  exact⟨_,by simp only[execOp,this,Op.unary,Op.intArith,zl,zn,zh],.ofInt _ _⟩
 ·rename_i e1;cases h
  intro st' hag F U a w hr dst pos af gd;have:=(hr.evx hag (fun _ h=>h)).int e1
  exact⟨_,by simp only[execOp,this,Op.unary,Op.intBits,zl,zn,zh],.ofInt _ _⟩
 ·cases h
def qzQ(Γ:List TI)(st:St)(src dst:TypeId)(x:Operand):Option VR:=
 match look Γ src,look Γ dst with
 | some i,some j=>match j.desc with
  | .int k=>match(st.ev x).int? with
   | some (_,n)=>some ⟨true,qaa x,.v (.int k) (k.wrap n)⟩
   | none=>none
  | .string=>match(st.ev x).str? with
   | some l=>match i.desc with
    | .string=>some ⟨true,qaa x,.v .str l⟩
    | _=>none
   | none=>none
  | _=>none
 | _,_=>none
theorem qzR(hΓ:Tys P Γ){src dst:TypeId}{x:Operand}{r:VR}(h:qzQ Γ st src dst x=some r):VOk P w0 M N st (.convert src dst x) rty r:=by
 unfold qzQ at h;split at h
 ·rename_i i j hi hj;obtain⟨hi1,hi2⟩:=qao hΓ hi;obtain⟨hj1,hj2⟩:=qao hΓ hj;have hu:=hi1.und;have hv:=hj1.und;rw[hi2] at hu;rw[hj2] at hv;split at h
  ·rename_i k e0;split at h
   ·rename_i k0 n e1;cases h
    intro st' hag F U a w hr dst pos af gd;have:=(hr.evx hag (fun _ h=>h)).int e1
    rw[e0] at hv;refine⟨.int k (k.wrap n),?_,.ofInt _ _⟩
    simp[execOp,this,convert,zu hu,zu hv,Conv.intToInt]
   ·cases h
  ·rename_i e0;split at h
   ·rename_i l e1;split at h
    ·rename_i e2;cases h
     intro st' hag F U a w hr dst pos af gd;have:=(hr.evx hag (fun _ h=>h)).str e1
     rw[e0] at hv;rw[e2] at hu;refine⟨.string ⟨⟨l⟩⟩,?_,.ofStr _⟩
     simp[execOp,this,convert,zu hu,zu hv]
    ·cases h
   ·cases h
  ·cases h
 ·cases h
def qzS(st:St)(c x y:Operand):Option VR:=
 match(st.ev c).bool? with
 | some b=>some ⟨true,qaa c++(qaa x++qaa y),match(st.ev x).bool?,(st.ev y).bool? with
  | some p,some q=>.v .bool (bif b then p else q)
  | _,_=>bif b then st.ev x else st.ev y⟩
 | none=>none
theorem qCa{a:Act}{w:World}(dst:Option Nat)(x y z:Operand)(b:Bool)(hb:a.eval x=.bool b)(pos:String)(af:Array Edge)(g:Option (Nat×Bool)):(execOp a.eval ⟨dst,.pick x y z,rty,pos,af,g⟩).run P w=.ok (.value (if b then a.eval y else a.eval z)) w:=by
 simp only[execOp,hb,asBool,zl,zn,zh]
theorem qzT{c x y:Operand}{r:VR}(h:qzS st c x y=some r)(hg:r.g=true):VOk P w0 M N st (.pick c x y) rty r:=by
 unfold qzS at h;split at h
 ·rename_i b e1;cases h
  intro st' hag F U a w hr dst pos af gd;have h1:=(hr.evx hag (fun _ h=>mem_l h)).bool e1
  refine⟨_,qCa _ c x y b h1 _ _ _,?_⟩
  have hx:=hr.evx hag (fun _ h=>mem_r (mem_l h)) (x:=x)
  have hy:=hr.evx hag (fun _ h=>mem_r (mem_r h)) (x:=y)
  simp only;split
  ·rename_i p q hp hq;cases b with
   | true=>simp only[if_true,zb]; rw[hx.bool hp]; exact .ofBool _
   | false=>simp only[z02,if_false,zc]; rw[hy.bool hq]; exact .ofBool _
  ·cases b with
   | true=>simp only[if_true,zb]; exact hx
   | false=>simp only[z02,if_false,zc]; exact hy
 ·cases h
end
def qbw(st:St)(b:Nat):Nat->Nat->List SV
 | _,0=>[]
 | o,n+1=>st.c b o::qbw st b (o+1) n
theorem qel{st:St}{b:Nat}:∀ {n o:Nat},(qbw st b o n).length=n
 | 0,_=>rfl
 | n+1,o=>by simp[qbw,qel]
theorem qfI{st:St}{b:Nat}:∀ {n o j:Nat},j<n->(qbw st b o n)[j]? = some (st.c b (o+j))
 | 0,_,_,h=>by omega
 | n+1,o,0,_=>rfl
 | n+1,o,j+1,h=>by
  simp only[qbw,List.getElem?_cons_succ]
  rw[qfI (by omega),show o+1+j=o+(j+1) by omega]
theorem qtZ{α:Type}{l:List α}{i:Nat}{d:α}(h:i<l.length):l[i]? = some (l.getD i d):=by
 rw[zk,zj h]; rfl
section
variable {P:Program} {w0:World} {M:Mod} {N:Nat} {st:St} {Γ:List TI} {rty:TypeId}
theorem qrm{F:Nat->Prop}{w:World}{U:Env}(h:MemOk P F w U st){b k:Nat}{tyb:TypeId}(hv:st.v b=some (tyb,k)){g:Nat}(hρ:U b=some (.pointer (some ⟨g,0,none⟩))){o:Nat}(ho:o<k):
  ∃u,w.cell? ⟨g,o,none⟩=some u/\Den P F w U (st.c b o) u/\u.oneCell'=true:=by
 obtain⟨g',arr,h1,h2,h3,h4⟩:=h.var b tyb k hv;rw[hρ] at h1; injection h1 with h1; injection h1 with h1; injection h1 with h1; cases h1
 have ho':o<arr.size:=by omega
 have h5:=h4 o arr[o] (zG1 ho');exact⟨arr[o],by rw[cell_of_row w g o arr tyb (0,0) h2]; exact zG1 ho',h5⟩
def datAt(st:St)(b sz:Nat)(T:Ty)(o:Nat):Option T.den:=bif T.agg then SV.dat T (.agg (qbw st b o sz)) else SV.dat T (st.c b o)
def pelL(st:St)(b k sz:Nat)(T:Ty):Nat->Nat->Option (List T.den)
 | _,0=>some []
 | o,n+1=>match datAt st b sz T o,pelL st b k sz T (o+k) n with
  | some x,some l=>some (x::l)
  | _,_=>none
theorem qt0{b k sz:Nat}{T:Ty}:∀ {n o:Nat} {l:List T.den},pelL st b k sz T o n=some l->l.length=n/\∀i,i<n->datAt st b sz T (o+i*k)=some (l.getD i T.dflt)
 | 0,o,l,h=>by cases h; exact⟨rfl,fun i hi=>by omega⟩
 | n+1,o,l,h=>by
  simp only[pelL] at h;split at h
  ·rename_i x l' h1 h2;cases h
   obtain⟨k1,k2⟩:=qt0 h2;refine⟨by simp[k1],fun i hi=>?_⟩
   cases i with
   | zero=>rw[zx2,zC1]; exact h1
   | succ i=>
    have:=k2 i (by omega)
    rw[show o+(i+1)*k=o+k+i*k by rw[ze2]; omega]
    exact this
  ·cases h
theorem qwE{F:Nat->Prop}{w:World}{U:Env}(h:MemOk P F w U st){b kv:Nat}{tyb:TypeId}(hv:st.v b=some (tyb,kv)){g:Nat}(hρ:U b=some (.pointer (some ⟨g,0,none⟩))){T:Ty}{o:Nat}{x:T.den}(hx:datAt st b T.size T o=some x)(ho:o+T.size<=kv):
  ∃es,RdC F w T x es/\∀j u,es[j]? = some u->w.cell? ⟨g,o+j,none⟩=some u:=by
 unfold datAt at hx;cases hg:T.agg with
 | true=>
  rw[hg] at hx; simp only[zb] at hx;have hall:∀j,j<T.size->∃u,w.cell? ⟨g,o+j,none⟩=some u/\Den P F w U (st.c b (o+j)) u/\u.oneCell'=true:=fun j hj=>qrm h hv hρ (by omega)
  let vs:List Value:=(List.range T.size).map fun j=>(w.cell? ⟨g,o+j,none⟩).getD undef
  have hvl:vs.length=T.size:=by simp[vs]
  have hvs:∀j u,vs[j]? = some u->j<T.size/\w.cell? ⟨g,o+j,none⟩=some u:=by
   intro j u hj;have hjm:j<T.size:=by rw[<-hvl]; exact(zp.1 hj).1
   obtain⟨v',hc,_⟩:=hall j hjm;refine⟨hjm,?_⟩
   simp[vs,hjm] at hj;rw[hc] at hj ⊢; simpa using hj
  have hd:Den P F w U (.agg (qbw st b o T.size)) (.agg vs.toArray):=.agg (by rw[hvl,qel]) (fun j s v hs hv=>by
    obtain⟨hjm,hc⟩:=hvs j v hv;obtain⟨v',hcc,hv',_⟩:=hall j hjm;rw[hc] at hcc; cases hcc
    rw[qfI hjm] at hs; cases hs
    exact hv') (fun u hu=>by
    obtain⟨j,hj⟩:=zq1 hu;obtain⟨hjm,hc⟩:=hvs j u hj;obtain⟨v',hcc,_,h1⟩:=hall j hjm;rw[hc] at hcc; cases hcc; exact h1)
  obtain⟨es,e1,e2⟩:=qda hx hd;have:es=vs:=by
   unfold mkV at e2;rw[hg] at e2;simp only[zb] at e2;injection e2 with e2
   have:=congrArg Array.toList e2;simpa using this.symm
  subst this;exact⟨_,e1,fun j u hj=>(hvs j u hj).2⟩
 | false=>
  rw[hg] at hx; simp only[zc] at hx;have h1:T.size=1:=by revert hg; cases T <;> intro hg <;> first | rfl | cases hg
  obtain⟨u,c1,c2,_⟩:=qrm h hv hρ (o:=o) (by omega)
  refine⟨[u],qvw (qda hx c2) hg,fun j v hj=>?_⟩
  cases j with
  | zero=>simp at hj; subst hj; exact c1
  | succ j=>simp at hj
def qtu(Γ:List TI)(st:St)(t:TypeId)(x:Operand):Option VR:=
 match look Γ t with
 | none=>none
 | some i=>match st.ev x with
  | .ptr b o=>match st.v b with
   | none=>none
   | some (_,k)=>bif qbW i.desc then
     bif Nat.ble (o+i.size) k then some ⟨true,qaa x++(.v b::qh7 b o i.size),.agg (qbw st b o i.size)⟩ else none
    else bif Nat.blt o k then some ⟨true,qaa x++[.v b,.c b o],st.c b o⟩ else none
  | .sel T y o=>bif (qbW i.desc==i.T.agg)&&Nat.beq i.size i.T.size then match sub T y o i.T with
    | some z=>some ⟨true,qaa x,.v i.T z⟩
    | none=>none
   else none
  | .ael b k ix o=>match st.a b with
   | some (.arr _ e l)=>bif (qbW i.desc==i.T.agg)&&Nat.beq i.size i.T.size&&Nat.beq k e.size then match sub e (l.getD ix e.dflt) o i.T with
     | some z=>some ⟨true,qaa x++[.a b],.v i.T z⟩
     | none=>none
    else none
   | _=>none
  | .pel b n k ix o=>match st.v b with
   | some (_,kv)=>bif (qbW i.desc==i.T.agg)&&Nat.beq i.size i.T.size&&Nat.ble (o+n*k) kv&&Nat.ble i.size k then match pelL st b k i.size i.T o n with
     | some l=>some ⟨true,qaa x++(.v b::qh7 b o (n*k)),.v i.T (l.getD ix i.T.dflt)⟩
     | none=>none
    else none
   | none=>none
  | .aix b k ix o n m=>match st.a b with
   | some (.arr _ e l)=>bif (qbW i.desc==i.T.agg)&&Nat.beq i.size i.T.size&&Nat.beq k e.size&&Nat.beq i.size 1 then match sub e (l.getD ix e.dflt) o (.arr n i.T) with
     | some z=>some ⟨true,qaa x++[.a b],.v i.T (List.getD (α:=i.T.den) z m i.T.dflt)⟩
     | none=>none
    else none
   | _=>none
  | _=>none
theorem qoQ{F:Nat->Prop}{w:World}{U:Env}{i:TI}(hi:i.ok P)(ha:qbW i.desc=i.T.agg)(hs:i.size=i.T.size){z:i.T.den}{ad:Addr}{es:List Value}(hz:RdC F w i.T z es)
  (hc:∀j u,es[j]? = some u->w.cell? (ad.add j)=some u):∃u,(loadVar i.t ad).run P w=.ok u w/\Den P F w U (.v i.T z) u:=by
 have hl:=hz.size;refine⟨mkV i.T es,?_,.v ⟨es,hz,rfl⟩⟩
 unfold mkV;cases hg:i.T.agg with
 | true=>exact run_loadAgg' hi (ha.trans hg) (by rw[hl,hs]) hc
 | false=>
  have h1:i.T.size=1:=by revert hg; cases i.T <;> intro hg <;> first | rfl | cases hg
  rw[h1] at hl;obtain⟨c,rfl⟩:=zB1.1 hl;have:=hc 0 c rfl;rw[add_zero'] at this;exact qvy hi (ha.trans hg) this
theorem qDA{F:Nat->Prop}{w:World}{U:Env}(h:MemOk P F w U st){b:Nat}{ty:TypeId}{e:Ty}{l:List e.den}(hA:st.a b=some (.arr ty e l)){g n cap:Nat}(hρ:U b=some (.slice (some ⟨g,0,none⟩) n cap)){i:Nat}(hi:i<n):
  l.length=n/\∃es,RdC F w e (l.getD i e.dflt) es/\∀j u,es[j]? = some u->w.cell? ⟨g,i*e.size+j,none⟩=some u:=by
 obtain⟨u,h1,xs,h2,h3⟩:=h.arr b _ hA;rw[hρ] at h1; cases h1
 obtain⟨h4,h5⟩:=h2;rcases h5 with⟨ad,h5,_⟩ | ⟨g',cap',cur,h5,h7,h8,h9,h10,h11⟩
 ·injection h5 with _ h5 _; omega
 ·injection h5 with e1 e2 e3
  injection e1 with e1; injection e1 with e1; subst e1 e2 e3
  have hx:l[i]? = some (l.getD i e.dflt):=by rw[zk,zj hi]; rfl
  refine⟨rfl,_,h3 i _ hx,fun j u hj=>?_⟩
  rw[zr] at hj;split at hj
  ·rename_i hje;rw[zE,<-h11,zr] at hj;split at hj
   ·rw[cell_of_row w g _ cur ty (0,0) h7]; simpa using hj
   ·cases hj
  ·cases hj
theorem qvA(hΓ:Tys P Γ){t:TypeId}{x:Operand}{r:VR}(h:qtu Γ st t x=some r):VOk P w0 M N st (.load t x) rty r:=by
 unfold qtu at h;split at h
 ·cases h
 ·rename_i i hl;obtain⟨hi,rfl⟩:=qao hΓ hl;split at h
  ·rename_i b o hx;split at h
   ·cases h
   ·rename_i tyb k hv;cases ha:qbW i.desc with
    | true=>
     rw[ha] at h; simp only[zb] at h;cases hb:Nat.ble (o+i.size) k with
     | false=>rw[hb] at h; cases h
     | true=>
      rw[hb] at h; cases h
      have hle:=zJ hb;intro st' hag F U a w hr dst pos af gd;have hxd:=hr.evx hag (fun _ h=>mem_l h) (x:=x)
      have hv':st'.v b=some (tyb,k):=by rw[<-hv]; exact(hag (.v b) (by simp)).symm
      have hc':∀j,j<i.size->st.c b (o+j)=st'.c b (o+j):=fun j hj=>hag (.c b (o+j)) (mem_r (zV _ (qhp hj)))
      rw[hx] at hxd;generalize he:a.eval x=u at hxd;cases hxd with
      | ptr hρ=>
       rename_i g;have hall:∀j,j<i.size->∃u,w.cell? ⟨g,o+j,none⟩=some u/\Den P F w U (st.c b (o+j)) u/\u.oneCell'=true:=by
        intro j hj;rw[hc' j hj]; exact qrm hr.mem hv' hρ (by omega)
       let vs:List Value:=(List.range i.size).map fun j=>(w.cell? ⟨g,o+j,none⟩).getD undef
       have hvl:vs.length=i.size:=by simp[vs]
       have hvs:∀j u,vs[j]? = some u->j<i.size/\w.cell? ⟨g,o+j,none⟩=some u:=by
        intro j u hj;have hjm:j<i.size:=by rw[<-hvl]; exact(zp.1 hj).1
        obtain⟨v',hc,_⟩:=hall j hjm;refine⟨hjm,?_⟩
        simp[vs,hjm] at hj;rw[hc] at hj ⊢; simpa using hj
       refine⟨.agg vs.toArray,?_,.agg (by rw[hvl,qel]) (fun j s v hs hv=>?_) (fun u hu=>?_)⟩
       ·have hrn:=run_loadAgg' (w:=w) hi ha (ad:=⟨g,o,none⟩) (cs:=vs) hvl (fun j v hj=>by rw[zo1]; exact(hvs j v hj).2)
        simp[execOp,he,Instr.loadAt,Instr.sureAddr,hrn]
       ·obtain⟨hjm,hc⟩:=hvs j v hv;obtain⟨v',hcc,hv',_⟩:=hall j hjm;rw[hc] at hcc; cases hcc
        rw[qfI hjm] at hs; cases hs
        exact hv'
       ·obtain⟨j,hj⟩:=zq1 hu;obtain⟨hjm,hc⟩:=hvs j u hj;obtain⟨v',hcc,_,h1⟩:=hall j hjm;rw[hc] at hcc; cases hcc; exact h1
    | false=>
     rw[ha] at h; simp only[zc] at h;cases hb:Nat.blt o k with
     | false=>rw[hb] at h; cases h
     | true=>
      rw[hb] at h; cases h
      have hlt:o<k:=by rw[zS] at hb; exact hb
      intro st' hag F U a w hr dst pos af gd;have hxd:=hr.evx hag (fun _ h=>mem_l h) (x:=x)
      have hv':st'.v b=some (tyb,k):=by rw[<-hv]; exact(hag (.v b) (by simp)).symm
      have hc':st.c b o=st'.c b o:=hag (.c b o) (by simp)
      rw[hx] at hxd;generalize he:a.eval x=u at hxd;cases hxd with
      | ptr hρ=>
       obtain⟨v,hc,hd,_⟩:=qrm hr.mem hv' hρ hlt;exact⟨v,by simp[execOp,he,Instr.loadAt,Instr.sureAddr,qvy hi ha hc],by show Den P F w U (st.c b o) v; rw[hc']; exact hd⟩
  ·rename_i T y o hx;cases hcond:(qbW i.desc==i.T.agg)&&Nat.beq i.size i.T.size with
   | false=>rw[hcond] at h; cases h
   | true=>
    rw[hcond] at h; simp only[zb] at h;rw[z8] at hcond;have ha:qbW i.desc=i.T.agg:=by simpa using hcond.1
    have hs:=zd hcond.2;split at h
    ·rename_i z hz;cases h
     intro st' hag F U a w hr dst pos af gd;have hxd:=hr.evx hag (fun _ h=>h) (x:=x)
     rw[hx] at hxd;generalize he:a.eval x=u at hxd;cases hxd with
     | sel h1 h2 h3=>
      rename_i es ad;obtain⟨a1,a2⟩:=qlK hz h2;obtain⟨u,b1,b2⟩:=qoQ (U:=U) hi ha hs (ad:=ad.add o) a1 (fun j u hj=>by
       rw[zr] at hj;split at hj
       ·rw[zE] at hj; rw[qon]; exact h3 _ _ hj
       ·cases hj)
      exact⟨u,by simp[execOp,he,Instr.loadAt,Instr.sureAddr,b1],b2⟩
    ·cases h
  ·rename_i b k ix o hx;split at h
   ·rename_i tya e l hA;cases hcond:(qbW i.desc==i.T.agg)&&Nat.beq i.size i.T.size&&Nat.beq k e.size with
    | false=>rw[hcond] at h; cases h
    | true=>
     rw[hcond] at h; simp only[zb] at h;rw[z8,z8] at hcond;have ha:qbW i.desc=i.T.agg:=by simpa using hcond.1.1
     have hs:=zd hcond.1.2;have hk:=zd hcond.2;subst hk;split at h
     ·rename_i z hz;cases h
      intro st' hag F U a w hr dst pos af gd;have hxd:=hr.evx hag (fun _ h=>mem_l h) (x:=x)
      have hA':st'.a b=some (.arr tya e l):=by rw[<-hA]; exact(hag (.a b) (by simp)).symm
      rw[hx] at hxd;generalize he:a.eval x=u at hxd;cases hxd with
      | ael hρ hin=>
       rename_i g n cap;obtain⟨_,es,c1,c2⟩:=qDA hr.mem hA' hρ hin;obtain⟨a1,a2⟩:=qlK hz c1;obtain⟨u,b1,b2⟩:=qoQ (U:=U) hi ha hs (ad:=⟨g,ix*e.size+o,none⟩) a1 (fun j u hj=>by
        rw[zr] at hj;split at hj
        ·rw[zE] at hj; rw[zo1,Nat.add_assoc]; exact c2 _ _ hj
        ·cases hj)
       exact⟨u,by simp[execOp,he,Instr.loadAt,Instr.sureAddr,b1],b2⟩
     ·cases h
   ·cases h
  ·rename_i b n k ix o hx;split at h
   ·rename_i tyb kv hv;cases hcond:(qbW i.desc==i.T.agg)&&Nat.beq i.size i.T.size&&Nat.ble (o+n*k) kv&&Nat.ble i.size k with
    | false=>rw[hcond] at h; cases h
    | true=>
     rw[hcond] at h; simp only[zb] at h;rw[z8,z8,z8] at hcond;have ha:qbW i.desc=i.T.agg:=by simpa using hcond.1.1.1
     have hs:=zd hcond.1.1.2;have hle:=zJ hcond.1.2;have hsk:=zJ hcond.2;split at h
     ·rename_i l hp;cases h
      intro st' hag F U a w hr dst pos af gd;have hxd:=hr.evx hag (fun _ h=>mem_l h) (x:=x)
      have hv':st'.v b=some (tyb,kv):=by rw[<-hv]; exact(hag (.v b) (by simp)).symm
      have hc':∀j,j<n*k->st.c b (o+j)=st'.c b (o+j):=fun j hj=>hag (.c b (o+j)) (mem_r (zV _ (qhp hj)))
      rw[hx] at hxd;generalize he:a.eval x=u at hxd;cases hxd with
      | pel hρ hin=>
       rename_i g;obtain⟨p1,p2⟩:=qt0 hp;have hmul:ix*k+k<=n*k:=by rw[<-ze2]; exact zD k hin
       have hda:datAt st' b i.T.size i.T (o+ix*k)=some (l.getD ix i.T.dflt):=by
        have h3:=p2 ix hin;rw[hs] at h3;rw[<-h3];unfold datAt;have e1:qbw st' b (o+ix*k) i.T.size=qbw st b (o+ix*k) i.T.size:=by
         apply zR1;intro q;by_cases hq:q<i.T.size
         ·rw[qfI hq,qfI hq,show o+ix*k+q=o+(ix*k+q) by omega,hc' _ (by omega)]
         ·rw[zy1 (by rw[qel]; omega),zy1 (by rw[qel]; omega)]
        rw[e1];cases hg:i.T.agg with
        | true=>rfl
        | false=>
         have h1:i.T.size=1:=by revert hg; cases i.T <;> intro hg <;> first | rfl | cases hg
         simp only[zc];rw[hc' (ix*k) (by omega)]
       obtain⟨es,c1,c2⟩:=qwE hr.mem hv' hρ hda (by omega)
       obtain⟨u,b1,b2⟩:=qoQ (U:=U) hi ha hs (ad:=⟨g,o+ix*k,none⟩) c1 (fun j u hj=>by rw[zo1]; exact c2 j u hj)
       exact⟨u,by simp[execOp,he,Instr.loadAt,Instr.sureAddr,b1],b2⟩
     ·cases h
   ·cases h
  ·rename_i b k ix o n m hx;split at h
   ·rename_i tya e l hA;cases hcond:(qbW i.desc==i.T.agg)&&Nat.beq i.size i.T.size&&Nat.beq k e.size&&Nat.beq i.size 1 with
    | false=>rw[hcond] at h; cases h
    | true=>
     rw[hcond] at h; simp only[zb] at h;rw[z8,z8,z8] at hcond;have ha:qbW i.desc=i.T.agg:=by simpa using hcond.1.1.1
     have hs:=zd hcond.1.1.2;have hk:=zd hcond.1.2;have h1s:=zd hcond.2;subst hk;split at h
     ·rename_i z hz;cases h
      intro st' hag F U a w hr dst pos af gd;have hxd:=hr.evx hag (fun _ h=>mem_l h) (x:=x)
      have hA':st'.a b=some (.arr tya e l):=by rw[<-hA]; exact(hag (.a b) (by simp)).symm
      rw[hx] at hxd;generalize he:a.eval x=u at hxd;cases hxd with
      | aix hρ hin hm=>
       rename_i g n' cap;obtain⟨_,es,c1,c2⟩:=qDA hr.mem hA' hρ hin;obtain⟨a1,a2⟩:=qlK hz c1;have hτ1:i.T.size=1:=by omega
       obtain⟨g1,_⟩:=RdAr.get (fun _ _ h=>RdC.size h) i.T.dflt a1 hm
       have hsz:(Ty.arr n i.T).size=n:=by show n*i.T.size=n; rw[hτ1,zt2]
       obtain⟨u,b1,b2⟩:=qoQ (U:=U) hi ha hs (ad:=⟨g,ix*e.size+(o+m),none⟩) g1 (fun j u hj=>by
        rw[zr] at hj;split at hj
        ·rw[zE,zr] at hj;split at hj
         ·rw[zE] at hj;rw[zo1];have:=c2 _ _ hj;rw[hτ1,zt2] at this;rw[show ix*e.size+(o+m)+j=ix*e.size+(o+(m+j)) by omega]; exact this
         ·cases hj
        ·cases hj)
       exact⟨u,by simp[execOp,he,Instr.loadAt,Instr.sureAddr,b1],b2⟩
     ·cases h
   ·cases h
  ·cases h
/-! ### Addresses -/
def evNil(st:St)(x:Operand):Option VR:=
 match st.ev x with
 | .ptr b o=>some ⟨true,qaa x,.ptr b o⟩
 | .ael b k i o=>some ⟨true,qaa x,.ael b k i o⟩
 | .pel b n k i o=>some ⟨true,qaa x,.pel b n k i o⟩
 | .aix b k i o n m=>some ⟨true,qaa x,.aix b k i o n m⟩
 | .sel T y o=>some ⟨true,qaa x,.sel T y o⟩
 | _=>none
theorem qCb{x:Operand}{r:VR}(h:evNil st x=some r):VOk P w0 M N st (.nilCheck x) rty r:=by
 unfold evNil at h;split at h
 all_goals first | (cases h; done) | skip
 all_goals
  rename_i hx;cases h
  intro st' hag F U a w hr dst pos af gd;have hxd:=hr.evx hag (fun _ h=>h) (x:=x)
  rw[hx] at hxd;generalize he:a.eval x=u at hxd;refine⟨u,?_,hxd⟩
  cases hxd <;> simp[execOp,he]
def qqh(Γ:List TI)(t n:Nat):Option (Nat×TI):=
 match look Γ t with
 | some i=>match i.desc with
  | .struct fs=>match fs[n]? with
   | some f=>match look Γ f.type with
    | some j=>bif Nat.blt 0 j.size then some (f.offset,j) else none
    | none=>none
   | none=>none
  | _=>none
 | none=>none
theorem qkz(hΓ:Tys P Γ){t n off:Nat}{j:TI}(h:qqh Γ t n=some (off,j)){w:World}{a:Addr}:(Instr.fieldAt t (.pointer (some a)) n).run P w=.ok (.pointer (some (a.add off))) w:=by
 unfold qqh at h;split at h
 ·rename_i i hl;obtain⟨hi,rfl⟩:=qao hΓ hl;split at h
  ·rename_i fs hd;split at h
   ·rename_i f hf;split at h
    ·rename_i j' hl2;obtain⟨hj,hj2⟩:=qao hΓ hl2;cases hb:Nat.blt 0 j'.size with
     | false=>rw[hb] at h; cases h
     | true=>
      rw[hb] at h; injection h with h; injection h with e1 e2; subst e1 e2
      exact run_fieldAt' hi hd hf hj hj2 (by rw[zS] at hb; exact hb)
    ·cases h
   ·cases h
  ·cases h
 ·cases h
def qt1(Γ:List TI)(st:St)(t:TypeId)(x:Operand)(n:Nat):Option VR:=
 match qqh Γ t n with
 | some (off,_)=>match st.ev x with
  | .ptr b o=>some ⟨true,qaa x,.ptr b (o+off)⟩
  | .ael b k i o=>some ⟨true,qaa x,.ael b k i (o+off)⟩
  | .sel T y o=>some ⟨true,qaa x,.sel T y (o+off)⟩
  | .pel b n k i o=>some ⟨true,qaa x,.pel b n k i (o+off)⟩
  | _=>none
 | none=>none
theorem qwF(hΓ:Tys P Γ){t:TypeId}{x:Operand}{n:Nat}{r:VR}(h:qt1 Γ st t x n=some r):VOk P w0 M N st (.fieldAddr t x n) rty r:=by
 unfold qt1 at h;split at h
 ·rename_i off j hf;split at h
  all_goals first | (cases h; done) | skip
  all_goals
   rename_i hx;cases h
   intro st' hag F U a w hr dst pos af gd;have hxd:=hr.evx hag (fun _ h=>h) (x:=x)
   rw[hx] at hxd;generalize he:a.eval x=u at hxd
  ·cases hxd with
   | ptr hρ=>exact⟨_,by simp only[execOp,he,zl,qkz hΓ hf,zh,zn,zo1],.ptr hρ⟩
  ·cases hxd with
   | ael hρ hi=>exact⟨_,by simp only[execOp,he,zl,qkz hΓ hf,zh,zn,zo1,Nat.add_assoc],.ael hρ hi⟩
  ·cases hxd with
   | sel h1 h2 h3=>exact⟨_,by simp only[execOp,he,zl,qkz hΓ hf,zh,zn,qon],.sel h1 h2 h3⟩
  ·cases hxd with
   | pel hρ hi=>rename_i bb nn kk ii oo g; exact⟨_,by simp only[execOp,he,zl,qkz hΓ hf,zh,zn,zo1]; rfl,by rw[show oo+ii*kk+off=oo+off+ii*kk by omega]; exact .pel hρ hi⟩
 ·cases h
def inB(i:Int)(n:Nat):Bool:=decide (0<=i)&&decide (i<n)
def qrn(Γ:List TI)(st:St)(t:TypeId)(x ix:Operand):Option VR:=
 match look Γ t,(st.ev ix).int? with
 | some i,some (_,m)=>match i.desc with
  | .slice e=>match look Γ e with
   | some j=>match st.ev x with
    | .v (.sl e') l=>bif Nat.beq j.size e'.size then some ⟨inB m (List.length (α:=e'.den) l),qaa x++qaa ix,.sel e' (List.getD (α:=e'.den) l m.toNat e'.dflt) 0⟩ else none
    | .cut e' l=>bif Nat.beq j.size e'.size then some ⟨inB m (List.length (α:=e'.den) l),qaa x++qaa ix,.sel e' (List.getD (α:=e'.den) l m.toNat e'.dflt) 0⟩ else none
    | .own b=>match st.a b with
     | some (.arr _ e' l)=>bif Nat.beq j.size e'.size then some ⟨inB m l.length,qaa x++(qaa ix++[.a b]),.ael b e'.size m.toNat 0⟩ else none
     | _=>none
    | _=>none
   | none=>none
  | .array n e=>match look Γ e with
   | some j=>match st.ev x with
    | .ptr b o=>some ⟨inB m n,qaa x++qaa ix,bif isK ix then .ptr b (o+m.toNat*j.size) else .pel b n j.size m.toNat o⟩
    | .ael b k i' o=>some ⟨inB m n,qaa x++qaa ix,bif isK ix || !Nat.beq j.size 1 then .ael b k i' (o+m.toNat*j.size) else .aix b k i' o n m.toNat⟩
    | .sel T y o=>some ⟨inB m n,qaa x++qaa ix,.sel T y (o+m.toNat*j.size)⟩
    | _=>none
   | none=>none
  | _=>none
 | _,_=>none
theorem qlL{i j:TI}{n:Nat}{e:TypeId}(hi:i.ok P)(hd:i.desc=.array n e)(hj:j.ok P)(hje:j.t=e){ad:Addr}{kd:IntKind}{m:Int}(h0:0<=m)(h1:m<n){w:World}:
  (Instr.indexAt i.t (.pointer (some ad)) (.int kd m)).run P w=.ok (.pointer (some (ad.add (m.toNat*j.size)))) w:=by
 have hu:=hi.und;rw[hd] at hu;have hs:=run_sizeOf' (w:=w) hj;rw[hje] at hs;simp[Instr.indexAt,asIntOf,Instr.sureAddr,zu hu,h0,h1,hs]
theorem run_indexAt'{i j:TI}{e:TypeId}(hi:i.ok P)(hd:i.desc=.slice e)(hj:j.ok P)(hje:j.t=e){ad:Addr}{n c:Nat}{kd:IntKind}{m:Int}(h0:0<=m)(h1:m<n){w:World}:
  (Instr.indexAt i.t (.slice (some ad) n c) (.int kd m)).run P w=.ok (.pointer (some (ad.add (m.toNat*j.size)))) w:=by
 have hu:=hi.und;rw[hd] at hu;have hs:=run_sizeOf' (w:=w) hj;rw[hje] at hs;simp[Instr.indexAt,asIntOf,zu hu,h0,h1,hs]
theorem qar{i:Int}{n:Nat}:inB i n=true↔0<=i/\i<n:=by simp[inB]
theorem qrF(hΓ:Tys P Γ){t:TypeId}{x ix:Operand}{r:VR}(h:qrn Γ st t x ix=some r)(hg:r.g=true):VOk P w0 M N st (.indexAddr t x ix) rty r:=by
 unfold qrn at h;split at h
 ·rename_i i k m hl hm;obtain⟨hi,rfl⟩:=qao hΓ hl;split at h
  ·rename_i e hd;split at h
   ·rename_i j hl2;obtain⟨hj,hje⟩:=qao hΓ hl2;split at h
    ·rename_i e' l hx;cases hb:Nat.beq j.size e'.size with
     | false=>rw[hb] at h; cases h
     | true=>
      rw[hb] at h; cases h
      have hs:=zd hb;obtain⟨g1,g2⟩:=qar.1 hg;intro st' hag F U a w hr dst pos af gd;have hxd:=hr.evx hag (fun _ h=>mem_l h) (x:=x)
      have hmd:=(hr.evx hag (fun _ h=>mem_r h) (x:=ix)).int hm
      rw[hx] at hxd;generalize he:a.eval x=u at hxd;cases hxd with
      | v hv=>
       obtain⟨cs,⟨ad,cap,rfl,h2⟩,rfl⟩:=hv;cases ad with
       | none=>simp only at h2; subst h2; simp at g2; omega
       | some ad=>
        obtain⟨h3,h4,h5,h6⟩:=h2;have hlt:m.toNat<List.length (α:=e'.den) l:=by omega
        obtain⟨es,h7,h8⟩:=h6 m.toNat _ (qtZ (d:=e'.dflt) hlt);refine⟨.pointer (some (ad.add (m.toNat*j.size))),?_,?_⟩
        ·have:=run_indexAt' (w:=w) hi hd hj hje (ad:=ad) (c:=cap) (kd:=k) g1 g2;simp only[execOp,he,hmd,mkV,Ty.agg,zc,zV1,zl,this,zh,zn]
        ·rw[hs];have:=Den.sel (P:=P) (U:=U) (o:=0) (F:=F) (w:=w) (ad:=ad.add (m.toNat*e'.size)) (by rw[qhn]; exact h3 (by omega)) h7 (fun j u hj=>by rw[qon]; exact h8 j u hj)
         rwa[add_zero'] at this
    ·rename_i e' l hx;cases hb:Nat.beq j.size e'.size with
     | false=>rw[hb] at h; cases h
     | true=>
      rw[hb] at h; cases h
      have hs:=zd hb;obtain⟨g1,g2⟩:=qar.1 hg;intro st' hag F U a w hr dst pos af gd;have hxd:=hr.evx hag (fun _ h=>mem_l h) (x:=x)
      have hmd:=(hr.evx hag (fun _ h=>mem_r h) (x:=ix)).int hm
      rw[hx] at hxd;replace hxd:=cut_v hxd;generalize he:a.eval x=u at hxd;cases hxd with
      | v hv=>
       obtain⟨cs,⟨ad,cap,rfl,h2⟩,rfl⟩:=hv;cases ad with
       | none=>simp only at h2; subst h2; simp at g2; omega
       | some ad=>
        obtain⟨h3,h4,h5,h6⟩:=h2;have hlt:m.toNat<List.length (α:=e'.den) l:=by omega
        obtain⟨es,h7,h8⟩:=h6 m.toNat _ (qtZ (d:=e'.dflt) hlt);refine⟨.pointer (some (ad.add (m.toNat*j.size))),?_,?_⟩
        ·have:=run_indexAt' (w:=w) hi hd hj hje (ad:=ad) (c:=cap) (kd:=k) g1 g2;simp only[execOp,he,hmd,mkV,Ty.agg,zc,zV1,zl,this,zh,zn]
        ·rw[hs];have:=Den.sel (P:=P) (U:=U) (o:=0) (F:=F) (w:=w) (ad:=ad.add (m.toNat*e'.size)) (by rw[qhn]; exact h3 (by omega)) h7 (fun j u hj=>by rw[qon]; exact h8 j u hj)
         rwa[add_zero'] at this
    ·rename_i b hx;split at h
     ·rename_i tya e' l hA;cases hb:Nat.beq j.size e'.size with
      | false=>rw[hb] at h; cases h
      | true=>
       rw[hb] at h; cases h
       have hs:=zd hb;obtain⟨g1,g2⟩:=qar.1 hg;intro st' hag F U a w hr dst pos af gd;have hxd:=hr.evx hag (fun _ h=>mem_l h) (x:=x)
       have hmd:=(hr.evx hag (fun _ h=>mem_r (mem_l h)) (x:=ix)).int hm
       have hA':st'.a b=some (.arr tya e' l):=by rw[<-hA]; exact(hag (.a b) (by simp)).symm
       rw[hx] at hxd;generalize he:a.eval x=u at hxd;cases hxd with
       | own hρ=>
        obtain⟨u',c1,xs,c2,c3⟩:=hr.mem.arr b _ hA';rw[hρ] at c1; cases c1
        rcases c2.2 with⟨_,_,hn⟩ | ⟨g,cap,cur,rfl,c4⟩
        ·omega
        ·refine⟨.pointer (some ⟨g,m.toNat*e'.size,none⟩),?_,?_⟩
         ·have:=run_indexAt' (w:=w) hi hd hj hje (ad:=⟨g,0,none⟩) (c:=cap+1) (kd:=k) g1 g2;rw[zo1,z11,hs] at this;simp only[execOp,he,hmd,zl,this,zh,zn]
         ·exact .ael hρ (by omega)
     ·cases h
    ·cases h
   ·cases h
  ·rename_i n e hd;split at h
   ·rename_i j hl2;obtain⟨hj,hje⟩:=qao hΓ hl2;split at h
    all_goals first | (cases h; done) | skip
    all_goals
     rename_i hx;cases h
     obtain⟨g1,g2⟩:=qar.1 hg;intro st' hag F U a w hr dst pos af gd;have hxd:=hr.evx hag (fun _ h=>mem_l h) (x:=x)
     have hmd:=(hr.evx hag (fun _ h=>mem_r h) (x:=ix)).int hm
     rw[hx] at hxd;generalize he:a.eval x=u at hxd
    ·cases hxd with
     | ptr hρ=>
      refine⟨_,by simp only[execOp,he,hmd,zl,qlL (w:=w) hi hd hj hje (kd:=k) g1 g2,zh,zn,zo1]; rfl,?_⟩
      cases isK ix with
      | true=>exact .ptr hρ
      | false=>exact .pel hρ (by omega)
    ·cases hxd with
     | ael hρ hi'=>
      refine⟨_,by simp only[execOp,he,hmd,zl,qlL (w:=w) hi hd hj hje (kd:=k) g1 g2,zh,zn,zo1,Nat.add_assoc]; rfl,?_⟩
      cases hK:isK ix || !Nat.beq j.size 1 with
      | true=>exact .ael hρ hi'
      | false=>
       rw[z22,Bool.not_eq_false'] at hK;have h1:=zd hK.2;rw[h1,zt2];exact .aix hρ hi' (by omega)
    ·cases hxd with
     | sel h1 h2 h3=>exact⟨_,by simp only[execOp,he,hmd,zl,qlL (w:=w) hi hd hj hje (kd:=k) g1 g2,zh,zn,qon],.sel h1 h2 h3⟩
   ·cases h
  ·cases h
 ·cases h
def qwG(Γ:List TI)(st:St)(t:TypeId)(x ix:Operand):Option VR:=
 match look Γ t with
 | some i=>match i.desc with
  | .string=>match(st.ev x).str?,(st.ev ix).int? with
   | some l,some (_,m)=>some ⟨inB m l.length,qaa x++qaa ix,.v (.int .u8) (Int.ofNat (l.getD m.toNat 0).toNat)⟩
   | _,_=>none
  | _=>none
 | none=>none
theorem qyT(hΓ:Tys P Γ){t:TypeId}{x ix:Operand}{r:VR}(h:qwG Γ st t x ix=some r)(hg:r.g=true):VOk P w0 M N st (.index t x ix) rty r:=by
 unfold qwG at h;split at h
 ·rename_i i hl;obtain⟨hi,rfl⟩:=qao hΓ hl;have hu:=hi.und;split at h
  ·rename_i hd;rw[hd] at hu;split at h
   ·rename_i l k m hx hm;cases h
    obtain⟨g1,g2⟩:=qar.1 hg;intro st' hag F U a w hr dst pos af gd;have hxd:=(hr.evx hag (fun _ h=>mem_l h) (x:=x)).str hx
    have hmd:=(hr.evx hag (fun _ h=>mem_r h) (x:=ix)).int hm
    have hlt:m.toNat<l.length:=by omega
    have hb:(⟨⟨l⟩⟩:ByteArray)[m.toNat]? = some (l.getD m.toNat 0):=by
     rw[zk,zj hlt,zn2];rw[getElem?_pos (⟨⟨l⟩⟩:ByteArray) m.toNat hlt]; rfl
    refine⟨.int .u8 (l.getD m.toNat 0).toNat,?_,.ofInt _ _⟩
    simp[execOp,hxd,hmd,Instr.index,asIntOf,zu hu,g1,hb]
   ·cases h
  ·cases h
 ·cases h
/-! ### Parts of values -/
def qrG(st:St)(x:Operand)(n:Nat):Option VR:=
 match st.ev x with
 | .tup ss=>match ss[n]? with
  | some s=>some ⟨true,qaa x,s⟩
  | none=>none
 | _=>none
theorem qvB{x:Operand}{n:Nat}{r:VR}(h:qrG st x n=some r):VOk P w0 M N st (.extract x n) rty r:=by
 unfold qrG at h;split at h
 ·rename_i ss hx;split at h
  ·rename_i s hs;cases h
   intro st' hag F U a w hr dst pos af gd;have hxd:=hr.evx hag (fun _ h=>h) (x:=x)
   rw[hx] at hxd;generalize he:a.eval x=u at hxd;cases hxd with
   | tup hl hi=>
    rename_i vs;have hlt:n<vs.length:=by rw[<-hl]; exact(zp.1 hs).1
    refine⟨vs[n],?_,hi n s _ hs (zj hlt)⟩
    simp[execOp,Instr.extract,he,hlt]
  ·cases h
 ·cases h
def qwH(Γ:List TI)(st:St)(t:TypeId)(x:Operand)(n:Nat):Option VR:=
 match qqh Γ t n with
 | some (off,j)=>match st.ev x with
  | .agg cs=>bif qbW j.desc then bif Nat.ble (off+j.size) cs.length then some ⟨true,qaa x,.agg ((cs.drop off).take j.size)⟩ else none
   else match cs[off]? with
    | some s=>some ⟨true,qaa x,s⟩
    | none=>none
  | .v T y=>bif (qbW j.desc==j.T.agg)&&Nat.beq j.size j.T.size&&T.agg then match sub T y off j.T with
    | some z=>some ⟨true,qaa x,.v j.T z⟩
    | none=>none
   else none
  | _=>none
 | none=>none
theorem qvC(hΓ:Tys P Γ){t n off:Nat}{j:TI}(h:qqh Γ t n=some (off,j)):j.ok P/\∃fs f,P.underlying t=some (.struct fs)/\fs[n]? = some f/\f.offset=off/\f.type=j.t:=by
 unfold qqh at h;split at h
 ·rename_i i hl;obtain⟨hi,rfl⟩:=qao hΓ hl;split at h
  ·rename_i fs hd;split at h
   ·rename_i f hf;split at h
    ·rename_i j' hl2;obtain⟨hj,hj2⟩:=qao hΓ hl2;cases hb:Nat.blt 0 j'.size with
     | false=>rw[hb] at h; cases h
     | true=>
      rw[hb] at h; injection h with h; injection h with e1 e2; subst e1 e2
      exact⟨hj,fs,f,by rw[hi.und,hd],hf,rfl,hj2.symm⟩
    ·cases h
   ·cases h
  ·cases h
 ·cases h
theorem qoR{j:TI}(hj:j.ok P){cs:Array Value}{off:Nat}{w:World}(u:Value)(h:bif qbW j.desc then u=.agg (cs.extract off (off+j.size)) else cs[off]? = some u):(part j.t cs off).run P w=.ok u w:=by
 have h1:=qrE (w:=w) hj;have h2:=run_sizeOf' (w:=w) hj;cases ha:qbW j.desc with
 | true=>rw[ha] at h h1; simp only[zb] at h; subst h; simp[part,h1,h2]
 | false=>rw[ha] at h h1; simp only[zc] at h; simp[part,h1,h]
theorem qyU(hΓ:Tys P Γ){t:TypeId}{x:Operand}{n:Nat}{r:VR}(h:qwH Γ st t x n=some r):VOk P w0 M N st (.field t x n) rty r:=by
 unfold qwH at h;split at h
 ·rename_i off j hf;obtain⟨hj,fs,f,hu,hfn,hoff,hft⟩:=qvC hΓ hf;have hrun:∀(w:World) (vs:Array Value) (u:Value),(part j.t vs off).run P w=.ok u w->(Instr.field t (.agg vs) n).run P w=.ok u w:=by
   intro w vs u hp;simp[Instr.field,zu hu,hfn,asAgg,hft,hoff,hp]
  split at h
  ·rename_i cs hx;cases ha:qbW j.desc with
   | true=>
    rw[ha] at h; simp only[zb] at h;cases hb:Nat.ble (off+j.size) cs.length with
    | false=>rw[hb] at h; cases h
    | true=>
     rw[hb] at h; cases h
     have hle:=zJ hb;intro st' hag F U a w hr dst pos af gd;have hxd:=hr.evx hag (fun _ h=>h) (x:=x)
     rw[hx] at hxd;generalize he:a.eval x=u at hxd;cases hxd with
     | agg hl hi h1=>
      rename_i vs;refine⟨.agg ((vs.drop off).take j.size).toArray,?_,.agg (by simp[hl]) (fun i s u hs hu=>?_) (fun u hu=>h1 u (zf2 (zD2 hu)))⟩
      ·have hp:=hrun w vs.toArray (.agg ((vs.drop off).take j.size).toArray) (qoR hj _ (by rw[ha]; simp only[zb]; congr 1; apply Array.ext'; simp))
       simp only[execOp,he,zl,hp,zh,zn]
      ·rw[zr] at hs hu;split at hs
       ·rename_i hlt;rw[if_pos hlt] at hu;rw[zE] at hs hu;exact hi _ s u hs hu
       ·cases hs
   | false=>
    rw[ha] at h; simp only[zc] at h;split at h
    ·rename_i s hs;cases h
     intro st' hag F U a w hr dst pos af gd;have hxd:=hr.evx hag (fun _ h=>h) (x:=x)
     rw[hx] at hxd;generalize he:a.eval x=u at hxd;cases hxd with
     | agg hl hi h1=>
      rename_i vs;have hlt:off<vs.length:=by rw[<-hl]; exact(zp.1 hs).1
      refine⟨vs[off],?_,hi off s _ hs (zj hlt)⟩
      have hp:=hrun w vs.toArray vs[off] (qoR hj _ (by rw[ha]; simp[hlt]))
      simp only[execOp,he,zl,hp,zh,zn]
    ·cases h
  ·rename_i T y hx;cases hcond:(qbW j.desc==j.T.agg)&&Nat.beq j.size j.T.size&&T.agg with
   | false=>rw[hcond] at h; cases h
   | true=>
    rw[hcond] at h; simp only[zb] at h;rw[z8,z8] at hcond;have ha:qbW j.desc=j.T.agg:=by simpa using hcond.1.1
    have hs:=zd hcond.1.2;split at h
    ·rename_i z hz;cases h
     intro st' hag F U a w hr dst pos af gd;have hxd:=hr.evx hag (fun _ h=>h) (x:=x)
     rw[hx] at hxd;generalize he:a.eval x=u at hxd;cases hxd with
     | v hv=>
      obtain⟨cs,h1,rfl⟩:=hv;obtain⟨a1,a2⟩:=qlK hz h1;have hmk:mkV T cs=.agg cs.toArray:=by unfold mkV; rw[hcond.2]; rfl
      refine⟨mkV j.T ((cs.drop off).take j.T.size),?_,.v ⟨_,a1,rfl⟩⟩
      have hp:=hrun w cs.toArray (mkV j.T ((cs.drop off).take j.T.size)) (qoR hj _ (by
       rw[ha];cases hg:j.T.agg with
       | true=>simp only[zb,mkV,hg]; congr 1; apply Array.ext'; simp[hs]
       | false=>
        have h1':j.T.size=1:=by revert hg; cases j.T <;> intro hg <;> first | rfl | cases hg
        rw[h1'] at a2 ⊢;simp only[zc,mkV,hg];have hlt:off<cs.length:=by omega
        rw[z51 hlt,List.take_succ_cons,zV1]; simp[hlt]))
      simp only[execOp,he,hmk,zl,hp,zh,zn]
    ·cases h
  ·cases h
 ·cases h
/-! ### Elements of an array that is a value -/
def arr2(e:Ty):Nat->Ty
 | 0=>e
 | n+1=>.pair e (arr2 e n)
def arrL(e:Ty):(n:Nat)->(arr2 e n).den->List e.den
 | 0,x=>[x]
 | n+1,x=>x.1::arrL e n x.2
theorem qvD{F:Nat->Prop}{w:World}{e:Ty}:∀ {n:Nat} {x:(arr2 e n).den} {cs:List Value},RdC F w (arr2 e n) x cs->cs.length=(n+1)*e.size/\(arrL e n x).length=n+1∧
  ∀i,i<n+1->RdC F w e ((arrL e n x).getD i e.dflt) ((cs.drop (i*e.size)).take e.size)
 | 0,x,cs,h=>by
  have hl:=RdC.size (T:=e) h;refine⟨by rw[hl]; simp,rfl,fun i hi=>?_⟩
  obtain rfl:i=0:=by omega
  rw[zx2,z92,zB (by omega)]
  exact h
 | n+1,x,cs,h=>by
  obtain⟨c1,c2,rfl,h1,h2⟩:=(show RdC F w (.pair e (arr2 e n)) x cs from h)
  have hl:=h1.size;obtain⟨k1,k2,k3⟩:=qvD h2;refine⟨by rw[ze,hl,k1,ze2 (n+1)]; omega,by simp[arrL,k2],fun i hi=>?_⟩
  cases i with
  | zero=>rw[zx2,z92,zl1 (by omega),zB (by omega)]; exact h1
  | succ i=>
   have:=k3 i (by omega)
   rw[show(i+1)*e.size=c1.length+i*e.size by rw[ze2,hl]; omega,<-zI1,List.drop_left]
   exact this
theorem qzU{F:Nat->Prop}{w:World}{j:TI}(hj:j.ok P)(ha:qbW j.desc=j.T.agg)(hs:j.size=j.T.size){y:j.T.den}{cs:List Value}{off:Nat}(h:RdC F w j.T y ((cs.drop off).take j.T.size)):
  (part j.t cs.toArray off).run P w=.ok (mkV j.T ((cs.drop off).take j.T.size)) w:=by
 have hlen:=h.size;refine qoR hj _ ?_
 rw[ha];unfold mkV;cases hg:j.T.agg with
 | true=>simp only[zb]; congr 1; apply Array.ext'; simp[hs]
 | false=>
  have h1:j.T.size=1:=by revert hg; cases j.T <;> intro hg <;> first | rfl | cases hg
  rw[h1] at hlen ⊢;simp only[zc];cases hc:cs.drop off with
  | nil=>rw[hc] at hlen; simp at hlen
  | cons c r=>
   have:cs[off]? = some c:=by
    have h2:(cs.drop off)[0]? = some c:=by rw[hc]; rfl
    rw[zE] at h2; simpa using h2
   simp[this]
def qt2(Γ:List TI)(st:St)(t:TypeId)(x ix:Operand):Option VR:=
 match look Γ t,(st.ev ix).int? with
 | some i,some (_,m)=>match i.desc with
  | .array (n+2) et=>match look Γ et with
   | some j=>match(st.ev x).dat (arr2 j.T (n+1)) with
    | some z=>bif (qbW j.desc==j.T.agg)&&Nat.beq j.size j.T.size then some ⟨inB m (n+2),qaa x++qaa ix,.v j.T (List.getD (arrL j.T (n+1) z) m.toNat j.T.dflt)⟩ else none
    | none=>none
   | none=>none
  | _=>none
 | _,_=>none
theorem qwI(hΓ:Tys P Γ){t:TypeId}{x ix:Operand}{r:VR}(h:qt2 Γ st t x ix=some r)(hg:r.g=true):VOk P w0 M N st (.index t x ix) rty r:=by
 unfold qt2 at h;split at h
 ·rename_i i k m hl hm;obtain⟨hi,rfl⟩:=qao hΓ hl;have hu:=hi.und;split at h
  ·rename_i n et hd;rw[hd] at hu;split at h
   ·rename_i j hl2;obtain⟨hj,hje⟩:=qao hΓ hl2;split at h
    ·rename_i z hz;cases hcond:(qbW j.desc==j.T.agg)&&Nat.beq j.size j.T.size with
     | false=>rw[hcond] at h; cases h
     | true=>
      rw[hcond] at h; cases h
      rw[z8] at hcond;have ha:qbW j.desc=j.T.agg:=by simpa using hcond.1
      have hs:=zd hcond.2;obtain⟨g1,g2⟩:=qar.1 hg;intro st' hag F U a w hr dst pos af gd;have hxd:=qda hz (hr.evx hag (fun _ h=>mem_l h) (x:=x))
      have hmd:=(hr.evx hag (fun _ h=>mem_r h) (x:=ix)).int hm
      obtain⟨cs,h1,h2⟩:=hxd;have h2':a.eval x=.agg cs.toArray:=h2;obtain⟨_,_,k3⟩:=qvD h1;have hk:=k3 m.toNat (by omega)
      have hp:=qzU hj ha hs hk;refine⟨_,?_,.v ⟨_,hk,rfl⟩⟩
      have hsz:=run_sizeOf' (w:=w) hj;rw[hje] at hsz hp;have hp':(part et cs.toArray (m.toNat*j.size)).run P w=.ok (mkV j.T ((cs.drop (m.toNat*j.T.size)).take j.T.size)) w:=by rw[hs]; exact hp
      have hrun:(Instr.index i.t (.agg cs.toArray) (.int k m)).run P w=.ok (mkV j.T ((cs.drop (m.toNat*j.T.size)).take j.T.size)) w:=by
       simp only[Instr.index,asIntOf,zl,zn,zh,zu hu];have hc:0<=m/\m<((n+2:Nat):Int):=⟨g1,g2⟩;rw[if_pos hc];simp only[zl,hsz,zh,hp']
      simp only[execOp,h2',hmd,zl,hrun,zh,zn]
    ·cases h
   ·cases h
  ·cases h
 ·cases h
def qt3(Γ:List TI)(st:St)(t:TypeId)(x ix:Operand):Option VR:=
 match look Γ t,(st.ev ix).int? with
 | some i,some (_,m)=>match i.desc with
  | .array n et=>match look Γ et with
   | some j=>match(st.ev x).dat (.arr n j.T) with
    | some z=>bif (qbW j.desc==j.T.agg)&&Nat.beq j.size j.T.size then some ⟨inB m n,qaa x++qaa ix,.v j.T (List.getD (α:=j.T.den) z m.toNat j.T.dflt)⟩ else none
    | none=>none
   | none=>none
  | _=>none
 | _,_=>none
theorem qwJ(hΓ:Tys P Γ){t:TypeId}{x ix:Operand}{r:VR}(h:qt3 Γ st t x ix=some r)(hg:r.g=true):VOk P w0 M N st (.index t x ix) rty r:=by
 unfold qt3 at h;split at h
 ·rename_i i k m hl hm;obtain⟨hi,rfl⟩:=qao hΓ hl;have hu:=hi.und;split at h
  ·rename_i n et hd;rw[hd] at hu;split at h
   ·rename_i j hl2;obtain⟨hj,hje⟩:=qao hΓ hl2;split at h
    ·rename_i z hz;cases hcond:(qbW j.desc==j.T.agg)&&Nat.beq j.size j.T.size with
     | false=>rw[hcond] at h; cases h
     | true=>
      rw[hcond] at h; cases h
      rw[z8] at hcond;have ha:qbW j.desc=j.T.agg:=by simpa using hcond.1
      have hs:=zd hcond.2;obtain⟨g1,g2⟩:=qar.1 hg;intro st' hag F U a w hr dst pos af gd;have hxd:=qda hz (hr.evx hag (fun _ h=>mem_l h) (x:=x))
      have hmd:=(hr.evx hag (fun _ h=>mem_r h) (x:=ix)).int hm
      obtain⟨cs,h1,h2⟩:=hxd;have h2':a.eval x=.agg cs.toArray:=h2;obtain⟨hk,_⟩:=RdAr.get (fun _ _ h=>RdC.size h) j.T.dflt h1 (show m.toNat<n by omega)
      have hcs:=(RdAr.size (fun _ _ h=>RdC.size h) h1).1
      have hfit:m.toNat*j.T.size+j.T.size<=cs.length:=by
       rw[hcs,<-ze2]; exact zD _ (show m.toNat+1<=n by omega)
      have hp:=qzU hj ha hs hk;refine⟨_,?_,.v ⟨_,hk,rfl⟩⟩
      have hsz:=run_sizeOf' (w:=w) hj;rw[hje] at hsz hp;have hp':(part et cs.toArray (m.toNat*j.size)).run P w=.ok (mkV j.T ((cs.drop (m.toNat*j.T.size)).take j.T.size)) w:=by rw[hs]; exact hp
      have hrun:(Instr.index i.t (.agg cs.toArray) (.int k m)).run P w=.ok (mkV j.T ((cs.drop (m.toNat*j.T.size)).take j.T.size)) w:=by
       simp only[Instr.index,asIntOf,zl,zn,zh,zu hu];have hc:0<=m/\m<(n:Int):=⟨g1,g2⟩;rw[if_pos hc];simp only[zl,hsz,zh,hp']
      simp only[execOp,h2',hmd,zl,hrun,zh,zn]
    ·cases h
   ·cases h
  ·cases h
 ·cases h
def qt4(Γ:List TI)(st:St)(t:TypeId)(x ix:Operand):Option VR:=
 match qwG Γ st t x ix with
 | some r=>some r
 | none=>match qt2 Γ st t x ix with
  | some r=>some r
  | none=>qt3 Γ st t x ix
theorem qwK(hΓ:Tys P Γ){t:TypeId}{x ix:Operand}{r:VR}(h:qt4 Γ st t x ix=some r)(hg:r.g=true):VOk P w0 M N st (.index t x ix) rty r:=by
 unfold qt4 at h;split at h
 ·rename_i r' hr; cases h; exact qyT hΓ hr hg
 ·split at h
  ·rename_i r' hr; cases h; exact qwI hΓ hr hg
  ·exact qwJ hΓ h hg
end
def inR(lo hi:Int)(n:Nat):Bool:=decide (0<=lo)&&decide (lo<=hi)&&decide (hi<=n)
def cutG(lo hi:Option (IntKind×Int))(n:Nat):Bool:=
 match lo,hi with
 | none,none=>true
 | none,some (_,h)=>decide (0<=h)&&decide (h<=n)
 | some (_,l),none=>decide (0<=l)&&decide (l<=n)
 | some (_,l),some (_,h)=>inR l h n
def cutL{α:Type}(lo hi:Option (IntKind×Int))(x:List α):List α:=
 match lo,hi with
 | none,none=>x
 | none,some (_,h)=>x.take h.toNat
 | some (_,l),none=>x.drop l.toNat
 | some (_,l),some (_,h)=>(x.take h.toNat).drop l.toNat
def bdLo(lo:Option (IntKind×Int)):Nat:=match lo with | none=>0 | some (_,l)=>l.toNat
def bdHi(hi:Option (IntKind×Int))(n:Nat):Nat:=match hi with | none=>n | some (_,h)=>h.toNat
theorem qro{α:Type}{lo hi:Option (IntKind×Int)}{x:List α}(h:cutG lo hi x.length=true):
  bdLo lo<=bdHi hi x.length/\bdHi hi x.length<=x.length/\(∀k l,lo=some (k,l)->0<=l)/\(∀k l,hi=some (k,l)->0<=l)/\cutL lo hi x=(x.take (bdHi hi x.length)).drop (bdLo lo):=by
 cases lo with
 | none=>
  cases hi with
  | none=>refine⟨zN _,zP _,(fun _ _ h=>by cases h),(fun _ _ h=>by cases h),?_⟩; simp[cutL,bdHi,bdLo]
  | some b=>
   obtain⟨k,h'⟩:=b;simp only[cutG,z8,zi] at h;refine⟨zN _,by simp only[bdHi]; omega,(fun _ _ h=>by cases h),(fun _ _ e=>by injection e with e; injection e with _ e; subst e; exact h.1),?_⟩; simp[cutL,bdHi,bdLo]
 | some a=>
  obtain⟨k,l⟩:=a;cases hi with
  | none=>
   simp only[cutG,z8,zi] at h;refine⟨by simp only[bdHi,bdLo]; omega,zP _,(fun _ _ e=>by injection e with e; injection e with _ e; subst e; exact h.1),(fun _ _ h=>by cases h),?_⟩; simp[cutL,bdHi,bdLo]
  | some b=>
   obtain⟨k',h'⟩:=b;simp only[cutG,inR,z8,zi] at h;refine⟨by simp only[bdHi,bdLo]; omega,by simp only[bdHi]; omega,(fun _ _ e=>by injection e with e; injection e with _ e; subst e; exact h.1.1),(fun _ _ e=>by injection e with e; injection e with _ e; subst e; omega),rfl⟩
def valOf(b:Option (IntKind×Int)):Option Value:=b.map fun x=>.int x.1 x.2
section
variable {P:Program} {w:World}
theorem qiq{isS:Bool}{n c:Nat}{lo hi:Option (IntKind×Int)}(h1:bdLo lo<=bdHi hi n)(h2:bdHi hi n<=c)(h3:∀k l,lo=some (k,l)->0<=l)(h4:∀k l,hi=some (k,l)->0<=l):
  (Instr.sliceBounds isS n c (valOf lo) (valOf hi) none).run P w=.ok (bdLo lo,bdHi hi n,c) w:=by
 have hb:∀(k:IntKind) (i:Int) (y:Nat) (code:BoundsCode),0<=i->i<=y->(Instr.sliceBound (.int k i) y code).run P w=.ok i.toNat w:=by
  intro k i y code h h';simp[Instr.sliceBound,asIntOf,h,h']
 cases lo with
 | none=>
  cases hi with
  | none=>simp[Instr.sliceBounds,valOf,bdLo,bdHi]
  | some b=>
   obtain⟨k,h'⟩:=b;have e:=hb k h' c (if isS=true then .sliceAcap else .sliceAlen) (h4 k h' rfl) (by simp only[bdHi] at h2; omega)
   simp[Instr.sliceBounds,valOf,bdLo,bdHi,e]
 | some a=>
  obtain⟨k,l⟩:=a;cases hi with
  | none=>
   have e:=hb k l n .sliceB (h3 k l rfl) (by simp only[bdLo,bdHi] at h1; have:=h3 k l rfl; omega)
   simp[Instr.sliceBounds,valOf,bdLo,bdHi,e]
  | some b=>
   obtain⟨k',h'⟩:=b;have e:=hb k' h' c (if isS=true then .sliceAcap else .sliceAlen) (h4 k' h' rfl) (by simp only[bdHi] at h2; omega)
   have e2:=hb k l h'.toNat .sliceB (h3 k l rfl) (by simp only[bdLo,bdHi] at h1; have:=h3 k l rfl; omega)
   simp[Instr.sliceBounds,valOf,bdLo,bdHi,e,e2]
theorem qrH{n c:Nat}{lo:Option (IntKind×Int)}{k k':IntKind}{h:Int}(h0:0<=h)(h1:bdLo lo<=h.toNat)(h2:h.toNat<=c)(h3:∀k l,lo=some (k,l)->0<=l):
  (Instr.sliceBounds true n c (valOf lo) (some (.int k h)) (some (.int k' h))).run P w=.ok (bdLo lo,h.toNat,h.toNat) w:=by
 have hb:∀(k:IntKind) (i:Int) (y:Nat) (code:BoundsCode),0<=i->i<=y->(Instr.sliceBound (.int k i) y code).run P w=.ok i.toNat w:=by
  intro k i y code h h';simp[Instr.sliceBound,asIntOf,h,h']
 have e1:=hb k' h c .slice3Acap h0 (by omega)
 have e2:=hb k h h.toNat .slice3B h0 (by omega)
 cases lo with
 | none=>simp[Instr.sliceBounds,valOf,bdLo,e1,e2]
 | some a=>
  obtain⟨q,l⟩:=a;have e3:=hb q l h.toNat .slice3C (h3 q l rfl) (by simp only[bdLo] at h1; have:=h3 q l rfl; omega)
  simp[Instr.sliceBounds,valOf,bdLo,e1,e2,e3]
end
def bd(st:St):Option Operand->Option (Option (IntKind×Int))
 | none=>some none
 | some x=>match(st.ev x).int? with
  | some b=>some (some b)
  | none=>none
def qlM:Option Operand->List Key
 | none=>[]
 | some x=>qaa x
section
variable {P:Program} {w0:World} {M:Mod} {N:Nat} {st:St} {Γ:List TI} {rty:TypeId}
theorem qrI{st':St}{rd:List Key}{F:Nat->Prop}{w:World}{U:Env}{a:Act}(hr:Rel' P w0 M N F U st' a w)(hag:∀κ∈rd,agree st st' κ){x:Option Operand}{b:Option (IntKind×Int)}
  (h:bd st x=some b) (hx:∀κ∈qlM x,κ∈rd):x.map a.eval=valOf b:=by
 cases x with
 | none=>simp only[bd] at h; cases h; rfl
 | some x=>
  simp only[bd] at h;split at h
  ·rename_i b' hb;cases h
   obtain⟨k,n⟩:=b';have:=(hr.evx hag hx (x:=x)).int hb;simp[valOf,this]
  ·cases h
def qgE(Γ:List TI)(t:TypeId)(k:Nat):Bool:=
 match look Γ t with
 | some i=>match i.desc with
  | .slice e=>match look Γ e with
   | some j=>Nat.beq j.size k
   | none=>false
  | _=>false
 | none=>false
theorem qem(hΓ:Tys P Γ){t:TypeId}{k:Nat}(h:qgE Γ t k=true):∃e,P.underlying t=some (.slice e)/\∀w:World,(sizeOf e).run P w=.ok k w:=by
 unfold qgE at h;split at h
 ·rename_i i hl;obtain⟨hi,rfl⟩:=qao hΓ hl;split at h
  ·rename_i e hd;split at h
   ·rename_i j hl2;obtain⟨hj,rfl⟩:=qao hΓ hl2;exact⟨_,by rw[hi.und,hd],fun w=>by rw[run_sizeOf' hj,zd h]⟩
   ·cases h
  ·cases h
 ·cases h
def isStr(Γ:List TI)(t:TypeId):Bool:=
 match look Γ t with
 | some i=>match i.desc with
  | .string=>true
  | _=>false
 | none=>false
theorem qtv(hΓ:Tys P Γ){t:TypeId}(h:isStr Γ t=true):P.underlying t=some .string:=by
 unfold isStr at h;split at h
 ·rename_i i hl;obtain⟨hi,rfl⟩:=qao hΓ hl;split at h
  ·rename_i hd; rw[hi.und,hd]
  ·cases h
 ·cases h
def qwL(Γ:List TI)(st:St)(t:TypeId)(x:Operand)(lo hi:Option Operand):Option VR:=
 match bd st lo,bd st hi with
 | some l,some h=>match st.ev x with
  | .v (.sl e) y=>bif qgE Γ t e.size then some ⟨cutG l h (List.length (α:=e.den) y),qaa x++(qlM lo++qlM hi),.v (.sl e) (cutL (α:=e.den) l h y)⟩ else none
  | .cut e y=>match h with
   | none=>bif qgE Γ t e.size then some ⟨cutG l none (List.length (α:=e.den) y),qaa x++(qlM lo++qlM hi),.cut e (cutL (α:=e.den) l none y)⟩ else none
   | some _=>none
  | .v .str y=>bif isStr Γ t then some ⟨cutG l h (List.length (α:=UInt8) y),qaa x++(qlM lo++qlM hi),.v .str (cutL (α:=UInt8) l h y)⟩ else none
  | _=>none
 | _,_=>none
theorem qyV(l:List UInt8)(a b:Nat):(⟨⟨l⟩⟩:ByteArray).extract a b=⟨⟨(l.take b).drop a⟩⟩:=by
 apply ByteArray.ext;rw[ByteArray.data_extract];apply Array.ext';simp[zY1]
theorem qzV{F:Nat->Prop}{e:Ty}{x:List e.den}{ad:Addr}{cap L H:Nat}{w:World}(h1:0<cap->F ad.block)(h2:x.length<=cap)(h3:cap<=maxLen)
  (h4:∀(i:Nat) (y:e.den),x[i]? = some y->∃es,RdC F w e y es/\∀j v,es[j]? = some v->w.cell? (ad.add (i*e.size+j))=some v) (hL:L<=H) (hH:H<=x.length):
  RdC F w (.sl e) ((x.take H).drop L) [.slice (if cap=L then some ad else some (ad.add (L*e.size))) (H-L) (cap-L)]:=by
 have hlen:((x.take H).drop L).length=H-L:=by simp; omega
 refine⟨(if cap=L then some ad else some (ad.add (L*e.size))),cap-L,?_,?_⟩
 ·show [Value.slice _ (H-L) (cap-L)]=[Value.slice _ ((x.take H).drop L).length (cap-L)];rw[hlen]
 ·have hget:∀(i:Nat) (y:e.den),((x.take H).drop L)[i]? = some y->i<H-L/\x[L+i]? = some y:=by
   intro i y hy;have hi:i<((x.take H).drop L).length:=(zp.1 hy).1;rw[zE,zr] at hy;split at hy
   ·exact⟨by omega,hy⟩
   ·cases hy
  by_cases hc:cap=L
  ·rw[if_pos hc];refine⟨fun h=>by omega,by rw[hlen]; omega,by omega,fun i y hy=>?_⟩
   obtain⟨hi,_⟩:=hget i y hy;omega
  ·rw[if_neg hc];refine⟨fun h=>by rw[qhn]; exact h1 (by omega),by rw[hlen]; omega,by omega,fun i y hy=>?_⟩
   obtain⟨hi,hx⟩:=hget i y hy;obtain⟨es,g1,g2⟩:=h4 _ y hx;refine⟨es,g1,fun j v hj=>?_⟩
   rw[qon,show L*e.size+(i*e.size+j)=(L+i)*e.size+j by rw[z61]; omega]
   exact g2 j v hj
theorem qzW{a:Act}{w:World}{t:TypeId}{x:Operand}{lo hi:Option Operand}{l h':Option (IntKind×Int)}(y:List UInt8)(hu:P.underlying t=some .string)(hxd:a.eval x=.string ⟨⟨y⟩⟩)
  (hld:lo.map a.eval=valOf l) (hhd:hi.map a.eval=valOf h') (hg:cutG l h' y.length=true) (dst:Option Tmp) (pos:String) (af:Array Edge) (gd:Option (Nat×Bool)):
  (execOp a.eval ⟨dst,.slice t x lo hi none,rty,pos,af,gd⟩).run P w=.ok (.value (.string ⟨⟨cutL l h' y⟩⟩)) w:=by
 obtain⟨c1,c2,c3,c4,c5⟩:=qro hg;have hb:(Instr.sliceBounds false (⟨⟨y⟩⟩:ByteArray).size (⟨⟨y⟩⟩:ByteArray).size (valOf l) (valOf h') none).run P w=.ok (bdLo l,bdHi h' y.length,(⟨⟨y⟩⟩:ByteArray).size) w:=qiq (P:=P) (w:=w) (isS:=false) c1 c2 c3 c4;rw[c5,<-qyV];simp only[execOp,hxd,hld,hhd,zP1,Instr.sliceAt,Instr.slice,zl,zu hu,zh,Option.isSome_none,z02,if_false,hb,zn]
theorem qyW(hΓ:Tys P Γ){t:TypeId}{x:Operand}{lo hi:Option Operand}{r:VR}(h:qwL Γ st t x lo hi=some r)(hg:r.g=true):VOk P w0 M N st (.slice t x lo hi none) rty r:=by
 unfold qwL at h;split at h
 ·rename_i l h' hl hh;split at h
  ·rename_i e y hx;cases hs:qgE Γ t e.size with
   | false=>rw[hs] at h; cases h
   | true=>
    rw[hs] at h; cases h
    obtain⟨et,hu,hsz⟩:=qem hΓ hs;obtain⟨c1,c2,c3,c4,c5⟩:=qro (α:=e.den) hg;intro st' hag F U a w hr dst pos af gd;have hxd:=hr.evx hag (fun _ h=>mem_l h) (x:=x)
    have hld:=qrI hr hag hl (fun _ h=>mem_r (mem_l h))
    have hhd:=qrI hr hag hh (fun _ h=>mem_r (mem_r h))
    rw[hx] at hxd;generalize he:a.eval x=u at hxd;cases hxd with
    | v hv=>
     obtain⟨cs,⟨ad,cap,rfl,h2⟩,rfl⟩:=hv;have hcap:bdHi h' (List.length (α:=e.den) y)<=cap\/ad=none:=by
      cases ad with
      | none=>exact .inr rfl
      | some ad=>exact .inl (zA c2 h2.2.1)
     have hle:bdHi h' (List.length (α:=e.den) y)<=cap:=by
      cases ad with
      | none => have hn:List.length (α:=e.den) y=0:=by simp only at h2; rw[h2]; rfl
                omega
      | some ad=>exact zA c2 h2.2.1
     refine⟨.slice (if cap=bdLo l then ad else ad.map (·.add (bdLo l*e.size))) (bdHi h' (List.length (α:=e.den) y)-bdLo l) (cap-bdLo l),?_,?_⟩
     ·have hb:=qiq (P:=P) (w:=w) (isS:=true) c1 hle c3 c4;simp only[execOp,he,hld,hhd,mkV,Ty.agg,zc,zV1,zP1,Instr.sliceAt,Instr.slice,zl,zu hu,zh,hb,hsz,zn]
     ·simp only;rw[c5];cases ad with
      | none=>
       have hn:y=[]:=h2;subst hn;refine .v ⟨[.slice none 0 (cap-bdLo l)],⟨none,cap-bdLo l,?_,?_⟩,?_⟩
       ·simp
       ·simp
       ·simp only[mkV,Ty.agg,zc,zV1];have h0:bdHi h' (List.length (α:=e.den) [])=0:=by have:=c2; simpa using this
        rw[h0]; simp
      | some ad=>
       obtain⟨h3,h4,h5,h6⟩:=h2;have:=qzV h3 h4 h5 h6 c1 c2;refine .v ⟨_,this,?_⟩
       simp only[mkV,Ty.agg,zc,zV1,zf1]
  ·rename_i e y hx;split at h
   ·cases hs:qgE Γ t e.size with
    | false=>rw[hs] at h; cases h
    | true=>
     rw[hs] at h; cases h
     obtain⟨et,hu,hsz⟩:=qem hΓ hs;obtain⟨c1,c2,c3,c4,c5⟩:=qro (α:=e.den) hg;intro st' hag F U a w hr dst pos af gd;have hxd:=hr.evx hag (fun _ h=>mem_l h) (x:=x)
     have hld:=qrI hr hag hl (fun _ h=>mem_r (mem_l h))
     have hhd:=qrI hr hag hh (fun _ h=>mem_r (mem_r h))
     rw[hx] at hxd;generalize he:a.eval x=u at hxd;cases hxd with
     | @cut _ _ ad hrd=>
      obtain⟨ad',cap,e1,h2⟩:=hrd;injection e1 with e1; injection e1 with e1 e2 e3
      subst e1 e3;have hlen:List.length (α:=e.den) (cutL (α:=e.den) l none y)=List.length (α:=e.den) y-bdLo l:=by rw[c5]; simp[bdHi]
      have hrd:RdC F w (.sl e) (cutL (α:=e.den) l none y) [.slice (if List.length (α:=e.den) y=bdLo l then ad else ad.map (·.add (bdLo l*e.size))) (List.length (α:=e.den) y-bdLo l) (List.length (α:=e.den) y-bdLo l)]:=by
       rw[c5];cases ad with
       | none=>
        have hn:y=[]:=h2;subst hn;refine⟨none,0-bdLo l,?_,?_⟩
        ·simp[bdHi]
        ·simp[bdHi]
       | some ad=>
        obtain⟨h3,h4,h5,h6⟩:=h2;have:=qzV h3 h4 h5 h6 c1 c2;simpa only[bdHi,zf1] using this
      refine⟨.slice (if List.length (α:=e.den) y=bdLo l then ad else ad.map (·.add (bdLo l*e.size))) (List.length (α:=e.den) y-bdLo l) (List.length (α:=e.den) y-bdLo l),?_,?_⟩
      ·have hb:=qiq (P:=P) (w:=w) (isS:=true) c1 (zP (List.length (α:=e.den) y)) c3 c4;simp only[execOp,he,hld,hhd,zP1,Instr.sliceAt,Instr.slice,zl,zu hu,zh,hb,hsz,zn,bdHi]
      ·simp only;rw[<-hlen] at hrd ⊢;exact .cut hrd
   ·cases h
  ·rename_i y hx;cases hs:isStr Γ t with
   | false=>rw[hs] at h; cases h
   | true=>
    rw[hs] at h; cases h
    have hu:=qtv hΓ hs;intro st' hag F U a w hr dst pos af gd;have hxd:=(hr.evx hag (fun _ h=>mem_l h) (x:=x)).str (by rw[hx]; rfl)
    have hld:=qrI hr hag hl (fun _ h=>mem_r (mem_l h))
    have hhd:=qrI hr hag hh (fun _ h=>mem_r (mem_r h))
    exact⟨_,qzW y hu hxd hld hhd hg dst pos af gd,.ofStr _⟩
  ·cases h
 ·cases h
/-! ### Lengths -/
def lenOk(Γ:List TI)(t:TypeId):SV->Bool
 | .v .str _=>isStr Γ t
 | _=>match look Γ t with
  | some i=>match i.desc with
   | .slice _=>true
   | _=>false
  | none=>false
def lenS(st:St):SV->Option (List Key×Int)
 | .v .str l=>some ([],Int.ofNat (List.length (α:=UInt8) l))
 | .v (.sl e) l=>some ([],Int.ofNat (List.length (α:=e.den) l))
 | .cut e l=>some ([],Int.ofNat (List.length (α:=e.den) l))
 | .raw (.slice none 0 _)=>some ([],0)
 | .own b=>match st.a b with
  | some (.arr _ _ l)=>some ([.a b],Int.ofNat l.length)
  | _=>none
 | _=>none
def evLen(Γ:List TI)(st:St)(t:TypeId)(x:Operand):Option VR:=
 match lenS st (st.ev x) with
 | some (ks,n)=>bif lenOk Γ t (st.ev x) then some ⟨true,qaa x++ks,.v (.int .i64) n⟩ else none
 | none=>none
theorem qlN(hΓ:Tys P Γ){t:TypeId}{s:SV}(h:lenOk Γ t s=true)(hs:∀l,s≠.v .str l){p:Option Addr}{n c:Nat}{w:World}:(Builtin.len_ #[t] rty #[.slice p n c]).run P w=.ok (goInt n) w:=by
 have:∃e,P.underlying t=some (.slice e):=by
  unfold lenOk at h;split at h
  ·rename_i l; exact absurd rfl (hs l)
  ·split at h
   ·rename_i i hl;obtain⟨hi,rfl⟩:=qao hΓ hl;split at h
    ·rename_i e hd; exact⟨e,by rw[hi.und,hd]⟩
    ·cases h
   ·cases h
 obtain⟨e,hu⟩:=this;simp[Builtin.len_,zu hu]
theorem qCc(hΓ:Tys P Γ){t:TypeId}{x:Operand}{r:VR}(h:evLen Γ st t x=some r):VOk P w0 M N st (.call { callee:=.builtin .len,args:=#[x],argTypes:=#[t] }) rty r:=by
 unfold evLen at h;split at h
 ·rename_i ks n hn;cases hk:lenOk Γ t (st.ev x) with
  | false=>rw[hk] at h; cases h
  | true=>
   rw[hk] at h; cases h
   intro st' hag F U a w hr dst pos af gd;have hxd:=hr.evx hag (fun _ h=>mem_l h) (x:=x)
   have fin:∀u,a.eval x=u->(Builtin.len_ #[t] rty #[u]).run P w=.ok (.int .i64 n) w->∃u,(execOp a.eval ⟨dst,.call { callee:=.builtin .len,args:=#[x],argTypes:=#[t] },rty,pos,af,gd⟩).run P w=.ok (.value u) w/\Den P F w U (.v (.int .i64) n) u:=by
    intro u hu hr';exact⟨_,by simp only[execOp,resolve,invoke,builtin,zl,zn,zh,zr1,z81,zK1,hu,hr'],.ofInt _ _⟩
   unfold lenS at hn;split at hn
   ·rename_i l hx;injection hn with hn; injection hn with e1 e2; subst e1 e2
    rw[hx] at hk;have hu:=qtv hΓ hk;refine fin _ (hxd.str (by rw[hx]; rfl)) ?_
    simp[Builtin.len_,zu hu]; rfl
   ·rename_i e l hx;injection hn with hn; injection hn with e1 e2; subst e1 e2
    rw[hx] at hxd hk;generalize he:a.eval x=u at hxd;cases hxd with
    | v hv=>
     obtain⟨cs,⟨ad,cap,rfl,h2⟩,rfl⟩:=hv;exact fin _ he (qlN hΓ hk (fun l' e=>by cases e))
   ·rename_i e l hx;injection hn with hn; injection hn with e1 e2; subst e1 e2
    rw[hx] at hxd hk;generalize he:a.eval x=u at hxd;cases hxd with
    | cut hrd=>exact fin _ he (qlN hΓ hk (fun l' e=>by cases e))
   ·rename_i c hx;injection hn with hn; injection hn with e1 e2; subst e1 e2
    rw[hx] at hxd hk;generalize he:a.eval x=u at hxd;cases hxd with
    | raw=>exact fin _ he (qlN hΓ hk (fun l' e=>by cases e))
   ·rename_i b hx;split at hn
    ·rename_i tya e l hA;injection hn with hn; injection hn with e1 e2; subst e1 e2
     have hA':st'.a b=some (.arr tya e l):=by rw[<-hA]; exact(hag (.a b) (by simp)).symm
     rw[hx] at hxd hk;generalize he:a.eval x=u at hxd;cases hxd with
     | own hρ=>
      obtain⟨u',c1,xs,c2,c3⟩:=hr.mem.arr b _ hA';rw[hρ] at c1; cases c1
      rcases c2.2 with⟨_,h2,hl0⟩ | ⟨g,cap,cur,h2,_⟩
      ·subst h2;refine fin _ he ?_
       rw[hl0]; exact qlN hΓ hk (fun l' e=>by cases e)
      ·subst h2; exact fin _ he (qlN hΓ hk (fun l' e=>by cases e))
    ·cases hn
   ·cases hn
 ·cases h
def evMM(st:St)(mx:Bool)(x y:Operand):Option VR:=
 match(st.ev x).int?,(st.ev y).int? with
 | some (k,m),some (_,n)=>some ⟨true,qaa x++qaa y,.v (.int k) (bif mx then(max m n:Int) else(min m n:Int))⟩
 | _,_=>none
theorem qzX{x y:Operand}{t1 t2:TypeId}{r:VR}:
  (evMM st true x y=some r->VOk P w0 M N st (.call { callee:=.builtin .max,args:=#[x,y],argTypes:=#[t1,t2] }) rty r)∧
  (evMM st false x y=some r->VOk P w0 M N st (.call { callee:=.builtin .min,args:=#[x,y],argTypes:=#[t1,t2] }) rty r):=by
 constructor
 all_goals
  intro h;unfold evMM at h;split at h
  ·rename_i k m k' n hx hy;cases h
   intro st' hag F U a w hr dst pos af gd;have hxd:=(hr.evx hag (fun _ h=>mem_l h) (x:=x)).int hx
   have hyd:=(hr.evx hag (fun _ h=>mem_r h) (x:=y)).int hy
   refine⟨_,?_,.ofInt _ _⟩
   have e1:(if n>m then n else m)=max m n:=by split <;> omega
   have e2:(if n<m then n else m)=min m n:=by split <;> omega
   simp only[execOp,resolve,invoke,builtin,zl,zn,zh,zr1,z81,zK1,hxd,hyd,run_max_int2,run_min_int2,e1,e2];rfl
  ·cases h
end
theorem qlO(off:Nat):∀(vs:List Value) (k:Nat) (cs:Array Value),(List.foldl (fun cs (p:Value×Nat)=>cs.setIfInBounds (off+p.2) p.1) cs (vs.zipIdx k)).toList=(List.foldl (fun l (p:Value×Nat)=>l.set (off+p.2) p.1) cs.toList (vs.zipIdx k))
 | [],_,_=>rfl
 | v::vs,k,cs=>by
  simp only[List.zipIdx_cons,List.foldl_cons];rw[qlO off vs (k+1)];simp
theorem qrJ(off:Nat):∀(vs:List Value) (k:Nat) (l:List Value) (i:Nat),off+k+vs.length<=l.length->
  (List.foldl (fun l (p:Value×Nat)=>l.set (off+p.2) p.1) l (vs.zipIdx k)).length=l.length∧
  (List.foldl (fun l (p:Value×Nat)=>l.set (off+p.2) p.1) l (vs.zipIdx k))[i]? = if off+k<=i/\i<off+k+vs.length then vs[i-(off+k)]? else l[i]?
 | [],k,l,i,_=>by
  refine⟨rfl,?_⟩
  rw[if_neg (by simp)]; rfl
 | v::vs,k,l,i,h=>by
  simp only[List.zipIdx_cons,List.foldl_cons];obtain⟨h1,h2⟩:=qrJ off vs (k+1) (l.set (off+k) v) i (by simp at h ⊢; omega)
  refine⟨by rw[h1]; simp,?_⟩
  rw[h2];simp only[zf] at h ⊢;by_cases c1:i=off+k
  ·subst c1;rw[if_neg (by omega),if_pos (by omega),zu2 (by omega)]; simp
  ·by_cases c2:off+(k+1)<=i/\i<off+(k+1)+vs.length
   ·rw[if_pos c2,if_pos (by omega),show i-(off+k)=(i-(off+(k+1)))+1 by omega]; simp
   ·rw[if_neg c2,if_neg (by omega),zE2 (by omega)]
theorem qzY{place:Nat->Option (Nat×Nat)}{cells:Array Value}{i:Nat}{v:Value}{rest:List (Nat×Value)}{off size:Nat}(hp:place i=some (off,size))(hs:v.cells.size=size)(hf:off+size<=cells.size):
  ∃cells',Instr.fill place cells ((i,v)::rest)=Instr.fill place cells' rest/\cells'.size=cells.size/\∀j,cells'[j]? = if off<=j/\j<off+size then v.cells[j-off]? else cells[j]?:=by
 subst hs;refine⟨v.cells.zipIdx.foldl (fun cs (c,j)=>cs.setIfInBounds (off+j) c) cells,?_,?_,fun j=>?_⟩
 ·simp only[Instr.fill,hp];rw[if_neg (by simp; omega)]
 ·have h:=(qrJ off v.cells.toList 0 cells.toList 0 (by simpa using hf)).1
  rw[<-Array.foldl_toList,Array.toList_zipIdx];have h2:=qlO off v.cells.toList 0 cells;have h3:=congrArg List.length h2;rw[h] at h3;simpa using h3
 ·have h:=(qrJ off v.cells.toList 0 cells.toList j (by simpa using hf)).2
  rw[<-Array.foldl_toList,Array.toList_zipIdx,<-zU1];have h2:=qlO off v.cells.toList 0 cells;refine Eq.trans (congrArg (fun l=>l[j]?) h2) (h.trans ?_)
  simp
def qrK:List SV->Nat->List SV->List SV
 | cs,_,[]=>cs
 | cs,o,s::r=>qrK (cs.set o s) (o+1) r
theorem qrL:∀(l:List SV) (cs:List SV) (o:Nat),o+l.length<=cs.length->(qrK cs o l).length=cs.length/\∀j,(qrK cs o l)[j]? = if o<=j/\j<o+l.length then l[j-o]? else cs[j]?
 | [],cs,o,_=>⟨rfl,fun j=>by rw[if_neg (by simp)]; rfl⟩
 | s::r,cs,o,h=>by
  simp only[zf] at h;obtain⟨h1,h2⟩:=qrL r (cs.set o s) (o+1) (by simp; omega)
  refine⟨by simp only[qrK,h1,zs1],fun j=>?_⟩
  simp only[qrK,h2,zf];by_cases c1:j=o
  ·subst c1;rw[if_neg (by omega),if_pos (by omega),zu2 (by omega)]; simp
  ·by_cases c2:o+1<=j/\j<o+1+r.length
   ·rw[if_pos c2,if_pos (by omega),show j-o=(j-(o+1))+1 by omega]; simp
   ·rw[if_neg c2,if_neg (by omega),zE2 (by omega)]
def DenCs(P:Program)(F:Nat->Prop)(w:World)(U:Env)(cs:List SV)(vs:Nat->Option Value)(n:Nat):Prop:=
 cs.length=n/\∀(j:Nat) (s:SV) (x:Value),cs[j]? = some s->vs j=some x->Den P F w U s x/\x.oneCell'=true
def fillS(pl:Nat->Option (Nat×Nat)):List SV->List (Nat×SV)->Option (List SV)
 | cs,[]=>some cs
 | cs,(i,s)::rest=>match pl i,s.cells with
  | some (off,size),some l=>bif Nat.beq l.length size&&Nat.ble (off+size) cs.length then fillS pl (qrK cs off l) rest else none
  | _,_=>none
theorem qmU{P:Program}{F:Nat->Prop}{w:World}{U:Env}(hone:∀b v,U b=some v->v.oneCell'=true)(pl:Nat->Option (Nat×Nat)):
  ∀(parts:List (Nat×SV)) (vparts:List (Nat×Value)) (cs cs':List SV) (arr:Array Value),DenCs P F w U cs (fun j=>arr[j]?) arr.size->
   parts.length=vparts.length->(∀(j:Nat) (p:Nat×SV) (q:Nat×Value),parts[j]? = some p->vparts[j]? = some q->p.1=q.1/\Den P F w U p.2 q.2)->fillS pl cs parts=some cs'->
   ∃arr',Instr.fill pl arr vparts=some arr'/\DenCs P F w U cs' (fun j=>arr'[j]?) arr'.size
 | [],[],cs,cs',arr,h,_,_,hf=>by
  simp only[fillS,zt1] at hf; subst hf;exact⟨arr,rfl,h⟩
 | (i,s)::parts,(i',v)::vparts,cs,cs',arr,h,hl,hp,hf=>by
  obtain⟨e1,e2⟩:=hp 0 _ _ rfl rfl;simp only at e1 e2;subst e1;simp only[fillS] at hf;split at hf
  ·rename_i off size l hq hc;cases hb:(Nat.beq l.length size&&Nat.ble (off+size) cs.length) with
   | false=>rw[hb] at hf; cases hf
   | true=>
    rw[hb] at hf;simp only[zb] at hf;simp only[z8] at hb;have hb1:=zd hb.1;have hb2:=zJ hb.2;obtain⟨hpo1,hpo2⟩:=qrD hone hc e2;have hvs:v.cells.size=size:=by rw[<-hb1]; exact hpo1.symm
    obtain⟨arr1,f1,f2,f3⟩:=qzY (place:=pl) (cells:=arr) (i:=i) (v:=v) (rest:=vparts) (off:=off) (size:=size) hq hvs (by rw[<-h.1]; exact hb2)
    obtain⟨g1,g2⟩:=qrL l cs off (by omega)
    have hd1:DenCs P F w U (qrK cs off l) (fun j=>arr1[j]?) arr1.size:=by
     refine⟨by rw[g1,f2]; exact h.1,fun j s' x hs hx=>?_⟩
     rw[g2] at hs;simp only[f3] at hx;by_cases c:off<=j/\j<off+size
     ·rw[if_pos (by omega)] at hs
      rw[if_pos c] at hx;exact hpo2 _ s' x hs hx
     ·rw[if_neg (by omega)] at hs
      rw[if_neg c] at hx;exact h.2 j s' x hs hx
    obtain⟨arr',k1,k2⟩:=qmU hone pl parts vparts _ cs' arr1 hd1 (by simpa using hl) (fun j p q a b=>hp (j+1) p q (by simpa using a) (by simpa using b)) hf
    exact⟨arr',f1.trans k1,k2⟩
  ·cases hf
 | [],_::_,_,_,_,_,hl,_,_=>by simp at hl
 | _::_,[],_,_,_,_,hl,_,_=>by simp at hl
def qjc:List (Nat×Operand)->List Key
 | []=>[]
 | (_,x)::r=>qaa x++qjc r
theorem qhq:∀ {l:List (Nat×Operand)} {p:Nat×Operand},p∈l->∀κ∈qaa p.2,κ∈qjc l
 | (i,x)::r,p,h,κ,hκ=>by
  rcases zy.1 h with rfl | h
  ·exact mem_l hκ
  ·exact mem_r (qhq h κ hκ)
def places(Γ:List TI):List Field->Option (List (Nat×Nat))
 | []=>some []
 | f::r=>match look Γ f.type,places Γ r with
  | some j,some l=>some ((f.offset,j.size)::l)
  | _,_=>none
section
variable {P:Program} {w0:World} {M:Mod} {N:Nat} {st:St} {Γ:List TI} {rty:TypeId}
theorem qtw(hΓ:Tys P Γ){w:World}:∀ {fs:List Field} {pl:List (Nat×Nat)},places Γ fs=some pl->(fs.mapM (m:=Sem) fun f=>do pure (f.offset,<-sizeOf f.type)).run P w=.ok pl w
 | [],pl,h=>by simp only[places] at h; cases h; rfl
 | f::fs,pl,h=>by
  simp only[places] at h;split at h
  ·rename_i j l hl hr;cases h
   obtain⟨hj,hje⟩:=qao hΓ hl;have hs:=run_sizeOf' (w:=w) hj;rw[hje] at hs;rw[List.mapM_cons,zl];simp only[zl,hs,zh,zn,qtw hΓ hr]
  ·cases h
def zeroC(z:Value):List SV:=z.cells.toList.map ofV
theorem qoS{F:Nat->Prop}{w:World}{U:Env}{z:Value}(h1:z.cells.toList.all (·.oneCell')=true):DenCs P F w U (zeroC z) (fun j=>z.cells[j]?) z.cells.size:=by
 refine⟨by simp[zeroC],fun j s x hs hx=>?_⟩
 simp only[zeroC,zH] at hs;have hx':z.cells.toList[j]? = some x:=by simpa using hx
 rw[hx'] at hs;cases hs
 exact⟨qwz x,by simp only[zq] at h1; exact h1 x (zK hx')⟩
def qwM(Γ:List TI)(st:St)(t:TypeId)(parts:List (Nat×Operand)):Option VR:=
 match look Γ t with
 | some i=>match i.desc with
  | .struct fs=>match places Γ fs.toList with
   | some pl=>bif i.zero.cells.toList.all (·.oneCell') then match fillS (fun i=>pl[i]?) (zeroC i.zero) (parts.map fun p=>(p.1,st.ev p.2)) with
     | some cs=>some ⟨true,qjc parts,.agg cs⟩
     | none=>none
    else none
   | none=>none
  | .array _ e=>match look Γ e with
   | some q=>bif i.zero.cells.toList.all (·.oneCell') then match fillS (fun i=>some (i*q.size,q.size)) (zeroC i.zero) (parts.map fun p=>(p.1,st.ev p.2)) with
     | some cs=>some ⟨true,qjc parts,.agg cs⟩
     | none=>none
    else none
   | none=>none
  | _=>none
 | none=>none
theorem qyX(hΓ:Tys P Γ){t:TypeId}{parts:List (Nat×Operand)}{r:VR}(h:qwM Γ st t parts=some r):VOk P w0 M N st (.build t parts.toArray) rty r:=by
 unfold qwM at h;split at h
 ·rename_i i hl;obtain⟨hi,rfl⟩:=qao hΓ hl;split at h
  ·rename_i fs hd;split at h
   ·rename_i pl hpl;cases hz1:i.zero.cells.toList.all (·.oneCell') with
    | false=>rw[hz1] at h; cases h
    | true=>
     rw[hz1] at h; simp only[zb] at h;split at h
     ·rename_i cs hf;cases h
      intro st' hag F U a w hr dst pos af gd;have hu:=hi.und;rw[hd] at hu;obtain⟨arr',k1,k2⟩:=qmU hr.mem.one (fun i=>pl[i]?) (parts.map fun p=>(p.1,st.ev p.2)) (parts.map fun p=>(p.1,a.eval p.2)) _ cs _ (qoS hz1) (by simp) (by
       intro j p q hp hq;rw[zH] at hp hq;cases hx:parts[j]? with
       | none=>rw[hx] at hq; cases hq
       | some r=>
        rw[hx] at hp hq;simp only[zf1,zt1] at hp hq;subst hp hq;exact⟨rfl,hr.evx hag (fun κ hκ=>qhq (zK hx) κ hκ)⟩) hf
      refine⟨.agg arr',?_,?_⟩
      ·have hplr:(fs.mapM (m:=Sem) fun f=>do pure (f.offset,<-sizeOf f.type)).run P w=.ok pl.toArray w:=by
        rw[Array.mapM_eq_mapM_toList,Sem.run_map];have:=qtw (w:=w) hΓ hpl;rw[this]; rfl
       have hfe:(fun(i:Nat)=>pl.toArray[i]?)=(fun(i:Nat)=>pl[i]?):=by funext i; simp
       simp only[execOp,Instr.build,run_zeroValue' hi,zl,zh,zu hu,hplr,zr1,hfe,k1];rfl
      ·have:=Den.agg (P:=P) (F:=F) (w:=w) (U:=U) (ss:=cs) (vs:=arr'.toList) (by simpa using k2.1) (fun j s x hs hx=>(k2.2 j s x hs (by simpa using hx)).1) (fun u hu=>by
        obtain⟨j,hj⟩:=zq1 hu;have hjl:j<cs.length:=by rw[k2.1]; simpa using (zp.1 hj).1
        exact(k2.2 j _ u (zj hjl) (by simpa using hj)).2)
       simpa using this
     ·cases h
   ·cases h
  ·rename_i n e hd;split at h
   ·rename_i q hlq;obtain⟨hq,hqe⟩:=qao hΓ hlq;cases hz1:i.zero.cells.toList.all (·.oneCell') with
    | false=>rw[hz1] at h; cases h
    | true=>
     rw[hz1] at h; simp only[zb] at h;split at h
     ·rename_i cs hf;cases h
      intro st' hag F U a w hr dst pos af gd;have hu:=hi.und;rw[hd] at hu;obtain⟨arr',k1,k2⟩:=qmU hr.mem.one (fun i=>some (i*q.size,q.size)) (parts.map fun p=>(p.1,st.ev p.2)) (parts.map fun p=>(p.1,a.eval p.2)) _ cs _ (qoS hz1) (by simp) (by
       intro j p q hp hq;rw[zH] at hp hq;cases hx:parts[j]? with
       | none=>rw[hx] at hq; cases hq
       | some r=>
        rw[hx] at hp hq;simp only[zf1,zt1] at hp hq;subst hp hq;exact⟨rfl,hr.evx hag (fun κ hκ=>qhq (zK hx) κ hκ)⟩) hf
      refine⟨.agg arr',?_,?_⟩
      ·have hs:=run_sizeOf' (w:=w) hq;rw[hqe] at hs;simp only[execOp,Instr.build,run_zeroValue' hi,zl,zh,zu hu,hs,zr1,k1];rfl
      ·have:=Den.agg (P:=P) (F:=F) (w:=w) (U:=U) (ss:=cs) (vs:=arr'.toList) (by simpa using k2.1) (fun j s x hs hx=>(k2.2 j s x hs (by simpa using hx)).1) (fun u hu=>by
        obtain⟨j,hj⟩:=zq1 hu;have hjl:j<cs.length:=by rw[k2.1]; simpa using (zp.1 hj).1
        exact(k2.2 j _ u (zj hjl) (by simpa using hj)).2)
       simpa using this
     ·cases h
   ·cases h
  ·cases h
 ·cases h
/-! ### Function values -/
def qzZ(st:St)(fn:Fn)(first captured:List Operand):Option VR:=
 match fn,first with
 | .func f,[]=>some ⟨true,qjc (captured.map fun x=>(0,x)),.clo f (captured.map st.ev)⟩
 | _,_=>none
theorem qz0{fn:Fn}{first captured:List Operand}{r:VR}(h:qzZ st fn first captured=some r):VOk P w0 M N st (.makeFunc fn first.toArray captured.toArray) rty r:=by
 unfold qzZ at h;split at h
 ·rename_i f;cases h
  intro st' hag F U a w hr dst pos af gd;refine⟨.func (.func f) #[] (captured.map a.eval).toArray,?_,.clo (by simp) (fun i s u hs hu=>?_)⟩
  ·simp[execOp,Instr.makeFunc]
  ·rw[zH] at hs hu;cases hx:captured[i]? with
   | none=>rw[hx] at hu; cases hu
   | some x=>
    rw[hx] at hs hu;simp only[zf1,zt1] at hs hu;subst hs hu;exact hr.evx hag (fun κ hκ=>qhq (p:=(0,x)) (zW.2 ⟨x,zK hx,rfl⟩) κ hκ)
 ·cases h
end
def eqA{δ:Type}(f:δ->δ->Bool)(d:δ)(n:Nat)(x y:List δ):Bool:=(List.range n).all fun i=>f (x.getD i d) (y.getD i d)
def eqb:(T:Ty)->T.den->T.den->Bool
 | .unit,_,_=>true
 | .int _,x,y=>(fun(x y:Int)=>decide (x=y)) x y
 | .bool,x,y=>(fun(x y:Bool)=>x==y) x y
 | .str,x,y=>(fun(x y:List UInt8)=>decide (x=y)) x y
 | .pair a b,x,y=>eqb a x.1 y.1&&eqb b x.2 y.2
 | .sl _,_,_=>false
 | .err,_,_=>false
 | .map _ _,_,_=>false
 | .fnc _,_,_=>false
 | .fnl _,_,_=>false
 | .clo _ _,_,_=>false
 | .arr n e,x,y=>eqA (eqb e) e.dflt n x y
def eqFs(eq:TypeId->Ty->Bool):List Field->Nat->Ty->Bool
 | [],_,.unit=>true
 | [],_,_=>false
 | f::r,o,T=>!(f.name == "_")&&Nat.beq f.offset o&&((match r with
   | []=>eq f.type T
   | _::_=>false) || (match T with
   | .pair a b=>eq f.type a&&eqFs eq r (o+a.size) b
   | _=>false))
def eqT(Γ:List TI):Nat->TypeId->Ty->Bool
 | 0,_,_=>false
 | n+1,t,T=>match look Γ t with
  | none=>false
  | some i=>Nat.beq i.size T.size&&match i.desc with
   | .bool=>decide (T=.bool)
   | .int k=>decide (T=.int k)
   | .string=>decide (T=.str)
   | .struct fs=>i.eq&&T.agg&&eqFs (eqT Γ n) fs.toList 0 T
   | .array m et=>match T with
    | .arr q e=>Nat.beq m q&&eqT Γ n et e
    | _=>false
   | _=>false
section
variable {P:Program} {F:Nat->Prop} {w:World} {Γ:List TI}
theorem qz1(dp:Nat)(xs ys:Array Value):(Op.eqFields dp xs ys []).run P w=.ok true w:=by simp[Op.eqFields]
theorem qxK{dp:Nat}{xs ys:Array Value}{f:Field}{fs:List Field}{u v:Value}{r r':Bool}(hn:(f.name == "_")=false)(hu:(part f.type xs f.offset).run P w=.ok u w)(hv:(part f.type ys f.offset).run P w=.ok v w)
  (hr:(Op.equalIn dp f.type u v).run P w=.ok r w) (ih:(Op.eqFields dp xs ys fs).run P w=.ok r' w):(Op.eqFields dp xs ys (f::fs)).run P w=.ok (r&&r') w:=by
 have hn':f.name ≠ "_" :=by simpa using hn
 simp only[Op.eqFields,if_pos hn',zl,hu,hv,hr,zh,Sem.run_ite];cases r
 ·simp
 ·simp[ih]
theorem qz2{n:Nat}{t:TypeId}{T:Ty}(h:eqT Γ n t T=true):∃i,look Γ t=some i/\i.size=T.size/\qbW i.desc=T.agg:=by
 cases n with
 | zero=>cases h
 | succ n=>
  simp only[eqT] at h;split at h
  ·cases h
  ·rename_i i hl;rw[z8] at h;refine⟨i,hl,zd h.1,?_⟩
   have h2:=h.2;split at h2
   ·rename_i hd; rw[hd,zx h2]; rfl
   ·rename_i hd; rw[hd,zx h2]; rfl
   ·rename_i hd; rw[hd,zx h2]; rfl
   ·rename_i hd; rw[hd]; rw[z8,z8] at h2; rw[h2.1.2]; rfl
   ·rename_i hd;split at h2
    ·rw[hd]; rfl
    ·cases h2
   ·cases h2
theorem qis{n:Nat}{t:TypeId}{T:Ty}(hΓ:Tys P Γ)(h:eqT Γ n t T=true){x:T.den}{cs cs1 cs2:List Value}(hx:RdC F w T x cs):(part t (cs1++(cs++cs2)).toArray cs1.length).run P w=.ok (mkV T cs) w:=by
 obtain⟨i,hl,hs,ha⟩:=qz2 h;obtain⟨hi,rfl⟩:=qao hΓ hl;have hlen:=hx.size;refine qoR hi _ ?_
 rw[ha];unfold mkV;cases hg:T.agg with
 | true=>
  simp only[zb]; congr 1; apply Array.ext';simp[hs,<-hlen]
 | false=>
  have h1:T.size=1:=by revert hg; cases T <;> intro hg <;> first | rfl | cases hg
  rw[h1] at hlen;obtain⟨c,rfl⟩:=zB1.1 hlen;simp
theorem qvE(hΓ:Tys P Γ){n d:Nat}(ih:∀ {t:TypeId} {T:Ty} {x y:T.den} {u v:Value},eqT Γ n t T=true->RdV F w T x u->RdV F w T y v->(Op.equalIn d t u v).run P w=.ok (eqb T x y) w):
  ∀ {fs:List Field} {o:Nat} {T:Ty},eqFs (eqT Γ n) fs o T=true->∀ {x y:T.den} {cs ds cs1 ds1:List Value},RdC F w T x cs->RdC F w T y ds->cs1.length=o->ds1.length=o->
   (Op.eqFields d (cs1++cs).toArray (ds1++ds).toArray fs).run P w=.ok (eqb T x y) w
 | [],o,T,h,x,y,cs,ds,cs1,ds1,hx,hy,hc,hd=>by
  cases T <;> simp only[eqFs] at h <;> first | (cases h; done) | exact qz1 _ _ _
 | f::r,o,T,h,x,y,cs,ds,cs1,ds1,hx,hy,hc,hdo=>by
  simp only[eqFs,z8,zi1,zt] at h;obtain⟨⟨h1,h2⟩,h3⟩:=h;have ho:=zd h2;rcases h3 with h3 | h3
  ·split at h3
   ·have hp:=qis (cs1:=cs1) (cs2:=[]) hΓ h3 hx;have hq:=qis (cs1:=ds1) (cs2:=[]) hΓ h3 hy;rw[zG] at hp hq;rw[hc,<-ho] at hp;rw[hdo,<-ho] at hq;have:=qxK h1 hp hq (ih h3 ⟨cs,hx,rfl⟩ ⟨ds,hy,rfl⟩) (qz1 _ _ _);rwa[zk2] at this
   ·cases h3
  ·split at h3
   ·rename_i a b;rw[z8] at h3;obtain⟨c1,c2,rfl,hx1,hx2⟩:=hx;obtain⟨d1,d2,rfl,hy1,hy2⟩:=hy;have hp:=qis (cs1:=cs1) (cs2:=c2) hΓ h3.1 hx1;have hq:=qis (cs1:=ds1) (cs2:=d2) hΓ h3.1 hy1;rw[hc,<-ho] at hp;rw[hdo,<-ho] at hq;have e1:=hx1.size;have e2:=hy1.size;refine qxK h1 hp hq (ih h3.1 ⟨c1,hx1,rfl⟩ ⟨d1,hy1,rfl⟩) ?_
    have:=qvE hΓ ih h3.2 (cs1:=cs1++c1) (ds1:=ds1++d1) hx2 hy2 (by simp; omega) (by simp; omega)
    rwa[zw,zw] at this
   ·cases h3
theorem qxL(hΓ:Tys P Γ){n d:Nat}(ih:∀ {t:TypeId} {T:Ty} {x y:T.den} {u v:Value},eqT Γ n t T=true->RdV F w T x u->RdV F w T y v->(Op.equalIn d t u v).run P w=.ok (eqb T x y) w)
  {et:TypeId} {e:Ty} {m:Nat} (h:eqT Γ n et e=true) (hk:P.cellsOf et=e.size) {x y:List e.den} {cs ds:List Value} (hx:RdAr e.den (RdC F w e) m x cs) (hy:RdAr e.den (RdC F w e) m y ds):
  ∀is:List Nat,(∀i∈is,i<m)->(Op.eqItems d et (P.cellsOf et) cs.toArray ds.toArray is).run P w=.ok (is.all fun i=>eqb e (x.getD i e.dflt) (y.getD i e.dflt)) w
 | [],_=>by simp[Op.eqItems]
 | i::is,hi=>by
  have him:=hi i (by simp)
  have cut:∀ {z:List e.den} {es:List Value},RdAr e.den (RdC F w e) m z es->RdC F w e (z.getD i e.dflt) ((es.drop (i*e.size)).take e.size)/\(part et es.toArray (i*e.size)).run P w=.ok (mkV e ((es.drop (i*e.size)).take e.size)) w:=by
   intro z es hz;obtain⟨g1,_⟩:=RdAr.get (fun _ _ h=>RdC.size h) e.dflt hz him
   have hes:=(RdAr.size (fun _ _ h=>RdC.size h) hz).1
   have hfit:i*e.size+e.size<=es.length:=by
    rw[hes,<-ze2]; exact zD _ him
   have e1:es=es.take (i*e.size)++((es.drop (i*e.size)).take e.size++(es.drop (i*e.size)).drop e.size):=by rw[zS1,zS1]
   have hp:=qis (cs1:=es.take (i*e.size)) (cs2:=(es.drop (i*e.size)).drop e.size) hΓ h g1;rw[<-e1,zm,ze1 (by omega)] at hp
   exact⟨g1,hp⟩
  obtain⟨a1,a2⟩:=cut hx;obtain⟨b1,b2⟩:=cut hy;have hr:=ih h (⟨_,a1,rfl⟩:RdV F w e _ _) (⟨_,b1,rfl⟩:RdV F w e _ _);have hrest:=qxL hΓ ih h hk hx hy is (fun j hj=>hi j (by simp[hj]))
  rw[hk] at hrest ⊢;simp only[Op.eqItems,zl,a2,b2,hr,zh,z41];cases eqb e (x.getD i e.dflt) (y.getD i e.dflt)
  ·simp
  ·simp[hrest]
theorem qz3{d:Nat}{t:TypeId}(hu:P.underlying t=some .string)(x y:List UInt8):(Op.equalIn (d+1) t (.string ⟨⟨x⟩⟩) (.string ⟨⟨y⟩⟩)).run P w=.ok (decide (x=y)) w:=by
 have:=run_equalIn_string (P:=P) w d t ⟨⟨x⟩⟩ ⟨⟨y⟩⟩ hu;rw[qrB,qrB] at this;rw[this]; congr 1;rw[zT]; simp
theorem qrp(hΓ:Tys P Γ):∀ {n d:Nat},n<=d->∀ {t:TypeId} {T:Ty} {x y:T.den} {u v:Value},eqT Γ n t T=true->RdV F w T x u->RdV F w T y v->(Op.equalIn d t u v).run P w=.ok (eqb T x y) w
 | 0,_,_,_,_,_,_,_,_,h,_,_=>by cases h
 | n+1,0,hd,_,_,_,_,_,_,_,_,_=>by omega
 | n+1,d+1,hd,t,T,x,y,u,v,h,hx,hy=>by
  have h0:=h;simp only[eqT] at h;split at h
  ·cases h
  ·rename_i i hl;obtain⟨hi,rfl⟩:=qao hΓ hl;have hu:=hi.und;rw[z8] at h;obtain⟨_,h⟩:=h;obtain⟨cs,hx1,rfl⟩:=hx;obtain⟨ds,hy1,rfl⟩:=hy;split at h <;> rename_i hdsc
   ·obtain rfl:=zx h;rw[hdsc] at hu; cases hx1; cases hy1;exact run_equalIn_bool' w d _ _ _ hu
   ·obtain rfl:=zx h;rw[hdsc] at hu; cases hx1; cases hy1;exact run_equalIn_int w d _ _ _ _ _ hu
   ·obtain rfl:=zx h;rw[hdsc] at hu; cases hx1; cases hy1;exact qz3 hu x y
   ·rename_i fs;rw[z8,z8] at h;obtain⟨⟨h1,h2⟩,h3⟩:=h;rw[hdsc] at hu;have hf:P.fieldsOf i.t=fs:=by simp[Program.fieldsOf,hu]
    unfold mkV;rw[h2];simp only[zb];have hru:=run_equalIn_agg (P:=P) (w:=w) d i.t cs.toArray ds.toArray (by rw[hf]; exact hu) (hi.eqs h1).2
    rw[hf] at hru;rw[hru];have:=qvE (Γ:=Γ) (n:=n) (d:=d) hΓ (fun h' hx' hy'=>qrp hΓ (by omega) h' hx' hy') h3 (cs1:=[]) (ds1:=[]) hx1 hy1 rfl rfl
    simpa using this
   ·rename_i m et;split at h
    ·rename_i q e _;rw[z8] at h;have hm:=zd h.1;subst hm;rw[hdsc] at hu;obtain⟨j,hlj,hsj,_⟩:=qz2 h.2;obtain⟨hj,hje⟩:=qao hΓ hlj;obtain⟨ii,hii,hsz⟩:∃ii,P.info? et=some ii/\ii.size=e.size:=by
      have:=hj.inf;rw[hje] at this;cases hI:P.info? et with
      | none=>rw[hI] at this; cases this
      | some ii=>
       rw[hI] at this;simp only[zf1,zt1,Prod.mk.injEq] at this;exact⟨ii,rfl,by rw[this.1,hsj]⟩
     have hk:P.cellsOf et=e.size:=by unfold Program.cellsOf; rw[hii]; exact hsz
     have hrn:=run_equalIn_array (P:=P) (w:=w) d cs.toArray ds.toArray hu hii;show(Op.equalIn (d+1) i.t (.agg cs.toArray) (.agg ds.toArray)).run P w=_;rw[hrn];exact qxL (Γ:=Γ) (n:=n) (d:=d) hΓ (fun h' hx' hy'=>qrp hΓ (by omega) h' hx' hy') h.2 hk hx1 hy1 (List.range m) (fun i hi=>zU.1 hi)
    ·cases h
   ·cases h
end
section
variable {P:Program} {w0:World} {M:Mod} {N:Nat} {st:St} {Γ:List TI} {rty:TypeId}
def evEqS(Γ:List TI)(st:St)(op:BinOp)(t:TypeId)(x y:Operand):Option VR:=
 match look Γ t with
 | none=>none
 | some i=>bif i.eq&&i.T.agg&&eqT Γ 20 t i.T then match(st.ev x).dat i.T,(st.ev y).dat i.T with
   | some a,some b=>match op with
    | .eql=>some ⟨true,qaa x++qaa y,.v .bool (eqb i.T a b)⟩
    | .neq=>some ⟨true,qaa x++qaa y,.v .bool (!eqb i.T a b)⟩
    | _=>none
   | _,_=>none
  else none
theorem qCd(hΓ:Tys P Γ){op:BinOp}{t t2:TypeId}{x y:Operand}{r:VR}(h:evEqS Γ st op t x y=some r):VOk P w0 M N st (.binOp op t x y t2) rty r:=by
 unfold evEqS at h;split at h
 ·cases h
 ·rename_i i hl;have hl':=hl;obtain⟨hi,rfl⟩:=qao hΓ hl;cases hc:(i.eq&&i.T.agg&&eqT Γ 20 i.t i.T) with
  | false=>rw[hc] at h; cases h
  | true=>
   rw[hc] at h; simp only[zb] at h;rw[z8,z8] at hc;obtain⟨⟨c1,c2⟩,c3⟩:=hc;split at h
   ·rename_i p q hp hq;have key:∀(st':St),(∀κ∈qaa x++qaa y,agree st st' κ)->∀F U a w,Rel' P w0 M N F U st' a w->∃cs ds,a.eval x=.agg cs/\a.eval y=.agg ds/\(Op.equalIn 10000 i.t (.agg cs) (.agg ds)).run P w=.ok (eqb i.T p q) w:=by
     intro st' hag F U a w hr;have hx:=qda hp (hr.evx hag (fun _ h=>mem_l h))
     have hy:=qda hq (hr.evx hag (fun _ h=>mem_r h))
     have he:=qrp (w:=w) (F:=F) hΓ (show 20<=10000 by omega) c3 hx hy
     obtain⟨cs,_,e1⟩:=hx;obtain⟨ds,_,e2⟩:=hy;rw[e1,e2] at he;rw[e1,e2];unfold mkV at he ⊢;rw[c2] at he ⊢;exact⟨_,_,rfl,rfl,he⟩
    split at h
    ·cases h
     intro st' hag F U a w hr dst pos af gd;obtain⟨cs,ds,e1,e2,e3⟩:=key st' hag F U a w hr;exact⟨_,by simp only[execOp,e1,e2,zl,run_eqGuard_agg w .eql i.t x y cs ds (hi.eqs c1).1,zh,run_eql_struct,e3,zn],.ofBool _⟩
    ·cases h
     intro st' hag F U a w hr dst pos af gd;obtain⟨cs,ds,e1,e2,e3⟩:=key st' hag F U a w hr;exact⟨_,by simp only[execOp,e1,e2,zl,run_eqGuard_agg w .neq i.t x y cs ds (hi.eqs c1).1,zh,run_neq_struct,e3,zn],.ofBool _⟩
    ·cases h
   ·cases h
def evVal(Γ:List TI)(st:St):Op->Option VR
 | .move x=>qxJ st x
 | .assign x=>qxJ st x
 | .binOp op t x y _=>match evBin Γ st op t x y with
  | some r=>some r
  | none=>evEqS Γ st op t x y
 | .unOp op _ x=>evUn st op x
 | .convert s d x=>qzQ Γ st s d x
 | .pick c x y=>qzS st c x y
 | .load t x=>qtu Γ st t x
 | .nilCheck x=>evNil st x
 | .fieldAddr t x n=>qt1 Γ st t x n
 | .indexAddr t x ix=>qrn Γ st t x ix
 | .index t x ix=>qt4 Γ st t x ix
 | .extract x n=>qrG st x n
 | .field t x n=>qwH Γ st t x n
 | .slice t x lo hi none=>qwL Γ st t x lo hi
 | .build t ⟨parts⟩=>qwM Γ st t parts
 | .makeFunc fn ⟨first⟩ ⟨captured⟩=>qzZ st fn first captured
 | .call ⟨.builtin .len,⟨[x]⟩,⟨[t]⟩⟩=>evLen Γ st t x
 | .call ⟨.builtin .max,⟨[x,y]⟩,⟨[_,_]⟩⟩=>evMM st true x y
 | .call ⟨.builtin .min,⟨[x,y]⟩,⟨[_,_]⟩⟩=>evMM st false x y
 | _=>none
theorem qxM(hΓ:Tys P Γ){op:Op}{r:VR}(h:evVal Γ st op=some r)(hg:r.g=true):VOk P w0 M N st op rty r:=by
 unfold evVal at h;split at h
 ·exact(qvz h).1
 ·exact(qvz h).2
 ·split at h
  ·rename_i hb;cases h
   exact qB9 hΓ hb hg
  ·exact qCd hΓ h
 ·exact qEh h
 ·exact qzR hΓ h
 ·exact qzT h hg
 ·exact qvA hΓ h
 ·exact qCb h
 ·exact qwF hΓ h
 ·exact qrF hΓ h hg
 ·exact qwK hΓ h hg
 ·exact qvB h
 ·exact qyU hΓ h
 ·exact qyW hΓ h hg
 ·exact qyX hΓ h
 ·exact qz0 h
 ·exact qCc hΓ h
 ·exact qzX.1 h
 ·exact qzX.2 h
 ·cases h
end
end Go.Sq
