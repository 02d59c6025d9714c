/- The second engine, part A: typed data, symbolic values and states, and what they say of a frame and a world. No condition. -/
import Derived.WalkKit
import Derived.WalkLawsBesides
import Derived.MapKept
import Derived.Maps.RangeRun
namespace Go.Sq
open Go Go.RowKit
set_option linter.defProp false
def z7:=@Option.bind_some
def z8:=@Bool.and_eq_true
def z9:=@Int.toNat_natCast
def za:=@cond_true
def zb:=@cond_false
def zc:=@Nat.eq_of_beq_eq_true
def zd:=@List.length_append
def ze:=@Go.Result.andThen_ok
def zf:=@Bool.not_true
def zg:=@List.length_cons
def zh:=@List.getD_eq_getElem?_getD
def zi:=@of_decide_eq_true
def zj:=@decide_eq_true_eq
def zk:=@List.getElem?_eq_getElem
def zl:=@Go.Sem.run_bind
def zm:=@List.all_eq_true
def zn:=@List.length_take
def zo:=@Go.Sem.run_pure
def zp:=@List.getElem?_take
def zq:=@Bool.not_eq_true'
def zr:=@List.getElem?_eq_some_iff
def zt:=@Go.run_underlying
def zu:=@List.append_assoc
def zw:=@List.mem_cons
def zx:=@List.length_nil
def zy:=@decide_eq_true_iff
def zz:=@List.take_of_length_le
def zA:=@Nat.mul_le_mul_right
def zB:=@List.getElem?_drop
def zC:=@List.nil_append
def zD:=@List.mem_append
def zE:=@Bool.true_and
def zF:=@List.mem_of_getElem?
def zG:=@Nat.le_trans
def zH:=@Nat.le_of_ble_eq_true
def zI:=@List.length_singleton
def zJ:=@Bool.eq_false_iff
def zK:=@List.mem_range
def zL:=@List.getElem?_map
def zM:=@List.append_nil
def zN:=@of_decide_eq_false
def zO:=@List.mem_cons_of_mem
def zQ:=@List.length_set
def zR:=@List.getElem?_append_left
def zS:=@List.mem_map
def zT:=@Array.getElem?_eq_some_iff
def zU:=@Bool.eq_iff_iff
def zV:=@List.getElem?_append_right
def zW:=@List.mem_singleton
def zX:=@Nat.blt_eq
def zY:=@Nat.zero_add
def zZ:=@List.drop_of_length_le
def z01:=@List.length_drop
def z11:=@List.all_cons
def z21:=@decide_eq_true
def z31:=@Nat.add_mul
def z41:=@Array.getD_eq_getD_getElem?
def z51:=@List.all_eq_not_any_not
def z61:=@Nat.le_refl
def z71:=@List.length_map
def z81:=@Sum.elim_inl
def z91:=@Nat.min_eq_left
def za1:=@List.eq_nil_of_length_eq_zero
def zb1:=@Nat.ble_eq
def zc1:=@Option.map_eq_some_iff
def zd1:=@Bool.or_eq_true
def ze1:=@List.drop_eq_getElem_cons
def zf1:=@Option.map_some
def zg1:=@List.take_append_of_le_length
def zh1:=@List.map_cons
def zi1:=@Go.Addr.add_lit
def zj1:=@List.cons_append
def zk1:=@Bool.not_false
def zl1:=@List.getElem?_eq_none
def zm1:=@List.mem_map_of_mem
def zn1:=@Option.some.injEq
def zo1:=@List.length_eq_one_iff
def zp1:=@List.getElem?_of_mem
def zq1:=@Nat.lt_of_lt_of_le
def zr1:=@Array.length_toList
def zs1:=@Option.ne_none_iff_exists'
def zt1:=@Array.getElem?_eq_getElem
def zu1:=@Nat.zero_le
def zv1:=@decide_eq_decide
def zw1:=@Nat.ble_eq_true_of_le
def zx1:=@Nat.one_mul
def zy1:=@List.size_toArray
def zz1:=@Nat.le_succ_of_le
def zA1:=@Int.ofNat_eq_natCast
def zB1:=@Go.RowKit.Below.heap_alloc
def zC1:=@List.ext_getElem?
def zD1:=@List.take_append_drop
def zE1:=@List.drop_drop
def zF1:=@List.take_take
def zG1:=@Array.getElem?_toList
def zH1:=@List.map_append
def zI1:=@List.length_eq_zero_iff
def zJ1:=@List.map_toArray
def zK1:=@Go.Code.wp_mono
def zL1:=@List.any_eq_false
def zM1:=@List.headD_cons
def zN1:=@List.drop_append_of_le_length
def zO1:=@List.drop_append
def zP1:=@Nat.add_zero
def zQ1:=@Bool.false_eq_true
def zR1:=@Array.getElem?_setIfInBounds
def zS1:=@Nat.add_sub_cancel_left
def zT1:=@Nat.le_mul_of_pos_right
def zU1:=@Option.map_none
def zV1:=@List.take_length
def zW1:=@Nat.eq_zero_or_pos
def zX1:=@Nat.mul_comm
def zY1:=@Nat.succ_mul
def zZ1:=@Bool.or_eq_false_iff
def z02:=@Array.size_append
def z12:=@List.cons.inj
def z22:=@decide_eq_false_iff_not
def z32:=@List.drop_zero
def z42:=@List.drop_take
def z52:=@List.mem_flatMap
def z62:=@Bool.not_eq_true
def z72:=@Bool.and_false
def z82:=@decide_true
def z92:=@List.getElem?_set_self
def za2:=@List.findIdx_lt_length
def zb2:=@Nat.lt_or_ge
def zc2:=@List.map_nil
def zd2:=@List.mem_cons_self
def ze2:=@Bool.not_not
def zf2:=@List.length_replicate
def zg2:=@List.mem_filter
def zh2:=@Option.some.inj
def zi2:=@Bool.false_or
def zj2:=@List.mem_of_mem_take
def zk2:=@List.getElem?_set_ne
def zl2:=@Go.setRow_heap
def zm2:=@Go.heap_alloc_new
def zn2:=@Go.setRow_other
def zo2:=@Option.getD_some
def zp2:=@List.any_eq_true
def zq2:=@List.take_succ_eq_append_getElem
def zr2:=@List.map_congr_left
def zs2:=@List.eraseIdx_eq_take_drop_succ
def zt2:=@List.getElem?_cons_zero
def zu2:=@List.getElem?_replicate
def zv2:=@Bool.and_true
def zw2:=@decide_eq_false
def zx2:=@Go.grownCap_le_maxLen
def zy2:=@decide_not
def zz2:=@Go.MapKept.run_getObj_map
def zA2:=@Nat.zero_mul
def zB2:=@List.take_left
def zC2:=@Array.getElem?_modify
def zD2:=@Int.add_zero
def zE2:=@Go.World.cell?_of_block
def zF2:=@List.mem_of_mem_drop
def zG2:=@Nat.div_lt_of_lt_mul
def zH2:=@Go.IntKind.wrap_i64
def zI2:=@List.perm_append_singleton
def zJ2:=@Nat.mul_one
def zK2:=@Array.toList_append
def zL2:=@Go.run_callFunc_extern
def zM2:=@beq_eq_false_iff_ne
def zN2:=@Nat.div_add_mod
def zO2:=@Nat.beq_refl
def zP2:=@Go.run_loadCells_list
def zQ2:=@Option.isSome_some
def zR2:=@List.pairwise_cons
def zS2:=@Go.size_zeroCells
def zT2:=@beq_iff_eq
def zU2:=@Bool.false_and
def zV2:=@Option.bind_eq_some_iff
def zW2:=@Go.run_storeCells_at
def zX2:=@List.take_append
def zY2:=@List.getElem_mem
inductive Ty where
 | unit | int (k:IntKind) | bool | str | sl (e:Ty) | pair (a b:Ty) | err | map (k v:Ty) | fnc (f:Nat) | fnl (fs:List Nat) | arr (n:Nat) (e:Ty) | clo (f:Nat) (e:Ty)
 deriving DecidableEq
def Ty.den:Ty->Type
 | .unit=>Unit
 | .int _=>Int
 | .bool=>Bool
 | .str=>List UInt8
 | .sl e=>List e.den
 | .pair a b=>a.den×b.den
 | .err=>Bool
 | .map k v=>List (k.den×v.den)
 | .fnc _=>Unit
 | .fnl _=>Nat
 | .arr _ e=>List e.den
 | .clo _ e=>e.den
def Ty.dflt:(τ:Ty)->τ.den
 | .unit=>()
 | .int _=>(0:Int)
 | .bool=>false
 | .str=>([]:List UInt8)
 | .sl _=>[]
 | .pair a b=>(a.dflt,b.dflt)
 | .err=>false
 | .map _ _=>[]
 | .fnc _=>()
 | .fnl _=>(0:Nat)
 | .arr n e=>List.replicate n e.dflt
 | .clo _ e=>e.dflt
def Ty.size:Ty->Nat
 | .unit=>0
 | .pair a b=>a.size+b.size
 | .arr n e=>n*e.size
 | _=>1
def Ty.agg:Ty->Bool
 | .unit | .pair _ _ | .arr _ _=>true
 | _=>false
def RdAr(δ:Type)(R:δ->List Value->Prop):Nat->List δ->List Value->Prop
 | 0,l,cs=>l=[]/\cs=[]
 | n+1,l,cs=>∃x r c cs',l=x::r/\cs=c++cs'/\R x c/\RdAr δ R n r cs'
theorem RdAr.size{δ:Type}{R:δ->List Value->Prop}{k:Nat}(hR:∀x c,R x c->c.length=k):∀ {n:Nat} {l:List δ} {cs:List Value},RdAr δ R n l cs->cs.length=n*k/\l.length=n
 | 0,_,_,⟨rfl,rfl⟩=>by simp
 | n+1,_,_,⟨x,r,c,cs',rfl,rfl,h1,h2⟩=>by
  obtain⟨a,b⟩:=RdAr.size hR h2;rw[zd,hR _ _ h1,a,zg,b,z31,zx1]; exact⟨by omega,rfl⟩
theorem RdAr.all{δ:Type}{R:δ->List Value->Prop}{p:Value->Prop}(hR:∀x c,R x c->∀v∈c,p v):∀ {n:Nat} {l:List δ} {cs:List Value},RdAr δ R n l cs->∀v∈cs,p v
 | 0,_,_,⟨rfl,rfl⟩,v,hv=>by cases hv
 | n+1,_,_,⟨x,r,c,cs',rfl,rfl,h1,h2⟩,v,hv=>by
  rcases zD.1 hv with hv | hv
  ·exact hR _ _ h1 v hv
  ·exact RdAr.all hR h2 v hv
theorem RdAr.mono{δ:Type}{R R':δ->List Value->Prop}(hR:∀x c,R x c->R' x c):∀ {n:Nat} {l:List δ} {cs:List Value},RdAr δ R n l cs->RdAr δ R' n l cs
 | 0,_,_,h=>h
 | n+1,_,_,⟨x,r,c,cs',e1,e2,h1,h2⟩=>⟨x,r,c,cs',e1,e2,hR _ _ h1,RdAr.mono hR h2⟩
theorem RdAr.get{δ:Type}{R:δ->List Value->Prop}{k:Nat}(hR:∀x c,R x c->c.length=k)(d:δ):∀ {n:Nat} {l:List δ} {cs:List Value} {i:Nat},RdAr δ R n l cs->i<n->R (l.getD i d) ((cs.drop (i*k)).take k)∧
  ∀ {z:δ} {ds:List Value},R z ds->RdAr δ R n (l.set i z) (cs.take (i*k)++ds++cs.drop (i*k+k))
 | 0,_,_,_,_,h=>by omega
 | n+1,_,_,0,⟨x,r,c,cs',rfl,rfl,h1,h2⟩,_=>by
  have hc:=hR _ _ h1;refine⟨?_,fun{z ds} hz=>?_⟩
  ·rw[zA2,z32,zg1 (by omega),zz (by omega)]; exact h1
  ·rw[zA2,List.take_zero,zC,zY,zN1 (by omega),zZ (by omega),zC]
   exact⟨z,r,ds,cs',rfl,rfl,hz,h2⟩
 | n+1,_,_,i+1,⟨x,r,c,cs',rfl,rfl,h1,h2⟩,hi=>by
  have hc:=hR _ _ h1;obtain⟨a,b⟩:=RdAr.get hR d (i:=i) h2 (by omega)
  have e:(i+1)*k=c.length+i*k:=by rw[z31,zx1,hc]; omega
  refine⟨?_,fun{z ds} hz=>?_⟩
  ·rw[e,zO1,zZ (by omega),zC,zS1]; exact a
  ·refine⟨x,r.set i z,c,cs'.take (i*k)++ds++cs'.drop (i*k+k),rfl,?_,h1,b hz⟩
   rw[e,zX2,zz (l:=c) (by omega),zS1,Nat.add_assoc,zO1,zZ (l:=c) (by omega),zC,zS1]
   simp only[zu]
def RdSl(F:Nat->Prop)(w:World)(δ:Type)(k:Nat)(R:δ->List Value->Prop)(l:List δ)(cs:List Value):Prop:=
 ∃ad cap,cs=[.slice ad l.length cap]/\match ad with
  | none=>l=[]
  | some a=>(0<cap->F a.block)/\l.length<=cap/\cap<=maxLen/\∀(i:Nat) (x:δ),l[i]? = some x->∃es,R x es/\∀j v,es[j]? = some v->w.cell? (a.add (i*k+j))=some v
def RdErr(b:Bool)(cs:List Value):Prop:=∃v,cs=[v]/\v.oneCell'=true/\if b=true then ∃t u,v=.iface t u else v=.nilIface
def mkV(τ:Ty)(cs:List Value):Value:=bif τ.agg then .agg cs.toArray else cs.headD undef
def RdMp(F:Nat->Prop)(w:World)(κ δ:Type)(Rk:κ->Value->Prop)(Rv:δ->Value->Prop)(l:List (κ×δ))(cs:List Value):Prop:=
 (cs=[.map none]/\l=[])\/∃r es clock,cs=[.map (some r)]/\F r/\w.heap[r]? = some (.map es clock)/\MapKept.Stamped es clock∧
  ∃Z:List ((κ×δ)×MapEntry),Z.map (·.1)=l/\(Z.map (·.2)).Perm es.toList/\∀z,z∈Z->Rk z.1.1 z.2.key/\Rv z.1.2 z.2.val
def fnAt(fs:List Nat):Nat->Option Nat
 | 0=>none
 | x+1=>fs[x]?
def fnVal(fs:List Nat)(x:Nat):Value:=match fnAt fs x with
 | some f=>.func (.func f) #[] #[]
 | none=>.nilFunc
theorem qy7(fs:List Nat)(x:Nat):(fnVal fs x).oneCell'=true:=by
 unfold fnVal; split <;> rfl
def RdC(F:Nat->Prop)(w:World):(τ:Ty)->τ.den->List Value->Prop
 | .unit,_,cs=>cs=[]
 | .int k,n,cs=>cs=[.int k n]
 | .bool,b,cs=>cs=[.bool b]
 | .str,l,cs=>cs=[.string ⟨⟨l⟩⟩]
 | .sl e,l,cs=>RdSl F w e.den e.size (RdC F w e) l cs
 | .pair a b,x,cs=>∃c1 c2,cs=c1++c2/\RdC F w a x.1 c1/\RdC F w b x.2 c2
 | .err,b,cs=>RdErr b cs
 | .map k v,l,cs=>RdMp F w k.den v.den (fun x u=>∃c,RdC F w k x c/\u=mkV k c) (fun x u=>∃c,RdC F w v x c/\u=mkV v c) l cs
 | .fnc f,_,cs=>cs=[.func (.func f) #[] #[]]
 | .fnl fs,x,cs=>cs=[fnVal fs x]
 | .arr n e,l,cs=>RdAr e.den (RdC F w e) n l cs
 | .clo f e,x,cs=>∃ad es,cs=[.func (.func f) #[] #[.pointer (some (Addr.add ad 0))]]/\F ad.block/\RdC F w e x es/\∀j u,es[j]? = some u->w.cell? (ad.add j)=some u
theorem qls(a:Addr)(n:Nat):(a.add n).block=a.block:=by unfold Addr.add; split <;> rfl
theorem RdC.size{F:Nat->Prop}{w:World}:∀ {τ:Ty} {x:τ.den} {cs:List Value},RdC F w τ x cs->cs.length=τ.size
 | .unit,_,_,h=>by cases h; rfl
 | .int _,_,_,h=>by cases h; rfl
 | .bool,_,_,h=>by cases h; rfl
 | .str,_,_,h=>by cases h; rfl
 | .sl _,_,_,h=>by obtain⟨_,_,rfl,_⟩:=h; rfl
 | .pair a b,_,_,h=>by obtain⟨c1,c2,rfl,h1,h2⟩:=h; rw[zd,h1.size,h2.size]; rfl
 | .err,_,_,h=>by obtain⟨_,rfl,_⟩:=h; rfl
 | .map _ _,_,_,h=>by rcases h with⟨rfl,_⟩ | ⟨_,_,_,rfl,_⟩ <;> rfl
 | .fnc _,_,_,h=>by cases h; rfl
 | .fnl _,_,_,h=>by cases h; rfl
 | .arr n e,_,_,h=>(RdAr.size (fun _ _ h=>h.size) h).1
 | .clo _ _,_,_,h=>by obtain⟨_,_,rfl,_⟩:=h; rfl
theorem RdC.one{F:Nat->Prop}{w:World}:∀ {τ:Ty} {x:τ.den} {cs:List Value},RdC F w τ x cs->∀v∈cs,v.oneCell'=true
 | .unit,_,_,h=>by cases h; simp
 | .int _,_,_,h=>by cases h; simp; rfl
 | .bool,_,_,h=>by cases h; simp; rfl
 | .str,_,_,h=>by cases h; simp; rfl
 | .sl _,_,_,h=>by obtain⟨_,_,rfl,_⟩:=h; simp; rfl
 | .pair a b,_,_,h=>by
  obtain⟨c1,c2,rfl,h1,h2⟩:=h;intro v hv;rcases zD.1 hv with hv | hv
  ·exact h1.one v hv
  ·exact h2.one v hv
 | .err,_,_,h=>by obtain⟨v,rfl,h1,_⟩:=h; simpa using h1
 | .map _ _,_,_,h=>by rcases h with⟨rfl,_⟩ | ⟨_,_,_,rfl,_⟩ <;> (simp; rfl)
 | .fnc _,_,_,h=>by cases h; simp; rfl
 | .fnl fs,x,_,h=>by cases h; simp; exact qy7 fs x
 | .arr n e,_,_,h=>RdAr.all (fun _ _ h=>h.one) h
 | .clo _ _,_,_,h=>by obtain⟨_,_,rfl,_⟩:=h; simp; rfl
theorem RdC.mono{F F':Nat->Prop}{w w':World}(hF:∀g,F g->F' g)(hw:∀g,F g->w'.heap[g]? = w.heap[g]?):∀ {τ:Ty} {x:τ.den} {cs:List Value},RdC F w τ x cs->RdC F' w' τ x cs
 | .unit,_,_,h=>h
 | .int _,_,_,h=>h
 | .bool,_,_,h=>h
 | .str,_,_,h=>h
 | .sl e,l,_,h=>by
  obtain⟨ad,cap,rfl,h⟩:=h;refine⟨ad,cap,rfl,?_⟩
  cases ad with
  | none=>exact h
  | some a=>
   obtain⟨h1,h2,h3,h4⟩:=h;refine⟨fun hc=>hF _ (h1 hc),h2,h3,fun i x hx=>?_⟩
   obtain⟨es,g1,g2⟩:=h4 i x hx;have hi:=(zr.1 hx).1;exact⟨es,g1.mono hF hw,fun j v hj=>(zE2 (hw _ (by rw[qls]; exact h1 (zq1 (Nat.lt_of_le_of_lt (zu1 _) hi) h2)))).trans (g2 j v hj)⟩
 | .pair a b,_,_,h=>by obtain⟨c1,c2,rfl,h1,h2⟩:=h; exact⟨c1,c2,rfl,h1.mono hF hw,h2.mono hF hw⟩
 | .err,_,_,h=>h
 | .map k v,l,_,h=>by
  rcases h with h | ⟨r,es,clock,rfl,h1,h2,h3,Z,h4,h5,h6⟩
  ·exact .inl h
  ·refine .inr ⟨r,es,clock,rfl,hF _ h1,(hw _ h1).trans h2,h3,Z,h4,h5,fun z hz=>?_⟩
   obtain⟨⟨c1,p1,p2⟩,⟨c2,q1,q2⟩⟩:=h6 z hz;exact⟨⟨c1,p1.mono hF hw,p2⟩,⟨c2,q1.mono hF hw,q2⟩⟩
 | .fnc _,_,_,h=>h
 | .fnl _,_,_,h=>h
 | .arr n e,_,_,h=>RdAr.mono (fun _ _ h=>h.mono hF hw) h
 | .clo f e,_,_,h=>by
  obtain⟨ad,es,h1,h2,h3,h4⟩:=h;exact⟨ad,es,h1,hF _ h2,h3.mono hF hw,fun j u hj=>(zE2 (hw _ (by rw[qls]; exact h2))).trans (h4 j u hj)⟩
def RdV(F:Nat->Prop)(w:World)(τ:Ty)(x:τ.den)(v:Value):Prop:=∃cs,RdC F w τ x cs/\v=mkV τ cs
def HL:List Ty->Type
 | []=>Unit
 | τ::r=>τ.den×HL r
inductive SV where
 | v (τ:Ty) (x:τ.den)
 | raw (v:Value)
 | any
 | ptr (b o:Nat)
 | nptr (b o:Nat)
 | ael (b k i o:Nat)
 | pel (b n k i o:Nat)
 | aix (b k i o n m:Nat)
 | pre (b hi n:Nat)
 | rest (b k lo n:Nat)
 | own (b:Nat)
 | sel (τ:Ty) (x:τ.den) (o:Nat)
 | agg (cs:List SV)
 | tup (cs:List SV)
 | when (c:Bool) (s:SV)
 | clo (f:FuncId) (cs:List SV)
 | fn (ps:List Ty) (r:Ty) (g:HL ps->Option r.den)
 | fmap (ps:List Ty) (r:Ty) (ks:List (List UInt8)) (g:HL (.str::ps)->Option r.den)
 | cut (e:Ty) (l:List e.den)
 | nilq (n:Nat)
 | fzd (b:Nat) (τ:Ty) (x:τ.den)
 | kr (t:Nat)
 | kc (b o:Nat)
abbrev SV.i(n:Int):SV:=.v (.int .i64) n
abbrev SV.b(x:Bool):SV:=.v .bool x
abbrev Env:=Nat->Option Value
def Env.none:Env:=fun _=>.none
def RdL(F:Nat->Prop)(w:World):(ps:List Ty)->HL ps->List Value->Prop
 | [],_,vs=>vs=[]
 | τ::r,x,vs=>∃v vs',vs=v::vs'/\RdV F w τ x.1 v/\RdL F w r x.2 vs'
structure Fr(w0:World)(M:Nat->Prop)(w:World):Prop where
 os:w.os=w0.os
 tape:w.tape=w0.tape
 output:w.output=w0.output
 size:w0.heap.size<=w.heap.size
 blk:∀g,g<w0.heap.size->¬M g->w.heap[g]? = w0.heap[g]?
theorem Fr.refl(w:World)(M:Nat->Prop):Fr w M w:=⟨rfl,rfl,rfl,z61 _,fun _ _ _=>rfl⟩
theorem Fr.trans{w0 w1 w2:World}{M M':Nat->Prop}(h:Fr w0 M w1)(h':Fr w1 M' w2)(hM:∀g,M' g->g<w0.heap.size->M g):Fr w0 M w2:=
 ⟨h'.os.trans h.os,h'.tape.trans h.tape,h'.output.trans h.output,zG h.size h'.size,fun g hg hn=>(h'.blk g (zq1 hg h.size) (fun hm=>hn (hM g hm hg))).trans (h.blk g hg hn)⟩
def qEu(F:Nat->Prop)(w:World)(τ:Ty)(x:τ.den)(e:Ending)(w':World):Prop:=
 ∃r F',e=.returned r/\Fr w (fun _=>False) w'/\(∀g,F g->F' g)/\(∀g,F' g->F g\/w.heap.size<=g)/\(∀g,F' g->g<w'.heap.size)/\RdV F' w' τ x r
def FnVal(P:Program)(F:Nat->Prop)(w:World)(ps:List Ty)(r:Ty)(g:HL ps->Option r.den)(v:Value):Prop:=
 (v=.nilFunc/\∀x,g x=none)\/∃f caps,v=.func (.func f) #[] caps/\(∃fn,P.funcs[f]? = some fn/\(fn.name == "runtime.NumGoroutine")=false/\fn.body.isNone=false)∧
  ∀x y,g x=some y->∀F' w' vs,(∀b,F b->F' b)->(∀b,F b->w'.heap[b]? = w.heap[b]?)->(∀b,F' b->b<w'.heap.size)->RdL F' w' ps x vs->
   Calls P f (vs.toArray++caps) w' (qEu F' w' r y)
theorem FnVal.mono{P:Program}{F F':Nat->Prop}{w w':World}{ps:List Ty}{r:Ty}{g:HL ps->Option r.den}{v:Value}(h:FnVal P F w ps r g v)(hF:∀b,F b->F' b)(hw:∀b,F b->w'.heap[b]? = w.heap[b]?):FnVal P F' w' ps r g v:=by
 rcases h with h | ⟨f,caps,h1,h2,h3⟩
 ·exact .inl h
 ·exact .inr ⟨f,caps,h1,h2,fun x y hy F'' w'' vs hFF hww=>h3 x y hy F'' w'' vs (fun b hb=>hFF b (hF b hb)) (fun b hb=>(hww b (hF b hb)).trans (hw b hb))⟩
inductive Den (P:Program) (F:Nat->Prop) (w:World):Env->SV->Value->Prop
 | v {ρ τ x u}:RdV F w τ x u->Den P F w ρ (.v τ x) u
 | raw {ρ} (u:Value):Den P F w ρ (.raw u) u
 | any {ρ} (u:Value):Den P F w ρ .any u
 | ptr {ρ b o g}:ρ b=some (.pointer (some ⟨g,0,none⟩))->Den P F w ρ (.ptr b o) (.pointer (some ⟨g,o,none⟩))
 | nptr {ρ b o u}:(u=.pointer none\/∃g,ρ b=some (.pointer (some ⟨g,0,none⟩))/\u=.pointer (some ⟨g,o,none⟩))->Den P F w ρ (.nptr b o) u
 | ael {ρ b k i o g n cap}:ρ b=some (.slice (some ⟨g,0,none⟩) n cap)->i<n->Den P F w ρ (.ael b k i o) (.pointer (some ⟨g,i*k+o,none⟩))
 | pel {ρ b n k i o g}:ρ b=some (.pointer (some ⟨g,0,none⟩))->i<n->Den P F w ρ (.pel b n k i o) (.pointer (some ⟨g,o+i*k,none⟩))
 | aix {ρ b k i o n m g n' cap}:ρ b=some (.slice (some ⟨g,0,none⟩) n' cap)->i<n'->m<n->Den P F w ρ (.aix b k i o n m) (.pointer (some ⟨g,i*k+(o+m),none⟩))
 | pre {ρ b hi g n cap}:ρ b=some (.slice (some ⟨g,0,none⟩) n cap)->hi<=n->Den P F w ρ (.pre b hi n) (.slice (some ⟨g,0,none⟩) hi cap)
 | rest {ρ b k lo g n cap}:ρ b=some (.slice (some ⟨g,0,none⟩) n cap)->lo<=n->n<=cap->Den P F w ρ (.rest b k lo n) (.slice (if cap=lo then some ⟨g,0,none⟩ else some ⟨g,lo*k,none⟩) (n-lo) (cap-lo))
 | own {ρ b u}:ρ b=some u->Den P F w ρ (.own b) u
 | sel {ρ τ x o es} {ad:Addr}:F ad.block->RdC F w τ x es->(∀j u,es[j]? = some u->w.cell? (ad.add j)=some u)->Den P F w ρ (.sel τ x o) (.pointer (some (ad.add o)))
 | agg {ρ} {ss:List SV} {vs:List Value}:ss.length=vs.length->(∀(i:Nat) (s:SV) (u:Value),ss[i]? = some s->vs[i]? = some u->Den P F w ρ s u)->(∀u∈vs,u.oneCell'=true)->Den P F w ρ (.agg ss) (.agg vs.toArray)
 | tup {ρ} {ss:List SV} {vs:List Value}:ss.length=vs.length->(∀(i:Nat) (s:SV) (u:Value),ss[i]? = some s->vs[i]? = some u->Den P F w ρ s u)->Den P F w ρ (.tup ss) (.tuple vs.toArray)
 | when {ρ} {c:Bool} {s:SV} {u:Value}:(c=true->Den P F w ρ s u)->(c=false->u=undef)->Den P F w ρ (.when c s) u
 | clo {ρ} {f:FuncId} {ss:List SV} {vs:List Value}:ss.length=vs.length->(∀(i:Nat) (s:SV) (u:Value),ss[i]? = some s->vs[i]? = some u->Den P F w ρ s u)->Den P F w ρ (.clo f ss) (.func (.func f) #[] vs.toArray)
 | fn {ρ ps r g u}:FnVal P F w ps r g u->Den P F w ρ (.fn ps r g) u
 | fmap {ρ ps r ks g m es clock} {vs:List Value}:F m->w.heap[m]? = some (.map es clock)->MapKept.Stamped es clock->vs.length=ks.length->(es.toList.map (fun e=>(e.key,e.val))).Perm ((ks.map fun k=>(Value.string ⟨⟨k⟩⟩)).zip vs)->(∀(i:Nat) (k:List UInt8) (v:Value),ks[i]? = some k->vs[i]? = some v->FnVal P F w ps r (fun x=>g (k,x)) v)->Den P F w ρ (.fmap ps r ks g) (.map (some m))
 | nilq {ρ} {n:Nat} {b:Bool}:(b=true->n=0)->Den P F w ρ (.nilq n) (.bool b)
 | fzd {ρ b τ x u}:ρ b=some u->RdV F w τ x u->Den P F w ρ (.fzd b τ x) u
 | cut {ρ} {e:Ty} {l:List e.den} {ad:Option Addr}:RdC F w (.sl e) l [.slice ad l.length l.length]->Den P F w ρ (.cut e l) (.slice ad l.length l.length)
theorem Den.mono{P:Program}{F F':Nat->Prop}{w w':World}{ρ:Env}{s:SV}{u:Value}(h:Den P F w ρ s u):
  (∀g,F g->F' g)->(∀g,F g->w'.heap[g]? = w.heap[g]?)->∀ρ':Env,(∀b x,ρ b=some x->ρ' b=some x)->Den P F' w' ρ' s u:=by
 induction h with
 | v h=>
  intro hF hw ρ' _;obtain⟨cs,h1,h2⟩:=h;exact .v ⟨cs,h1.mono hF hw,h2⟩
 | raw u=>intro _ _ ρ' _; exact .raw u
 | any u=>intro _ _ ρ' _; exact .any u
 | ptr h=>intro _ _ ρ' hρ; exact .ptr (hρ _ _ h)
 | nptr h=>intro _ _ ρ' hρ; exact .nptr (h.imp (fun h=>h) fun⟨g,h1,h2⟩=>⟨g,hρ _ _ h1,h2⟩)
 | ael h hi=>intro _ _ ρ' hρ; exact .ael (hρ _ _ h) hi
 | pel h hi=>intro _ _ ρ' hρ; exact .pel (hρ _ _ h) hi
 | aix h hi hm=>intro _ _ ρ' hρ; exact .aix (hρ _ _ h) hi hm
 | pre h hi=>intro _ _ ρ' hρ; exact .pre (hρ _ _ h) hi
 | rest h h1 h2=>intro _ _ ρ' hρ; exact .rest (hρ _ _ h) h1 h2
 | own h=>intro _ _ ρ' hρ; exact .own (hρ _ _ h)
 | sel h1 h2 h3=>
  intro hF hw ρ' _;exact .sel (hF _ h1) (h2.mono hF hw) (fun j u hj=>(zE2 (hw _ (by rw[qls]; exact h1))).trans (h3 j u hj))
 | agg hl _ h1 ih=>intro hF hw ρ' hρ; exact .agg hl (fun i s v hs hv=>ih i s v hs hv hF hw ρ' hρ) h1
 | tup hl _ ih=>intro hF hw ρ' hρ; exact .tup hl (fun i s v hs hv=>ih i s v hs hv hF hw ρ' hρ)
 | when _ hu ih=>intro hF hw ρ' hρ; exact .when (fun hc=>ih hc hF hw ρ' hρ) hu
 | clo hl _ ih=>intro hF hw ρ' hρ; exact .clo hl (fun i s v hs hv=>ih i s v hs hv hF hw ρ' hρ)
 | nilq h=>intro _ _ ρ' _; exact .nilq h
 | fzd h1 h2=>
  intro hF hw ρ' hρ;obtain⟨cs,h3,h4⟩:=h2;exact .fzd (hρ _ _ h1) ⟨cs,h3.mono hF hw,h4⟩
 | cut h=>intro hF hw ρ' _; exact .cut (h.mono hF hw)
 | fn h=>intro hF hw ρ' _; exact .fn (h.mono hF hw)
 | fmap h1 h2 h3 h4 h5 h6=>intro hF hw ρ' _; exact .fmap (hF _ h1) ((hw _ h1).trans h2) h3 h4 h5 fun i k v hk hv=>(h6 i k v hk hv).mono hF hw
def blkOf:Value->Option Nat
 | .pointer (some a)=>some a.block
 | .slice (some a) _ (_+1)=>some a.block
 | .map (some r)=>some r
 | _=>none
inductive Ob where
 | arr (ty:TypeId) (e:Ty) (l:List e.den)
 | map (nn:Bool) (ty:TypeId) (k v:Ty) (l:List (k.den×v.den))
 | iter (on:Bool) (k v:Ty) (c:List (k.den×v.den))
def OwnR(w:World)(e:TypeId)(k:Nat)(v:Value)(n:Nat)(xs:List Value):Prop:=
 xs.length=n*k/\((∃ad,v=.slice ad 0 0/\n=0)∨
  ∃g cap cur,v=.slice (some ⟨g,0,none⟩) n (cap+1)/\w.heap[g]? = some (.cells cur e (0,0))/\n<=cap+1/\cap+1<=maxLen/\cur.size=(cap+1)*k/\cur.toList.take (n*k)=xs)
theorem OwnR.of{w:World}{e:TypeId}{k:Nat}{v:Value}{n:Nat}{xs:List Value}(h:w.ownsRow 0 e k v n xs):OwnR w e k v n xs:=by
 refine⟨h.1,?_⟩
 rcases h.2 with⟨h2,h3⟩ | ⟨g,cap,cur,rfl,_,h4,h5,h6⟩
 ·exact .inl ⟨none,h2,h3⟩
 ·cases cap with
  | zero=>exact .inl ⟨some ⟨g,0,none⟩,by rw[show n=0 by omega],by omega⟩
  | succ cap=>exact .inr ⟨g,cap,cur,rfl,h4,h5,h6⟩
theorem OwnR.to{w:World}{e:TypeId}{k:Nat}{v:Value}{n:Nat}{xs:List Value}(h:OwnR w e k v n xs):(∃ad,v=.slice ad 0 0/\n=0/\xs=[])\/(w.ownsRow 0 e k v n xs/\∃g cap,v=.slice (some ⟨g,0,none⟩) n (cap+1)):=by
 rcases h.2 with⟨ad,h2,h3⟩ | ⟨g,cap,cur,rfl,h4,h5,h6⟩
 ·exact .inl ⟨ad,h2,h3,za1 (by rw[h.1,h3]; simp)⟩
 ·exact .inr ⟨⟨h.1,.inr ⟨g,cap+1,cur,rfl,zu1 _,h4,h5,h6⟩⟩,g,cap,rfl⟩
theorem OwnR.nil(w:World)(e:TypeId)(k:Nat)(ad:Option Addr):OwnR w e k (.slice ad 0 0) 0 []:=⟨by simp,.inl ⟨ad,rfl,rfl⟩⟩
theorem OwnR.cells{w:World}{e:TypeId}{k:Nat}{v:Value}{n:Nat}{xs:List Value}(h:OwnR w e k v n xs){g m cap:Nat}(hv:v=.slice (some ⟨g,0,none⟩) m cap):∀j u,xs[j]? = some u->w.cell? ((⟨g,0,none⟩:Addr).add j)=some u:=by
 rcases h.to with⟨ad,_,_,rfl⟩ | ⟨h1,g',cap',h2⟩
 ·intro j u hj; simp at hj
 ·rw[hv] at h2; injection h2 with e1 e2 e3; injection e1 with e1; injection e1 with e1; subst e1 e2 e3
  exact h1.cells (g:=g) (by rw[hv]; rfl)
theorem qor{a:Addr}{n c g:Nat}(h:blkOf (.slice (some a) n c)=some g):g=a.block:=by
 cases c with
 | zero=>cases h
 | succ c=>injection h with h; exact h.symm
theorem qw9(ad:Option Addr)(n:Nat):blkOf (.slice ad n 0)=none:=by cases ad <;> rfl
structure MapEs(F:Nat->Prop)(w:World)(k v:Ty)(l:List (k.den×v.den))(es:Array MapEntry)(clock:Nat):Prop where
 st:MapKept.Stamped es clock
 ent:∃Z:List ((k.den×v.den)×MapEntry),Z.map (·.1)=l/\(Z.map (·.2)).Perm es.toList/\∀z,z∈Z->RdV F w k z.1.1 z.2.key/\RdV F w v z.1.2 z.2.val
def bornT(ty:TypeId):Bool:=Nat.ble 1000000 ty
def PermB(ty:TypeId)(L:List MapEntry)(es:Array MapEntry)(clock:Nat):Prop:=
 L.Perm es.toList/\(bornT ty=true->L=es.toList/\clock=es.size/\∀(i:Nat) (e:MapEntry),L[i]? = some e->e.born=i)
structure MapEb(ty:TypeId)(F:Nat->Prop)(w:World)(k v:Ty)(l:List (k.den×v.den))(es:Array MapEntry)(clock:Nat):Prop where
 st:MapKept.Stamped es clock
 ent:∃Z:List ((k.den×v.den)×MapEntry),Z.map (·.1)=l/\PermB ty (Z.map (·.2)) es clock/\∀z,z∈Z->RdV F w k z.1.1 z.2.key/\RdV F w v z.1.2 z.2.val
theorem MapEb.es{ty:TypeId}{F:Nat->Prop}{w:World}{k v:Ty}{l:List (k.den×v.den)}{es:Array MapEntry}{clock:Nat}(h:MapEb ty F w k v l es clock):MapEs F w k v l es clock:=by
 obtain⟨h1,Z,h2,h3,h4⟩:=h;exact⟨h1,Z,h2,h3.1,h4⟩
theorem MapEs.eb{ty:TypeId}(ht:bornT ty=false){F:Nat->Prop}{w:World}{k v:Ty}{l:List (k.den×v.den)}{es:Array MapEntry}{clock:Nat}(h:MapEs F w k v l es clock):MapEb ty F w k v l es clock:=by
 obtain⟨h1,Z,h2,h3,h4⟩:=h;exact⟨h1,Z,h2,⟨h3,fun h=>by rw[ht] at h; cases h⟩,h4⟩
theorem MapEs.size{F:Nat->Prop}{w:World}{k v:Ty}{l:List (k.den×v.den)}{es:Array MapEntry}{clock:Nat}(h:MapEs F w k v l es clock):es.size=l.length:=by
 obtain⟨Z,rfl,h2,_⟩:=h.ent;have:=h2.length_eq;simp at this;simp[this]
def ItOk(F:Nat->Prop)(w:World)(k v:Ty)(c:List (k.den×v.den))(mo:Option Nat)(since:Nat)(seen:Array Nat)(last:Nat):Prop:=
 (mo=none/\c.tail=[])\/∃m es clock,mo=some m/\F m/\w.heap[m]? = some (.map es clock)/\MapKept.Stamped es clock/\since=clock/\last=clock∧
  (∃L:List MapEntry,L.Perm (leftOf es seen).toList/\L.length=c.tail.length/\∀(i:Nat) (x:k.den×v.den) (e:MapEntry),c.tail[i]? = some x->L[i]? = some e->RdV F w k x.1 e.key/\RdV F w v x.2 e.val)∧
  ∀s,seen.back? = some s->∃e∈es.toList,e.born=s/\∃x,c.head? = some x/\RdV F w k x.1 e.key/\RdV F w v x.2 e.val
def ObOk(F:Nat->Prop)(w:World):Ob->Value->Prop
 | .arr ty e l,u=>∃xs,OwnR w ty e.size u l.length xs/\∀(i:Nat) (x:e.den),l[i]? = some x->RdC F w e x ((xs.drop (i*e.size)).take e.size)
 | .map nn ty k v l,u=>(nn=false/\u=.map none/\l=[])\/∃r es clock,u=.map (some r)/\w.heap[r]? = some (.map es clock)/\MapEb ty F w k v l es clock
 | .iter on k v c,u=>∃it mo since seen last,u=.pointer (some ⟨it,0,none⟩)/\w.heap[it]? = some (.mapIter mo since seen last)/\ItOk F w k v c mo since seen last/\(on=true->mo≠none/\seen.back?≠none)
structure St where
 r:Nat->SV
 c:Nat->Nat->SV
 v:Nat->Option (TypeId×Nat)
 a:Nat->Option Ob
 d:Nat->Bool
def St.present(st:St)(b:Nat):Prop:=st.v b≠none\/st.a b≠none
def globs:List (Nat×((τ:Ty)×τ.den)):=[(1,⟨.pair (.int .u64) (.pair (.int .u64) (.pair (.int .u64) (.pair (.int .u64) (.pair (.int .u64) (.pair (.int .u64) (.pair (.int .u64) (.pair (.int .u64) (.pair (.int .u64) (.pair (.int .u64) (.pair (.int .u64) (.pair (.int .u64) (.pair (.int .u64) (.pair (.int .u64) (.pair (.int .u64) (.pair (.int .u64) (.pair (.int .u64) (.pair (.int .u64) (.pair (.int .u64) (.int .u64))))))))))))))))))),((1:Int),(10:Int),(100:Int),(1000:Int),(10000:Int),(100000:Int),(1000000:Int),(10000000:Int),(100000000:Int),(1000000000:Int),(10000000000:Int),(100000000000:Int),(1000000000000:Int),(10000000000000:Int),(100000000000000:Int),(1000000000000000:Int),(10000000000000000:Int),(100000000000000000:Int),(1000000000000000000:Int),(10000000000000000000:Int))⟩),(4,⟨.err,true⟩),(5,⟨.err,true⟩)]
def qgM(F:Nat->Prop)(w:World):Prop:=∀p∈globs,F p.1/\∃es,RdC F w p.2.1 p.2.2 es/\(∀j u,es[j]? = some u->w.cell? ⟨p.1,j,none⟩=some u)/\∃t fz,w.heap[p.1]? = some (.cells es.toArray t fz)
theorem qgM.mono{F F':Nat->Prop}{w w':World}(h:qgM F w)(hF:∀g,F g->F' g)(hw:∀g,F g->w'.heap[g]? = w.heap[g]?):qgM F' w':=fun p hp=>by
 obtain⟨h1,es,h2,h3,t,fz,h4⟩:=h p hp;exact⟨hF _ h1,es,h2.mono hF hw,fun j u hj=>(zE2 (hw _ h1)).trans (h3 j u hj),t,fz,(hw _ h1).trans h4⟩
def gfind:List (Nat×((τ:Ty)×τ.den))->Nat->SV
 | [],_=>.any
 | p::r,g=>bif Nat.beq p.1 g then .sel p.2.1 p.2.2 0 else gfind r g
theorem qwb(l:List (Nat×((τ:Ty)×τ.den)))(g:Nat):gfind l g=.any\/∃p∈l,p.1=g/\gfind l g=.sel p.2.1 p.2.2 0:=by
 induction l with
 | nil=>exact .inl rfl
 | cons p r ih=>
  unfold gfind;cases h:Nat.beq p.1 g with
  | true=>exact .inr ⟨p,by simp,zc h,rfl⟩
  | false=>
   simp only[zb];rcases ih with h | ⟨q,h1,h2,h3⟩
   ·exact .inl h
   ·exact .inr ⟨q,by simp[h1],h2,h3⟩
structure MemOk(P:Program)(F:Nat->Prop)(w:World)(ρ:Env)(st:St):Prop where
 dom:∀b,st.d b=false->ρ b=none
 var:∀b ty k,st.v b=some (ty,k)->∃g arr,ρ b=some (.pointer (some ⟨g,0,none⟩))/\w.heap[g]? = some (.cells arr ty (0,0))/\arr.size=k∧
  ∀j x,arr[j]? = some x->Den P F w ρ (st.c b j) x/\x.oneCell'=true
 arr:∀b A,st.a b=some A->∃u,ρ b=some u/\ObOk F w A u
 sep:∀b b' v v' g,st.present b->st.present b'->ρ b=some v->ρ b'=some v'->blkOf v=some g->blkOf v'=some g->b=b'
 own:∀b v g,st.present b->ρ b=some v->blkOf v=some g->¬F g
 fb:∀g,F g->g<w.heap.size
 one:∀b v,ρ b=some v->v.oneCell'=true
 glob:qgM F w
structure Mod where
 blk:Nat->Prop
 pin:Nat->Option Value
def Mod.none:Mod:=⟨fun _=>False,fun _=>.none⟩
structure Rel'(P:Program)(w0:World)(M:Mod)(N:Nat)(F:Nat->Prop)(ρ:Env)(st:St)(a:Act)(w:World):Prop where
 fr:Fr w0 M.blk w
 mem:MemOk P F w ρ st
 lo:∀b v g,st.present b->ρ b=some v->blkOf v=some g->M.blk g\/w0.heap.size<=g
 regs:∀t,Den P F w ρ (st.r t) (a.tmps.getD t undef)
 sz:a.tmps.size=N
 df:a.defers=[]
 pin:∀b v,M.pin b=some v->ρ b=some v
def Rel(P:Program)(w0:World)(M:Mod)(N:Nat)(F0:Nat->Prop)(st:St)(a:Act)(w:World):Prop:=
 ∃F ρ,Rel' P w0 M N F ρ st a w/\(∀g,F0 g->F g)/\(∀g,F g->F0 g\/M.blk g\/w0.heap.size<=g)
structure KO(K:Type) where
 eq:K->K->Bool
 lt:K->K->Bool
def mget{K V:Type}(o:KO K):List (K×V)->K->Option V
 | [],_=>none
 | p::r,x=>bif o.eq x p.1 then some p.2 else mget o r x
def ment{K V:Type}(o:KO K):List (K×V)->K->V->List (K×V)
 | [],x,z=>[(x,z)]
 | p::r,x,z=>bif o.eq x p.1 then p::r else p::ment o r x z
def strLt:List UInt8->List UInt8->Bool
 | _,[]=>false
 | [],_::_=>true
 | a::s,b::t=>decide (a<b) || (decide (a=b)&&strLt s t)
def keyO:(k:Ty)->KO k.den
 | .int _=>⟨fun(a b:Int)=>decide (a=b),fun(a b:Int)=>decide (a<b)⟩
 | .str=>⟨fun(a b:List UInt8)=>decide (a=b),strLt⟩
 | .bool=>⟨fun(a b:Bool)=>a==b,fun(a b:Bool)=>!a&&b⟩
 | .pair a b=>⟨fun x y=>(keyO a).eq x.1 y.1&&(keyO b).eq x.2 y.2,fun x y=>(keyO a).lt x.1 y.1 || ((keyO a).eq x.1 y.1&&(keyO b).lt x.2 y.2)⟩
 | .unit=>⟨fun _ _=>true,fun _ _=>false⟩
 | _=>⟨fun _ _=>false,fun _ _=>false⟩
theorem qxa{K V:Type}(o:KO K)(x y:K)(z:V):∀l:List (K×V),(mget o (ment o l x z) y).getD z=(mget o l y).getD z
 | []=>by
  unfold ment mget;cases h:o.eq y x <;> simp[mget,h]
 | p::r=>by
  unfold ment;cases h:o.eq x p.1 with
  | true=>rfl
  | false=>
   simp only[zb,mget];cases h2:o.eq y p.1 with
   | true=>rfl
   | false=>exact qxa o x y z r
def SameG(A B:Option Ob):Prop:=A=B\/∃ty k v l l',A=some (.map true ty k v l)/\B=some (.map true ty k v l')/\bornT ty=true/\∀x,(mget (keyO k) l x).getD v.dflt=(mget (keyO k) l' x).getD v.dflt
theorem SameG.symm{A B:Option Ob}(h:SameG A B):SameG B A:=by
 rcases h with rfl | ⟨ty,k,v,l,l',h1,h2,h3,h4⟩
 ·exact .inl rfl
 ·exact .inr ⟨ty,k,v,l',l,h2,h1,h3,fun x=>(h4 x).symm⟩
theorem SameG.trans{A B C:Option Ob}(h:SameG A B)(h':SameG B C):SameG A C:=by
 rcases h with rfl | ⟨ty,k,v,l,l',h1,h2,h3,h4⟩
 ·exact h'
 ·rcases h' with rfl | ⟨ty',k',v',m,m',g1,g2,g3,g4⟩
  ·exact .inr ⟨ty,k,v,l,l',h1,h2,h3,h4⟩
  ·rw[h2] at g1;injection g1 with g1
   injection g1 with _ e1 e2 e3 e4
   subst e1 e2 e3;have e4:=eq_of_heq e4;subst e4;exact .inr ⟨ty,k,v,l,m',h1,g2,h3,fun x=>(h4 x).trans (g4 x)⟩
def addE(k:Ty)(x:k.den):Option Ob->Option Ob
 | some (.map true ty k' v l)=>if h:k=k' then(bif bornT ty then some (.map true ty k' v (ment (keyO k') l (h ▸ x) v.dflt)) else some (.map true ty k' v l)) else some (.map true ty k' v l)
 | A=>A
theorem qrb(k:Ty)(x:k.den)(A:Option Ob):SameG (addE k x A) A:=by
 unfold addE;split
 ·rename_i ty k' v l;split
  ·rename_i h;subst h;cases hb:bornT ty with
   | true=>exact .inr ⟨ty,k,v,_,l,rfl,rfl,hb,fun y=>qxa _ _ _ _ _⟩
   | false=>exact .inl rfl
  ·exact .inl rfl
 ·exact .inl rfl
inductive Key where
 | r (t:Nat) | c (b o:Nat) | v (b:Nat) | a (b:Nat) | d (b:Nat) | g (b:Nat)
 deriving DecidableEq
inductive Wr where
 | r (t:Nat) (s:SV) | c (b o:Nat) (s:SV) | v (b:Nat) (x:Option (TypeId×Nat)) | a (b:Nat) (x:Option Ob) | d (b:Nat) | e (b:Nat) (k:Ty) (x:k.den)
def Wr.keys:Wr->List Key
 | .r t _=>[.r t] | .c b o _=>[.c b o] | .v b _=>[.v b] | .a b _=>[.a b,.g b] | .d b=>[.d b] | .e b _ _=>[.a b]
def wkeys:List Wr->List Key
 | []=>[]
 | x::l=>x.keys++wkeys l
def St.put(st:St):Wr->St
 | .r t s=>{ st with r:=fun x=>bif Nat.beq x t then s else st.r x }
 | .c b o s=>{ st with c:=fun x y=>bif Nat.beq x b&&Nat.beq y o then s else st.c x y }
 | .v b i=>{ st with v:=fun x=>bif Nat.beq x b then i else st.v x }
 | .a b i=>{ st with a:=fun x=>bif Nat.beq x b then i else st.a x }
 | .d b=>{ st with d:=fun x=>bif Nat.beq x b then true else st.d x }
 | .e b k y=>{ st with a:=fun x=>bif Nat.beq x b then addE k y (st.a b) else st.a x }
def St.app(st:St):List Wr->St
 | []=>st
 | x::l=>(st.put x).app l
def agree(st st':St):Key->Prop
 | .r t=>st.r t=st'.r t
 | .c b o=>st.c b o=st'.c b o
 | .v b=>st.v b=st'.v b
 | .a b=>st.a b=st'.a b
 | .d b=>st.d b=st'.d b
 | .g b=>SameG (st.a b) (st'.a b)
def Key.noG:Key->Bool
 | .g _=>false
 | _=>true
theorem St.ext'{st st':St}(h:∀κ,κ.noG=true->agree st st' κ):st=st':=by
 obtain⟨r,c,v,a,d⟩:=st;obtain⟨r',c',v',a',d'⟩:=st';have h1:r=r':=funext fun t=>h (.r t) rfl
 have h2:c=c':=funext fun b=>funext fun o=>h (.c b o) rfl
 have h3:v=v':=funext fun b=>h (.v b) rfl
 have h4:a=a':=funext fun b=>h (.a b) rfl
 have h5:d=d':=funext fun b=>h (.d b) rfl
 subst h1 h2 h3 h4 h5;rfl
def ofV:Value->SV
 | .int k n=>.v (.int k) n
 | .bool b=>.v .bool b
 | .string s=>.v .str s.data.toList
 | u=>.raw u
def St.ev(st:St):Operand->SV
 | .tmp t=>st.r t
 | .const u=>ofV u
 | .func f=>.clo f []
 | .global g=>gfind globs g
def qac:Operand->List Key
 | .tmp t=>[.r t]
 | _=>[]
def RT(P:Program)(w0:World)(M:Mod)(N:Nat)(F0:Nat->Prop)(ops:Array Oper)(o:Oper)(st0:St)(rd:List Key)(wr:List Wr):Prop:=
 ∀st,(∀κ∈rd,agree st0 st κ)->∀a w,Rel P w0 M N F0 st a w->
  if Region.wanted o (yielded ops a.tmps) then o.wp P a w (fun a' w'=>Rel P w0 M N F0 (st.app wr) a' w') (fun _ _ _=>False)
  else Rel P w0 M N F0 (st.app wr) (a.put o.dst undef) w
end Go.Sq
