/- The second engine, part Z: how a law's arguments are read, more kinds. No condition. -/
import Derived.Test.YtmdijohmddokhaaGreatDoorSqY
namespace Go.Sq
open Go Go.RowKit Go.ChangeShapes Go.WideShapes
section
variable {H:Type} {enc:TypeId×Value->H} {P:Program}
/-! ### Any data among a law's arguments -/
mutual
inductive HasTy (P:Program):Ty->TypeId->Prop
 | int {t:TypeId} {k:IntKind}:P.underlying t=some (.int k)->HasTy P (.int k) t
 | bool {t:TypeId}:P.underlying t=some .bool->HasTy P .bool t
 | str {t:TypeId}:P.underlying t=some .string->HasTy P .str t
 | sl {t te:TypeId} {e:Ty}:P.underlying t=some (.slice te)->P.cellsOf te=e.size->0<e.size->HasTy P e te->HasTy P (.sl e) t
 | struct {t:TypeId} {fs:Array Field} {a b:Ty}:P.underlying t=some (.struct fs)->P.cellsOf t=(Ty.pair a b).size->HasFs P (.pair a b) fs.toList 0->HasTy P (.pair a b) t
inductive HasFs (P:Program):Ty->List Field->Nat->Prop
 | one {a:Ty} {f:Field} {o:Nat}:f.offset=o->P.cellsOf f.type=a.size->HasTy P a f.type->HasFs P (.pair a .unit) [f] o
 | two {a b:Ty} {f g:Field} {o:Nat}:f.offset=o->P.cellsOf f.type=a.size->HasTy P a f.type->g.offset=o+a.size->P.cellsOf g.type=b.size->HasTy P b g.type->HasFs P (.pair a b) [f,g] o
 | more {a b:Ty} {f g h:Field} {r:List Field} {o:Nat}:f.offset=o->P.cellsOf f.type=a.size->HasTy P a f.type->HasFs P b (g::h::r) (o+a.size)->HasFs P (.pair a b) (f::g::h::r) o
end
end
/-! ### A computation that comes to something -/
def Ok{A:Type}(x:Option A)(Q:A->Prop):Prop:=∃a,x=some a/\Q a
theorem Ok.ret{A:Type}{a:A}{Q:A->Prop}(h:Q a):Ok (some a) Q:=⟨a,rfl,h⟩
theorem Ok.bind{A B:Type}{x:Option A}{f:A->Option B}{Q:A->Prop}{R:B->Prop}(h:Ok x Q)(hf:∀a,Q a->Ok (f a) R):Ok (x.bind f) R:=by
 obtain⟨a,rfl,ha⟩:=h;exact hf a ha
theorem Ok.eq{A B:Type}{x:Option A}{a:A}{f:A->Option B}{R:B->Prop}(h:x=some a)(hf:Ok (f a) R):Ok (x.bind f) R:=by
 subst h; exact hf
theorem Ok.bif{A:Type}{c:Bool}{x y:Option A}{Q:A->Prop}(h:c=true->Ok x Q)(h':c=false->Ok y Q):Ok (bif c then x else y) Q:=by
 cases c with
 | true=>exact h rfl
 | false=>exact h' rfl
theorem Ok.gd{A:Type}{c:Bool}{x:Option A}{Q:A->Prop}(hc:c=true)(h:Ok x Q):Ok (Sq.gd c x) Q:=by
 subst hc; exact h
theorem Ok.mono{A:Type}{x:Option A}{Q R:A->Prop}(h:Ok x Q)(hq:∀a,Q a->R a):Ok x R:=by
 obtain⟨a,e,ha⟩:=h; exact⟨a,e,hq a ha⟩
theorem Ok.elim{A B C:Type}{s:A⊕B}{f:A->Option C}{g:B->Option C}{Q:C->Prop}(h:∀a,s=.inl a->Ok (f a) Q)(h':∀b,s=.inr b->Ok (g b) Q):Ok (s.elim f g) Q:=by
 cases s with
 | inl a=>exact h a rfl
 | inr b=>exact h' b rfl
theorem Ok.loop{σ ε:Type}{step:σ->Option (σ⊕ε)}{x:σ}(I:σ->Prop)(μ:σ->Nat){Q:ε->Prop}(hx:I x)(h:∀x,I x->Ok (step x) (fun r=>match r with | .inl y=>I y/\μ y<μ x | .inr e=>Q e)):Ok (iter step x) Q:=by
 refine qq3 I μ Q (fun x hx=>?_) hx
 obtain⟨r,hr,hq⟩:=h x hx;cases r with
 | inl y=>exact .inr ⟨y,hr,hq.1,hq.2⟩
 | inr e=>exact .inl ⟨e,hr,hq⟩
theorem Ok.true{x:Option Bool}(h:Ok x (fun b=>b=true)):x=some true:=by
 obtain⟨b,e,hb⟩:=h;rw[e,hb]
end Go.Sq
