/- The engine, part Q: a nil slice that is only read. No condition. -/
import Derived.Test.YtdmfhnpibllfeaaSpP
namespace Go.Sp
open Go Go.RowKit

section
variable {P : Program} {w0 : World} {M : Mod} {N : Nat} {F0 : Nat → Prop} {ops : Array Oper}
variable {F : Nat → Prop} {ρ : Env} {st : St} {a : Act} {w : World}
variable {d : Nat} {x y z : Operand} {ty ty' : TypeId} {pos : String} {af : Array Edge}

theorem rd_nilS {α : Type} {cell : α → Nat → SV} {d0 : α} {k : Nat} (hd : d < N) :
    RTD P w0 M N F0 ops ⟨some d, .assign (.const (.slice none 0 0)), ty, pos, af, none⟩ (fun _ => True) [] [.r d (slOf k cell d0 [])] :=
  ⟨RT.value rfl rfl hd fun _ _ _ _ _ _ _ => ⟨_, rfl, .nilsl⟩, Dep.pure True⟩

theorem arrs_eq {b : Nat} {A A' : Arr} (h : st.a b = some A') (e : A' = A) : st.a b = some A := e ▸ h
end
end Go.Sp
