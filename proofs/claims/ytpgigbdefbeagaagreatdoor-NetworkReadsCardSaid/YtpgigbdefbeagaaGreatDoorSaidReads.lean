/- The law NetworkReads, from its contract: its row, and the card. The row's own condition: the listed package variable holds what the program's text lays (the card ties it). -/
import Derived.Test.YtpgigbdefbeagaaGreatDoorRows
import Derived.Test.YtpgigbdefbeagaaGreatDoorCards
import Derived.Test.YtpgigbdefbeagaaGreatDoorTie
import Derived.Test.YtpgigbdefbeagaaGreatDoorNr5
import Derived.Test.YtpgigbdefbeagaaGreatDoorLd
import Derived.Test.YtpgigbdefbeagaaGreatDoorSqZ
import Derived.WalkKit
import Derived.ProofKit
import Derived.OpenShut
import Derived.Lib.SmallJoins
import Derived.LaidLaws
import Derived.LaidHandle
import Derived.RowKitTokens
import Derived.ChangeVars
import Derived.SevenTiedAt
namespace Go.Proofs.YtpgigbdefbeagaaGreatDoor.networkReads
open Go.ChangeShapes Go.WideShapes Go.ChangeAt Go.RowKit Go.Sq Go.Joins
set_option linter.unusedVariables false
theorem own : ownKnob Tryz.prog.godebug = none := by kernel_rfl
theorem glob_ok {W : World} (h : laidMetH Tryz.prog Rows.networkReadsRow.laid W) : qfH (fun g => g < W.heap.size) W := Ld.glob_ok h
theorem laid_heap {w w' : World} (hh : w.heap = w'.heap) (h : laidMetH Tryz.prog Rows.networkReadsRow.laid w) : laidMetH Tryz.prog Rows.networkReadsRow.laid w' := Ld.laid_heap hh h
noncomputable def laidWorld (os : Os) : World := Ld.laidWorld os
theorem laidWorld_met (os : Os) (args : Array Value) : laidMetH Tryz.prog Rows.networkReadsRow.laid ((laidWorld os).forCall (fun _ _ => 0) ⟨#[], args, []⟩).memory := Ld.laidWorld_met os args
set_option maxRecDepth 100000 in
theorem lifted (os : Os) (started : os.Started) (H : Type) (enc : TypeId × Value → H) :
    ReturnsInHanded {} Tryz.checked os 3 .any (fun w args => (Rows.networkReadsSpec.pre enc Tryz.prog Tryz.f3 [] false w args ∧ laidMetH Tryz.prog Rows.networkReadsRow.laid w) ∧ sizedMet enc Tryz.prog Tryz.f3 (OpenSpec.ofChange Rows.networkReadsSpec) false w args) (Rows.networkReadsSpec.post enc Tryz.prog Tryz.f3 false true false false) := by
  refine returnsInHanded_of_change_and (C := Tryz.checked) (X := fun w _ => laidMetH Tryz.prog Rows.networkReadsRow.laid w) (fun _ _ _ hh h => laid_heap hh h) own started (by kernel_rfl) Tryz.func3
    (ChangeSpec.witness_at (enc := enc) (C := Tryz.checked) (os := os) (X := fun w _ => laidMetH Tryz.prog Rows.networkReadsRow.laid w) false (laidWorld os) #[.string ⟨#[]⟩, .slice none 0 0, .int .u8 0, .int .u8 0] 8 rfl (by kernel_rfl) (by kernel_rfl) (by kernel_rfl) (by kernel_rfl) (by kernel_rfl)
      (laidWorld_met os #[.string ⟨#[]⟩, .slice none 0 0, .int .u8 0, .int .u8 0])) ?_
  intro W base args ds gs before hval0 hW hcnd _ hL _
  have hval : ∀ (j : Nat) t v, Tryz.f3.params[j]? = some t → args[j]? = some v → Value.okWide Tryz.prog W .any base t v := hval0
  have hW' := hW
  obtain ⟨p, q, hA0, hV, rfl, hfz, hnd⟩ := hW
  have hA : DataW.TrodAll enc Tryz.prog W 0 (fun _ => true) true Tryz.f3.params.toList args.toList ds p := hA0
  rw [Tryz.params3] at hA hval
  obtain ⟨v0, vs0, d0, ds0, p0, q0, hargs, rfl, rfl, h0, r0⟩ := trodAll_cons hA
  obtain ⟨v1, vs1, d1, ds1, p1, q1, rfl, rfl, rfl, h1, r1⟩ := trodAll_cons r0
  obtain ⟨v2, vs2, d2, ds2, p2, q2, rfl, rfl, rfl, h2, r2⟩ := trodAll_cons r1
  obtain ⟨v3, vs3, d3, ds3, p3, q3, rfl, rfl, rfl, h3, r3⟩ := trodAll_cons r2
  obtain ⟨rfl, rfl, rfl⟩ := trodAll_nil r3
  obtain rfl : args = #[v0, v1, v2, v3] := by cases args; simp_all
  obtain ⟨rfl, rfl⟩ := trodVars_none hV
  obtain ⟨l0, D0, b0⟩ := qq5 (τ := .str) (HasTy.str Tryz.underlying9) (hval 0 9 v0 rfl rfl) h0
  obtain ⟨l1, D1, n1, b1⟩ := qq4 Tryz.underlying22 Tryz.underlying3 (by kernel_rfl) (hval 1 22 v1 rfl rfl) h1
  obtain ⟨a2, rfl, rfl, rfl, w2⟩ := open_int Tryz.underlying5 (hval 2 5 v2 rfl rfl) h2
  have b2 : (0 : Int) ≤ a2 ∧ a2 ≤ 255 := by simpa [Lit.wf, IntKind.min, IntKind.max, IntKind.signed, IntKind.bits] using w2
  obtain ⟨a3, rfl, rfl, rfl, w3⟩ := open_int Tryz.underlying5 (hval 3 5 v3 rfl rfl) h3
  have b3 : (0 : Int) ≤ a3 ∧ a3 ≤ 255 := by simpa [Lit.wf, IntKind.min, IntKind.max, IntKind.signed, IntKind.bits] using w3
  exact qq3 (e := qdT) (x := (l0, l1, a2, a3)) (y := true) (by kernel_rfl) (by kernel_rfl) (by kernel_rfl) Tryz.underlying4 rfl rfl hW' qgo rfl rfl rfl rfl (qoJ l0 b1 a2 ⟨b2.1, by omega⟩ a3 ⟨b3.1, by omega⟩) rfl
    (fun i v hv => by
      rcases i with _ | _ | _ | _ | i
      · have hq := Option.some.inj (show some _ = some v from hv)
        subst hq
        show Den _ _ _ _ (.v (.str) l0) _
        exact .v D0
      · have hq := Option.some.inj (show some _ = some v from hv)
        subst hq
        show Den _ _ _ _ (.v (.sl (.int .i64)) l1) _
        exact .v D1
      · have hq := Option.some.inj (show some _ = some v from hv)
        subst hq
        show Den _ _ _ _ (.v (.int .u8) a2) _
        exact .v ⟨_, rfl, rfl⟩
      · have hq := Option.some.inj (show some _ = some v from hv)
        subst hq
        show Den _ _ _ _ (.v (.int .u8) a3) _
        exact .v ⟨_, rfl, rfl⟩
      · simp at hv) (glob_ok hL)
theorem row : Rows.NetworkReadsSaid :=
  OpenClaim.holds_of_wide 3 Tryz.f3 rfl rfl rfl rfl rfl rfl rfl ⟨rfl, rfl, rfl, rfl, rfl⟩ rfl rfl rfl rfl rfl (by kernel_rfl) Tryz.func3 (by kernel_rfl)
    (of_decide_eq_true (by kernel_rfl)) (by unfold Func.isWrapper; first | (rw [if_pos (by decide +kernel)]; kernel_rfl) | (rw [if_neg (by decide +kernel)]; exact ⟨rfl, rfl⟩))
    (fun os started H enc _ => lifted os started H enc)
theorem wants : ∀ t, t ∈ [9, 22, 5, 5] → Tryz.prog.wantsStandIn t = false := by
  intro t ht
  simp only [List.mem_cons, List.not_mem_nil, or_false] at ht
  rcases ht with rfl | rfl | rfl | rfl <;> kernel_rfl
theorem proved : Rows.NetworkReadsCardSaid :=
  Claim7.holds_tied_plain_at .later [] [.data, .data, .data, .data, .sentinel, .sentinel, .pinned] true (true, "4c527482c4d789b4538e349c7ef34b3de1ddd1959696a08fa8582b638a35b135") true
    row (fun _ h => by cases h) (by kernel_rfl) (fun _ h => by cases h) networkReads_row_tie rfl ⟨rfl, rfl⟩ (by kernel_rfl) rfl
    (fun f fn hf hfn => by
      obtain rfl : f = 3 := Option.some.inj ((show Tryz.prog.funcNamed Rows.networkReadsRow.func = some 3 by kernel_rfl).symm.trans hf) |>.symm
      obtain rfl : fn = Tryz.f3 := (Option.some.inj (Tryz.func3.symm.trans hfn)).symm
      exact ⟨by kernel_rfl, fun j t ht => wants t (by
        rw [Tryz.params3] at ht
        have := Array.mem_of_getElem? ht
        simpa using this)⟩)
    (by kernel_rfl)
end Go.Proofs.YtpgigbdefbeagaaGreatDoor.networkReads
