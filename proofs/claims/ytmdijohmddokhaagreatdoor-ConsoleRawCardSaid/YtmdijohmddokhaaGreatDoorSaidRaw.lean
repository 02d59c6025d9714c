/- The law ConsoleRaw, from its contract: its row, and the card. The row's own condition: the listed package variable holds what the program's text lays (the card ties it). -/
import Derived.Test.YtmdijohmddokhaaGreatDoorRows
import Derived.Test.YtmdijohmddokhaaGreatDoorCards
import Derived.Test.YtmdijohmddokhaaGreatDoorTie
import Derived.Test.YtmdijohmddokhaaGreatDoorRwG
import Derived.Test.YtmdijohmddokhaaGreatDoorLd
import Derived.Test.YtmdijohmddokhaaGreatDoorSqZ
import Derived.WalkKit
import Derived.ProofKit
import Derived.OpenShut
import Derived.Lib.SmallJoins
import Derived.LaidLaws
import Derived.LaidHandle
import Derived.RowKitTokens
import Derived.ChangeVars
import Derived.SevenTiedAt
namespace Go.Proofs.YtmdijohmddokhaaGreatDoor.consoleRaw
open Go.ChangeShapes Go.WideShapes Go.ChangeAt Go.RowKit Go.Sq Go.Joins
set_option linter.unusedVariables false
theorem own : ownKnob Tryz.prog.godebug = none := by kernel_rfl
theorem glob_ok {W : World} (h : laidMetH Tryz.prog Rows.consoleRawRow.laid W) : qho (fun g => g < W.heap.size) W := Ld.glob_ok h
theorem laid_heap {w w' : World} (hh : w.heap = w'.heap) (h : laidMetH Tryz.prog Rows.consoleRawRow.laid w) : laidMetH Tryz.prog Rows.consoleRawRow.laid w' := Ld.laid_heap hh h
noncomputable def laidWorld (os : Os) : World := Ld.laidWorld os
theorem laidWorld_met (os : Os) (args : Array Value) : laidMetH Tryz.prog Rows.consoleRawRow.laid ((laidWorld os).forCall (fun _ _ => 0) ⟨#[], args, []⟩).memory := Ld.laidWorld_met os args
set_option maxRecDepth 100000 in
theorem lifted (os : Os) (started : os.Started) (H : Type) (enc : TypeId × Value -> H) :
    ReturnsInHanded {} Tryz.checked os 5 .any (fun w args => (Rows.consoleRawSpec.pre enc Tryz.prog Tryz.f5 [] false w args /\ laidMetH Tryz.prog Rows.consoleRawRow.laid w) /\ sizedMet enc Tryz.prog Tryz.f5 (OpenSpec.ofChange Rows.consoleRawSpec) false w args) (Rows.consoleRawSpec.post enc Tryz.prog Tryz.f5 false true false false) := by
  refine returnsInHanded_of_change_and (C := Tryz.checked) (X := fun w _ => laidMetH Tryz.prog Rows.consoleRawRow.laid w) (fun _ _ _ hh h => laid_heap hh h) own started (by kernel_rfl) Tryz.func5
    (ChangeSpec.witness_at (enc := enc) (C := Tryz.checked) (os := os) (X := fun w _ => laidMetH Tryz.prog Rows.consoleRawRow.laid w) false (laidWorld os) #[.slice none 0 0, .string ⟨#[]⟩, .agg #[.int .i64 0, .slice none 0 0, .int .i64 0, .int .i64 0, .int .i64 0, .int .i64 0, .int .i64 0, .slice none 0 0, .int .i64 0, .string ⟨#[]⟩, .int .i64 0, .int .i64 0], .int .i64 0] 8 rfl (by kernel_rfl) (by kernel_rfl) (by kernel_rfl) (by kernel_rfl) (by kernel_rfl)
      (laidWorld_met os #[.slice none 0 0, .string ⟨#[]⟩, .agg #[.int .i64 0, .slice none 0 0, .int .i64 0, .int .i64 0, .int .i64 0, .int .i64 0, .int .i64 0, .slice none 0 0, .int .i64 0, .string ⟨#[]⟩, .int .i64 0, .int .i64 0], .int .i64 0])) ?_
  intro W base args ds gs before hval0 hW hcnd hwt hL _;have hval : ∀ (j : Nat) t v, Tryz.f5.params[j]? = some t -> args[j]? = some v -> Value.okWide Tryz.prog W .any base t v := hval0;have hW' := hW;obtain ⟨p, q, hA0, hV, rfl, hfz, hnd⟩ := hW;have hA : DataW.TrodAll enc Tryz.prog W 0 (fun _ => true) true Tryz.f5.params.toList args.toList ds p := hA0
  rw [Tryz.params5] at hA hval;obtain ⟨v0, vs0, d0, ds0, p0, q0, hargs, rfl, rfl, h0, r0⟩ := trodAll_cons hA;obtain ⟨v1, vs1, d1, ds1, p1, q1, rfl, rfl, rfl, h1, r1⟩ := trodAll_cons r0;obtain ⟨v2, vs2, d2, ds2, p2, q2, rfl, rfl, rfl, h2, r2⟩ := trodAll_cons r1;obtain ⟨v3, vs3, d3, ds3, p3, q3, rfl, rfl, rfl, h3, r3⟩ := trodAll_cons r2;obtain ⟨rfl, rfl, rfl⟩ := trodAll_nil r3;obtain rfl : args = #[v0, v1, v2, v3] := by cases args; simp_all
  obtain ⟨rfl, rfl⟩ := trodVars_none hV;obtain ⟨l0, D0, n0, b0⟩ := qCr Tryz.underlying22 Tryz.underlying3 (by kernel_rfl) (hval 0 22 v0 rfl rfl) h0
  obtain ⟨l1, D1, b1, s1⟩ := qyh (T := .str) (HasTy.str Tryz.underlying9) (hval 1 9 v1 rfl rfl) h1
  obtain ⟨l2, D2, b2, s2⟩ := qyh (T := .pair (.int .i64) (.pair (.sl (.int .i64)) (.pair (.pair (.int .i64) (.pair (.int .i64) (.pair (.int .i64) (.pair (.int .i64) (.pair (.int .i64) (.pair (.sl (.pair (.int .i64) (.bool))) (.int .i64))))))) (.pair (.str) (.pair (.int .i64) (.int .i64)))))) (HasTy.struct Tryz.underlying61 (by kernel_rfl) (.more rfl (by kernel_rfl) (HasTy.int Tryz.underlying3) (.more rfl (by kernel_rfl) (HasTy.sl Tryz.underlying22 (by kernel_rfl) (by decide) (HasTy.int Tryz.underlying3)) (.two rfl (by kernel_rfl) (HasTy.struct Tryz.underlying57 (by kernel_rfl) (.more rfl (by kernel_rfl) (HasTy.int Tryz.underlying3) (.more rfl (by kernel_rfl) (HasTy.int Tryz.underlying3) (.two rfl (by kernel_rfl) (HasTy.int Tryz.underlying3) rfl (by kernel_rfl) (HasTy.struct Tryz.underlying55 (by kernel_rfl) (.more rfl (by kernel_rfl) (HasTy.int Tryz.underlying3) (.more rfl (by kernel_rfl) (HasTy.int Tryz.underlying3) (.two rfl (by kernel_rfl) (HasTy.sl Tryz.underlying53 (by kernel_rfl) (by decide) (HasTy.struct Tryz.underlying76 (by kernel_rfl) (.two rfl (by kernel_rfl) (HasTy.int Tryz.underlying3) rfl (by kernel_rfl) (HasTy.bool Tryz.underlying4)))) rfl (by kernel_rfl) (HasTy.int Tryz.underlying3))))))))) rfl (by kernel_rfl) (HasTy.struct Tryz.underlying59 (by kernel_rfl) (.more rfl (by kernel_rfl) (HasTy.str Tryz.underlying9) (.two rfl (by kernel_rfl) (HasTy.int Tryz.underlying3) rfl (by kernel_rfl) (HasTy.int Tryz.underlying3)))))))) (hval 2 61 v2 rfl rfl) h2
  obtain ⟨a3, rfl, rfl, rfl, w3⟩ := open_int Tryz.underlying3 (hval 3 3 v3 rfl rfl) h3;have b3 : (-9223372036854775808 : Int) <= a3 /\ a3 <= 9223372036854775807 := by simpa [Lit.wf, IntKind.min, IntKind.max, IntKind.signed, IntKind.bits] using w3
  exact qCq (e := qi8) (x := (l0, l1, l2, a3)) (y := true) (by kernel_rfl) (by kernel_rfl) (by kernel_rfl) Tryz.underlying4 rfl rfl hW' qoG rfl rfl rfl rfl (qDw b0 l1 b2 (s2 _ (qlT hwt 2 _ d2 (by kernel_rfl) rfl)) ⟨b3.1, b3.2⟩) rfl
    (fun i v hv => by
      rcases i with _ | _ | _ | _ | i
      · have hq := zD1 (show some _ = some v from hv)
        subst hq;show Den _ _ _ _ (.v (.sl (.int .i64)) l0) _;exact .v D0
      · have hq := zD1 (show some _ = some v from hv)
        subst hq;show Den _ _ _ _ (.v (.str) l1) _;exact .v D1
      · have hq := zD1 (show some _ = some v from hv)
        subst hq;show Den _ _ _ _ (.v (.pair (.int .i64) (.pair (.sl (.int .i64)) (.pair (.pair (.int .i64) (.pair (.int .i64) (.pair (.int .i64) (.pair (.int .i64) (.pair (.int .i64) (.pair (.sl (.pair (.int .i64) (.bool))) (.int .i64))))))) (.pair (.str) (.pair (.int .i64) (.int .i64)))))) l2) _;exact .v D2
      · have hq := zD1 (show some _ = some v from hv)
        subst hq;show Den _ _ _ _ (.v (.int .i64) a3) _;exact .v ⟨_, rfl, rfl⟩
      · simp at hv) (glob_ok hL)
theorem k1 : (Rows.consoleRawRow.inPlace == Tryz.pinned.checked.prog.inPlace 5) = true := by kernel_rfl
theorem k2 : (Rows.consoleRawRow.unfollowed == Tryz.pinned.checked.prog.unfollowed 5) = true := by kernel_rfl
theorem k3 : (Rows.consoleRawRow.recurses == Tryz.pinned.checked.prog.recurses 5) = true := by kernel_rfl
theorem k4 : (Rows.consoleRawRow.named == Tryz.pinned.checked.prog.varsNamed 5) = true := by kernel_rfl
theorem kj : joinedFacts Tryz.pinned.checked.prog 5 Tryz.f5 Rows.consoleRawSpec Rows.consoleRawRow = true := by
  unfold joinedFacts;rw [k1, k2, k3, k4]
  kernel_rfl
theorem row : Rows.ConsoleRawSaid :=
  OpenClaim.holds_of_wide 5 Tryz.f5 rfl rfl rfl rfl rfl rfl rfl ⟨rfl, rfl, rfl, rfl, rfl⟩ rfl rfl rfl rfl rfl (by kernel_rfl) Tryz.func5 kj
    (zx (by kernel_rfl)) (by unfold Func.isWrapper; first | (rw [if_pos (by decide +kernel)]; kernel_rfl) | (rw [if_neg (by decide +kernel)]; exact ⟨rfl, rfl⟩))
    (fun os started H enc _ => lifted os started H enc)
theorem wants : ∀ t, t ∈ [22, 9, 61, 3] -> Tryz.prog.wantsStandIn t = false := by
  intro t ht;simp only [zy, z82, or_false] at ht;rcases ht with rfl | rfl | rfl | rfl <;> kernel_rfl
theorem kl : true = Tryz.pinned.checked.prog.looks [] := by kernel_rfl
theorem kg : false = Rows.consoleRawRow.goesBy Tryz.pinned.checked.prog := by kernel_rfl
theorem kw : Rows.consoleRawRow.wfByText (OpenSpec.ofChange Rows.consoleRawSpec) = true := by kernel_rfl
theorem proved : Rows.ConsoleRawCardSaid :=
  Claim7.holds_tied_plain_at .later [] [.data, .data, .data, .data, .sentinel, .sentinel, .pinned] true (true, "1f85db96d364c7b06da4998e8b36317f97978692ff0f1d30ef075a1fa63316d4") true
    row (fun _ h => by cases h) kw (fun _ h => by cases h) consoleRaw_row_tie rfl ⟨rfl, rfl⟩ (by kernel_rfl) rfl
    (fun f fn hf hfn => by
      obtain rfl : f = 5 := zD1 ((show Tryz.prog.funcNamed Rows.consoleRawRow.func = some 5 by kernel_rfl).symm.trans hf) |>.symm
      obtain rfl : fn = Tryz.f5 := (zD1 (Tryz.func5.symm.trans hfn)).symm;exact ⟨kl, fun j t ht => wants t (by
        rw [Tryz.params5] at ht;have := Array.mem_of_getElem? ht;simpa using this)⟩)
    kg
end Go.Proofs.YtmdijohmddokhaaGreatDoor.consoleRaw
