/- The second engine, part LB: functions of Go's library: contracts from what is known of their calls. No condition. -/
import Derived.Test.YtpgigbdefbeagaaGreatDoorSqZ
import Derived.Lib.AtoiAll
import Derived.Lib.ConvBytes
import Derived.Lib.Join
import Derived.Lib.ItoaMem
import Derived.Lib.LaidTab
namespace Go.Sq
open Go Go.RowKit
/-! ### Searches for a byte -/
def idxB (s : List UInt8) (c : Int) : Option Int := some (Lib.indexByte s c.toNat.toUInt8)
def cntB (s : List UInt8) (c : Int) : Option Int := some ((Lib.countByte s c.toNat.toUInt8 : Nat) : Int)
def qrW (f : FuncId) : Ext := { f := f, ps := [.str, .int .u8], r := .int .i64, g := fun x => idxB x.1 x.2.1 }
def qrX (f : FuncId) : Ext := { f := f, ps := [.str, .int .u8], r := .int .i64, g := fun x => cntB x.1 x.2.1 }
theorem qp3 {P : Program} {f : FuncId} {fn : Func} (hf : P.funcs[f]? = some fn) (hname : (fn.name == "runtime.NumGoroutine") = false) (hb : fn.body.isNone = true) (hn : Extern.findNext fn = none) (he : Extern.find fn = some Extern.BytealgIndexByte.indexByte) : ExtOk P (qrW f) := by
 intro x y hxy F w vs hvs
 obtain ⟨s, c, x2⟩ := x
 obtain ⟨v1, r1, rfl, ⟨cs1, h1, rfl⟩, v2, r2, rfl, ⟨cs2, h2, rfl⟩, hr⟩ := hvs
 have hr' : r2 = [] := hr
 subst hr'
 have h1' : cs1 = [.string ⟨⟨s⟩⟩] := h1
 have h2' : cs2 = [.int .u8 c] := h2
 subst h1' h2'
 have hxy' : some (Lib.indexByte s (Int.toNat c).toUInt8) = some y := hxy
 injection hxy' with hxy'; subst hxy'
 refine ⟨.int .i64 (Lib.indexByte s (Int.toNat c).toUInt8), ?_, ⟨[.int .i64 (Lib.indexByte s (Int.toNat c).toUInt8)], rfl, rfl⟩⟩
 show (callFunc f #[.string ⟨⟨s⟩⟩, .int .u8 c]).run P w = _
 rw [run_callFunc_extern hf hname hb hn he]
 have hrun := Lib.run_indexByteString (P := P) ⟨⟨s⟩⟩ c w
 exact (congrArg (fun r => r.andThen fun v w' => Result.ok (Next.value v) w') hrun).trans rfl
theorem qp4 {P : Program} {f : FuncId} {fn : Func} (hf : P.funcs[f]? = some fn) (hname : (fn.name == "runtime.NumGoroutine") = false) (hb : fn.body.isNone = true) (hn : Extern.findNext fn = none) (he : Extern.find fn = some Extern.BytealgCount.count) : ExtOk P (qrX f) := by
 intro x y hxy F w vs hvs
 obtain ⟨s, c, x2⟩ := x
 obtain ⟨v1, r1, rfl, ⟨cs1, h1, rfl⟩, v2, r2, rfl, ⟨cs2, h2, rfl⟩, hr⟩ := hvs
 have hr' : r2 = [] := hr
 subst hr'
 have h1' : cs1 = [.string ⟨⟨s⟩⟩] := h1
 have h2' : cs2 = [.int .u8 c] := h2
 subst h1' h2'
 have hxy' : some ((Lib.countByte s (Int.toNat c).toUInt8 : Nat) : Int) = some y := hxy
 injection hxy' with hxy'; subst hxy'
 refine ⟨.int .i64 ((Lib.countByte s (Int.toNat c).toUInt8 : Nat) : Int), ?_, ⟨[.int .i64 ((Lib.countByte s (Int.toNat c).toUInt8 : Nat) : Int)], rfl, rfl⟩⟩
 show (callFunc f #[.string ⟨⟨s⟩⟩, .int .u8 c]).run P w = _
 rw [run_callFunc_extern hf hname hb hn he]
 have hrun := Lib.run_countString (P := P) ⟨⟨s⟩⟩ c w
 exact (congrArg (fun r => r.andThen fun v w' => Result.ok (Next.value v) w') hrun).trans rfl
/-! ### A function of data, with flat results, of which the calls are known -/
theorem qsX {j : J} (h : j.vars = []) (x : CT j.ct) (b : Nat) : (j.put0 x).v b = none := by
 show lookV (qcW (fun _ _ => SV.any) j.vars _).1 b = none
 rw [h]; rfl
theorem qsY {j : J} (h : j.arrs = []) (x : CT j.ct) (b : Nat) : (j.put0 x).a b = none := by
 show lookA (qfp j.arrs _) b = none
 rw [h]; rfl
theorem FunOk.lib {P : Program} {e : Fun} (hok : FnOk P e.f) (hv : e.ji.vars = []) (ha : e.ji.arrs = []) (hv2 : e.jo.vars = []) (ha2 : e.jo.arrs = [])
  (h : ∀ x y, e.tw x = some y → ∀ (F : Nat → Prop) (w : World) (ρ : Env) (vs : List Value), vs.length = e.np → (∀ g, F g → g < w.heap.size) → qfH F w → (∀ i u, vs[i]? = some u → Den P F w ρ ((e.ji.put0 x).r i) u) →
   Calls P e.f vs.toArray w fun en w' => ∃ r, en = .returned r ∧ Fr w (fun _ => False) w' ∧ Den P F w' Env.none (resSV e.nr (e.jo.put0 y)) r) : FunOk P e := by
 refine ⟨hok, fun x y hxy F w ρ vs hl hm hd => ?_⟩
 have hn : e.ji.names = [] := by unfold J.names; rw [hv, ha]; rfl
 have hn2 : e.jo.names = [] := by unfold J.names; rw [hv2, ha2]; rfl
 refine (h x y hxy F w ρ vs hl hm.fb hm.glob hd).mono ?_
 rintro en w' ⟨r, rfl, hf, hr⟩
 have hw : ∀ g, F g → w'.heap[g]? = w.heap[g]? := fun g hg => hf.blk g (hm.fb g hg) id
 refine ⟨r, F, Env.none, rfl, ⟨hf.os, hf.tape, hf.output, hf.size, fun g hg _ => hf.blk g hg id⟩, fun _ h => h, fun _ h => .inl h, ⟨fun _ _ => rfl, ?_, ?_, ?_, ?_, fun g hg => Nat.lt_of_lt_of_le (hm.fb g hg) hf.size, ?_, hm.glob.mono (fun _ h => h) hw, fun _ _ h => h.elim, fun _ _ _ _ h => h.elim, fun _ _ _ h => h.elim, fun _ _ _ h => h⟩, ?_, ?_, fun _ _ h => h.elim, hr⟩
 ·intro b ty k hx; rw [qsX hv2] at hx; cases hx
 ·intro b A hx; rw [qsY ha2] at hx; cases hx
 ·intro b b' v v' g _ _ hx; cases hx
 ·intro b v g _ hx; cases hx
 ·intro b v hx; cases hx
 ·intro b v hb; rw [hn] at hb; cases hb
 ·intro b v g _ hx; cases hx
theorem qnP {w w' : World} (h : Below w.heap.size w w') : Fr w (fun _ => False) w' := ⟨h.os, h.tape, h.output, h.size, fun g hg _ => h.block g hg⟩
theorem qq6 (w : World) (e : TypeId) (s : ByteArray) : Fr w (fun _ => False) (Lib.bytesWorld w e s) := by
 refine ⟨?_, ?_, ?_, ?_, fun g hg _ => ?_⟩ <;> (unfold Lib.bytesWorld World.freeze; split)
 all_goals first | rfl | skip
 ·exact (qeP w.drew _).size
 ·show _ ≤ (Array.modify _ _ _).size
  rw [Array.size_modify]; exact (qeP w.drew _).size
 ·exact (qeP w.drew _).blk g hg id
 ·have hne : ¬ w.heap.size = g := by omega
  show (Array.modify _ _ _)[g]? = _
  rw [Array.getElem?_modify, if_neg hne]
  exact (qeP w.drew _).blk g hg id
/-! ### strconv.Atoi -/
def atoiT (s : List UInt8) : Option (Int × Bool) :=
 bif Nat.ble s.length 281474976710656 then some (match Lib.atoiAll s with
  | .ok v => (v, false)
  | .range => (Lib.atoiSat s, true)
  | _ => (0, true))
 else none
def jS1 : J := { regs := [(0, .one (.data .str))], vars := [], arrs := [] }
def qp5 (f : FuncId) : Fun := { f := f, np := 1, nr := 2, ji := jS1, jo := { regs := [(0, .one (.data (.int .i64))), (1, .one (.data .err))], vars := [], arrs := [] }, tw := fun x => atoiT x }
theorem qp6 {α : Type} {l : List α} (h : l.length = 1) : ∃ a, l = [a] := by
 match l, h with
 | [a], _ => exact ⟨a, rfl⟩
theorem qkQ {P : Program} {F : Nat → Prop} {w : World} {ρ : Env} {s t : SV} {u v : Value} (h1 : Den P F w ρ s u) (h2 : Den P F w ρ t v) : Den P F w ρ (.tup [s, t]) (.tuple #[u, v]) :=
 .tup (vs := [u, v]) rfl fun i s' u' hs hu => by
  match i, hs, hu with
  | 0, hs, hu => injection hs with hs; injection hu with hu; subst hs hu; exact h1
  | 1, hs, hu => injection hs with hs; injection hu with hu; subst hs hu; exact h2
theorem qsl {P : Program} {f : FuncId} {t5 te tp g1 g2 : Nat} (hok : FnOk P f)
  (h1 : ∀ (s : ByteArray) (_ : s.size ≤ 9223372036854775806) (v : Int) (_ : Lib.atoiAll s.data.toList = .ok v) (w : World), Calls P f #[.string s] w fun e w' => e = .returned (.tuple #[.int .i64 v, .nilIface]) ∧ (w' = w ∨ ∃ t, w' = Lib.bytesWorld w t5 t))
  (h2 : ∀ (s : ByteArray) (_ : s.size ≤ 281474976710656) (_ : (∀ v, Lib.atoiAll s.data.toList ≠ .ok v) ∧ Lib.atoiAll s.data.toList ≠ .range) (ev : Value) (w : World) (_ : w.cell? ⟨g1, 0, none⟩ = some ev) (_ : ev = .nilIface ∨ ∃ te pe, ev = .iface te pe),
   Calls P f #[.string s] w fun e w' => ∃ N, e = .returned (.tuple #[.int .i64 (0), .iface te (.pointer (some ⟨N, 0, none⟩))]) ∧ w.heap.size ≤ N ∧ w'.heap[N]? = some (.cells #[.string ⟨#[65, 116, 111, 105]⟩, .string s, ev] tp (0, 0)) ∧ Below w.heap.size w w')
  (h3 : ∀ (s : ByteArray) (_ : s.size ≤ 281474976710656) (_ : Lib.atoiAll s.data.toList = .range) (ev : Value) (w : World) (_ : w.cell? ⟨g2, 0, none⟩ = some ev) (_ : ev = .nilIface ∨ ∃ te pe, ev = .iface te pe),
   Calls P f #[.string s] w fun e w' => ∃ N, e = .returned (.tuple #[.int .i64 (Lib.atoiSat s.data.toList), .iface te (.pointer (some ⟨N, 0, none⟩))]) ∧ w.heap.size ≤ N ∧ w'.heap[N]? = some (.cells #[.string ⟨#[65, 116, 111, 105]⟩, .string s, ev] tp (0, 0)) ∧ Below w.heap.size w w')
  (m1 : (g1, ⟨.err, true⟩) ∈ globs) (m2 : (g2, ⟨.err, true⟩) ∈ globs) : FunOk P (qp5 f) := by
 refine FunOk.lib hok rfl rfl rfl rfl fun x y hxy F w ρ vs hl hb hg hd => ?_
 obtain ⟨u, rfl⟩ := qp6 hl
 have hu : Den P F w ρ (.v .str x) u := hd 0 u rfl
 have hu' : u = .string ⟨⟨x⟩⟩ := by
  cases hu with
  | v h => obtain ⟨cs, h1, h2⟩ := h; have : cs = [.string ⟨⟨x⟩⟩] := h1; subst this; exact h2
 subst hu'
 have cell : ∀ g, (g, (⟨.err, true⟩ : (τ : Ty) × τ.den)) ∈ globs → ∃ ev, w.cell? ⟨g, 0, none⟩ = some ev ∧ (ev = .nilIface ∨ ∃ te pe, ev = .iface te pe) := by
  intro g hm
  obtain ⟨_, es, e1, e2, _⟩ := hg _ hm
  obtain ⟨v, rfl, _, e4⟩ := e1
  exact ⟨v, e2 0 v rfl, .inr (by simpa using e4)⟩
 have hxy' : atoiT x = some y := hxy
 unfold atoiT at hxy'
 cases hs : Nat.ble (List.length x) 281474976710656 with
 | false => rw [hs] at hxy'; cases hxy'
 | true =>
  rw [hs] at hxy'; simp only [cond_true] at hxy'
  have hs' : (⟨⟨x⟩⟩ : ByteArray).size ≤ 281474976710656 := Nat.le_of_ble_eq_true hs
  have dI : ∀ (w' : World) (n : Int), Den P F w' Env.none (.v (.int .i64) n) (.int .i64 n) := fun w' n => .v ⟨[.int .i64 n], rfl, rfl⟩
  cases ha : Lib.atoiAll x with
  | ok v =>
   rw [ha] at hxy'; injection hxy' with hxy'; subst hxy'
   refine (h1 ⟨⟨x⟩⟩ (by omega) v ha w).mono ?_
   rintro e w' ⟨rfl, hw⟩
   refine ⟨_, rfl, ?_, qkQ (dI _ _) (.v ⟨[.nilIface], ⟨_, rfl, rfl, rfl⟩, rfl⟩)⟩
   rcases hw with rfl | ⟨t, rfl⟩
   ·exact Fr.refl _ _
   ·exact qq6 _ _ _
  | range =>
   rw [ha] at hxy'; injection hxy' with hxy'; subst hxy'
   obtain ⟨ev, c1, c2⟩ := cell g2 m2
   refine (h3 ⟨⟨x⟩⟩ hs' ha ev w c1 c2).mono ?_
   rintro e w' ⟨n, rfl, _, _, hw⟩
   exact ⟨_, rfl, qnP hw, qkQ (dI _ _) (.v ⟨[.iface te (.pointer (some ⟨n, 0, none⟩))], ⟨_, rfl, rfl, ⟨_, _, rfl⟩⟩, rfl⟩)⟩
  | _ =>
   rw [ha] at hxy'; injection hxy' with hxy'; subst hxy'
   obtain ⟨ev, c1, c2⟩ := cell g1 m1
   refine (h2 ⟨⟨x⟩⟩ hs' ⟨fun v e => (by rw [show Lib.atoiAll x = _ from ha] at e; cases e), fun e => (by rw [show Lib.atoiAll x = _ from ha] at e; cases e)⟩ ev w c1 c2).mono ?_
   rintro e w' ⟨n, rfl, _, _, hw⟩
   exact ⟨_, rfl, qnP hw, qkQ (dI _ _) (.v ⟨[.iface te (.pointer (some ⟨n, 0, none⟩))], ⟨_, rfl, rfl, ⟨_, _, rfl⟩⟩, rfl⟩)⟩
/-! ### Package variables that hold numbers only; strconv.Itoa -/
def onlyI : Ty → Bool
 | .int _ => true
 | .pair a b => onlyI a && onlyI b
 | _ => false
def flatI : (τ : Ty) → τ.den → List Value
 | .int k, n => [.int k n]
 | .pair a b, x => flatI a x.1 ++ flatI b x.2
 | _, _ => []
theorem qjp {F : Nat → Prop} {w : World} : ∀ {τ : Ty} {x : τ.den}, onlyI τ = true → RdC F w τ x (flatI τ x)
 | .int _, _, _ => rfl
 | .pair a b, x, h0 => by
  have h0' : (onlyI a && onlyI b) = true := h0
  rw [Bool.and_eq_true] at h0'
  exact ⟨_, _, rfl, qjp h0'.1, qjp h0'.2⟩
/-! ### strings.Join -/
/-! ### strings.Builder: a variable of two cells: nil or its own address; its bytes -/
theorem FunOk.bif {P : Program} {e0 : Fun} (h0 : FunOk P e0) {c : CT e0.ji.ct → Bool} {tw : CT e0.ji.ct → Option (CT e0.jo.ct)} (h1 : FunOk P { f := e0.f, np := e0.np, nr := e0.nr, ji := e0.ji, jo := e0.jo, tw := tw }) :
  FunOk P { f := e0.f, np := e0.np, nr := e0.nr, ji := e0.ji, jo := e0.jo, tw := fun x => _root_.cond (c x) (e0.tw x) (tw x) } := by
 refine ⟨h0.ok, fun x y hxy => ?_⟩
 cases hc : c x with
 | true =>
  have hxy' : _root_.cond (c x) (e0.tw x) (tw x) = some y := hxy
  rw [hc] at hxy'; exact h0.run x y hxy'
 | false =>
  have hxy' : _root_.cond (c x) (e0.tw x) (tw x) = some y := hxy
  rw [hc] at hxy'; exact h1.run x y hxy'
end Go.Sq
