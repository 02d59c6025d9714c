/- The second engine, part LB: functions of Go's library: contracts from what is known of their calls. No condition. -/
import Derived.Test.YtpgigbdefbeagaaGreatDoorSqZ
import Derived.Lib.AtoiAll
import Derived.Lib.ConvBytes
import Derived.Lib.Join
import Derived.Lib.ItoaMem
import Derived.Lib.LaidTab
namespace Go.Sq
open Go Go.RowKit
/-! ### Searches for a byte -/
def idxB (s : List UInt8) (c : Int) : Option Int := some (Lib.indexByte s c.toNat.toUInt8)
def cntB (s : List UInt8) (c : Int) : Option Int := some ((Lib.countByte s c.toNat.toUInt8 : Nat) : Int)
def qqY (f : FuncId) : Ext := { f := f, ps := [.str, .int .u8], r := .int .i64, g := fun x => idxB x.1 x.2.1 }
def qqZ (f : FuncId) : Ext := { f := f, ps := [.str, .int .u8], r := .int .i64, g := fun x => cntB x.1 x.2.1 }
theorem qpf {P : Program} {f : FuncId} {fn : Func} (hf : P.funcs[f]? = some fn) (hname : (fn.name == "runtime.NumGoroutine") = false) (hb : fn.body.isNone = true) (hn : Extern.findNext fn = none) (he : Extern.find fn = some Extern.BytealgIndexByte.indexByte) : ExtOk P (qqY f) := by
 intro x y hxy F w vs hvs
 obtain ⟨s, c, x2⟩ := x
 obtain ⟨v1, r1, rfl, ⟨cs1, h1, rfl⟩, v2, r2, rfl, ⟨cs2, h2, rfl⟩, hr⟩ := hvs
 have hr' : r2 = [] := hr
 subst hr'
 have h1' : cs1 = [.string ⟨⟨s⟩⟩] := h1
 have h2' : cs2 = [.int .u8 c] := h2
 subst h1' h2'
 have hxy' : some (Lib.indexByte s (Int.toNat c).toUInt8) = some y := hxy
 injection hxy' with hxy'; subst hxy'
 refine ⟨.int .i64 (Lib.indexByte s (Int.toNat c).toUInt8), ?_, ⟨[.int .i64 (Lib.indexByte s (Int.toNat c).toUInt8)], rfl, rfl⟩⟩
 show (callFunc f #[.string ⟨⟨s⟩⟩, .int .u8 c]).run P w = _
 rw [run_callFunc_extern hf hname hb hn he]
 have hrun := Lib.run_indexByteString (P := P) ⟨⟨s⟩⟩ c w
 exact (congrArg (fun r => r.andThen fun v w' => Result.ok (Next.value v) w') hrun).trans rfl
theorem qpg {P : Program} {f : FuncId} {fn : Func} (hf : P.funcs[f]? = some fn) (hname : (fn.name == "runtime.NumGoroutine") = false) (hb : fn.body.isNone = true) (hn : Extern.findNext fn = none) (he : Extern.find fn = some Extern.BytealgCount.count) : ExtOk P (qqZ f) := by
 intro x y hxy F w vs hvs
 obtain ⟨s, c, x2⟩ := x
 obtain ⟨v1, r1, rfl, ⟨cs1, h1, rfl⟩, v2, r2, rfl, ⟨cs2, h2, rfl⟩, hr⟩ := hvs
 have hr' : r2 = [] := hr
 subst hr'
 have h1' : cs1 = [.string ⟨⟨s⟩⟩] := h1
 have h2' : cs2 = [.int .u8 c] := h2
 subst h1' h2'
 have hxy' : some ((Lib.countByte s (Int.toNat c).toUInt8 : Nat) : Int) = some y := hxy
 injection hxy' with hxy'; subst hxy'
 refine ⟨.int .i64 ((Lib.countByte s (Int.toNat c).toUInt8 : Nat) : Int), ?_, ⟨[.int .i64 ((Lib.countByte s (Int.toNat c).toUInt8 : Nat) : Int)], rfl, rfl⟩⟩
 show (callFunc f #[.string ⟨⟨s⟩⟩, .int .u8 c]).run P w = _
 rw [run_callFunc_extern hf hname hb hn he]
 have hrun := Lib.run_countString (P := P) ⟨⟨s⟩⟩ c w
 exact (congrArg (fun r => r.andThen fun v w' => Result.ok (Next.value v) w') hrun).trans rfl
/-! ### A function of data, with flat results, of which the calls are known -/
theorem qr1 {j : J} (h : j.vars = []) (x : CT j.ct) (b : Nat) : (j.put0 x).v b = none := by
 show lookV (qcR (fun _ _ => SV.any) j.vars _).1 b = none
 rw [h]; rfl
theorem qr2 {j : J} (h : j.arrs = []) (x : CT j.ct) (b : Nat) : (j.put0 x).a b = none := by
 show lookA (qfi j.arrs _) b = none
 rw [h]; rfl
theorem FunOk.lib {P : Program} {e : Fun} (hok : FnOk P e.f) (hv : e.ji.vars = []) (ha : e.ji.arrs = []) (hv2 : e.jo.vars = []) (ha2 : e.jo.arrs = [])
  (h : ∀ x y, e.tw x = some y → ∀ (F : Nat → Prop) (w : World) (ρ : Env) (vs : List Value), vs.length = e.np → (∀ g, F g → g < w.heap.size) → qeH F w → (∀ i u, vs[i]? = some u → Den P F w ρ ((e.ji.put0 x).r i) u) →
   Calls P e.f vs.toArray w fun en w' => ∃ r, en = .returned r ∧ Fr w (fun _ => False) w' ∧ Den P F w' Env.none (resSV e.nr (e.jo.put0 y)) r) : FunOk P e := by
 refine ⟨hok, fun x y hxy F w ρ vs hl hm hd => ?_⟩
 have hn : e.ji.names = [] := by unfold J.names; rw [hv, ha]; rfl
 have hn2 : e.jo.names = [] := by unfold J.names; rw [hv2, ha2]; rfl
 refine (h x y hxy F w ρ vs hl hm.fb hm.glob hd).mono ?_
 rintro en w' ⟨r, rfl, hf, hr⟩
 have hw : ∀ g, F g → w'.heap[g]? = w.heap[g]? := fun g hg => hf.blk g (hm.fb g hg) id
 refine ⟨r, F, Env.none, rfl, ⟨hf.os, hf.tape, hf.output, hf.size, fun g hg _ => hf.blk g hg id⟩, fun _ h => h, fun _ h => .inl h, ⟨fun _ _ => rfl, ?_, ?_, ?_, ?_, fun g hg => Nat.lt_of_lt_of_le (hm.fb g hg) hf.size, ?_, hm.glob.mono (fun _ h => h) hw, fun _ _ h => h.elim, fun _ _ _ _ h => h.elim, fun _ _ _ h => h.elim, fun _ _ _ h => h⟩, ?_, ?_, fun _ _ h => h.elim, hr⟩
 ·intro b ty k hx; rw [qr1 hv2] at hx; cases hx
 ·intro b A hx; rw [qr2 ha2] at hx; cases hx
 ·intro b b' v v' g _ _ hx; cases hx
 ·intro b v g _ hx; cases hx
 ·intro b v hx; cases hx
 ·intro b v hb; rw [hn] at hb; cases hb
 ·intro b v g _ hx; cases hx
theorem qj8 {w w' : World} (h : Below w.heap.size w w') : Fr w (fun _ => False) w' := ⟨h.os, h.tape, h.output, h.size, fun g hg _ => h.block g hg⟩
theorem qqf (w : World) (e : TypeId) (s : ByteArray) : Fr w (fun _ => False) (Lib.bytesWorld w e s) := by
 refine ⟨?_, ?_, ?_, ?_, fun g hg _ => ?_⟩ <;> (unfold Lib.bytesWorld World.freeze; split)
 all_goals first | rfl | skip
 ·exact (qeI w.drew _).size
 ·show _ ≤ (Array.modify _ _ _).size
  rw [Array.size_modify]; exact (qeI w.drew _).size
 ·exact (qeI w.drew _).blk g hg id
 ·have hne : ¬ w.heap.size = g := by omega
  show (Array.modify _ _ _)[g]? = _
  rw [Array.getElem?_modify, if_neg hne]
  exact (qeI w.drew _).blk g hg id
/-! ### strconv.Atoi -/
def atoiT (s : List UInt8) : Option (Int × Bool) :=
 bif Nat.ble s.length 281474976710656 then some (match Lib.atoiAll s with
  | .ok v => (v, false)
  | .range => (Lib.atoiSat s, true)
  | _ => (0, true))
 else none
def jS1 : J := { regs := [(0, .one (.data .str))], vars := [], arrs := [] }
def qph (f : FuncId) : Fun := { f := f, np := 1, nr := 2, ji := jS1, jo := { regs := [(0, .one (.data (.int .i64))), (1, .one (.data .err))], vars := [], arrs := [] }, tw := fun x => atoiT x }
theorem qj9 {α : Type} {l : List α} (h : l.length = 1) : ∃ a, l = [a] := by
 match l, h with
 | [a], _ => exact ⟨a, rfl⟩
theorem qmV {α : Type} {l : List α} (h : l.length = 2) : ∃ a b, l = [a, b] := by
 match l, h with
 | [a, b], _ => exact ⟨a, b, rfl⟩
theorem qka {P : Program} {F : Nat → Prop} {w : World} {ρ : Env} {s t : SV} {u v : Value} (h1 : Den P F w ρ s u) (h2 : Den P F w ρ t v) : Den P F w ρ (.tup [s, t]) (.tuple #[u, v]) :=
 .tup (vs := [u, v]) rfl fun i s' u' hs hu => by
  match i, hs, hu with
  | 0, hs, hu => injection hs with hs; injection hu with hu; subst hs hu; exact h1
  | 1, hs, hu => injection hs with hs; injection hu with hu; subst hs hu; exact h2
theorem qrl {P : Program} {f : FuncId} {t5 te tp g1 g2 : Nat} (hok : FnOk P f)
  (h1 : ∀ (s : ByteArray) (_ : s.size ≤ 9223372036854775806) (v : Int) (_ : Lib.atoiAll s.data.toList = .ok v) (w : World), Calls P f #[.string s] w fun e w' => e = .returned (.tuple #[.int .i64 v, .nilIface]) ∧ (w' = w ∨ ∃ t, w' = Lib.bytesWorld w t5 t))
  (h2 : ∀ (s : ByteArray) (_ : s.size ≤ 281474976710656) (_ : (∀ v, Lib.atoiAll s.data.toList ≠ .ok v) ∧ Lib.atoiAll s.data.toList ≠ .range) (ev : Value) (w : World) (_ : w.cell? ⟨g1, 0, none⟩ = some ev) (_ : ev = .nilIface ∨ ∃ te pe, ev = .iface te pe),
   Calls P f #[.string s] w fun e w' => ∃ N, e = .returned (.tuple #[.int .i64 (0), .iface te (.pointer (some ⟨N, 0, none⟩))]) ∧ w.heap.size ≤ N ∧ w'.heap[N]? = some (.cells #[.string ⟨#[65, 116, 111, 105]⟩, .string s, ev] tp (0, 0)) ∧ Below w.heap.size w w')
  (h3 : ∀ (s : ByteArray) (_ : s.size ≤ 281474976710656) (_ : Lib.atoiAll s.data.toList = .range) (ev : Value) (w : World) (_ : w.cell? ⟨g2, 0, none⟩ = some ev) (_ : ev = .nilIface ∨ ∃ te pe, ev = .iface te pe),
   Calls P f #[.string s] w fun e w' => ∃ N, e = .returned (.tuple #[.int .i64 (Lib.atoiSat s.data.toList), .iface te (.pointer (some ⟨N, 0, none⟩))]) ∧ w.heap.size ≤ N ∧ w'.heap[N]? = some (.cells #[.string ⟨#[65, 116, 111, 105]⟩, .string s, ev] tp (0, 0)) ∧ Below w.heap.size w w')
  (m1 : (g1, ⟨.err, true⟩) ∈ globs) (m2 : (g2, ⟨.err, true⟩) ∈ globs) : FunOk P (qph f) := by
 refine FunOk.lib hok rfl rfl rfl rfl fun x y hxy F w ρ vs hl hb hg hd => ?_
 obtain ⟨u, rfl⟩ := qj9 hl
 have hu : Den P F w ρ (.v .str x) u := hd 0 u rfl
 have hu' : u = .string ⟨⟨x⟩⟩ := by
  cases hu with
  | v h => obtain ⟨cs, h1, h2⟩ := h; have : cs = [.string ⟨⟨x⟩⟩] := h1; subst this; exact h2
 subst hu'
 have cell : ∀ g, (g, (⟨.err, true⟩ : (τ : Ty) × τ.den)) ∈ globs → ∃ ev, w.cell? ⟨g, 0, none⟩ = some ev ∧ (ev = .nilIface ∨ ∃ te pe, ev = .iface te pe) := by
  intro g hm
  obtain ⟨_, es, e1, e2, _⟩ := hg _ hm
  obtain ⟨v, rfl, _, e4⟩ := e1
  exact ⟨v, e2 0 v rfl, .inr (by simpa using e4)⟩
 have hxy' : atoiT x = some y := hxy
 unfold atoiT at hxy'
 cases hs : Nat.ble (List.length x) 281474976710656 with
 | false => rw [hs] at hxy'; cases hxy'
 | true =>
  rw [hs] at hxy'; simp only [cond_true] at hxy'
  have hs' : (⟨⟨x⟩⟩ : ByteArray).size ≤ 281474976710656 := Nat.le_of_ble_eq_true hs
  have dI : ∀ (w' : World) (n : Int), Den P F w' Env.none (.v (.int .i64) n) (.int .i64 n) := fun w' n => .v ⟨[.int .i64 n], rfl, rfl⟩
  cases ha : Lib.atoiAll x with
  | ok v =>
   rw [ha] at hxy'; injection hxy' with hxy'; subst hxy'
   refine (h1 ⟨⟨x⟩⟩ (by omega) v ha w).mono ?_
   rintro e w' ⟨rfl, hw⟩
   refine ⟨_, rfl, ?_, qka (dI _ _) (.v ⟨[.nilIface], ⟨_, rfl, rfl, rfl⟩, rfl⟩)⟩
   rcases hw with rfl | ⟨t, rfl⟩
   ·exact Fr.refl _ _
   ·exact qqf _ _ _
  | range =>
   rw [ha] at hxy'; injection hxy' with hxy'; subst hxy'
   obtain ⟨ev, c1, c2⟩ := cell g2 m2
   refine (h3 ⟨⟨x⟩⟩ hs' ha ev w c1 c2).mono ?_
   rintro e w' ⟨n, rfl, _, _, hw⟩
   exact ⟨_, rfl, qj8 hw, qka (dI _ _) (.v ⟨[.iface te (.pointer (some ⟨n, 0, none⟩))], ⟨_, rfl, rfl, ⟨_, _, rfl⟩⟩, rfl⟩)⟩
  | _ =>
   rw [ha] at hxy'; injection hxy' with hxy'; subst hxy'
   obtain ⟨ev, c1, c2⟩ := cell g1 m1
   refine (h2 ⟨⟨x⟩⟩ hs' ⟨fun v e => (by rw [show Lib.atoiAll x = _ from ha] at e; cases e), fun e => (by rw [show Lib.atoiAll x = _ from ha] at e; cases e)⟩ ev w c1 c2).mono ?_
   rintro e w' ⟨n, rfl, _, _, hw⟩
   exact ⟨_, rfl, qj8 hw, qka (dI _ _) (.v ⟨[.iface te (.pointer (some ⟨n, 0, none⟩))], ⟨_, rfl, rfl, ⟨_, _, rfl⟩⟩, rfl⟩)⟩
/-! ### Package variables that hold numbers only; strconv.Itoa -/
def onlyI : Ty → Bool
 | .int _ => true
 | .pair a b => onlyI a && onlyI b
 | _ => false
def flatI : (τ : Ty) → τ.den → List Value
 | .int k, n => [.int k n]
 | .pair a b, x => flatI a x.1 ++ flatI b x.2
 | _, _ => []
theorem qiU {F : Nat → Prop} {w : World} : ∀ {τ : Ty} {x : τ.den} {es : List Value}, onlyI τ = true → RdC F w τ x es → es = flatI τ x
 | .int _, _, _, _, h => h
 | .pair a b, x, _, h0, h => by
  obtain ⟨c1, c2, rfl, h1, h2⟩ := h
  have h0' : (onlyI a && onlyI b) = true := h0
  rw [Bool.and_eq_true] at h0'
  rw [qiU h0'.1 h1, qiU h0'.2 h2]; rfl
theorem qiV {F : Nat → Prop} {w : World} : ∀ {τ : Ty} {x : τ.den}, onlyI τ = true → RdC F w τ x (flatI τ x)
 | .int _, _, _ => rfl
 | .pair a b, x, h0 => by
  have h0' : (onlyI a && onlyI b) = true := h0
  rw [Bool.and_eq_true] at h0'
  exact ⟨_, _, rfl, qiV h0'.1, qiV h0'.2⟩
theorem qeH.table {P : Program} {F : Nat → Prop} {w : World} (hg : qeH F w) {name : String} {g : Nat} {k : IntKind} {zs : List Int} {τ : Ty} {z : τ.den} (hn : P.globalNamed name = some g)
  (m : (g, (⟨τ, z⟩ : (τ : Ty) × τ.den)) ∈ globs) (hI : onlyI τ = true) (hz : flatI τ z = zs.map fun z => Value.int k z) : Lib.TabIs P w name k zs := by
 obtain ⟨_, es, e1, _, t, fz, e3⟩ := hg _ m
 have e1' := qiU hI e1
 subst e1'
 unfold Lib.TabIs World.var?
 rw [hn]
 show (match w.heap[g]? with | some (.cells cs _ _) => some cs | _ => none) = _
 rw [e3, ← hz]
def itoaT (n : Int) : Option (List UInt8) := bif decide (-9223372036854775808 ≤ n) && decide (n ≤ 9223372036854775807) then some (Lib.itoa n) else none
theorem qnM {n : Int} {y : List UInt8} (h : itoaT n = some y) : -9223372036854775808 ≤ n ∧ n ≤ 9223372036854775807 ∧ y = Lib.itoa n := by
 unfold itoaT at h
 generalize hc : (decide (-9223372036854775808 ≤ n) && decide (n ≤ 9223372036854775807)) = c at h
 cases c with
 | false => cases h
 | true =>
  injection h with h
  rw [Bool.and_eq_true, decide_eq_true_eq, decide_eq_true_eq] at hc
  exact ⟨hc.1, hc.2, h.symm⟩
def qpi (f : FuncId) : Fun := { f := f, np := 1, nr := 1, ji := { regs := [(0, .one (.data (.int .i64)))], vars := [], arrs := [] }, jo := jS1, tw := fun x => itoaT x }
theorem qrm {P : Program} {f : FuncId} {g : Nat} {τ : Ty} {z : τ.den} (hok : FnOk P f) (hn : P.globalNamed "internal/strconv.uint64pow10" = some g)
  (h : ∀ (n : Int) (_ : -9223372036854775808 ≤ n) (_ : n ≤ 9223372036854775807) (w : World) (_ : Lib.TabIs P w "internal/strconv.uint64pow10" .u64 Lib.pow10Tab),
   Calls P f #[.int .i64 n] w fun e w' => e = .returned (.string ⟨(Lib.itoa n).toArray⟩) ∧ ∃ k os, w' = Go.Sort.grow (w.drewN k) os)
  (m : (g, (⟨τ, z⟩ : (τ : Ty) × τ.den)) ∈ globs) (hI : onlyI τ = true) (hz : flatI τ z = Lib.pow10Tab.map fun z => Value.int .u64 z) : FunOk P (qpi f) := by
 refine FunOk.lib hok rfl rfl rfl rfl fun x y hxy F w ρ vs hl hb hg hd => ?_
 obtain ⟨u, rfl⟩ := qj9 hl
 have hu : Den P F w ρ (.v (.int .i64) x) u := hd 0 u rfl
 have hu' : u = .int .i64 x := by
  cases hu with
  | v h => obtain ⟨cs, h1, h2⟩ := h; have : cs = [.int .i64 x] := h1; subst this; exact h2
 subst hu'
 obtain ⟨c1, c2, c3⟩ := qnM (show itoaT x = some y from hxy)
 subst c3
 refine (h x c1 c2 w (hg.table hn m hI hz)).mono ?_
 rintro e w' ⟨rfl, k, os, rfl⟩
 exact ⟨_, rfl, ⟨rfl, rfl, rfl, by show w.heap.size ≤ (w.heap ++ os).size; rw [Array.size_append]; omega, fun g hg _ => by show (w.heap ++ os)[g]? = w.heap[g]?; rw [Array.getElem?_append_left hg]⟩, .v ⟨[.string ⟨⟨Lib.itoa x⟩⟩], rfl, rfl⟩⟩
/-! ### strings.Join -/
def joinT (l : List (List UInt8)) (sep : List UInt8) : Option (List UInt8) :=
 bif Nat.ble l.length 140737488355328 && Nat.ble (Lib.join l sep).length 140737488355328 then some (Lib.join l sep) else none
def qpj (f : FuncId) : Fun := { f := f, np := 2, nr := 1, ji := { regs := [(0, .one (.data (.sl .str))), (1, .one (.data .str))], vars := [], arrs := [] }, jo := jS1, tw := fun x => joinT x.1 x.2 }
theorem qqg {P : Program} {f : FuncId}
  (h0 : ∀ (a : Option Addr) (c : Nat) (sep : ByteArray) (w : World), Calls P f #[.slice a 0 c, .string sep] w fun e w' => e = .returned (.string ⟨#[]⟩) ∧ w' = w)
  (h1 : ∀ (bk o c : Nat) (xs : List ByteArray) (sep : ByteArray) (w : World) (_ : ∀ (j : Nat) x, xs[j]? = some x → w.cell? ⟨bk, o + j, none⟩ = some (.string x)) (_ : bk < w.heap.size) (_ : xs.length ≤ 140737488355328) (_ : xs.length ≤ c)
   (_ : (Lib.join (xs.map (·.data.toList)) sep.data.toList).length ≤ 140737488355328),
   Calls P f #[.slice (some ⟨bk, o, none⟩) xs.length c, .string sep] w fun e w' => e = .returned (.string ⟨(Lib.join (xs.map (·.data.toList)) sep.data.toList).toArray⟩) ∧ Below w.heap.size w w')
  (l : List (List UInt8)) (sep y : List UInt8) (hxy' : joinT l sep = some y) (F : Nat → Prop) (w : World) (ρ : Env) (u : Value) (hb : ∀ g, F g → g < w.heap.size) (hu : Den P F w ρ (.v (.sl .str) l) u) :
  Calls P f #[u, .string ⟨⟨sep⟩⟩] w fun en w' => ∃ r, en = .returned r ∧ Fr w (fun _ => False) w' ∧ Den P F w' Env.none (.v .str y) r := by
 unfold joinT at hxy'
 generalize hc : (Nat.ble (List.length l) 140737488355328 && Nat.ble (Lib.join l sep).length 140737488355328) = c at hxy'
 cases c with
 | false => cases hxy'
 | true =>
  injection hxy' with hxy'; subst hxy'
  rw [Bool.and_eq_true] at hc
  have hc1 := Nat.le_of_ble_eq_true hc.1
  have hc2 := Nat.le_of_ble_eq_true hc.2
  have dS : ∀ (w' : World) (s : List UInt8), Den P F w' Env.none (.v .str s) (.string ⟨s.toArray⟩) := fun w' s => .v ⟨[.string ⟨⟨s⟩⟩], rfl, rfl⟩
  cases hu with
  | v h =>
   obtain ⟨cs, ⟨ad, cap, rfl, had⟩, rfl⟩ := h
   have none_ : List.length l = 0 → ∀ a, Calls P f #[.slice a (List.length l) cap, .string ⟨⟨sep⟩⟩] w fun en w' => ∃ r, en = .returned r ∧ Fr w (fun _ => False) w' ∧ Den P F w' Env.none (.v .str (Lib.join l sep)) r := by
    intro h0l a
    have hl0 : l = [] := List.eq_nil_of_length_eq_zero h0l
    subst hl0
    refine (h0 a cap ⟨⟨sep⟩⟩ w).mono ?_
    rintro e w' ⟨rfl, rfl⟩
    exact ⟨_, rfl, Fr.refl _ _, dS _ _⟩
   cases ad with
   | none => exact none_ (by have : l = [] := had; rw [this]; rfl) none
   | some ad =>
    by_cases h0l : List.length l = 0
    ·exact none_ h0l (some ad)
    obtain ⟨a1, a2, a3, a4⟩ := had
    obtain ⟨bk, o, sp⟩ := ad
    -- a slice whose elements are cells has no spot
    have hsp : sp = none := by
     obtain ⟨z, hz⟩ : ∃ z, l[0]? = some z := ⟨_, List.getElem?_eq_getElem (by omega)⟩
     obtain ⟨es, b1, b2⟩ := a4 0 z hz
     have b1' : es = [.string ⟨⟨z⟩⟩] := b1
     subst b1'
     have hc0 := b2 0 _ rfl
     cases sp with
     | none => rfl
     | some q =>
      exfalso
      have e1 : (⟨bk, o, some q⟩ : Addr).add (0 * Ty.str.size + 0) = ⟨bk, o, some q⟩ := by rw [Nat.zero_mul]; rfl
      rw [e1] at hc0
      unfold World.cell? at hc0
      split at hc0
      ·cases hc0
      ·cases hc0
    subst hsp
    have hel : ∀ (j : Nat) (z : List UInt8), l[j]? = some z → w.cell? ⟨bk, o + j, none⟩ = some (.string ⟨⟨z⟩⟩) := by
     intro j z hz
     obtain ⟨es, b1, b2⟩ := a4 j z hz
     have b1' : es = [.string ⟨⟨z⟩⟩] := b1
     subst b1'
     have := b2 0 _ rfl
     rw [Addr.add_lit] at this
     have e1 : o + (j * Ty.str.size + 0) = o + j := by show o + (j * 1 + 0) = _; omega
     rw [e1] at this; exact this
    have hm : ((l.map fun z => (⟨⟨z⟩⟩ : ByteArray)).map (·.data.toList)) = l := by rw [List.map_map]; exact List.map_id l
    have hr := h1 bk o cap (l.map fun z => (⟨⟨z⟩⟩ : ByteArray)) ⟨⟨sep⟩⟩ w (fun j x hx => by
     rw [List.getElem?_map] at hx
     obtain ⟨z, hz, rfl⟩ := Option.map_eq_some_iff.1 hx
     exact hel j z hz) (hb _ (a1 (Nat.lt_of_lt_of_le (Nat.pos_of_ne_zero h0l) a2))) (by rw [List.length_map]; exact hc1) (by rw [List.length_map]; exact a2) (by rw [hm]; exact hc2)
    rw [hm, List.length_map] at hr
    refine hr.mono ?_
    rintro e w' ⟨rfl, hw⟩
    exact ⟨_, rfl, qj8 hw, dS _ _⟩
theorem qrn {P : Program} {f : FuncId} (hok : FnOk P f)
  (h0 : ∀ (a : Option Addr) (c : Nat) (sep : ByteArray) (w : World), Calls P f #[.slice a 0 c, .string sep] w fun e w' => e = .returned (.string ⟨#[]⟩) ∧ w' = w)
  (h1 : ∀ (bk o c : Nat) (xs : List ByteArray) (sep : ByteArray) (w : World) (_ : ∀ (j : Nat) x, xs[j]? = some x → w.cell? ⟨bk, o + j, none⟩ = some (.string x)) (_ : bk < w.heap.size) (_ : xs.length ≤ 140737488355328) (_ : xs.length ≤ c)
   (_ : (Lib.join (xs.map (·.data.toList)) sep.data.toList).length ≤ 140737488355328),
   Calls P f #[.slice (some ⟨bk, o, none⟩) xs.length c, .string sep] w fun e w' => e = .returned (.string ⟨(Lib.join (xs.map (·.data.toList)) sep.data.toList).toArray⟩) ∧ Below w.heap.size w w') : FunOk P (qpj f) := by
 refine FunOk.lib hok rfl rfl rfl rfl fun x y hxy F w ρ vs hl hb hg hd => ?_
 obtain ⟨u, v, rfl⟩ := qmV hl
 obtain ⟨l, sep⟩ := x
 have hu : Den P F w ρ (.v (.sl .str) l) u := hd 0 u rfl
 have hv : Den P F w ρ (.v .str sep) v := hd 1 v rfl
 have hv' : v = .string ⟨⟨sep⟩⟩ := by
  cases hv with
  | v h => obtain ⟨cs, h1, h2⟩ := h; have : cs = [.string ⟨⟨sep⟩⟩] := h1; subst this; exact h2
 subst hv'
 exact qqg h0 h1 l sep y hxy F w ρ u hb hu
/-! ### strings.Builder: a variable of two cells: nil or its own address; its bytes -/
def jB (c0 : Sh1) (regs : List (Nat × Sh)) (TB TU : TypeId) : J := { regs := regs, vars := [(0, TB, [c0, .own 1])], arrs := [(1, .arr TU (.int .u8))] }
def funCC (f TB TU : Nat) : Fun := { f := f, np := 1, nr := 0, ji := jB (.nptr 0 0) [(0, .one (.ptr 0 0))] TB TU, jo := jB (.ptr 0 0) [] TB TU, tw := fun x => some x }
theorem cc_ok {P : Program} {f TB TU : Nat} (hok : FnOk P f)
  (h0 : ∀ (b : Nat) (w : World) (_ : w.cell? ⟨b, 0, none⟩ = some (.pointer none)) (_ : w.shape? b = some (TB, 2)) (_ : w.frozen? ⟨b, 0, none⟩ = false), Calls P f #[.pointer (some ⟨b, 0, none⟩)] w fun e w' => e = .returned (.tuple #[]) ∧ w' = w.setCell ⟨b, 0, none⟩ (.pointer (some ⟨b, 0, none⟩)))
  (h1 : ∀ (b : Nat) (w : World) (_ : w.cell? ⟨b, 0, none⟩ = some (.pointer (some ⟨b, 0, none⟩))), Calls P f #[.pointer (some ⟨b, 0, none⟩)] w fun e w' => e = .returned (.tuple #[]) ∧ w' = w) : FunOk P (funCC f TB TU) := by
 refine ⟨hok, fun x y hxy F w ρ vs hl hm hd => ?_⟩
 have hxy' : some x = some y := hxy
 injection hxy' with hxy'; subst hxy'
 obtain ⟨u, rfl⟩ := qj9 hl
 have hu : Den P F w ρ (.ptr 0 0) u := hd 0 u rfl
 have hnm : ∀ b v, ρ b = some v → b ∈ (funCC f TB TU).ji.names := by
  intro b v hv
  by_cases hb : b ∈ (funCC f TB TU).ji.names
  ·exact hb
  ·have hd0 : ((funCC f TB TU).ji.put0 x).d b = false := Bool.eq_false_iff.2 fun hh => hb (qam.1 (show memN (funCC f TB TU).ji.names b = true from hh))
   rw [hm.dom b hd0] at hv; cases hv
 have hnk : ∀ b g, ρ.k b g → b ∈ (funCC f TB TU).ji.names := by
  intro b g hk
  by_cases hb : b ∈ (funCC f TB TU).ji.names
  ·exact hb
  ·have hd0 : ((funCC f TB TU).ji.put0 x).d b = false := Bool.eq_false_iff.2 fun hh => hb (qam.1 (show memN (funCC f TB TU).ji.names b = true from hh))
   exact absurd hk (hm.kap.k4 b g hd0)
 cases hu with
 | ptr hρ =>
  rename_i g
  obtain ⟨g', arr, v1, v2, v3, v4⟩ := hm.var 0 TB 2 rfl
  rw [hρ] at v1; injection v1 with v1; injection v1 with v1; injection v1 with v1; injection v1 with v1; subst v1
  obtain ⟨p, q, rfl⟩ : ∃ p q, arr = #[p, q] := by
   obtain ⟨l⟩ := arr
   obtain ⟨p, q, rfl⟩ := qmV (by simpa using v3)
   exact ⟨p, q, rfl⟩
  have d0 : Den P F w ρ (.nptr 0 0) p := (v4 0 p rfl).1
  have d1 : Den P F w ρ (.own 1) q := (v4 1 q rfl).1
  have hinit : Rel' P w ⟨InBlk ρ (funCC f TB TU).ji.names, fun _ => none⟩ 0 F ρ { (funCC f TB TU).ji.put0 x with r := fun _ => .any } { tmps := #[], defers := [] } w :=
   ⟨Fr.refl w _, hm.congr rfl rfl rfl rfl, fun b v g hp hv hg => .inl (.inl ⟨b, v, hnm b v hv, hv, hg⟩), fun t => .any _, rfl, rfl, fun b v h => (by cases h), fun b g hk => .inl (.inr ⟨b, hnk b g hk, hk⟩)⟩
  have h2 := hinit.setVar (b := 0) (k := 2) (g := g) (ty := TB) (arr' := #[.pointer (some ⟨g, 0, none⟩), q]) (st' := { (funCC f TB TU).jo.put0 x with r := fun _ => .any }) rfl hρ rfl rfl rfl rfl rfl
   (fun b' j hb => by
    cases b' with
    | zero => exact absurd rfl hb
    | succ b' => rfl)
   (fun j z hz => by
    match j, hz with
    | 0, hz => injection hz with hz; subst hz; exact ⟨.ptr hρ, rfl⟩
    | 1, hz => injection hz with hz; subst hz; exact ⟨d1, (v4 1 _ rfl).2⟩
    | j + 2, hz => simp at hz)
  have fin : ∀ w', w' = w.setRow g #[.pointer (some ⟨g, 0, none⟩), q] → ∃ r F' ρ', Ending.returned (.tuple #[]) = .returned r ∧ Fr w (InBlk ρ (funCC f TB TU).ji.names) w' ∧ (∀ g, F g → F' g) ∧ (∀ g, F' g → F g ∨ InBlk ρ (funCC f TB TU).ji.names g ∨ w.heap.size ≤ g) ∧ MemOk P F' w' ρ' ((funCC f TB TU).jo.put0 x) ∧
    (∀ b v, b ∈ (funCC f TB TU).ji.names → b ∈ (funCC f TB TU).jo.names → ρ b = some v → ρ' b = some v) ∧ (∀ b v g, ((funCC f TB TU).jo.put0 x).present b → ρ' b = some v → blkOf v = some g → InBlk ρ (funCC f TB TU).ji.names g ∨ w.heap.size ≤ g) ∧ (∀ b g, ρ'.k b g → InBlk ρ (funCC f TB TU).ji.names g ∨ w.heap.size ≤ g) ∧ Den P F' w' ρ' (resSV (funCC f TB TU).nr ((funCC f TB TU).jo.put0 x)) r := by
   rintro w' rfl
   exact ⟨_, F, ρ, rfl, h2.fr, fun _ h => h, fun _ h => .inl h, h2.mem.congr rfl rfl rfl rfl, fun _ _ _ _ h => h, fun b v k _ hv hg => .inl (.inl ⟨b, v, hnm b v hv, hv, hg⟩), fun b g hk => .inl (.inr ⟨b, hnk b g hk, hk⟩), .tup (ss := []) (vs := []) rfl (fun i s u hs => by simp at hs)⟩
  cases d0 with
  | nptr d0 =>
   have hc0 : w.cell? ⟨g, 0, none⟩ = some p := by simp [World.cell?, v2]
   rcases d0 with rfl | ⟨g2, e1, rfl⟩
   ·refine (h0 g w hc0 (by simp [World.shape?, v2]) (by simp [World.frozen?, v2])).mono ?_
    rintro e w' ⟨rfl, rfl⟩
    refine fin _ ?_
    rw [setCell_eq_setRow w g 0 _ _ _ _ v2]
    rfl
   ·rw [hρ] at e1; injection e1 with e1; injection e1 with e1; injection e1 with e1; injection e1 with e1; subst e1
    refine (h1 g w hc0).mono ?_
    rintro e w' ⟨rfl, hw⟩
    refine fin _ ?_
    rw [setRow_self w g _ _ _ v2, hw]
theorem FunOk.bif {P : Program} {e0 : Fun} (h0 : FunOk P e0) {c : CT e0.ji.ct → Bool} {tw : CT e0.ji.ct → Option (CT e0.jo.ct)} (h1 : FunOk P { f := e0.f, np := e0.np, nr := e0.nr, ji := e0.ji, jo := e0.jo, tw := tw }) :
  FunOk P { f := e0.f, np := e0.np, nr := e0.nr, ji := e0.ji, jo := e0.jo, tw := fun x => _root_.cond (c x) (e0.tw x) (tw x) } := by
 refine ⟨h0.ok, fun x y hxy => ?_⟩
 cases hc : c x with
 | true =>
  have hxy' : _root_.cond (c x) (e0.tw x) (tw x) = some y := hxy
  rw [hc] at hxy'; exact h0.run x y hxy'
 | false =>
  have hxy' : _root_.cond (c x) (e0.tw x) (tw x) = some y := hxy
  rw [hc] at hxy'; exact h1.run x y hxy'
end Go.Sq
