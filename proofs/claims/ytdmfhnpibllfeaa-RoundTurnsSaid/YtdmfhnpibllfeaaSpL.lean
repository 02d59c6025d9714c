/- The engine, part L: from a contract to a law's statement; how arguments are read. No condition. -/
import Derived.Test.YtdmfhnpibllfeaaSpK
import Derived.Carry
import Derived.OpenShut
import Derived.ProofKit
namespace Go.Sp
open Go Go.RowKit Go.ChangeShapes Go.WideShapes

theorem Fr.below {w w' : World} (h : Fr w (fun _ => False) w') : Below w.heap.size w w' := ⟨h.os, h.tape, h.output, h.size, fun k hk => h.blk k hk (fun e => e)⟩

section
variable {H : Type} {enc : TypeId × Value → H} {P : Program}

theorem trodAll_stays (hl : laidOutB P = true) {W W' : World} (hb : Below W.heap.size W W') {sp : Nat → Bool} :
    ∀ {ts : List TypeId} {vs : List Value} {ds : List (DataW H)} {ps : List MemPlace}, (ts.all fun t => P.readableRec t && decide (t < P.types.size)) = true →
      DataW.TrodAll enc P W 0 (fun _ => true) true ts vs ds ps → (∀ x ∈ ps, x.block < W.heap.size) → (∀ x ∈ ps, sp x.block = true) → DataW.TrodAll enc P W' 0 sp true ts vs ds ps
  | [], [], [], _, _, h, _, _ => h
  | t :: ts, v :: vs, d :: ds, ps, ht, h, hlt, hs => by
    obtain ⟨p, q, h1, h2, rfl⟩ := h
    simp only [List.all_cons, Bool.and_eq_true, decide_eq_true_eq] at ht
    refine ⟨p, q, WideElems.Trod_stays hl ht.1.1 ht.1.2 h1 (fun x hx => hb.same (hlt x (by simp [hx]))) (fun x hx => hs x (by simp [hx])), ?_, rfl⟩
    exact trodAll_stays hl hb ht.2 h2 (fun x hx => hlt x (by simp [hx])) (fun x hx => hs x (by simp [hx]))
  | [], _ :: _, _, _, _, h, _, _ => by simp [DataW.TrodAll] at h
  | [], [], _ :: _, _, _, h, _, _ => by simp [DataW.TrodAll] at h
  | _ :: _, [], _, _, _, h, _, _ => by simp [DataW.TrodAll] at h
  | _ :: _, _ :: _, [], _, _, h, _, _ => by simp [DataW.TrodAll] at h

/-- From a contract that hands back 'true' to the law's row. -/
theorem law_post {f : FuncId} {fn : Func} {s : ChangeSpec} {tb : TypeId} {W : World} {args : Array Value} {ds : List (DataW H)} {before : List MemPlace} {svs : List SV}
    (hl : laidOutB P = true) (hts : (fn.params.toList.all fun t => P.readableRec t && decide (t < P.types.size)) = true) (hr : fn.resultTypes = #[tb]) (htb : P.underlying tb = some .bool)
    (hv : s.vars = []) (hfn : s.fn H (ds ++ []) = { results := [.lit (.bool true)], args := ds })
    (hW : DataW.Whole enc P fn.params.toList s.vars false W args.toList ds [] before) (hc : FnC P f svs (.b true)) (hlen : svs.length = args.toList.length)
    (hden : ∀ (i : Nat) (s : SV) (v : Value), svs[i]? = some s → args.toList[i]? = some v → Den (fun g => g < W.heap.size) W Env.none s v) :
    Calls P f args W fun e W' => ∃ v, e = .returned v ∧ s.post enc P fn false true false false W args v W' := by
  have hrun := hc.run (fun g => g < W.heap.size) W args.toList hlen hden (fun g h => h)
  rw [Array.toArray_toList] at hrun
  refine hrun.mono fun e W' ⟨r, F', he, hfr, _, _, _, hd⟩ => ⟨r, he, ?_⟩
  obtain rfl : r = .bool true := by cases hd; rfl
  have hb := hfr.below
  have hlt : ∀ p ∈ before, p.block < W.heap.size := fun p hp => hW.lt p hp
  have hWW := hW
  obtain ⟨p, q, hA, hV, rfl, hz, hn⟩ := hW
  have hV2 := hV
  rw [hv] at hV
  obtain rfl : q = [] := hV
  have hA' : ∀ sp : Nat → Bool, (∀ x ∈ p ++ [], sp x.block = true) → DataW.TrodAll enc P W' 0 sp true fn.params.toList args.toList (s.fn H (ds ++ [])).args (p ++ []) := by
    intro sp hs
    rw [hfn, List.append_nil]
    exact trodAll_stays hl hb hts hA (fun x hx => hlt x (by simp [hx])) (fun x hx => hs x (by simp [hx]))
  have hres : ∀ (b : Nat) (sp : Nat → Bool) (hd : Bool), DataW.TrodAll enc P W' b sp hd fn.resultTypes.toList ((Value.bool true).resultList fn.resultTypes.size) (s.fn H (ds ++ [])).results [] := by
    intro b sp hd
    rw [hr, hfn]
    exact trodAll_cons_mk (shut_bool htb _) trodAll_mk0
  have hvars : ∀ sp : Nat → Bool, DataW.TrodVars enc P W' sp s.vars (s.fn H (ds ++ [])).vars [] := by
    intro sp
    rw [hv, hfn]; rfl
  have hok : ∀ (j : Nat) (t : TypeId) (r : Value), fn.resultTypes[j]? = some t → ((Value.bool true).resultList fn.resultTypes.size)[j]? = some r → Value.okWide P W' .any 0 t r := ok_one hr rfl (okWide_bool_mk htb _)
  have hold : ∀ x ∈ p ++ [], (fun b => decide (b < W.heap.size)) x.block = true := fun x hx => by simpa using hlt x hx
  refine ⟨ds, [], p ++ [], [], p ++ [], [], hWW, hres _ _ _, hA' _ hold, hvars _, World.keptBut_mono (fun x hx => ⟨hx, Or.inr (by simpa using hx)⟩) (hb.frame (· ∈ p ++ [])), fun _ => ?_⟩
  refine ⟨hok, _, _, ([] ++ (p ++ [])) ++ [], ⟨[] ++ (p ++ []), [], trodAll_append (hA' _ (fun _ _ => rfl)) (hres _ _ _), hvars _, rfl, ?_, ?_⟩, ?_⟩
  · intro b off hp
    have hp' : MemPlace.cell b off ∈ p ++ [] := by simpa using hp
    rw [hb.frozen (hlt _ hp')]
    exact hz b off hp'
  · intro ha; cases ha
  · intro x hx _; simpa using hx

theorem denAll_nil {F : Nat → Prop} {W : World} {ρ : Env} : ∀ (i : Nat) (s : SV) (v : Value), ([] : List SV)[i]? = some s → ([] : List Value)[i]? = some v → Den F W ρ s v := by
  intro i s v h; simp at h

theorem denAll_cons {F : Nat → Prop} {W : World} {ρ : Env} {s : SV} {v : Value} {ss : List SV} {vs : List Value} (h : Den F W ρ s v) (hr : ∀ (i : Nat) (s : SV) (v : Value), ss[i]? = some s → vs[i]? = some v → Den F W ρ s v) :
    ∀ (i : Nat) (s' : SV) (v' : Value), (s :: ss)[i]? = some s' → (v :: vs)[i]? = some v' → Den F W ρ s' v' := by
  intro i s' v' h1 h2
  cases i with
  | zero =>
    simp only [List.getElem?_cons_zero, Option.some.injEq] at h1 h2
    subst h1 h2; exact h
  | succ j => exact hr j s' v' (by simpa using h1) (by simpa using h2)

theorem has_lt {W : World} {r : Go.Reach} {b0 : Nat} {a : Addr} {e : TypeId} {n : Nat} (h : W.has P r b0 a e n) : a.block < W.heap.size := by
  obtain ⟨_, _, row, cells, hs, _⟩ := h
  unfold World.shape? at hs
  by_cases hlt : a.block < W.heap.size
  · exact hlt
  · rw [Array.getElem?_eq_none (by omega)] at hs
    simp at hs

/-- A slice of integers among a law's arguments. -/
theorem den_ints {W : World} {r : Go.Reach} {b0 : Nat} {t e : TypeId} {v : Value} {d : DataW H} {ps : List MemPlace} {sp : Nat → Bool} {held : Bool} (ht : P.underlying t = some (.slice e)) (he : P.underlying e = some (.int .i64)) (hc : P.cellsOf e = 1)
    (hval : Value.okWide P W r b0 t v) (hd : DataW.Trod enc P W 0 sp held t v d ps) :
    ∃ l : List Int, Den (fun g => g < W.heap.size) W Env.none (ints l) v ∧ (l.length : Int) ≤ 9223372036854775807 ∧ ∀ x ∈ l, -9223372036854775808 ≤ x ∧ x ≤ 9223372036854775807 := by
  obtain ⟨a, len, cap, rfl⟩ := okWide_slice ht hval
  obtain ⟨fuel, hf⟩ := hd
  rcases open_ints ht he hc hf with ⟨h, _⟩ | ⟨a', len', cap', zs, h, _, hle, hcap, hlz, _, hcell, hwf⟩
  · have h' : Value.slice a len cap = .slice none 0 0 := by simpa [Value.cells] using h
    injection h' with h1 h2 h3
    subst h1 h2 h3
    exact ⟨[], .nilsl, by simp, by simp⟩
  · have h' : Value.slice a len cap = .slice (some a') len' cap' := by simpa [Value.cells] using h
    injection h' with h1 h2 h3
    subst h1 h2 h3
    have hz : len ≤ zs.length := by rw [hlz]; split <;> omega
    have hblk : a'.block < W.heap.size := by
      simp only [Value.okWide, ht, Cell.okWide, Cell.ok] at hval
      exact has_lt hval.2.2
    have hlen : (zs.take len).length = len := by simp [hz]
    refine ⟨zs.take len, ?_, ?_, ?_⟩
    · unfold ints slOf
      rw [hlen]
      refine .sl (fun i _ => .int .i64 (zs.getD i 0)) hblk hle hcap ?_ (fun i j _ _ => rfl) ?_
      · intro i j hi hj
        obtain rfl : j = 0 := by omega
        rw [Nat.mul_one, Nat.add_zero]
        exact hcell i (by omega)
      · intro i j hi hj
        have e : (zs.take len).getD i 0 = zs.getD i 0 := by
          simp [List.getD_eq_getElem?_getD, List.getElem?_take, hi]
        show Den _ _ _ (SV.i ((zs.take len).getD i 0)) _
        rw [e]; exact .val _
    · rw [hlen]
      have : len ≤ maxLen := Nat.le_trans hle hcap
      unfold maxLen at this
      omega
    · intro x hx
      have := hwf x (List.mem_of_mem_take hx)
      simpa [Lit.wf, IntKind.min, IntKind.max, IntKind.signed, IntKind.bits] using this

theorem trodI {n : Nat} {t : TypeId} {k : IntKind} {W : World} {sp : Nat → Bool} {held : Bool} {v : Value} {y : DataW H × List MemPlace} (ht : P.underlying t = some (.int k)) (h : DataW.trod enc P W 0 sp held n t [v] = some y) :
    ∃ x, v = .int k x ∧ (Lit.int k x).wf = true := by
  obtain ⟨x, h1, _, h2⟩ := DataW.trod_int ht h
  injection h1 with h1
  exact ⟨x, h1, h2⟩

theorem trodB {n : Nat} {t : TypeId} {W : World} {sp : Nat → Bool} {held : Bool} {v : Value} {y : DataW H × List MemPlace} (ht : P.underlying t = some .bool) (h : DataW.trod enc P W 0 sp held n t [v] = some y) :
    ∃ x, v = .bool x := by
  obtain ⟨x, h1, _⟩ := DataW.trod_bool ht h
  injection h1 with h1
  exact ⟨x, h1⟩

theorem wf_i64 {x : Int} (h : (Lit.int .i64 x).wf = true) : -9223372036854775808 ≤ x ∧ x ≤ 9223372036854775807 := by
  simpa [Lit.wf, IntKind.min, IntKind.max, IntKind.signed, IntKind.bits] using h
theorem wf_u8 {x : Int} (h : (Lit.int .u8 x).wf = true) : 0 ≤ x ∧ x < 256 := by
  have : 0 ≤ x ∧ x ≤ 255 := by simpa [Lit.wf, IntKind.min, IntKind.max, IntKind.signed, IntKind.bits] using h
  omega
end
end Go.Sp
