/- The second engine, part MB: walks through maps; bytes as a string. No condition. -/
import Derived.Test.YtpgigbdefbeagaaGreatDoorSqMA
import Derived.Laws.BytesArg
namespace Go.Sq
open Go Go.RowKit Go.MapKept
section
variable {P : Program} {w0 : World} {M : Mod} {N : Nat} {F0 : Nat → Prop} {ops : Array Oper} {st : St} {Γ : List TI} {rty : TypeId}
variable {F : Nat → Prop} {ρ : Env} {a : Act} {w : World}
/-! ### A map that is only read: an entry, how many there are -/
def qi7 (Γ : List TI) (st : St) (t : TypeId) (x ix : Operand) (ok : Bool) : Option VR := match t with
 | 0 => none
 | _ + 1 => none
theorem qlz (hΓ : Tys P Γ) {t : TypeId} {x ix : Operand} {ok : Bool} {r : VR} (h : qi7 Γ st t x ix ok = some r) : VOk P w0 M N st (.lookup t x ix ok) rty r := by
 unfold qi7 at h
 split at h <;> cases h
/-! ### A walk begins; the entry at which it stands -/
def qmL (Γ : List TI) (st : St) (N d : Nat) (t : TypeId) (x : Operand) : Option MR := match d with
 | 0 => none
 | _ + 1 => none
theorem qoj (hΓ : Tys P Γ) {d : Nat} {t : TypeId} {x : Operand} {r : MR} (h : qmL Γ st N d t x = some r) : MOk P w0 M N F0 ops st (some d) (.range t x) rty r := by
 unfold qmL at h
 split at h <;> cases h
def qmM (st : St) (x : Operand) : Option VR := match x with
 | .tmp _ => none
 | _ => none
theorem qok {x : Operand} {r : VR} (h : qmM st x = some r) : VOk P w0 M N st (.entry x) rty r := by
 unfold qmM at h
 split at h <;> cases h
/-! ### Bytes as a string -/
def qmN (Γ : List TI) (st : St) (src dst : TypeId) (x : Operand) : Option VR :=
 match look Γ src, look Γ dst with
 | some i, some j => match i.desc, j.desc with
  | .slice e, .string => match look Γ e with
   | some q => match q.desc with
    | .int .u8 => match st.ev x with
     | .v (.sl (.int .u8)) l => some ⟨true, qaa x, .v .str (qa2 l)⟩
     | _ => none
    | _ => none
   | none => none
  | _, _ => none
 | _, _ => none
theorem qi8 : ∀ (l : List Int) (s : ByteArray), (l.foldl (fun r n => r.push (UInt8.ofNat n.toNat)) s).data.toList = s.data.toList ++ qa2 l
 | [], s => by simp [qa2]
 | n :: l, s => by
  rw [List.foldl_cons, qi8 l]
  simp [qa2, ByteArray.push]
theorem qpq {src dst e : TypeId} (hu : P.underlying src = some (.slice e)) (hw : P.underlying e = some (.int .u8)) (hv : P.underlying dst = some .string) {l : List Int} {u : Value} (h : RdV F w (.sl (.int .u8)) l u) :
  ∃ b : ByteArray, b.data.toList = qa2 l ∧ (convert src dst u).run P w = .ok (.string b) w := by
 obtain ⟨cs, ⟨ad, cap, rfl, hc⟩, rfl⟩ := h
 cases ad with
 | none =>
  have hl : l = [] := hc
  subst hl
  exact ⟨ByteArray.empty, rfl, run_convert_bytes_nil w src e hu hw _ _ dst hv⟩
 | some a0 =>
  obtain ⟨_, _, _, h4⟩ := hc
  have hl : (loadCells a0 l.length).run P w = .ok (l.map (Value.int .u8)).toArray w := by
   have := run_loadCells_list (P := P) w a0 (l.map (Value.int .u8)) (fun j v hj => by
    have hjl : j < l.length := by have := (List.getElem?_eq_some_iff.1 hj).1; simpa using this
    have hlj : l[j]? = some l[j] := List.getElem?_eq_getElem hjl
    rw [List.getElem?_map, hlj] at hj
    simp only [Option.map_some, Option.some.injEq] at hj
    obtain ⟨es, e1, e2⟩ := h4 j l[j] hlj
    have e1' : es = [.int .u8 l[j]] := e1
    subst e1'
    have h9 := e2 0 _ rfl
    rw [← hj]
    have e3 : j * (Ty.int .u8).size + 0 = j := by simp [Ty.size]
    rw [e3] at h9
    exact h9)
   simpa using this
  refine ⟨_, ?_, (run_convert_bytes_string w src dst e _ _ _ hu hw hv).trans (run_bytesToString w a0 _ _ l hl)⟩
  rw [qi8]; rfl
theorem qol (hΓ : Tys P Γ) {src dst : TypeId} {x : Operand} {r : VR} (h : qmN Γ st src dst x = some r) : VOk P w0 M N st (.convert src dst x) rty r := by
 unfold qmN at h
 split at h
 ·rename_i i j hi hj
  obtain ⟨hi1, hi2⟩ := qag hΓ hi
  obtain ⟨hj1, hj2⟩ := qag hΓ hj
  have hu := hi1.und
  have hv := hj1.und
  rw [hi2] at hu
  rw [hj2] at hv
  split at h
  ·rename_i e d1 d2
   split at h
   ·rename_i q hq
    obtain ⟨hq1, hq2⟩ := qag hΓ hq
    have hw := hq1.und
    rw [hq2] at hw
    split at h
    ·rename_i d3
     split at h
     ·rename_i l hx
      injection h with h; subst h
      rw [d1] at hu
      rw [d2] at hv
      rw [d3] at hw
      intro st' hag F ρ a w hr dst' pos af gd
      have hxd := hr.evx hag (fun _ h => h) (x := x)
      rw [hx] at hxd
      generalize he : a.eval x = u at hxd
      cases hxd with
      | v hd =>
       obtain ⟨b, hb, hrun⟩ := qpq (dst := dst) hu hw hv hd
       refine ⟨.string b, ?_, .v ⟨[.string b], ?_, rfl⟩⟩
       ·simp only [execOp, he, hrun, Sem.run_bind, Sem.run_pure, Result.andThen_ok]
       ·show [Value.string b] = [Value.string ⟨⟨qa2 l⟩⟩]
        rw [← hb]
     ·cases h
    ·cases h
   ·cases h
  ·cases h
 ·cases h
/-! ### What of an own array begins at an element; a copy within an array -/
def qpr (Γ : List TI) (st : St) (t : TypeId) (x lo : Operand) : Option VR :=
 match st.ev x, (st.ev lo).int? with
 | .own b, some (_, m) => match st.a b with
  | some (.arr _ e l) => bif qfI Γ t e.size then some ⟨decide (0 < l.length) && inR m l.length l.length, qaa x ++ (qaa lo ++ [.a b]), .rest b e.size m.toNat l.length⟩ else none
  | _ => none
 | _, _ => none
theorem qps (hΓ : Tys P Γ) {t : TypeId} {x lo : Operand} {r : VR} (h : qpr Γ st t x lo = some r) (hg : r.g = true) : VOk P w0 M N st (.slice t x (some lo) none none) rty r := by
 unfold qpr at h
 split at h
 ·rename_i b k m hx hm
  split at h
  ·rename_i te e l hA
   cases hs : qfI Γ t e.size with
   | false => rw [hs] at h; cases h
   | true =>
    rw [hs] at h; injection h with h; subst h
    obtain ⟨et, hu, hsz⟩ := qen hΓ hs
    simp only [inR, Bool.and_eq_true, decide_eq_true_eq] at hg
    intro st' hag F ρ a w hr dst pos af gd
    have hxd := hr.evx hag (fun _ h => mem_l h) (x := x)
    have hlo := (hr.evx hag (fun _ h => mem_r (mem_l h)) (x := lo)).int hm
    have hA' : st'.a b = some (.arr te e l) := by rw [← (hag (.a b) (by simp) : st.a b = st'.a b)]; exact hA
    rw [hx] at hxd
    generalize he : a.eval x = u at hxd
    cases hxd with
    | own hρ =>
     obtain ⟨u', q1, xs, q2, q3⟩ := hr.mem.arr b _ hA'
     rw [hρ] at q1; injection q1 with q1; subst q1
     rcases q2.2 with ⟨ad, _, h3⟩ | ⟨g, cap, cur, rfl, h6, h7, h8, h9, h10⟩
     ·omega
     ·have hb := qgw (P := P) (w := w) (isS := true) (n := l.length) (c := cap + 1) (lo := some (k, m)) (hi := none) (by simp only [bdLo, bdHi]; omega) (by simp only [bdHi]; omega) (fun _ _ e => by injection e with e; injection e with _ e; subst e; omega) (fun _ _ e => by cases e)
      have hd : Den P F w ρ (.rest b e.size m.toNat l.length) _ := .rest (k := e.size) (lo := m.toNat) hρ (by omega) h7
      refine ⟨_, ?_, hd⟩
      simp only [valOf, Option.map_some, Option.map_none, bdLo, bdHi] at hb
      simp only [execOp, he, hlo, Option.map_some, Option.map_none, Instr.sliceAt, Instr.slice, Sem.run_bind, run_underlying hu, Result.andThen_ok, hb, hsz, Sem.run_pure]
      simp [Addr.add]
      split
      ·rfl
      ·congr 1
       split
       ·rename_i h0; rw [h0]
       ·rfl
  ·cases h
 ·cases h
def evPre (Γ : List TI) (st : St) (t : TypeId) (x hi : Operand) : Option VR :=
 match st.ev x, (st.ev hi).int? with
 | .own b, some (_, m) => match st.a b with
  | some (.arr _ e l) => bif qfI Γ t e.size then some ⟨decide (0 < l.length) && inR 0 m l.length, qaa x ++ (qaa hi ++ [.a b]), .pre b m.toNat l.length⟩ else none
  | _ => none
 | _, _ => none
theorem qqV (hΓ : Tys P Γ) {t : TypeId} {x hi : Operand} {r : VR} (h : evPre Γ st t x hi = some r) (hg : r.g = true) : VOk P w0 M N st (.slice t x none (some hi) none) rty r := by
 unfold evPre at h
 split at h
 ·rename_i b k m hx hm
  split at h
  ·rename_i te e l hA
   cases hs : qfI Γ t e.size with
   | false => rw [hs] at h; cases h
   | true =>
    rw [hs] at h; injection h with h; subst h
    obtain ⟨et, hu, hsz⟩ := qen hΓ hs
    simp only [inR, Bool.and_eq_true, decide_eq_true_eq] at hg
    intro st' hag F ρ a w hr dst pos af gd
    have hxd := hr.evx hag (fun _ h => mem_l h) (x := x)
    have hhi := (hr.evx hag (fun _ h => mem_r (mem_l h)) (x := hi)).int hm
    have hA' : st'.a b = some (.arr te e l) := by rw [← (hag (.a b) (by simp) : st.a b = st'.a b)]; exact hA
    rw [hx] at hxd
    generalize he : a.eval x = u at hxd
    cases hxd with
    | own hρ =>
     obtain ⟨u', q1, xs, q2, q3⟩ := hr.mem.arr b _ hA'
     rw [hρ] at q1; injection q1 with q1; subst q1
     rcases q2.2 with ⟨ad, _, h3⟩ | ⟨g, cap, cur, rfl, h6, h7, h8, h9, h10⟩
     ·omega
     ·have hb := qgw (P := P) (w := w) (isS := true) (n := l.length) (c := cap + 1) (lo := none) (hi := some (k, m)) (by simp only [bdLo, bdHi]; omega) (by simp only [bdHi]; omega) (fun _ _ e => by cases e) (fun _ _ e => by injection e with e; injection e with _ e; subst e; omega)
      have hd : Den P F w ρ (.pre b m.toNat l.length) _ := .pre hρ (by omega)
      refine ⟨_, ?_, hd⟩
      simp only [valOf, Option.map_some, Option.map_none, bdLo, bdHi] at hb
      simp only [execOp, he, hhi, Option.map_some, Option.map_none, Instr.sliceAt, Instr.slice, Sem.run_bind, run_underlying hu, Result.andThen_ok, hb, hsz, Sem.run_pure]
      simp [Addr.add]
  ·cases h
 ·cases h
def qpt (Γ : List TI) (st : St) (N : Nat) (dst : Option Nat) (t : TypeId) (x y : Operand) : Option MR := match t with
 | 0 => none
 | _ + 1 => none
theorem qpu (hΓ : Tys P Γ) {dst : Option Nat} {t t2 : TypeId} {x y : Operand} {r : MR} (h : qpt Γ st N dst t x y = some r) (hg : r.g = true) : MOk P w0 M N F0 ops st dst (.call { callee := .builtin .copy, args := #[x, y], argTypes := #[t, t2] }) rty r := by
 unfold qpt at h
 split at h <;> cases h
def qmO (Γ : List TI) (st : St) (N : Nat) (dst : Option Nat) (t : TypeId) (x y : Operand) : Option MR := match t with
 | 0 => none
 | _ + 1 => none
theorem qom (hΓ : Tys P Γ) {dst : Option Nat} {t t2 : TypeId} {x y : Operand} {r : MR} (h : qmO Γ st N dst t x y = some r) (hg : r.g = true) : MOk P w0 M N F0 ops st dst (.call { callee := .builtin .copy, args := #[x, y], argTypes := #[t, t2] }) rty r := by
 unfold qmO at h
 split at h <;> cases h
def qmP (Γ : List TI) (st : St) (N : Nat) (dst : Option Nat) (t : TypeId) (x y : Operand) : Option MR :=
 match qpt Γ st N dst t x y with
 | some r => some r
 | none => qmO Γ st N dst t x y
theorem qon (hΓ : Tys P Γ) {dst : Option Nat} {t t2 : TypeId} {x y : Operand} {r : MR} (h : qmP Γ st N dst t x y = some r) (hg : r.g = true) : MOk P w0 M N F0 ops st dst (.call { callee := .builtin .copy, args := #[x, y], argTypes := #[t, t2] }) rty r := by
 unfold qmP at h
 split at h
 ·rename_i r' hr; injection h with h; subst h; exact qpu hΓ hr hg
 ·exact qom hΓ h hg
def qmQ (Γ : List TI) (st : St) : Op → Option VR
 | .lookup t x ix ok => qi7 Γ st t x ix ok
 | .slice t x (some lo) none none => qpr Γ st t x lo
 | .slice t x none (some hi) none => evPre Γ st t x hi
 | .entry x => qmM st x
 | .convert s d x => qmN Γ st s d x
 | _ => none
theorem qoo (hΓ : Tys P Γ) {op : Op} {r : VR} (h : qmQ Γ st op = some r) (hg : r.g = true) : VOk P w0 M N st op rty r := by
 unfold qmQ at h
 split at h
 ·exact qlz hΓ h
 ·exact qps hΓ h hg
 ·exact qqV hΓ h hg
 ·exact qok h
 ·exact qol hΓ h
 ·cases h
def qmR (Γ : List TI) (st : St) (N : Nat) (dst : Option Nat) : Op → Option MR
 | .range t x => match dst with
  | some d => qmL Γ st N d t x
  | none => none
 | .call ⟨.builtin .copy, ⟨[x, y]⟩, ⟨[t, _]⟩⟩ => qmP Γ st N dst t x y
 | op => qpo Γ st N dst op
theorem qop (hΓ : Tys P Γ) {dst : Option Nat} {op : Op} {r : MR} (h : qmR Γ st N dst op = some r) (hg : r.g = true) : MOk P w0 M N F0 ops st dst op rty r := by
 unfold qmR at h
 split at h
 ·split at h
  ·exact qoj hΓ h
  ·cases h
 ·exact qon hΓ h hg
 ·exact qpp hΓ h hg
end
end Go.Sq
