/- Records as bytes: what is read of bytes; the record of its own bytes. No condition. -/
import Derived.Test.YtnkfkceghbkkkaaGreatWi6
namespace Go.Proofs.YtnkfkceghbkkkaaGreat
open Go Go.Sq
set_option linter.unusedVariables false
def d1 (b : List Int) := num b 0 true
def d2 (b : List Int) := cnt b 21 (d1 b).2.1 (d1 b).2.2
def dv (b : List Int) := nums b (d2 b).1.toNat (d2 b).2.1 (d2 b).2.2 []
def d3 (b : List Int) := num b (dv b).1 (dv b).2.1
def d4 (b : List Int) := num b (d3 b).2.1 (d3 b).2.2
def d5 (b : List Int) := num b (d4 b).2.1 (d4 b).2.2
def d6 (b : List Int) := num b (d5 b).2.1 (d5 b).2.2
def d7 (b : List Int) := num b (d6 b).2.1 (d6 b).2.2
def d8 (b : List Int) := cnt b 32 (d7 b).2.1 (d7 b).2.2
def dh (b : List Int) := hops b (d8 b).1.toNat (d8 b).2.1 (d8 b).2.2 []
def d9 (b : List Int) := num b (dh b).1 (dh b).2.1
def d10 (b : List Int) := num b (d9 b).2.1 (d9 b).2.2
def d11 (b : List Int) := num b (d10 b).2.1 (d10 b).2.2
def d12 (b : List Int) := cnt b 12 (d11 b).2.1 (d11 b).2.2
def zR : Rcd := (0, ([], ((0, (0, (0, (0, (0, ([], 0)))))), ([], (0, 0)))))
def decR (b : List Int) : Rcd × Int := if (d12 b).2.2 = false ∨ ¬ (b.length : Int) - ((d12 b).2.1 : Int) = (d12 b).1 then (zR, 3) else
  (((d1 b).1, ((dv b).2.2, (((d3 b).1, ((d4 b).1, ((d5 b).1, ((d6 b).1, ((d7 b).1, ((dh b).2.2, (d9 b).1)))))), (toBytes (b.drop (d12 b).2.1), ((d10 b).1, (d11 b).1))))), 0)
theorem d12_le (b : List Int) : (d12 b).2.1 ≤ b.length :=
  cnt_le (num_le (num_le (num_le (hops_le _ _ _ _ (cnt_le (num_le (num_le (num_le (num_le (num_le (nums_le _ _ _ _ (cnt_le (num_le (Nat.zero_le _)))))))))))))) 
theorem cut_t {b : List Int} {p : Nat} (h : p ≤ b.length) : cutG (some (.i64, (p : Int))) none b.length = true := by
  unfold cutG; simp only [Bool.and_eq_true, decide_eq_true_eq]; omega
section
variable {b : List Int} (hb : bytesP b) (hl : b.length ≤ 1000000)
include hb hl
theorem wdec : centre_Decode b = some (decR b) := by
  have hle := d12_le b
  unfold centre_Decode
  have e1 : centre_reader_number b 0 false = some ((d1 b).1, b, ((d1 b).2.1 : Int), !(d1 b).2.2) := wnum hb hl 0 false
  have e2 : centre_reader_count 21 b ((d1 b).2.1 : Int) (!(d1 b).2.2) = some ((d2 b).1, b, ((d2 b).2.1 : Int), !(d2 b).2.2) := by rw [wcnt hb hl, Bool.not_not]; rfl
  have ev := wvals hb hl (d1 b).2.1 (d1 b).2.2 (b, ((d2 b).2.1 : Int), !(d2 b).2.2) (d2 b).2.1 (!(d2 b).2.2)
  rw [Bool.not_not] at ev
  replace ev : iter (fun x => centre_Decode_L0 ((d2 b).1, b, ((d2 b).2.1 : Int), !(d2 b).2.2) x.1 x.2.1 x.2.2.1 x.2.2.2.1 x.2.2.2.2) (0, b, ((d2 b).2.1 : Int), !(d2 b).2.2, []) = some (b, ((dv b).1 : Int), !(dv b).2.1, (dv b).2.2) := ev
  have e3 : centre_reader_number b ((dv b).1 : Int) (!(dv b).2.1) = some ((d3 b).1, b, ((d3 b).2.1 : Int), !(d3 b).2.2) := by rw [wnum hb hl, Bool.not_not]; rfl
  have e4 : centre_reader_number b ((d3 b).2.1 : Int) (!(d3 b).2.2) = some ((d4 b).1, b, ((d4 b).2.1 : Int), !(d4 b).2.2) := by rw [wnum hb hl, Bool.not_not]; rfl
  have e5 : centre_reader_number b ((d4 b).2.1 : Int) (!(d4 b).2.2) = some ((d5 b).1, b, ((d5 b).2.1 : Int), !(d5 b).2.2) := by rw [wnum hb hl, Bool.not_not]; rfl
  have e6 : centre_reader_number b ((d5 b).2.1 : Int) (!(d5 b).2.2) = some ((d6 b).1, b, ((d6 b).2.1 : Int), !(d6 b).2.2) := by rw [wnum hb hl, Bool.not_not]; rfl
  have e7 : centre_reader_number b ((d6 b).2.1 : Int) (!(d6 b).2.2) = some ((d7 b).1, b, ((d7 b).2.1 : Int), !(d7 b).2.2) := by rw [wnum hb hl, Bool.not_not]; rfl
  have e8 : centre_reader_count 32 b ((d7 b).2.1 : Int) (!(d7 b).2.2) = some ((d8 b).1, b, ((d8 b).2.1 : Int), !(d8 b).2.2) := by rw [wcnt hb hl, Bool.not_not]; rfl
  have eh := whops hb hl (d7 b).2.1 (d7 b).2.2 (b, ((d8 b).2.1 : Int), !(d8 b).2.2) (dv b).2.2 (d8 b).2.1 (!(d8 b).2.2)
  rw [Bool.not_not] at eh
  replace eh : iter (fun x2 => centre_Decode_L1 ((d8 b).1, b, ((d8 b).2.1 : Int), !(d8 b).2.2) x2.1 x2.2.1 x2.2.2.1 x2.2.2.2.1 x2.2.2.2.2.1 x2.2.2.2.2.2) (0, b, ((d8 b).2.1 : Int), !(d8 b).2.2, (dv b).2.2, []) = some (b, ((dh b).1 : Int), !(dh b).2.1, (dv b).2.2, (dh b).2.2) := eh
  have e9 : centre_reader_number b ((dh b).1 : Int) (!(dh b).2.1) = some ((d9 b).1, b, ((d9 b).2.1 : Int), !(d9 b).2.2) := by rw [wnum hb hl, Bool.not_not]; rfl
  have e10 : centre_reader_number b ((d9 b).2.1 : Int) (!(d9 b).2.2) = some ((d10 b).1, b, ((d10 b).2.1 : Int), !(d10 b).2.2) := by rw [wnum hb hl, Bool.not_not]; rfl
  have e11 : centre_reader_number b ((d10 b).2.1 : Int) (!(d10 b).2.2) = some ((d11 b).1, b, ((d11 b).2.1 : Int), !(d11 b).2.2) := by rw [wnum hb hl, Bool.not_not]; rfl
  have e12 : centre_reader_count 12 b ((d11 b).2.1 : Int) (!(d11 b).2.2) = some ((d12 b).1, b, ((d12 b).2.1 : Int), !(d12 b).2.2) := by rw [wcnt hb hl, Bool.not_not]; rfl
  simp only [e1, e2, ev, e3, e4, e5, e6, e7, e8, eh, e9, e10, e11, e12, Option.bind_some]
  rw [wi (n := (b.length : Int) - ((d12 b).2.1 : Int)) (by omega)]
  unfold decR
  cases h : (d12 b).2.2 with
  | false => rw [if_pos (.inl rfl)]; rfl
  | true =>
    by_cases h2 : (b.length : Int) - ((d12 b).2.1 : Int) = (d12 b).1
    · rw [dec_t h2, if_neg (by simp [h2])]
      simp only [Bool.not_true, cond_false, Option.bind_some, cut_t hle, gd_tt, Int.toNat_natCast]
    · rw [dec_f h2, if_pos (.inr h2)]; rfl
theorem rdec : ref41_Decode b = some (decR b) := by
  have hle := d12_le b
  unfold ref41_Decode
  have e1 : ref41_taker_one b 0 true = some ((d1 b).1, b, ((d1 b).2.1 : Int), (d1 b).2.2) := rnum hb hl 0 true
  have e2 : ref41_taker_some 21 b ((d1 b).2.1 : Int) (d1 b).2.2 = some ((d2 b).1, b, ((d2 b).2.1 : Int), (d2 b).2.2) := rcnt hb hl _ _ _
  have ev : iter (fun x => ref41_Decode_L0 x.1 x.2.1 x.2.2.1 x.2.2.2.1 x.2.2.2.2) ((d2 b).1, b, ((d2 b).2.1 : Int), (d2 b).2.2, []) = some (b, ((dv b).1 : Int), (dv b).2.1, (dv b).2.2) := rvals hb hl (d1 b).2.1 (d1 b).2.2 (d2 b).2.1 (d2 b).2.2
  have e3 : ref41_taker_one b ((dv b).1 : Int) (dv b).2.1 = some ((d3 b).1, b, ((d3 b).2.1 : Int), (d3 b).2.2) := rnum hb hl _ _
  have e4 : ref41_taker_one b ((d3 b).2.1 : Int) (d3 b).2.2 = some ((d4 b).1, b, ((d4 b).2.1 : Int), (d4 b).2.2) := rnum hb hl _ _
  have e5 : ref41_taker_one b ((d4 b).2.1 : Int) (d4 b).2.2 = some ((d5 b).1, b, ((d5 b).2.1 : Int), (d5 b).2.2) := rnum hb hl _ _
  have e6 : ref41_taker_one b ((d5 b).2.1 : Int) (d5 b).2.2 = some ((d6 b).1, b, ((d6 b).2.1 : Int), (d6 b).2.2) := rnum hb hl _ _
  have e7 : ref41_taker_one b ((d6 b).2.1 : Int) (d6 b).2.2 = some ((d7 b).1, b, ((d7 b).2.1 : Int), (d7 b).2.2) := rnum hb hl _ _
  have e8 : ref41_taker_some 32 b ((d7 b).2.1 : Int) (d7 b).2.2 = some ((d8 b).1, b, ((d8 b).2.1 : Int), (d8 b).2.2) := rcnt hb hl _ _ _
  have eh : iter (fun x2 => ref41_Decode_L1 x2.1 x2.2.1 x2.2.2.1 x2.2.2.2.1 x2.2.2.2.2.1 x2.2.2.2.2.2) ((d8 b).1, b, ((d8 b).2.1 : Int), (d8 b).2.2, (dv b).2.2, []) = some (b, ((dh b).1 : Int), (dh b).2.1, (dv b).2.2, (dh b).2.2) := rhops hb hl (d7 b).2.1 (d7 b).2.2 (dv b).2.2 (d8 b).2.1 (d8 b).2.2
  have e9 : ref41_taker_one b ((dh b).1 : Int) (dh b).2.1 = some ((d9 b).1, b, ((d9 b).2.1 : Int), (d9 b).2.2) := rnum hb hl _ _
  have e10 : ref41_taker_one b ((d9 b).2.1 : Int) (d9 b).2.2 = some ((d10 b).1, b, ((d10 b).2.1 : Int), (d10 b).2.2) := rnum hb hl _ _
  have e11 : ref41_taker_one b ((d10 b).2.1 : Int) (d10 b).2.2 = some ((d11 b).1, b, ((d11 b).2.1 : Int), (d11 b).2.2) := rnum hb hl _ _
  have e12 : ref41_taker_some 12 b ((d11 b).2.1 : Int) (d11 b).2.2 = some ((d12 b).1, b, ((d12 b).2.1 : Int), (d12 b).2.2) := rcnt hb hl _ _ _
  simp only [e1, e2, ev, e3, e4, e5, e6, e7, e8, eh, e9, e10, e11, e12, Option.bind_some]
  rw [wi (n := (b.length : Int) - ((d12 b).2.1 : Int)) (by omega)]
  unfold decR
  cases h : (d12 b).2.2 with
  | false => rw [if_pos (.inl rfl)]; rfl
  | true =>
    by_cases h2 : (b.length : Int) - ((d12 b).2.1 : Int) = (d12 b).1
    · rw [dec_t h2, if_neg (by simp [h2])]
      simp only [Bool.not_true, cond_false, Option.bind_some, cut_t hle, gd_tt, Int.toNat_natCast]
    · rw [dec_f h2, if_pos (.inr h2)]; rfl
end
end Go.Proofs.YtnkfkceghbkkkaaGreat
