/- Utc, the plain law: the calendar, without memory. -/
import Derived.Test.YtaanjciokdpkmaaDoorUtU
namespace Go.Proofs.YtaanjciokdpkmaaDoor
set_option linter.unusedVariables false
set_option linter.unusedSimpArgs false
set_option linter.unnecessarySimpa false
theorem i64_id {x : Int} (h : -9223372036854775808 ≤ x ∧ x ≤ 9223372036854775807) : i64 x = x := IntWalk.i64_in _ (by omega)
def leapB (y : Int) : Bool := decide (y % 4 = 0 ∧ y % 100 ≠ 0 ∨ y % 400 = 0)
def lenM (y m : Int) : Int := if m = 2 then (if leapB y then 29 else 28) else if m = 4 ∨ m = 6 ∨ m = 9 ∨ m = 11 then 30 else 31
/-- The days ahead of a year. -/
def fst (y : Int) : Int := 365 * (y - 1970) + (y - 1) / 4 - (y - 1) / 100 + (y - 1) / 400 - 477
/-- The days of a year's first months. -/
def sm (y : Int) : Nat → Int
  | 0 => 0
  | k + 1 => sm y k + lenM y ((k : Int) + 1)
theorem in_ok (N : Nat) (a b c : Int) : F34_d N (a, b, c) = some (decide (b ≤ a ∧ a ≤ c)) := by
  simp only [F34_d, FSpec.d, F34_s]
  by_cases h1 : a ≥ b
  · by_cases h2 : a ≤ c
    · simp [h1, h2]
    · simp [h1, h2]
  · have : ¬ b ≤ a := h1
    simp [h1, this]
theorem rin_ok (N : Nat) (a b c : Int) : F22_d N (a, b, c) = some (decide (b ≤ a ∧ a ≤ c)) := by
  simp only [F22_d, FSpec.d, F22_s]
  by_cases h1 : a ≥ b
  · by_cases h2 : a ≤ c
    · simp [h1, h2]
    · simp [h1, h2]
  · have : ¬ b ≤ a := h1
    simp [h1, this]
theorem leap_ok (N : Nat) {y : Int} (h : 0 ≤ y) : F44_d N y = some (leapB y) := by
  simp only [F44_d, FSpec.d, F44_s, Int.tmod_eq_emod_of_nonneg h, leapB]
  by_cases h4 : y % 4 = 0
  · by_cases h1 : y % 100 = 0
    · by_cases h40 : y % 400 = 0 <;> simp [h4, h1, h40]
    · have b1 : (y % 100 != 0) = true := bne_iff_ne.2 h1
      rw [b1]
      simp [h4, h1]
  · have : ¬ y % 400 = 0 := by omega
    have b4 : (y % 4 == 0) = false := beq_eq_false_iff_ne.2 h4
    rw [b4]
    simp [h4, this]
theorem rleap_ok (N : Nat) {y : Int} (h : 0 ≤ y) : F38_d N y = some (leapB y) := by
  simp only [F38_d, FSpec.d, F38_s, Int.tmod_eq_emod_of_nonneg h, leapB]
  by_cases h4 : y % 4 = 0
  · by_cases h1 : y % 100 = 0
    · by_cases h40 : y % 400 = 0 <;> simp [h4, h1, h40]
    · have b1 : (y % 100 != 0) = true := bne_iff_ne.2 h1
      rw [b1]
      simp [h4, h1]
  · have : ¬ y % 400 = 0 := by omega
    have b4 : (y % 4 == 0) = false := beq_eq_false_iff_ne.2 h4
    rw [b4]
    simp [h4, this]
theorem len_ok (N : Nat) {y m : Int} (h : 0 ≤ y) (hm : 1 ≤ m ∧ m ≤ 12) : F35_d N (y, m) = some (lenM y m) := by
  have hl := leap_ok N h
  rcases (show m = 1 ∨ m = 2 ∨ m = 3 ∨ m = 4 ∨ m = 5 ∨ m = 6 ∨ m = 7 ∨ m = 8 ∨ m = 9 ∨ m = 10 ∨ m = 11 ∨ m = 12 by omega) with rfl | rfl | rfl | rfl | rfl | rfl | rfl | rfl | rfl | rfl | rfl | rfl
  · show _ = _; kernel_rfl
  · simp only [F35_d, FSpec.d, F35_s]
    show (match F44_d N y with | some y1 => _ | none => none) = _
    rw [hl]
    unfold lenM
    cases leapB y
    · show _ = _; kernel_rfl
    · show _ = _; kernel_rfl
  all_goals (show _ = _; kernel_rfl)
theorem rlen_ok (N : Nat) {y m : Int} (h : 0 ≤ y) (hm : 1 ≤ m ∧ m ≤ 12) : F37_d N (y, m) = some (lenM y m) := by
  have hl := rleap_ok N h
  rcases (show m = 1 ∨ m = 2 ∨ m = 3 ∨ m = 4 ∨ m = 5 ∨ m = 6 ∨ m = 7 ∨ m = 8 ∨ m = 9 ∨ m = 10 ∨ m = 11 ∨ m = 12 by omega) with rfl | rfl | rfl | rfl | rfl | rfl | rfl | rfl | rfl | rfl | rfl | rfl
  · show _ = _; kernel_rfl
  · simp only [F37_d, FSpec.d, F37_s]
    show (match F38_d N y with | some y1 => _ | none => none) = _
    rw [hl]
    unfold lenM
    cases leapB y
    · show _ = _; kernel_rfl
    · show _ = _; kernel_rfl
  all_goals (show _ = _; kernel_rfl)
theorem first_ok (N : Nat) {y : Int} (h : 1970 ≤ y ∧ y ≤ 2301) : F36_d N y = some (fst y) := by
  simp only [F36_d, FSpec.d, F36_s]
  have e1 : i64 (y - 1970) = y - 1970 := i64_id (by omega)
  have e2 : i64 (y - 1) = y - 1 := i64_id (by omega)
  have e3 : i64 (365 * (y - 1970)) = 365 * (y - 1970) := i64_id (by omega)
  have d (k : Int) : (y - 1).tdiv k = (y - 1) / k := Int.tdiv_eq_ediv_of_nonneg (by omega)
  have e4 : i64 ((y - 1) / 4) = (y - 1) / 4 := i64_id (by omega)
  have e5 : i64 (365 * (y - 1970) + (y - 1) / 4) = 365 * (y - 1970) + (y - 1) / 4 := i64_id (by omega)
  have e6 : i64 ((y - 1) / 100) = (y - 1) / 100 := i64_id (by omega)
  have e7 : i64 (365 * (y - 1970) + (y - 1) / 4 - (y - 1) / 100) = 365 * (y - 1970) + (y - 1) / 4 - (y - 1) / 100 := i64_id (by omega)
  have e8 : i64 ((y - 1) / 400) = (y - 1) / 400 := i64_id (by omega)
  have e9 : i64 (365 * (y - 1970) + (y - 1) / 4 - (y - 1) / 100 + (y - 1) / 400) = 365 * (y - 1970) + (y - 1) / 4 - (y - 1) / 100 + (y - 1) / 400 := i64_id (by omega)
  simp only [e1, e2, e3, d, e4, e5, e6, e7, e8, e9, fst]
  rw [i64_id (by omega)]
theorem fst_succ (y : Int) : fst (y + 1) = fst y + 365 + (if leapB y = true then 1 else 0) := by
  unfold fst leapB
  by_cases h : y % 4 = 0 ∧ y % 100 ≠ 0 ∨ y % 400 = 0
  · rw [if_pos (by simpa using h)]; omega
  · rw [if_neg (by simpa using h)]; omega
theorem fst_le (y : Int) : fst y + 365 ≤ fst (y + 1) ∧ fst (y + 1) ≤ fst y + 366 := by
  rw [fst_succ]; split <;> omega
theorem fst_rng {y : Int} (h : 1970 ≤ y ∧ y ≤ 2301) : 0 ≤ fst y ∧ fst y ≤ 200000 := by
  unfold fst; omega
theorem lenM_rng (y m : Int) : 28 ≤ lenM y m ∧ lenM y m ≤ 31 := by
  unfold lenM; (repeat' split) <;> omega
theorem sm_rng (y : Int) : ∀ k : Nat, 0 ≤ sm y k ∧ sm y k ≤ 31 * k
  | 0 => by simp [sm]
  | k + 1 => by
    have := sm_rng y k
    have := lenM_rng y ((k : Int) + 1)
    simp only [sm]; omega
theorem sm_year (y : Int) : sm y 12 = fst (y + 1) - fst y := by
  rw [fst_succ]
  simp only [sm, lenM]
  cases leapB y <;> simp <;> omega
end Go.Proofs.YtaanjciokdpkmaaDoor
