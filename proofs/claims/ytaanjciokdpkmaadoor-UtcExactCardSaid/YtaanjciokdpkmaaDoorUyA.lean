/- Several texts as one (written by merge.py): UtA UtB UtC UtD UtE UtF UtG UtH UtI UtJ UtL UtM UtN UtO UtP. -/
import Derived.Test.YtaanjciokdpkmaaDoorUtU
import Derived.Laws.Strings
/- Utc, the plain law: the calendar, without memory. -/
namespace Go.Proofs.YtaanjciokdpkmaaDoor
set_option linter.unusedVariables false
set_option linter.unusedSimpArgs false
set_option linter.unnecessarySimpa false
theorem i64_id {x : Int} (h : -9223372036854775808 ≤ x ∧ x ≤ 9223372036854775807) : i64 x = x := IntWalk.i64_in _ (by omega)
def leapB (y : Int) : Bool := decide (y % 4 = 0 ∧ y % 100 ≠ 0 ∨ y % 400 = 0)
def lenM (y m : Int) : Int := if m = 2 then (if leapB y then 29 else 28) else if m = 4 ∨ m = 6 ∨ m = 9 ∨ m = 11 then 30 else 31
/-- The days ahead of a year. -/
def fst (y : Int) : Int := 365 * (y - 1970) + (y - 1) / 4 - (y - 1) / 100 + (y - 1) / 400 - 477
/-- The days of a year's first months. -/
def sm (y : Int) : Nat → Int
  | 0 => 0
  | k + 1 => sm y k + lenM y ((k : Int) + 1)
theorem in_ok (N : Nat) (a b c : Int) : F34_d N (a, b, c) = some (decide (b ≤ a ∧ a ≤ c)) := by
  simp only [F34_d, FSpec.d, F34_s]
  by_cases h1 : a ≥ b
  · by_cases h2 : a ≤ c
    · simp [h1, h2]
    · simp [h1, h2]
  · have : ¬ b ≤ a := h1
    simp [h1, this]
theorem rin_ok (N : Nat) (a b c : Int) : F22_d N (a, b, c) = some (decide (b ≤ a ∧ a ≤ c)) := by
  simp only [F22_d, FSpec.d, F22_s]
  by_cases h1 : a ≥ b
  · by_cases h2 : a ≤ c
    · simp [h1, h2]
    · simp [h1, h2]
  · have : ¬ b ≤ a := h1
    simp [h1, this]
theorem leap_ok (N : Nat) {y : Int} (h : 0 ≤ y) : F44_d N y = some (leapB y) := by
  simp only [F44_d, FSpec.d, F44_s, Int.tmod_eq_emod_of_nonneg h, leapB]
  by_cases h4 : y % 4 = 0
  · by_cases h1 : y % 100 = 0
    · by_cases h40 : y % 400 = 0 <;> simp [h4, h1, h40]
    · have b1 : (y % 100 != 0) = true := bne_iff_ne.2 h1
      rw [b1]
      simp [h4, h1]
  · have : ¬ y % 400 = 0 := by omega
    have b4 : (y % 4 == 0) = false := beq_eq_false_iff_ne.2 h4
    rw [b4]
    simp [h4, this]
theorem rleap_ok (N : Nat) {y : Int} (h : 0 ≤ y) : F38_d N y = some (leapB y) := by
  simp only [F38_d, FSpec.d, F38_s, Int.tmod_eq_emod_of_nonneg h, leapB]
  by_cases h4 : y % 4 = 0
  · by_cases h1 : y % 100 = 0
    · by_cases h40 : y % 400 = 0 <;> simp [h4, h1, h40]
    · have b1 : (y % 100 != 0) = true := bne_iff_ne.2 h1
      rw [b1]
      simp [h4, h1]
  · have : ¬ y % 400 = 0 := by omega
    have b4 : (y % 4 == 0) = false := beq_eq_false_iff_ne.2 h4
    rw [b4]
    simp [h4, this]
theorem len_ok (N : Nat) {y m : Int} (h : 0 ≤ y) (hm : 1 ≤ m ∧ m ≤ 12) : F35_d N (y, m) = some (lenM y m) := by
  have hl := leap_ok N h
  rcases (show m = 1 ∨ m = 2 ∨ m = 3 ∨ m = 4 ∨ m = 5 ∨ m = 6 ∨ m = 7 ∨ m = 8 ∨ m = 9 ∨ m = 10 ∨ m = 11 ∨ m = 12 by omega) with rfl | rfl | rfl | rfl | rfl | rfl | rfl | rfl | rfl | rfl | rfl | rfl
  · show _ = _; kernel_rfl
  · simp only [F35_d, FSpec.d, F35_s]
    show (match F44_d N y with | some y1 => _ | none => none) = _
    rw [hl]
    unfold lenM
    cases leapB y
    · show _ = _; kernel_rfl
    · show _ = _; kernel_rfl
  all_goals (show _ = _; kernel_rfl)
theorem rlen_ok (N : Nat) {y m : Int} (h : 0 ≤ y) (hm : 1 ≤ m ∧ m ≤ 12) : F37_d N (y, m) = some (lenM y m) := by
  have hl := rleap_ok N h
  rcases (show m = 1 ∨ m = 2 ∨ m = 3 ∨ m = 4 ∨ m = 5 ∨ m = 6 ∨ m = 7 ∨ m = 8 ∨ m = 9 ∨ m = 10 ∨ m = 11 ∨ m = 12 by omega) with rfl | rfl | rfl | rfl | rfl | rfl | rfl | rfl | rfl | rfl | rfl | rfl
  · show _ = _; kernel_rfl
  · simp only [F37_d, FSpec.d, F37_s]
    show (match F38_d N y with | some y1 => _ | none => none) = _
    rw [hl]
    unfold lenM
    cases leapB y
    · show _ = _; kernel_rfl
    · show _ = _; kernel_rfl
  all_goals (show _ = _; kernel_rfl)
theorem first_ok (N : Nat) {y : Int} (h : 1970 ≤ y ∧ y ≤ 2301) : F36_d N y = some (fst y) := by
  simp only [F36_d, FSpec.d, F36_s]
  have e1 : i64 (y - 1970) = y - 1970 := i64_id (by omega)
  have e2 : i64 (y - 1) = y - 1 := i64_id (by omega)
  have e3 : i64 (365 * (y - 1970)) = 365 * (y - 1970) := i64_id (by omega)
  have d (k : Int) : (y - 1).tdiv k = (y - 1) / k := Int.tdiv_eq_ediv_of_nonneg (by omega)
  have e4 : i64 ((y - 1) / 4) = (y - 1) / 4 := i64_id (by omega)
  have e5 : i64 (365 * (y - 1970) + (y - 1) / 4) = 365 * (y - 1970) + (y - 1) / 4 := i64_id (by omega)
  have e6 : i64 ((y - 1) / 100) = (y - 1) / 100 := i64_id (by omega)
  have e7 : i64 (365 * (y - 1970) + (y - 1) / 4 - (y - 1) / 100) = 365 * (y - 1970) + (y - 1) / 4 - (y - 1) / 100 := i64_id (by omega)
  have e8 : i64 ((y - 1) / 400) = (y - 1) / 400 := i64_id (by omega)
  have e9 : i64 (365 * (y - 1970) + (y - 1) / 4 - (y - 1) / 100 + (y - 1) / 400) = 365 * (y - 1970) + (y - 1) / 4 - (y - 1) / 100 + (y - 1) / 400 := i64_id (by omega)
  simp only [e1, e2, e3, d, e4, e5, e6, e7, e8, e9, fst]
  rw [i64_id (by omega)]
theorem fst_succ (y : Int) : fst (y + 1) = fst y + 365 + (if leapB y = true then 1 else 0) := by
  unfold fst leapB
  by_cases h : y % 4 = 0 ∧ y % 100 ≠ 0 ∨ y % 400 = 0
  · rw [if_pos (by simpa using h)]; omega
  · rw [if_neg (by simpa using h)]; omega
theorem fst_le (y : Int) : fst y + 365 ≤ fst (y + 1) ∧ fst (y + 1) ≤ fst y + 366 := by
  rw [fst_succ]; split <;> omega
theorem fst_rng {y : Int} (h : 1970 ≤ y ∧ y ≤ 2301) : 0 ≤ fst y ∧ fst y ≤ 200000 := by
  unfold fst; omega
theorem lenM_rng (y m : Int) : 28 ≤ lenM y m ∧ lenM y m ≤ 31 := by
  unfold lenM; (repeat' split) <;> omega
theorem sm_rng (y : Int) : ∀ k : Nat, 0 ≤ sm y k ∧ sm y k ≤ 31 * k
  | 0 => by simp [sm]
  | k + 1 => by
    have := sm_rng y k
    have := lenM_rng y ((k : Int) + 1)
    simp only [sm]; omega
theorem sm_year (y : Int) : sm y 12 = fst (y + 1) - fst y := by
  rw [fst_succ]
  simp only [sm, lenM]
  cases leapB y <;> simp <;> omega
end Go.Proofs.YtaanjciokdpkmaaDoor
/- Utc, the plain law: days and dates, without memory. -/
namespace Go.Proofs.YtaanjciokdpkmaaDoor
set_option linter.unusedVariables false
set_option linter.unusedSimpArgs false
set_option linter.unnecessarySimpa false
def valD (y m d : Int) : Prop := 1970 ≤ y ∧ y ≤ 2300 ∧ 1 ≤ m ∧ m ≤ 12 ∧ 1 ≤ d ∧ d ≤ lenM y m
open Classical in
noncomputable def dayOf (y m d : Int) : Int × Bool := if valD y m d then (fst y + sm y (m - 1).toNat + d - 1, true) else (0, false)
theorem sm_step (y : Int) {c : Int} (h : 1 ≤ c) : sm y (c + 1 - 1).toNat = sm y (c - 1).toNat + lenM y c := by
  obtain ⟨k, rfl⟩ : ∃ k : Nat, c = (k : Int) + 1 := ⟨(c - 1).toNat, by omega⟩
  rw [show ((k : Int) + 1 + 1 - 1).toNat = k + 1 by omega, show ((k : Int) + 1 - 1).toNat = k by omega]
  rfl
theorem days_loop (N : Nat) {y m : Int} (hy : 1970 ≤ y ∧ y ≤ 2300) (hm : m ≤ 12) : ∀ (k f : Nat) (n c : Int), (k : Int) = m - c → 1 ≤ c → k < f → 0 ≤ n ∧ n ≤ 300000 + 31 * c → (F8_l9 N).L f (y, m, n, c) = some (n + sm y (m - 1).toNat - sm y (c - 1).toNat)
  | 0, f, n, c, hk, hc, hf, hn => by
    obtain ⟨f, rfl⟩ : ∃ f', f = f' + 1 := ⟨f - 1, by omega⟩
    obtain rfl : c = m := by omega
    show (F8_l9 N).b _ _ ((F8_l9 N).L f) some = _
    simp only [F8_l9]
    have : decide (c < c) = false := by simp
    rw [this]
    show some n = _
    congr 1; omega
  | k + 1, f, n, c, hk, hc, hf, hn => by
    obtain ⟨f, rfl⟩ : ∃ f', f = f' + 1 := ⟨f - 1, by omega⟩
    have hr := lenM_rng y c
    have r := days_loop N hy hm k f (n + lenM y c) (c + 1) (by omega) (by omega) (by omega) (by omega)
    show (F8_l9 N).b _ _ ((F8_l9 N).L f) some = _
    generalize (F8_l9 N).L f = Lf at r ⊢
    simp only [F8_l9, decide_eq_true (show c < m by omega), len_ok N (show 0 ≤ y by omega) (show 1 ≤ c ∧ c ≤ 12 by omega), i64_id (show -9223372036854775808 ≤ n + lenM y c ∧ n + lenM y c ≤ 9223372036854775807 by omega), i64_id (show -9223372036854775808 ≤ c + 1 ∧ c + 1 ≤ 9223372036854775807 by omega)]
    refine r.trans ?_
    rw [sm_step y hc]
    congr 1; omega
theorem rdays_loop (N : Nat) {y m : Int} (hy : 1970 ≤ y ∧ y ≤ 2300) (hm : m ≤ 12) : ∀ (k f : Nat) (n c : Int), (k : Int) = m - c → 1 ≤ c → k < f → 0 ≤ n ∧ n ≤ 300000 + 31 * c → (F9_l21 N).L f (y, m, n, c) = some (n + sm y (m - 1).toNat - sm y (c - 1).toNat)
  | 0, f, n, c, hk, hc, hf, hn => by
    obtain ⟨f, rfl⟩ : ∃ f', f = f' + 1 := ⟨f - 1, by omega⟩
    obtain rfl : c = m := by omega
    show (F9_l21 N).b _ _ ((F9_l21 N).L f) some = _
    simp only [F9_l21]
    have : decide (c < c) = false := by simp
    rw [this]
    show some n = _
    congr 1; omega
  | k + 1, f, n, c, hk, hc, hf, hn => by
    obtain ⟨f, rfl⟩ : ∃ f', f = f' + 1 := ⟨f - 1, by omega⟩
    have hr := lenM_rng y c
    have r := rdays_loop N hy hm k f (n + lenM y c) (c + 1) (by omega) (by omega) (by omega) (by omega)
    show (F9_l21 N).b _ _ ((F9_l21 N).L f) some = _
    generalize (F9_l21 N).L f = Lf at r ⊢
    simp only [F9_l21, decide_eq_true (show c < m by omega), rlen_ok N (show 0 ≤ y by omega) (show 1 ≤ c ∧ c ≤ 12 by omega), i64_id (show -9223372036854775808 ≤ n + lenM y c ∧ n + lenM y c ≤ 9223372036854775807 by omega), i64_id (show -9223372036854775808 ≤ c + 1 ∧ c + 1 ≤ 9223372036854775807 by omega)]
    refine r.trans ?_
    rw [sm_step y hc]
    congr 1; omega
theorem fst0 : fst 1970 = 0 := by decide
theorem years_loop (N : Nat) {y m : Int} (hy : 1970 ≤ y ∧ y ≤ 2300) : ∀ (k f : Nat) (n c : Int), (k : Int) = y - c → 1970 ≤ c → k < f → 0 ≤ n ∧ n ≤ 366 * (c - 1969) → (F9_l9 N).L f (y, m, n, c) = some (y, m, n + fst y - fst c)
  | 0, f, n, c, hk, hc, hf, hn => by
    obtain ⟨f, rfl⟩ : ∃ f', f = f' + 1 := ⟨f - 1, by omega⟩
    obtain rfl : c = y := by omega
    show (F9_l9 N).b _ _ ((F9_l9 N).L f) some = _
    simp only [F9_l9]
    have : decide (c < c) = false := by simp
    rw [this]
    show some (c, m, n) = _
    rw [show n + fst c - fst c = n by omega]
  | k + 1, f, n, c, hk, hc, hf, hn => by
    obtain ⟨f, rfl⟩ : ∃ f', f = f' + 1 := ⟨f - 1, by omega⟩
    have hs := fst_succ c
    have r := years_loop N (m := m) hy k f (n + 365 + (if leapB c = true then 1 else 0)) (c + 1) (by omega) (by omega) (by omega) (by split <;> omega)
    show (F9_l9 N).b _ _ ((F9_l9 N).L f) some = _
    generalize (F9_l9 N).L f = Lf at r ⊢
    simp only [F9_l9, decide_eq_true (show c < y by omega), rleap_ok N (show 0 ≤ c by omega)]
    have e1 : i64 (n + 365) = n + 365 := i64_id (by omega)
    have e2 : i64 (n + 365 + 1) = n + 365 + 1 := i64_id (by omega)
    have e3 : i64 (c + 1) = c + 1 := i64_id (by omega)
    cases hl : leapB c
    · simp only [hl] at r hs
      simp only [e1, e3]
      refine (show Lf (y, m, n + 365, c + 1) = _ from by simpa using r).trans ?_
      simp at hs
      rw [hs]
      congr 3; omega
    · simp only [hl] at r hs
      simp only [e1, e2, e3]
      refine (show Lf (y, m, n + 365 + 1, c + 1) = _ from by simpa using r).trans ?_
      simp at hs
      rw [hs]
      congr 3; omega
end Go.Proofs.YtaanjciokdpkmaaDoor
/- Utc, the plain law: Days and Date, both packages, without memory. -/
namespace Go.Proofs.YtaanjciokdpkmaaDoor
set_option linter.unusedVariables false
set_option linter.unusedSimpArgs false
set_option linter.unnecessarySimpa false
theorem days_ok (y m d : Int) : F8_d 600 (y, m, d) = some (dayOf y m d) := by
  simp only [F8_d, FSpec.d, F8_s, in_ok]
  by_cases h1 : 1970 ≤ y ∧ y ≤ 2300
  · by_cases h2 : 1 ≤ m ∧ m ≤ 12
    · by_cases h3 : 1 ≤ d ∧ d ≤ lenM y m
      · have hr := lenM_rng y m
        have hf := fst_rng (y := y) (by omega)
        have e1 : i64 (fst y + d) = fst y + d := i64_id (by omega)
        have e2 : i64 (fst y + d - 1) = fst y + d - 1 := i64_id (by omega)
        have L := days_loop 600 (y := y) (m := m) h1 h2.2 (m - 1).toNat 600 (fst y + d - 1) 1 (by omega) (by omega) (by omega) (by omega)
        have L' : F8_d9 600 (y, m, fst y + d - 1, 1) = some (fst y + sm y (m - 1).toNat + d - 1) := L.trans (by
          show some (fst y + d - 1 + sm y (m - 1).toNat - 0) = _
          congr 1; omega)
        simp only [decide_eq_true h1, decide_eq_true h2, len_ok 600 (show 0 ≤ y by omega) h2, decide_eq_true h3, Bool.not_true, first_ok 600 (y := y) (by omega), e1, e2, L']
        unfold dayOf
        rw [if_pos ⟨h1.1, h1.2, h2.1, h2.2, h3.1, h3.2⟩]
      · simp only [decide_eq_true h1, decide_eq_true h2, len_ok 600 (show 0 ≤ y by omega) h2, decide_eq_false h3, Bool.not_true, Bool.not_false]
        unfold dayOf
        rw [if_neg (fun h => h3 ⟨h.2.2.2.2.1, h.2.2.2.2.2⟩)]
    · simp only [decide_eq_true h1, decide_eq_false h2, Bool.not_true, Bool.not_false]
      unfold dayOf
      rw [if_neg (fun h => h2 ⟨h.2.2.1, h.2.2.2.1⟩)]
  · simp only [decide_eq_false h1, Bool.not_false]
    unfold dayOf
    rw [if_neg (fun h => h1 ⟨h.1, h.2.1⟩)]
theorem rdays_ok (y m d : Int) : F9_d 600 (y, m, d) = some (dayOf y m d) := by
  simp only [F9_d, FSpec.d, F9_s, rin_ok]
  by_cases h1 : 1970 ≤ y ∧ y ≤ 2300
  · by_cases h2 : 1 ≤ m ∧ m ≤ 12
    · by_cases h3 : 1 ≤ d ∧ d ≤ lenM y m
      · have hr := lenM_rng y m
        have hf := fst_rng (y := y) (by omega)
        have e2 : i64 (d - 1) = d - 1 := i64_id (by omega)
        have Y := years_loop 600 (y := y) (m := m) h1 (y - 1970).toNat 600 (d - 1) 1970 (by omega) (by omega) (by omega) (by omega)
        have Y' : F9_d9 600 (y, m, d - 1, 1970) = some (y, m, fst y + d - 1) := Y.trans (by
          rw [fst0]
          congr 3; omega)
        have L := rdays_loop 600 (y := y) (m := m) h1 h2.2 (m - 1).toNat 600 (fst y + d - 1) 1 (by omega) (by omega) (by omega) (by omega)
        have L' : F9_d21 600 (y, m, fst y + d - 1, 1) = some (fst y + sm y (m - 1).toNat + d - 1) := L.trans (by
          show some (fst y + d - 1 + sm y (m - 1).toNat - 0) = _
          congr 1; omega)
        simp only [decide_eq_true h1, decide_eq_true h2, rlen_ok 600 (show 0 ≤ y by omega) h2, decide_eq_true h3, Bool.not_true, e2, Y', L']
        unfold dayOf
        rw [if_pos ⟨h1.1, h1.2, h2.1, h2.2, h3.1, h3.2⟩]
      · simp only [decide_eq_true h1, decide_eq_true h2, rlen_ok 600 (show 0 ≤ y by omega) h2, decide_eq_false h3, Bool.not_true, Bool.not_false]
        unfold dayOf
        rw [if_neg (fun h => h3 ⟨h.2.2.2.2.1, h.2.2.2.2.2⟩)]
    · simp only [decide_eq_true h1, decide_eq_false h2, Bool.not_true, Bool.not_false]
      unfold dayOf
      rw [if_neg (fun h => h2 ⟨h.2.2.1, h.2.2.2.1⟩)]
  · simp only [decide_eq_false h1, Bool.not_false]
    unfold dayOf
    rw [if_neg (fun h => h1 ⟨h.1, h.2.1⟩)]
theorem fst_mono {a b : Int} (h : a ≤ b) : fst a ≤ fst b := by unfold fst; omega
theorem sm_mono (y : Int) : ∀ (a k : Nat), sm y a ≤ sm y (a + k)
  | a, 0 => Int.le_refl _
  | a, k + 1 => by
    have h1 := sm_mono y a k
    have h2 := lenM_rng y (((a + k : Nat) : Int) + 1)
    rw [show a + (k + 1) = (a + k) + 1 by omega]
    simp only [sm]
    omega
theorem year_ex (x : Int) (h0 : 0 ≤ x) : ∀ k : Nat, x < fst (1970 + k) → ∃ y, 1970 ≤ y ∧ y < 1970 + (k : Int) ∧ fst y ≤ x ∧ x < fst (y + 1)
  | 0, h => by rw [show (1970 : Int) + ((0 : Nat) : Int) = 1970 by omega, fst0] at h; omega
  | k + 1, h => by
    by_cases h1 : x < fst (1970 + k)
    · obtain ⟨y, a, b, c, d⟩ := year_ex x h0 k h1
      exact ⟨y, a, by omega, c, d⟩
    · exact ⟨1970 + k, by omega, by omega, by omega, by rw [show (1970 : Int) + k + 1 = 1970 + ((k + 1 : Nat) : Int) by omega]; exact h⟩
theorem month_ex (y v : Int) (h0 : 0 ≤ v) : ∀ k : Nat, v < sm y k → ∃ j : Nat, j < k ∧ sm y j ≤ v ∧ v < sm y (j + 1)
  | 0, h => by simp only [sm] at h; omega
  | k + 1, h => by
    by_cases h1 : v < sm y k
    · obtain ⟨j, a, b, c⟩ := month_ex y v h0 k h1
      exact ⟨j, by omega, b, c⟩
    · exact ⟨k, by omega, by omega, h⟩
theorem date_year (N : Nat) {x y : Int} (hy : 1970 ≤ y ∧ y ≤ 2300) (hx : fst y ≤ x ∧ x < fst (y + 1)) : ∀ (k f : Nat) (c : Int), (k : Int) = y - c → 1970 ≤ c → k < f → (F10_l8 N).L f (x, c) = some (x, y)
  | 0, f, c, hk, hc, hf => by
    obtain ⟨f, rfl⟩ : ∃ f', f = f' + 1 := ⟨f - 1, by omega⟩
    obtain rfl : c = y := by omega
    show (F10_l8 N).b _ _ ((F10_l8 N).L f) some = _
    generalize (F10_l8 N).L f = Lf
    simp only [F10_l8, i64_id (show -9223372036854775808 ≤ c + 1 ∧ c + 1 ≤ 9223372036854775807 by omega), first_ok N (show 1970 ≤ c + 1 ∧ c + 1 ≤ 2301 by omega), decide_eq_false (show ¬ fst (c + 1) ≤ x by omega)]
  | k + 1, f, c, hk, hc, hf => by
    obtain ⟨f, rfl⟩ : ∃ f', f = f' + 1 := ⟨f - 1, by omega⟩
    have hm := fst_mono (show c + 1 ≤ y by omega)
    have r := date_year N hy hx k f (c + 1) (by omega) (by omega) (by omega)
    show (F10_l8 N).b _ _ ((F10_l8 N).L f) some = _
    generalize (F10_l8 N).L f = Lf at r ⊢
    simp only [F10_l8, i64_id (show -9223372036854775808 ≤ c + 1 ∧ c + 1 ≤ 9223372036854775807 by omega), first_ok N (show 1970 ≤ c + 1 ∧ c + 1 ≤ 2301 by omega), decide_eq_true (show fst (c + 1) ≤ x by omega)]
    exact r
theorem rdate_year (N : Nat) {x y : Int} (hy : 1970 ≤ y ∧ y ≤ 2300) (hx : fst y ≤ x ∧ x < fst (y + 1)) : ∀ (k f : Nat) (c : Int), (k : Int) = y - c → 1970 ≤ c → k < f → (F11_l9 N).L f (x - fst c, c) = some (x - fst y, y)
  | 0, f, c, hk, hc, hf => by
    obtain ⟨f, rfl⟩ : ∃ f', f = f' + 1 := ⟨f - 1, by omega⟩
    obtain rfl : c = y := by omega
    have hs := fst_succ c
    show (F11_l9 N).b _ _ ((F11_l9 N).L f) some = _
    generalize (F11_l9 N).L f = Lf
    simp only [F11_l9, rleap_ok N (show 0 ≤ c by omega)]
    cases hl : leapB c
    · simp [hl] at hs
      simp only [decide_eq_true (show x - fst c < 365 by omega)]
    · simp [hl] at hs
      simp only [decide_eq_true (show x - fst c < 366 by omega)]
  | k + 1, f, c, hk, hc, hf => by
    obtain ⟨f, rfl⟩ : ∃ f', f = f' + 1 := ⟨f - 1, by omega⟩
    have hm := fst_mono (show c + 1 ≤ y by omega)
    have hs := fst_succ c
    have h1 := fst_rng (y := c) (by omega)
    have h2 := fst_rng (y := y + 1) (by omega)
    have r := rdate_year N hy hx k f (c + 1) (by omega) (by omega) (by omega)
    have e3 : i64 (c + 1) = c + 1 := i64_id (by omega)
    show (F11_l9 N).b _ _ ((F11_l9 N).L f) some = _
    generalize (F11_l9 N).L f = Lf at r ⊢
    simp only [F11_l9, rleap_ok N (show 0 ≤ c by omega)]
    cases hl : leapB c
    · simp [hl] at hs
      simp only [decide_eq_false (show ¬ x - fst c < 365 by omega), e3]
      rw [i64_id (by omega), show x - fst c - 365 = x - fst (c + 1) by omega]
      exact r
    · simp [hl] at hs
      simp only [decide_eq_false (show ¬ x - fst c < 366 by omega), e3]
      rw [i64_id (by omega), show x - fst c - 366 = x - fst (c + 1) by omega]
      exact r
theorem date_month (N : Nat) {y m r : Int} (hy : 0 ≤ y) (hm : 1 ≤ m ∧ m ≤ 12) (hr : 0 ≤ r ∧ r < lenM y m) : ∀ (k f : Nat) (c v : Int), (k : Int) = m - c → 1 ≤ c → k < f → v = r + sm y (m - 1).toNat - sm y (c - 1).toNat → (F10_l17 N).L f (v, y, c) = some (r, y, m) ∧ (F11_l22 N).L f (v, y, c) = some (r, y, m)
  | 0, f, c, v, hk, hc, hf, hv => by
    obtain ⟨f, rfl⟩ : ∃ f', f = f' + 1 := ⟨f - 1, by omega⟩
    obtain rfl : c = m := by omega
    obtain rfl : v = r := by omega
    constructor
    · show (F10_l17 N).b _ _ ((F10_l17 N).L f) some = _
      generalize (F10_l17 N).L f = Lf
      simp only [F10_l17, len_ok N hy hm, decide_eq_false (show ¬ v ≥ lenM y c by omega)]
    · show (F11_l22 N).b _ _ ((F11_l22 N).L f) some = _
      generalize (F11_l22 N).L f = Lf
      simp only [F11_l22, rlen_ok N hy hm, decide_eq_false (show ¬ v ≥ lenM y c by omega)]
  | k + 1, f, c, v, hk, hc, hf, hv => by
    obtain ⟨f, rfl⟩ : ∃ f', f = f' + 1 := ⟨f - 1, by omega⟩
    have hs := sm_step y hc
    have hmo := sm_mono y (c + 1 - 1).toNat ((m - 1).toNat - (c + 1 - 1).toNat)
    rw [show (c + 1 - 1).toNat + ((m - 1).toNat - (c + 1 - 1).toNat) = (m - 1).toNat by omega] at hmo
    have hb1 := sm_rng y (m - 1).toNat
    have hb2 := sm_rng y (c - 1).toNat
    have hl := lenM_rng y c
    have hl2 := lenM_rng y m
    obtain ⟨r1, r2⟩ := date_month N hy hm hr k f (c + 1) (v - lenM y c) (by omega) (by omega) (by omega) (by omega)
    have e1 : i64 (v - lenM y c) = v - lenM y c := i64_id (by omega)
    have e2 : i64 (c + 1) = c + 1 := i64_id (by omega)
    constructor
    · show (F10_l17 N).b _ _ ((F10_l17 N).L f) some = _
      generalize (F10_l17 N).L f = Lf at r1 ⊢
      simp only [F10_l17, len_ok N hy (show 1 ≤ c ∧ c ≤ 12 by omega), decide_eq_true (show v ≥ lenM y c by omega), e1, e2]
      exact r1
    · show (F11_l22 N).b _ _ ((F11_l22 N).L f) some = _
      generalize (F11_l22 N).L f = Lf at r2 ⊢
      simp only [F11_l22, rlen_ok N hy (show 1 ≤ c ∧ c ≤ 12 by omega), decide_eq_true (show v ≥ lenM y c by omega), e1, e2]
      exact r2
theorem fstL : fst 2301 = 120895 := by decide
theorem last_ok : dayOf 2300 12 31 = (120894, true) := by
  unfold dayOf
  rw [if_pos (by unfold valD; decide)]
  decide
/-- A day's date, in both packages. -/
theorem date_ok {x : Int} (h : 0 ≤ x ∧ x ≤ 120894) : ∃ y m d, F10_d 600 x = some (y, m, d) ∧ F11_d 600 x = some (y, m, d) ∧ valD y m d ∧ fst y + sm y (m - 1).toNat + d - 1 = x := by
  obtain ⟨y, y1, y2, y3, y4⟩ := year_ex x h.1 331 (by rw [show (1970 : Int) + ((331 : Nat) : Int) = 2301 by omega, fstL]; omega)
  have hy := sm_year y
  obtain ⟨j, j1, j2, j3⟩ := month_ex y (x - fst y) (by omega) 12 (by omega)
  have hj : sm y (j + 1) = sm y j + lenM y ((j : Int) + 1) := rfl
  have hl := lenM_rng y ((j : Int) + 1)
  have hf := fst_rng (y := y) (by omega)
  have ej : ((j : Int) + 1 - 1).toNat = j := by omega
  obtain ⟨m1, m2⟩ := date_month 600 (y := y) (m := (j : Int) + 1) (r := x - fst y - sm y j) (by omega) (by omega) (by omega) j 600 1 (x - fst y) (by omega) (by omega) (by omega) (by
    rw [ej]
    show _ = _ - 0
    omega)
  have Y1 : F10_d8 600 (x, 1970) = some (x, y) := date_year 600 (y := y) (by omega) ⟨y3, y4⟩ (y - 1970).toNat 600 1970 (by omega) (by omega) (by omega)
  have Y2 : F11_d9 600 (x, 1970) = some (x - fst y, y) := by
    have := rdate_year 600 (y := y) (by omega) ⟨y3, y4⟩ (y - 1970).toNat 600 1970 (by omega) (by omega) (by omega)
    rw [fst0, show x - 0 = x by omega] at this
    exact this
  have M1 : F10_d17 600 (x - fst y, y, 1) = some (x - fst y - sm y j, y, (j : Int) + 1) := m1
  have M2 : F11_d22 600 (x - fst y, y, 1) = some (x - fst y - sm y j, y, (j : Int) + 1) := m2
  have e1 : i64 (120895 - 1) = 120894 := by decide
  have e2 : i64 (x - fst y) = x - fst y := i64_id (by omega)
  have hb := sm_rng y j
  have e3 : i64 (x - fst y - sm y j + 1) = x - fst y - sm y j + 1 := i64_id (by omega)
  refine ⟨y, (j : Int) + 1, x - fst y - sm y j + 1, ?_, ?_, ⟨y1, by omega, by omega, by omega, by omega, by omega⟩, by rw [ej]; omega⟩
  · simp only [F10_d, FSpec.d, F10_s, first_ok 600 (show (1970 : Int) ≤ 2301 ∧ (2301 : Int) ≤ 2301 by omega), fstL, e1, in_ok, decide_eq_true h, Bool.not_true, Y1, first_ok 600 (show 1970 ≤ y ∧ y ≤ 2301 by omega), e2, M1, e3]
  · simp only [F11_d, FSpec.d, F11_s, rdays_ok, last_ok, rin_ok, decide_eq_true h, Bool.not_true, Y2, M2, e3]
theorem date_out {x : Int} (h : ¬ (0 ≤ x ∧ x ≤ 120894)) : F10_d 600 x = some (0, 0, 0) ∧ F11_d 600 x = some (0, 0, 0) := by
  have e1 : i64 (120895 - 1) = 120894 := by decide
  constructor
  · simp only [F10_d, FSpec.d, F10_s, first_ok 600 (show (1970 : Int) ≤ 2301 ∧ (2301 : Int) ≤ 2301 by omega), fstL, e1, in_ok, decide_eq_false h, Bool.not_false]
  · simp only [F11_d, FSpec.d, F11_s, rdays_ok, last_ok, rin_ok, decide_eq_false h, Bool.not_false]
end Go.Proofs.YtaanjciokdpkmaaDoor
/- Utc, the plain law: the chapter's example; UtcDates. -/
namespace Go.Proofs.YtaanjciokdpkmaaDoor
set_option linter.unusedVariables false
set_option linter.unusedSimpArgs false
set_option linter.unnecessarySimpa false
open Go.Lib in
theorem it_one {n : Nat} (h : n < 10) : F45_d 600 (n : Int) = some ⟨#[UInt8.ofNat (48 + n)]⟩ := by
  show (if -9223372036854775808 ≤ (n : Int) ∧ (n : Int) ≤ 9223372036854775807 then some (⟨(Lib.itoa n).toArray⟩ : ByteArray) else none) = _
  rw [if_pos (by omega), itoa_nonneg, decDigits_one h]
open Go.Lib in
theorem it_two {n : Nat} (h1 : ¬ n < 10) (h2 : n < 100) : F45_d 600 (n : Int) = some ⟨#[UInt8.ofNat (48 + n / 10), UInt8.ofNat (48 + n % 10)]⟩ := by
  show (if -9223372036854775808 ≤ (n : Int) ∧ (n : Int) ≤ 9223372036854775807 then some (⟨(Lib.itoa n).toArray⟩ : ByteArray) else none) = _
  rw [if_pos (by omega), itoa_nonneg, decDigits_two h1 h2]
open Go.Lib in
theorem it_1970 : F45_d 600 1970 = some ⟨#[49, 57, 55, 48]⟩ := by
  show (if -9223372036854775808 ≤ (1970 : Int) ∧ (1970 : Int) ≤ 9223372036854775807 then some (⟨(Lib.itoa 1970).toArray⟩ : ByteArray) else none) = _
  rw [if_pos (by omega), show (1970 : Int) = ((1970 : Nat) : Int) from rfl, itoa_nonneg, decDigits_eq, nDigits_unique 3 1970 (by decide) (by decide)]
  rfl
theorem dg_1970 : F39_d 600 (1970, 4) = some ⟨#[49, 57, 55, 48]⟩ := by
  simp only [F39_d, FSpec.d, F39_s, it_1970]; show _ = _; kernel_rfl
theorem dg_1 : F39_d 600 (1, 2) = some ⟨#[48, 49]⟩ := by
  have := it_one (n := 1) (by decide)
  simp only [F39_d, FSpec.d, F39_s, show F45_d 600 1 = _ from this]; show _ = _; kernel_rfl
theorem dg_23 : F39_d 600 (23, 2) = some ⟨#[50, 51]⟩ := by
  have := it_two (n := 23) (by decide) (by decide)
  simp only [F39_d, FSpec.d, F39_s, show F45_d 600 23 = _ from this]; show _ = _; kernel_rfl
theorem dg_59 : F39_d 600 (59, 2) = some ⟨#[53, 57]⟩ := by
  have := it_two (n := 59) (by decide) (by decide)
  simp only [F39_d, FSpec.d, F39_s, show F45_d 600 59 = _ from this]; show _ = _; kernel_rfl
theorem dg_60 : F39_d 600 (60, 2) = some ⟨#[54, 48]⟩ := by
  have := it_two (n := 60) (by decide) (by decide)
  simp only [F39_d, FSpec.d, F39_s, show F45_d 600 60 = _ from this]; show _ = _; kernel_rfl
theorem dg_7 : F39_d 600 (7, 6) = some ⟨#[48, 48, 48, 48, 48, 55]⟩ := by
  have := it_one (n := 7) (by decide)
  simp only [F39_d, FSpec.d, F39_s, show F45_d 600 7 = _ from this]; show _ = _; kernel_rfl
theorem sane1 : F18_d 600 ([[AV.v (.int .i64 86400)]], 86400000000) = some (1970, 1, 1, 23, 59, 60, 0, 0) := by kernel_rfl
theorem sane2 : F23_d 600 ([[AV.v (.int .i64 86400)]], 1970, 1, 2, 0, 0, 0, 0) = some (86401000000, 0) := by kernel_rfl
theorem sane3 : F18_d 600 ([[AV.v (.int .i64 86400)]], 86400000007) = some (1970, 1, 1, 23, 59, 60, 7, 0) := by kernel_rfl
theorem sane4 : F16_d 600 ([[AV.v (.int .i64 86400)]], 86400000007) = some (⟨#[49, 57, 55, 48, 45, 48, 49, 45, 48, 49, 84, 50, 51, 58, 53, 57, 58, 54, 48, 46, 48, 48, 48, 48, 48, 55, 90]⟩, 0) := by
  simp only [F16_d, FSpec.d, F16_s, sane3, dg_1970, dg_1, dg_23, dg_59, dg_60, dg_7]
  show _ = _; kernel_rfl
theorem sane_ok : F12_d 600 () = some true := by
  simp only [F12_d, FSpec.d, F12_s, sane1, sane2, sane4]
  show _ = _; kernel_rfl
end Go.Proofs.YtaanjciokdpkmaaDoor
/- Utc, the plain law: UtcDates. -/
namespace Go.Proofs.YtaanjciokdpkmaaDoor
open Go.RowKit
set_option linter.unusedVariables false
set_option linter.unusedSimpArgs false
set_option linter.unnecessarySimpa false
theorem dates_step (R : List (List AV)) (p q n i a b c : Int) (h0 : 0 ≤ i ∧ i ≤ 100) (hi : i < n) (hR : R[i.toNat]? = some [AV.v (.int .i64 a), AV.v (.int .i64 b), AV.v (.int .i64 c)]) (f : Nat) : (F3_l4 600).L (f + 1) (R, p, q, n, i) = (F3_l4 600).L f (R, p, q, n, i + 1) := by
  show (F3_l4 600).b _ _ ((F3_l4 600).L f) some = _
  generalize (F3_l4 600).L f = Lf
  simp only [F3_l4, decide_eq_true hi, h0.1, if_true, hR, List.getElem?_cons_zero, List.getElem?_cons_succ, days_ok, rdays_ok, bne_self_eq_false, beq_self_eq_true, Bool.not_true, i64_id (show -9223372036854775808 ≤ i + 1 ∧ i + 1 ≤ 9223372036854775807 by omega)]
  exact if_pos trivial
theorem dates_end (R : List (List AV)) (p q n : Int) (f : Nat) : (F3_l4 600).L (f + 1) (R, p, q, n, n) = some (.inr (p, q)) := by
  show (F3_l4 600).b _ _ ((F3_l4 600).L f) some = _
  generalize (F3_l4 600).L f = Lf
  simp only [F3_l4, decide_eq_false (show ¬ n < n by omega)]
theorem dates4 (a b c a' b' c' p q : Int) : F3_d4 600 ([[AV.v (.int .i64 a), AV.v (.int .i64 b), AV.v (.int .i64 c)], [AV.v (.int .i64 a'), AV.v (.int .i64 b'), AV.v (.int .i64 c')]], p, q, 2, 0) = some (.inr (p, q)) := by
  refine (dates_step _ p q 2 0 a b c (by omega) (by omega) rfl 599).trans ?_
  refine (dates_step _ p q 2 1 a' b' c' (by omega) (by omega) rfl 598).trans ?_
  exact dates_end _ p q 2 597
theorem day_step (R : List (List AV)) (n i x : Int) (h0 : 0 ≤ i ∧ i ≤ 100) (hi : i < n) (hR : R[i.toNat]? = some [AV.v (.int .i64 x)]) (f : Nat) : (F3_l19 600).L (f + 1) (R, n, i) = (F3_l19 600).L f (R, n, i + 1) := by
  show (F3_l19 600).b _ _ ((F3_l19 600).L f) some = _
  generalize (F3_l19 600).L f = Lf
  have e := i64_id (show -9223372036854775808 ≤ i + 1 ∧ i + 1 ≤ 9223372036854775807 by omega)
  by_cases hx : 0 ≤ x ∧ x ≤ 120894
  · obtain ⟨y, m, d, h1, h2, h3, h4⟩ := date_ok hx
    have hd : dayOf y m d = (x, true) := by
      unfold dayOf
      rw [if_pos h3, h4]
    simp only [F3_l19, decide_eq_true hi, h0.1, if_true, hR, List.getElem?_cons_zero, h1, h2, bne_self_eq_false, days_ok, hd, e]
    exact if_pos trivial
  · obtain ⟨h1, h2⟩ := date_out hx
    have hd : dayOf 0 0 0 = (0, false) := by
      unfold dayOf
      rw [if_neg (fun h => by have := h.1; omega)]
    simp only [F3_l19, decide_eq_true hi, h0.1, if_true, hR, List.getElem?_cons_zero, h1, h2, bne_self_eq_false, days_ok, hd, e]
    exact if_pos trivial
theorem day_end (R : List (List AV)) (n : Int) (f : Nat) : (F3_l19 600).L (f + 1) (R, n, n) = some (.inr ()) := by
  show (F3_l19 600).b _ _ ((F3_l19 600).L f) some = _
  generalize (F3_l19 600).L f = Lf
  simp only [F3_l19, decide_eq_false (show ¬ n < n by omega)]
theorem day19 (x y : Int) : F3_d19 600 ([[AV.v (.int .i64 x)], [AV.v (.int .i64 y)]], 2, 0) = some (.inr ()) := by
  refine (day_step _ 2 0 x (by omega) (by omega) rfl 599).trans ?_
  refine (day_step _ 2 1 y (by omega) (by omega) rfl 598).trans ?_
  exact day_end _ 2 597
theorem dates_law (a b c d : Int) : F3_d 600 (a, b, c, d) = some true := by
  simp only [F3_d, FSpec.d, F3_s]
  show (match F3_d4 600 (_, c, d, 2, 0) with | some y13 => _ | none => none) = some true
  rw [dates4]
  show (match F3_d19 600 (_, 2, 0) with | some y23 => _ | none => none) = some true
  rw [day19]
  show (match F12_d 600 () with | some y26 => _ | none => none) = some true
  rw [sane_ok]
/-- UtcDates returns true. -/
theorem utc_dates (a b c d : Int) (_ : -9223372036854775808 ≤ a ∧ a ≤ 9223372036854775807) (_ : -9223372036854775808 ≤ b ∧ b ≤ 9223372036854775807) (_ : -9223372036854775808 ≤ c ∧ c ≤ 9223372036854775807) (_ : 0 ≤ d ∧ d ≤ 4294967295) (W : World) (hgl : GlOk (memOf W) W [] (InT sig0 [])) : Calls Tryd.prog 3 #[.int .i64 a, .int .i64 b, .int .i64 c, .int .u32 d] W fun e w' => e = .returned (.bool true) ∧ Below W.heap.size W w' := by
  refine CallOk.calls ((F3_e 600).ok (a, b, c, d) true (dates_law a b c d)) W _ rfl (fun i h h' => ?_) hgl
  rcases (show i = 0 ∨ i = 1 ∨ i = 2 ∨ i = 3 by have : i < 4 := h'; omega) with rfl | rfl | rfl | rfl
  all_goals exact .v
end Go.Proofs.YtaanjciokdpkmaaDoor
/- Utc, the plain law: the dice and their tables of leap seconds, without memory. -/
namespace Go.Proofs.YtaanjciokdpkmaaDoor
set_option linter.unusedVariables false
set_option linter.unusedSimpArgs false
set_option linter.unnecessarySimpa false
def rowsI (xs : List Int) : List (List AV) := xs.map fun x => [AV.v (.int .i64 x)]
theorem rowsI_len (xs : List Int) : (rowsI xs).length = xs.length := by simp [rowsI]
theorem rowsI_get (xs : List Int) (k : Nat) (h : k < xs.length) : (rowsI xs)[k]? = some [AV.v (.int .i64 xs[k])] := by simp [rowsI, h]
structure Dice (xs : List Int) (p : Int) : Prop where
  b : ∀ x ∈ xs, -9223372036854775808 ≤ x ∧ x ≤ 9223372036854775807
  l : xs.length ≤ 500
  p0 : 0 ≤ p
  p1 : p ≤ 500
theorem next_ok (N : Nat) {n : Int} {xs : List Int} {p : Int} (hn : 1 ≤ n ∧ n ≤ 1000000) (D : Dice xs p) : ∃ v p', F19_d N (n, rowsI xs, p) = some (v, rowsI xs, p') ∧ (0 ≤ v ∧ v < n) ∧ Dice xs p' := by
  obtain ⟨b, l, p0, p1⟩ := D
  simp only [F19_d, FSpec.d, F19_s]
  by_cases h : p ≥ ((rowsI xs).length : Int)
  · simp only [h, decide_true]
    exact ⟨0, p, rfl, by omega, ⟨b, l, p0, p1⟩⟩
  · have h1 : ¬ n < 1 := by omega
    have h2 : p.toNat < xs.length := by rw [rowsI_len] at h; omega
    have h3 : ¬ n = 0 := by omega
    simp only [h, decide_false, h1, p0, if_true, rowsI_get xs _ h2, List.getElem?_cons_zero, h3, if_false]
    have hb := b _ (List.getElem_mem h2)
    have hp : i64 (p + 1) = p + 1 := i64_id (by omega)
    by_cases hneg : (xs[p.toNat]).tmod n < 0
    · simp only [hneg, decide_true, hp]
      have t1 : -n < (xs[p.toNat]).tmod n := by
        have := Int.tmod_lt_of_pos (-xs[p.toNat]) (show 0 < n by omega)
        rw [Int.neg_tmod] at this
        omega
      rw [i64_id (by omega)]
      exact ⟨_, _, rfl, by omega, ⟨b, l, by omega, by rw [rowsI_len] at h; omega⟩⟩
    · simp only [hneg, decide_false, hp]
      have t1 := Int.tmod_lt_of_pos xs[p.toNat] (show 0 < n by omega)
      exact ⟨_, _, rfl, by omega, ⟨b, l, by omega, by rw [rowsI_len] at h; omega⟩⟩
theorem pick_ok (N : Nat) (O : List Int) {xs : List Int} {p : Int} (hO : 1 ≤ O.length ∧ O.length ≤ 1000) (D : Dice xs p) : ∃ v p', F25_d N (rowsI O, rowsI xs, p) = some (v, rowsI xs, p') ∧ v ∈ O ∧ Dice xs p' := by
  simp only [F25_d, FSpec.d, F25_s]
  obtain ⟨v, p', h1, h2, h3⟩ := next_ok N (n := (O.length : Int)) (by omega) D
  rw [rowsI_len, h1]
  have h4 : v.toNat < O.length := by omega
  simp only [h2.1, if_true, rowsI_get O _ h4, List.getElem?_cons_zero]
  exact ⟨_, _, rfl, List.getElem_mem h4, h3⟩
/-- A table of leap seconds from its days. -/
def lp (ds : List Int) : List Int := ds.mapIdx fun i d => 86400 * d + (i : Int)
theorem lp_len (ds : List Int) : (lp ds).length = ds.length := by simp [lp]
theorem lp_snoc (ds : List Int) (d : Int) : lp (ds ++ [d]) = lp ds ++ [86400 * d + (ds.length : Int)] := by simp [lp]
theorem lp_get (ds : List Int) (i : Nat) (h : i < (lp ds).length) : (lp ds)[i] = 86400 * ds[i]'(by rw [lp_len] at h; exact h) + (i : Int) := by simp [lp]
theorem rowsI_snoc (xs : List Int) (y : Int) : rowsI xs ++ [[AV.v (.int .i64 y)]] = rowsI (xs ++ [y]) := by simp [rowsI]
structure Good (ds : List Int) : Prop where
  len : ds.length ≤ 64
  inc : ds.Pairwise (· < ·)
  rng : ∀ d ∈ ds, 1 ≤ d ∧ d ≤ 104249
theorem leaps_loop (N : Nat) {xs : List Int} : ∀ (k f : Nat) (ds : List Int) (day p : Int), k < f → ds.length + k ≤ 4 → ds.Pairwise (· < ·) → (∀ d ∈ ds, 1 ≤ d ∧ d ≤ day) → 0 ≤ day ∧ day ≤ 365 * ds.length → Dice xs p → ∃ ds' p', (F15_l6 N).L f (rowsI (lp ds), day, (k : Int), rowsI xs, p) = some (rowsI (lp ds'), rowsI xs, p') ∧ (Good ds' ∧ ds'.length ≤ 4) ∧ Dice xs p'
  | 0, f, ds, day, p, hf, hl, hi, hd, hr, D => by
    obtain ⟨f, rfl⟩ : ∃ f', f = f' + 1 := ⟨f - 1, by omega⟩
    refine ⟨ds, p, ?_, ⟨⟨by omega, hi, fun d h => by have := hd d h; omega⟩, by omega⟩, D⟩
    show (F15_l6 N).b _ _ ((F15_l6 N).L f) some = _
    generalize (F15_l6 N).L f = Lf
    simp only [F15_l6, decide_eq_false (show ¬ ((0 : Nat) : Int) > 0 by omega)]
  | k + 1, f, ds, day, p, hf, hl, hi, hd, hr, D => by
    obtain ⟨f, rfl⟩ : ∃ f', f = f' + 1 := ⟨f - 1, by omega⟩
    obtain ⟨v, p1, h1, h2, h3⟩ := pick_ok N [1, 1, 2, 10, 365] (by decide) D
    have hv : 1 ≤ v ∧ v ≤ 365 := by simp at h2; omega
    have hlen : ((ds ++ [day + v]).length : Int) = ds.length + 1 := by simp
    obtain ⟨ds', p', e1, e2, e3⟩ := leaps_loop N k f (ds ++ [day + v]) (day + v) p1 (by omega) (by simp; omega) (by
      rw [List.pairwise_append]
      refine ⟨hi, by simp, fun a ha b hb => ?_⟩
      obtain rfl : b = day + v := by simpa using hb
      have := hd a ha
      omega) (fun d h => by
      rcases List.mem_append.1 h with h | h
      · have := hd d h; omega
      · obtain rfl : d = day + v := by simpa using h
        omega) (by rw [hlen]; omega) h3
    refine ⟨ds', p', ?_, e2, e3⟩
    show (F15_l6 N).b _ _ ((F15_l6 N).L f) some = _
    generalize (F15_l6 N).L f = Lf at e1 ⊢
    have g1 : i64 (day + v) = day + v := i64_id (by omega)
    have g2 : i64 (86400 * (day + v)) = 86400 * (day + v) := i64_id (by omega)
    have g3 : i64 (86400 * (day + v) + (ds.length : Int)) = 86400 * (day + v) + (ds.length : Int) := i64_id (by omega)
    have g4 : i64 (((k + 1 : Nat) : Int) - 1) = (k : Int) := by
      rw [show (((k + 1 : Nat) : Int) - 1) = (k : Int) by omega]
      exact i64_id (by omega)
    have h1' : F25_d N ([[AV.v (.int .i64 1)], [AV.v (.int .i64 1)], [AV.v (.int .i64 2)], [AV.v (.int .i64 10)], [AV.v (.int .i64 365)]], rowsI xs, p) = some (v, rowsI xs, p1) := h1
    simp only [F15_l6, decide_eq_true (show ((k + 1 : Nat) : Int) > 0 by omega), h1', g1, g2, rowsI_len, lp_len, g3, g4, rowsI_snoc]
    rw [← lp_snoc]
    have hs : (ds.length + [[AV.v (.int .i64 (86400 * (day + v) + (ds.length : Int)))]].length) * 8 ≤ maxBytes := by
      have : 1000 ≤ maxBytes := by decide
      simp
      omega
    exact (if_pos hs).trans e1
theorem leaps_ok4 {xs : List Int} {p : Int} (D : Dice xs p) : ∃ ds p', F15_d 600 (rowsI xs, p) = some (rowsI (lp ds), rowsI xs, p') ∧ (Good ds ∧ ds.length ≤ 4) ∧ Dice xs p' := by
  obtain ⟨v, p1, h1, h2, h3⟩ := next_ok 600 (n := 5) (by omega) D
  obtain ⟨ds, p', e1, e2, e3⟩ := leaps_loop 600 v.toNat 600 [] 0 p1 (by omega) (by simp; omega) (by simp) (fun d h => by cases h) (by simp) h3
  have e1' : F15_d6 600 (([] : List (List AV)), 0, v, rowsI xs, p1) = some (rowsI (lp ds), rowsI xs, p') := by
    rw [show v = ((v.toNat : Nat) : Int) by omega]
    exact e1
  refine ⟨ds, p', ?_, e2, e3⟩
  simp only [F15_d, FSpec.d, F15_s, h1, e1']
theorem leaps_ok {xs : List Int} {p : Int} (D : Dice xs p) : ∃ ds p', F15_d 600 (rowsI xs, p) = some (rowsI (lp ds), rowsI xs, p') ∧ Good ds ∧ Dice xs p' := by
  obtain ⟨ds, p', h1, h2, h3⟩ := leaps_ok4 D
  exact ⟨ds, p', h1, h2.1, h3⟩
end Go.Proofs.YtaanjciokdpkmaaDoor
/- Utc, the plain law: tables that are valid, without memory. -/
namespace Go.Proofs.YtaanjciokdpkmaaDoor
set_option linter.unusedVariables false
set_option linter.unusedSimpArgs false
set_option linter.unnecessarySimpa false
theorem Good.at (ds : List Int) (G : Good ds) (i : Nat) (h : i < (lp ds).length) : ∃ d, (lp ds)[i] = 86400 * d + (i : Int) ∧ 1 ≤ d ∧ d ≤ 104249 ∧ ds[i]? = some d := by
  have h' : i < ds.length := by rw [lp_len] at h; exact h
  exact ⟨ds[i], lp_get ds i h, (G.rng _ (List.getElem_mem h')).1, (G.rng _ (List.getElem_mem h')).2, List.getElem?_eq_getElem h'⟩
theorem valid_loop {ds : List Int} (G : Good ds) : ∀ (k f i : Nat), i + k = ds.length → k < f → (F26_l4 600).L f (rowsI (lp ds), rowsI (lp ds), (ds.length : Int), (i : Int)) = some (.inr (rowsI (lp ds)))
  | 0, f, i, hk, hf => by
    obtain ⟨f, rfl⟩ : ∃ f', f = f' + 1 := ⟨f - 1, by omega⟩
    show (F26_l4 600).b _ _ ((F26_l4 600).L f) some = _
    generalize (F26_l4 600).L f = Lf
    simp only [F26_l4, decide_eq_false (show ¬ (i : Int) < (ds.length : Int) by omega)]
  | k + 1, f, i, hk, hf => by
    obtain ⟨f, rfl⟩ : ∃ f', f = f' + 1 := ⟨f - 1, by omega⟩
    have hlen := G.len
    have hi : i < (lp ds).length := by rw [lp_len]; omega
    obtain ⟨d, h1, h2, h3, h4⟩ := Good.at ds G i hi
    have r := valid_loop G k f (i + 1) (by omega) (by omega)
    rw [show ((i + 1 : Nat) : Int) = (i : Int) + 1 by omega] at r
    show (F26_l4 600).b _ _ ((F26_l4 600).L f) some = _
    generalize (F26_l4 600).L f = Lf at r ⊢
    have e1 : i64 (86400 * d + (i : Int) - (i : Int)) = 86400 * d := by
      rw [i64_id (by omega)]; omega
    have e2 : ((86400 * d).tmod 86400 != 0) = false := by
      rw [Int.mul_tmod_right]; rfl
    have e3 : i64 ((i : Int) + 1) = (i : Int) + 1 := i64_id (by omega)
    have hr : ((rowsI (lp ds))[((i : Int)).toNat]? : Option (List AV)) = some [AV.v (.int .i64 (86400 * d + (i : Int)))] := by
      rw [show ((i : Int)).toNat = i by omega, rowsI_get _ i hi, h1]
    simp only [F26_l4, decide_eq_true (show (i : Int) < (ds.length : Int) by omega), hr, List.getElem?_cons_zero, in_ok, decide_eq_true (show 1 ≤ 86400 * d + (i : Int) ∧ 86400 * d + (i : Int) ≤ 9007199254 by omega), Bool.not_true, e1, e2, e3]
    have h0 : (0 : Int) ≤ (i : Int) := by omega
    by_cases hz : i = 0
    · simp only [decide_eq_false (show ¬ (i : Int) > 0 by omega)]
      exact (if_pos h0).trans ((if_pos trivial).trans r)
    · have hj : i - 1 < (lp ds).length := by omega
      obtain ⟨c, c1, c2, c3, c4⟩ := Good.at ds G (i - 1) hj
      have hlt : c < d := by
        obtain ⟨a1, a2⟩ := List.getElem?_eq_some_iff.1 c4
        obtain ⟨b1, b2⟩ := List.getElem?_eq_some_iff.1 h4
        have := List.pairwise_iff_getElem.1 G.inc (i - 1) i a1 b1 (by omega)
        omega
      have g1 : i64 ((i : Int) - 1) = ((i - 1 : Nat) : Int) := by
        rw [i64_id (by omega)]; omega
      have hr2 : ((rowsI (lp ds))[(((i - 1 : Nat) : Int)).toNat]? : Option (List AV)) = some [AV.v (.int .i64 (86400 * c + ((i - 1 : Nat) : Int)))] := by
        rw [show (((i - 1 : Nat) : Int)).toNat = i - 1 by omega, rowsI_get _ (i - 1) hj, c1]
      have g2 : i64 (86400 * c + ((i - 1 : Nat) : Int) - ((i - 1 : Nat) : Int)) = 86400 * c := by
        rw [i64_id (by omega)]; omega
      simp only [decide_eq_true (show (i : Int) > 0 by omega), g1, hr2, List.getElem?_cons_zero, g2, decide_eq_false (show ¬ 86400 * d ≤ 86400 * c by omega)]
      have h00 : (0 : Int) ≤ ((i - 1 : Nat) : Int) := by omega
      exact (if_pos h0).trans ((if_pos trivial).trans ((if_pos h00).trans ((if_pos trivial).trans r)))
theorem valid_ok {ds : List Int} (G : Good ds) : F26_d 600 (rowsI (lp ds)) = some true := by
  have L : F26_d4 600 (rowsI (lp ds), rowsI (lp ds), (ds.length : Int), 0) = some (.inr (rowsI (lp ds))) := valid_loop G ds.length 600 0 (by omega) (by have := G.len; omega)
  have := G.len
  simp only [F26_d, FSpec.d, F26_s, rowsI_len, lp_len, L, decide_eq_true (show (ds.length : Int) ≤ 64 by omega)]
end Go.Proofs.YtaanjciokdpkmaaDoor
/- Utc, the plain law: the search in a table, without memory. -/
namespace Go.Proofs.YtaanjciokdpkmaaDoor
set_option linter.unusedVariables false
set_option linter.unusedSimpArgs false
set_option linter.unnecessarySimpa false
theorem lp_take (ds : List Int) (m : Nat) : lp (ds.take m) = (lp ds).take m := by
  apply List.ext_getElem
  · simp [lp_len]
  · intro i h1 h2
    rw [lp_get, List.getElem_take, List.getElem_take, lp_get]
theorem Good.take {ds : List Int} (G : Good ds) (m : Nat) : Good (ds.take m) :=
  ⟨by have := G.len; simp; omega, G.inc.sublist (List.take_sublist _ _), fun d h => G.rng d (List.mem_of_mem_take h)⟩
theorem lp_inc {ds : List Int} (G : Good ds) {i j : Nat} (hij : i < j) (hj : j < (lp ds).length) : (lp ds)[i] + 86401 ≤ (lp ds)[j] := by
  obtain ⟨c, c1, c2, c3, c4⟩ := Good.at ds G i (by omega)
  obtain ⟨d, d1, d2, d3, d4⟩ := Good.at ds G j hj
  obtain ⟨a1, a2⟩ := List.getElem?_eq_some_iff.1 c4
  obtain ⟨b1, b2⟩ := List.getElem?_eq_some_iff.1 d4
  have := List.pairwise_iff_getElem.1 G.inc i j a1 b1 hij
  omega
set_option maxRecDepth 100000 in
theorem half_fin : ∀ s : Fin 160, IntKind.i64.wrap (shR .u64 (IntKind.u64.wrap (i64 (s.val : Int))) (1 : Int)) = ((s.val / 2 : Nat) : Int) := by decide
theorem half {a b : Nat} (h : a + b < 160) : IntKind.i64.wrap (shR .u64 (IntKind.u64.wrap (i64 ((a : Int) + (b : Int)))) (1 : Int)) = (((a + b) / 2 : Nat) : Int) := by
  have := half_fin ⟨a + b, h⟩
  rw [show ((a : Int) + (b : Int)) = ((a + b : Nat) : Int) by omega]
  exact this
theorem nan_ok (N : Nat) (a : Int) : F49_d N a = some false := by
  simp only [F49_d, FSpec.d, F49_s, bne_self_eq_false]
theorem nan_ok2 (N : Nat) (a : Int) : F47_d N a = some false := by
  simp only [F47_d, FSpec.d, F47_s, bne_self_eq_false]
theorem less_ok (N : Nat) (a b : Int) : F46_d N (a, b) = some (decide (a < b)) := by
  simp only [F46_d, FSpec.d, F46_s, nan_ok]
theorem bs_loop {ds : List Int} (G : Good ds) (x : Int) : ∀ (k f i j : Nat), j - i ≤ k → k < f → i ≤ j → j ≤ ds.length → (∀ q (h : q < (lp ds).length), q < i → (lp ds)[q] < x) → (∀ q (h : q < (lp ds).length), j ≤ q → x ≤ (lp ds)[q]) → ∃ p : Nat, (F41_l5 600).L f (rowsI (lp ds), x, (ds.length : Int), (i : Int), (j : Int)) = some (rowsI (lp ds), x, (ds.length : Int), (p : Int)) ∧ p ≤ ds.length ∧ (∀ q (h : q < (lp ds).length), q < p → (lp ds)[q] < x) ∧ (∀ q (h : q < (lp ds).length), p ≤ q → x ≤ (lp ds)[q]) := by
  intro k
  induction k with
  | zero =>
    intro f i j hk hf hij hj h1 h2
    obtain ⟨f, rfl⟩ : ∃ f', f = f' + 1 := ⟨f - 1, by omega⟩
    obtain rfl : i = j := by omega
    refine ⟨i, ?_, hj, h1, h2⟩
    show (F41_l5 600).b _ _ ((F41_l5 600).L f) some = _
    generalize (F41_l5 600).L f = Lf
    simp only [F41_l5, decide_eq_false (show ¬ (i : Int) < (i : Int) by omega)]
  | succ k ih =>
    intro f i j hk hf hij hj h1 h2
    obtain ⟨f, rfl⟩ : ∃ f', f = f' + 1 := ⟨f - 1, by omega⟩
    by_cases hlt : i < j
    · have hlen := G.len
      have hm : (i + j) / 2 < (lp ds).length := by rw [lp_len]; omega
      have hr : ((rowsI (lp ds))[((((i + j) / 2 : Nat) : Int)).toNat]? : Option (List AV)) = some [AV.v (.int .i64 ((lp ds)[(i + j) / 2]))] := by
        rw [show ((((i + j) / 2 : Nat) : Int)).toNat = (i + j) / 2 by omega, rowsI_get _ _ hm]
      have h0 : (0 : Int) ≤ (((i + j) / 2 : Nat) : Int) := by omega
      by_cases hx : (lp ds)[(i + j) / 2] < x
      · obtain ⟨p, r, r1, r2, r3⟩ := ih f ((i + j) / 2 + 1) j (by omega) (by omega) (by omega) hj (fun q h hq => by
          rcases Nat.lt_or_ge q ((i + j) / 2) with hq' | hq'
          · have := lp_inc G hq' hm; omega
          · obtain rfl : q = (i + j) / 2 := by omega
            exact hx) h2
        refine ⟨p, ?_, r1, r2, r3⟩
        show (F41_l5 600).b _ _ ((F41_l5 600).L f) some = _
        generalize (F41_l5 600).L f = Lf at r ⊢
        simp only [F41_l5, decide_eq_true (show (i : Int) < (j : Int) by omega), half (show i + j < 160 by omega), hr, List.getElem?_cons_zero, less_ok, decide_eq_true hx]
        rw [i64_id (by omega), show ((((i + j) / 2 : Nat) : Int) + 1) = (((i + j) / 2 + 1 : Nat) : Int) by omega]
        exact (if_pos h0).trans ((if_pos trivial).trans r)
      · obtain ⟨p, r, r1, r2, r3⟩ := ih f i ((i + j) / 2) (by omega) (by omega) (by omega) (by omega) h1 (fun q h hq => by
          rcases Nat.lt_or_ge ((i + j) / 2) q with hq' | hq'
          · have := lp_inc G hq' h; omega
          · obtain rfl : q = (i + j) / 2 := by omega
            omega)
        refine ⟨p, ?_, r1, r2, r3⟩
        show (F41_l5 600).b _ _ ((F41_l5 600).L f) some = _
        generalize (F41_l5 600).L f = Lf at r ⊢
        simp only [F41_l5, decide_eq_true (show (i : Int) < (j : Int) by omega), half (show i + j < 160 by omega), hr, List.getElem?_cons_zero, less_ok, decide_eq_false hx]
        exact (if_pos h0).trans ((if_pos trivial).trans r)
    · obtain rfl : i = j := by omega
      refine ⟨i, ?_, hj, h1, h2⟩
      show (F41_l5 600).b _ _ ((F41_l5 600).L f) some = _
      generalize (F41_l5 600).L f = Lf
      simp only [F41_l5, decide_eq_false (show ¬ (i : Int) < (i : Int) by omega)]
/-- The search in a table: how many leap seconds lie ahead of a second; whether it is one. -/
theorem bs_ok {ds : List Int} (G : Good ds) (x : Int) : ∃ (p : Nat) (b : Bool), F41_d 600 (rowsI (lp ds), x) = some ((p : Int), b) ∧ p ≤ (lp ds).length ∧ (∀ q (h : q < (lp ds).length), q < p → (lp ds)[q] < x) ∧ (∀ q (h : q < (lp ds).length), p ≤ q → x ≤ (lp ds)[q]) ∧ (b = true ↔ ∃ h : p < (lp ds).length, (lp ds)[p] = x) := by
  have hlen := G.len
  obtain ⟨p, r, r1, r2, r3⟩ := bs_loop G x ds.length 600 0 ds.length (by omega) (by omega) (by omega) (by omega) (fun q h hq => by omega) (fun q h hq => by rw [lp_len] at h; omega)
  have r' : F41_d5 600 (rowsI (lp ds), x, (ds.length : Int), 0, (ds.length : Int)) = some (rowsI (lp ds), x, (ds.length : Int), (p : Int)) := r
  have h0 : (0 : Int) ≤ (p : Int) := by omega
  by_cases hp : p < ds.length
  · have hp' : p < (lp ds).length := by rw [lp_len]; exact hp
    have hr : ((rowsI (lp ds))[((p : Int)).toNat]? : Option (List AV)) = some [AV.v (.int .i64 ((lp ds)[p]))] := by
      rw [show ((p : Int)).toNat = p by omega, rowsI_get _ _ hp']
    by_cases he : (lp ds)[p] = x
    · refine ⟨p, true, ?_, by rw [lp_len]; exact r1, r2, r3, by simp [hp', he]⟩
      have e1 : ((lp ds)[p] == x) = true := beq_iff_eq.2 he
      simp only [F41_d, FSpec.d, F41_s, rowsI_len, lp_len, r', decide_eq_true (show (p : Int) < (ds.length : Int) by omega), hr, List.getElem?_cons_zero, e1, h0, if_true]
    · refine ⟨p, false, ?_, by rw [lp_len]; exact r1, r2, r3, by simp [hp', he]⟩
      have e1 : ((lp ds)[p] == x) = false := beq_eq_false_iff_ne.2 he
      simp only [F41_d, FSpec.d, F41_s, rowsI_len, lp_len, r', decide_eq_true (show (p : Int) < (ds.length : Int) by omega), hr, List.getElem?_cons_zero, e1, h0, if_true, nan_ok2]
  · refine ⟨p, false, ?_, by rw [lp_len]; exact r1, r2, r3, ⟨fun h => (by cases h), fun ⟨h, _⟩ => absurd (show p < ds.length by rw [lp_len] at h; exact h) hp⟩⟩
    simp only [F41_d, FSpec.d, F41_s, rowsI_len, lp_len, r', decide_eq_false (show ¬ (p : Int) < (ds.length : Int) by omega)]
end Go.Proofs.YtaanjciokdpkmaaDoor
/- Utc, the plain law: civil times and offsets, without memory. -/
namespace Go.Proofs.YtaanjciokdpkmaaDoor
set_option linter.unusedVariables false
set_option linter.unusedSimpArgs false
set_option linter.unnecessarySimpa false
theorem time_ok (N : Nat) {t : Int} (h : 0 ≤ t ∧ t ≤ 9007199254740992) : F40_d N t = some true := by
  simp only [F40_d, FSpec.d, F40_s, in_ok, decide_eq_true h]
/-- Where a second lies in a table: so many leap seconds ahead of it; whether it is one. -/
structure Spot (ds : List Int) (x : Int) (p : Nat) (b : Bool) : Prop where
  le : p ≤ (lp ds).length
  lt : ∀ q (h : q < (lp ds).length), q < p → (lp ds)[q] < x
  ge : ∀ q (h : q < (lp ds).length), p ≤ q → x ≤ (lp ds)[q]
  on : b = true ↔ ∃ h : p < (lp ds).length, (lp ds)[p] = x
theorem Spot.uniq {ds : List Int} {x : Int} {p p' : Nat} {b b' : Bool} (h : Spot ds x p b) (h' : Spot ds x p' b') : p = p' ∧ b = b' := by
  have e : p = p' := by
    rcases Nat.lt_trichotomy p p' with q | q | q
    · have := h.ge p (by have := h'.le; omega) (Nat.le_refl _)
      have := h'.lt p (by have := h'.le; omega) q
      omega
    · exact q
    · have := h'.ge p' (by have := h.le; omega) (Nat.le_refl _)
      have := h.lt p' (by have := h.le; omega) q
      omega
  subst e
  refine ⟨rfl, ?_⟩
  have := h.on.trans h'.on.symm
  cases b <;> cases b' <;> simp_all
theorem Spot.base {ds : List Int} (G : Good ds) {x : Int} {p : Nat} {b : Bool} (h : Spot ds x p b) (hx : 0 ≤ x) : 0 ≤ x - p - (if b = true then 1 else 0) ∧ p ≤ 64 := by
  have hl := G.len
  have hp := h.le
  rw [lp_len] at hp
  refine ⟨?_, by omega⟩
  cases b
  · by_cases h0 : p = 0
    · simp [h0]; exact hx
    · have hj : p - 1 < (lp ds).length := by rw [lp_len]; omega
      have h1 := h.lt (p - 1) hj (by omega)
      obtain ⟨d, d1, d2, d3, d4⟩ := Good.at ds G (p - 1) hj
      simp; omega
  · obtain ⟨hj, e⟩ := h.on.1 rfl
    obtain ⟨d, d1, d2, d3, d4⟩ := Good.at ds G p hj
    simp; omega
theorem spot_ok {ds : List Int} (G : Good ds) (x : Int) : ∃ (p : Nat) (b : Bool), F41_d 600 (rowsI (lp ds), x) = some ((p : Int), b) ∧ Spot ds x p b := by
  obtain ⟨p, b, h1, h2, h3, h4, h5⟩ := bs_ok G x
  exact ⟨p, b, h1, h2, h3, h4, h5⟩
theorem offset_ok {ds : List Int} (G : Good ds) {t : Int} (h : 0 ≤ t ∧ t ≤ 9007199254740992) : ∃ (p : Nat) (b : Bool), F17_d 600 (rowsI (lp ds), t) = some (p : Int) ∧ Spot ds (t / 1000000) p b := by
  obtain ⟨p, b, h1, h2⟩ := spot_ok G (t / 1000000)
  refine ⟨p, b, ?_, h2⟩
  have e1 : i64 (t.tdiv 1000000) = t / 1000000 := by
    rw [Int.tdiv_eq_ediv_of_nonneg h.1]; exact i64_id (by omega)
  simp only [F17_d, FSpec.d, F17_s, valid_ok G, time_ok 600 h, Bool.not_true, e1, h1]
/-- The civil time of a second that is counted without leap seconds. -/
structure Civ (c x : Int) (sec : Int) (us : Int) (o : Int × Int × Int × Int × Int × Int × Int × Int) : Prop where
  val : valD o.1 o.2.1 o.2.2.1
  day : fst o.1 + sm o.1 (o.2.1 - 1).toNat + o.2.2.1 - 1 = c / 86400
  h : o.2.2.2.1 = c % 86400 / 3600
  m : o.2.2.2.2.1 = c / 60 % 60
  s : o.2.2.2.2.2.1 = sec
  u : o.2.2.2.2.2.2.1 = us
  e : o.2.2.2.2.2.2.2 = 0
theorem civil_ok {ds : List Int} (G : Good ds) {t : Int} (h : 0 ≤ t ∧ t ≤ 9007199254740992) : ∃ (p : Nat) (b : Bool) (y m d : Int), Spot ds (t / 1000000) p b ∧ valD y m d ∧ (fst y + sm y (m - 1).toNat + d - 1 = (t / 1000000 - p - (if b = true then 1 else 0)) / 86400) ∧ F10_d 600 ((t / 1000000 - p - (if b = true then 1 else 0)) / 86400) = some (y, m, d) ∧
    F18_d 600 (rowsI (lp ds), t) = some (y, m, d, (t / 1000000 - p - (if b = true then 1 else 0)) % 86400 / 3600, (t / 1000000 - p - (if b = true then 1 else 0)) / 60 % 60, (if b = true then 60 else (t / 1000000 - p) % 60), t % 1000000, 0) := by
  obtain ⟨p, b, h1, h2⟩ := spot_ok G (t / 1000000)
  have hb := h2.base G (by omega)
  have e1 : i64 (t.tdiv 1000000) = t / 1000000 := by
    rw [Int.tdiv_eq_ediv_of_nonneg h.1]; exact i64_id (by omega)
  have e2 : i64 (t / 1000000 - (p : Int)) = t / 1000000 - p := i64_id (by omega)
  have eu : t.tmod 1000000 = t % 1000000 := Int.tmod_eq_emod_of_nonneg h.1
  obtain ⟨y, m, d, g1, g2, g3, g4⟩ := date_ok (x := (t / 1000000 - p - (if b = true then 1 else 0)) / 86400) (by omega)
  refine ⟨p, b, y, m, d, h2, g3, g4, g1, ?_⟩
  cases b
  · simp only [Bool.false_eq_true, if_false, Int.sub_zero] at hb g1 ⊢
    have k1 : (t / 1000000 - (p : Int)).tdiv 86400 = (t / 1000000 - p) / 86400 := Int.tdiv_eq_ediv_of_nonneg hb.1
    have k2 : (t / 1000000 - (p : Int)).tmod 86400 = (t / 1000000 - p) % 86400 := Int.tmod_eq_emod_of_nonneg hb.1
    have k3 : ((t / 1000000 - (p : Int)) % 86400).tdiv 3600 = (t / 1000000 - p) % 86400 / 3600 := Int.tdiv_eq_ediv_of_nonneg (by omega)
    have k4 : (t / 1000000 - (p : Int)).tdiv 60 = (t / 1000000 - p) / 60 := Int.tdiv_eq_ediv_of_nonneg hb.1
    have k5 : ((t / 1000000 - (p : Int)) / 60).tmod 60 = (t / 1000000 - p) / 60 % 60 := Int.tmod_eq_emod_of_nonneg (by omega)
    have k6 : (t / 1000000 - (p : Int)).tmod 60 = (t / 1000000 - p) % 60 := Int.tmod_eq_emod_of_nonneg hb.1
    have i1 : i64 ((t / 1000000 - (p : Int)) / 86400) = (t / 1000000 - p) / 86400 := i64_id (by omega)
    have i2 : i64 ((t / 1000000 - (p : Int)) % 86400 / 3600) = (t / 1000000 - p) % 86400 / 3600 := i64_id (by omega)
    have i3 : i64 ((t / 1000000 - (p : Int)) / 60) = (t / 1000000 - p) / 60 := i64_id (by omega)
    simp only [F18_d, FSpec.d, F18_s, valid_ok G, time_ok 600 h, Bool.not_true, e1, h1, e2, eu, k1, k2, k3, k4, i1, i2, i3, k5, k6, g1]
  · simp only [if_true] at hb g1 ⊢
    have e3 : i64 (t / 1000000 - (p : Int) - 1) = t / 1000000 - p - 1 := i64_id (by omega)
    have k1 : (t / 1000000 - (p : Int) - 1).tdiv 86400 = (t / 1000000 - p - 1) / 86400 := Int.tdiv_eq_ediv_of_nonneg hb.1
    have k2 : (t / 1000000 - (p : Int) - 1).tmod 86400 = (t / 1000000 - p - 1) % 86400 := Int.tmod_eq_emod_of_nonneg hb.1
    have k3 : ((t / 1000000 - (p : Int) - 1) % 86400).tdiv 3600 = (t / 1000000 - p - 1) % 86400 / 3600 := Int.tdiv_eq_ediv_of_nonneg (by omega)
    have k4 : (t / 1000000 - (p : Int) - 1).tdiv 60 = (t / 1000000 - p - 1) / 60 := Int.tdiv_eq_ediv_of_nonneg hb.1
    have k5 : ((t / 1000000 - (p : Int) - 1) / 60).tmod 60 = (t / 1000000 - p - 1) / 60 % 60 := Int.tmod_eq_emod_of_nonneg (by omega)
    have i1 : i64 ((t / 1000000 - (p : Int) - 1) / 86400) = (t / 1000000 - p - 1) / 86400 := i64_id (by omega)
    have i2 : i64 ((t / 1000000 - (p : Int) - 1) % 86400 / 3600) = (t / 1000000 - p - 1) % 86400 / 3600 := i64_id (by omega)
    have i3 : i64 ((t / 1000000 - (p : Int) - 1) / 60) = (t / 1000000 - p - 1) / 60 := i64_id (by omega)
    simp only [F18_d, FSpec.d, F18_s, valid_ok G, time_ok 600 h, Bool.not_true, e1, h1, e2, e3, eu, k1, k2, k3, k4, i1, i2, i3, k5, g1]
end Go.Proofs.YtaanjciokdpkmaaDoor
/- Utc, the plain law: UtcTables. -/
namespace Go.Proofs.YtaanjciokdpkmaaDoor
set_option linter.unusedVariables false
set_option linter.unusedSimpArgs false
set_option linter.unnecessarySimpa false
noncomputable def dateT (x : Int) : Int × Int × Int := (F10_d 600 x).getD (0, 0, 0)
noncomputable def civC (c : Int) (s u : Int) : Int × Int × Int × Int × Int × Int × Int × Int := ((dateT (c / 86400)).1, (dateT (c / 86400)).2.1, (dateT (c / 86400)).2.2, c % 86400 / 3600, c / 60 % 60, s, u, 0)
theorem civil_fun {ds : List Int} (G : Good ds) {t : Int} (h : 0 ≤ t ∧ t ≤ 9007199254740992) {p : Nat} {b : Bool} (S : Spot ds (t / 1000000) p b) : F18_d 600 (rowsI (lp ds), t) = some (civC (t / 1000000 - p - (if b = true then 1 else 0)) (if b = true then 60 else (t / 1000000 - p) % 60) (t % 1000000)) := by
  obtain ⟨p', b', y, m, d, s, v, e, g, r⟩ := civil_ok G h
  obtain ⟨rfl, rfl⟩ := S.uniq s
  rw [r]
  simp only [civC, dateT, g, Option.getD_some]
theorem offset_fun {ds : List Int} (G : Good ds) {t : Int} (h : 0 ≤ t ∧ t ≤ 9007199254740992) {p : Nat} {b : Bool} (S : Spot ds (t / 1000000) p b) : F17_d 600 (rowsI (lp ds), t) = some (p : Int) := by
  obtain ⟨p', b', r, s⟩ := offset_ok G h
  obtain ⟨rfl, rfl⟩ := S.uniq s
  exact r
theorem take_get (ds : List Int) (k q : Nat) (h : q < (lp (ds.take k)).length) : ∃ h' : q < (lp ds).length, (lp (ds.take k))[q] = (lp ds)[q] ∧ q < k := by
  have h1 : q < (ds.take k).length := by rw [lp_len] at h; exact h
  have h2 : q < ds.length ∧ q < k := by simp at h1; omega
  have h3 : q < (lp ds).length := by rw [lp_len]; exact h2.1
  refine ⟨h3, ?_, h2.2⟩
  rw [lp_get, lp_get, List.getElem_take]
theorem take_len (ds : List Int) {k : Nat} (h : k ≤ ds.length) : (lp (ds.take k)).length = k := by rw [lp_len]; simp; omega
theorem spot_before {ds : List Int} (G : Good ds) {x : Int} {p k : Nat} {b : Bool} (hk : k < (lp ds).length) (hx : x < (lp ds)[k]) (S : Spot ds x p b) : Spot (ds.take k) x p b := by
  have hkd : k ≤ ds.length := by rw [lp_len] at hk; omega
  have hp : p ≤ k := by
    rcases Nat.lt_or_ge k p with q | q
    · have := S.lt k hk q; omega
    · exact q
  refine ⟨by rw [take_len ds hkd]; exact hp, fun q h hq => ?_, fun q h hq => ?_, ?_⟩
  · obtain ⟨h', e, _⟩ := take_get ds k q h
    rw [e]; exact S.lt q h' hq
  · obtain ⟨h', e, _⟩ := take_get ds k q h
    rw [e]; exact S.ge q h' hq
  · rw [S.on]
    constructor
    · rintro ⟨h, e⟩
      have hpk : p < k := by
        rcases Nat.lt_or_ge p k with q | q
        · exact q
        · obtain rfl : p = k := by omega
          omega
      have h' : p < (lp (ds.take k)).length := by rw [take_len ds hkd]; exact hpk
      obtain ⟨h2, e2, _⟩ := take_get ds k p h'
      exact ⟨h', e2.trans e⟩
    · rintro ⟨h, e⟩
      obtain ⟨h2, e2, _⟩ := take_get ds k p h
      exact ⟨h2, e2.symm.trans e⟩
theorem spot_behind {ds : List Int} (G : Good ds) {x : Int} {k : Nat} (hk : k < (lp ds).length) (hx : (lp ds)[k] ≤ x + 10) : Spot (ds.take k) x k false := by
  have hkd : k ≤ ds.length := by rw [lp_len] at hk; omega
  refine ⟨by rw [take_len ds hkd]; omega, fun q h hq => ?_, fun q h hq => ?_, ⟨fun h => (by cases h), fun ⟨h, _⟩ => ?_⟩⟩
  · obtain ⟨h', e, h2⟩ := take_get ds k q h
    have := lp_inc G h2 hk
    rw [e]; omega
  · rw [take_len ds hkd] at h; omega
  · rw [take_len ds hkd] at h; omega
theorem civ_same (a : Int × Int × Int × Int × Int × Int × Int × Int) : ((a.1 == a.1) && ((a.2.1 == a.2.1) && ((a.2.2.1 == a.2.2.1) && ((a.2.2.2.1 == a.2.2.2.1) && ((a.2.2.2.2.1 == a.2.2.2.2.1) && ((a.2.2.2.2.2.1 == a.2.2.2.2.2.1) && ((a.2.2.2.2.2.2.1 == a.2.2.2.2.2.2.1) && true))))))) = true := by simp
theorem tables_law {xs : List Int} (hb : ∀ x ∈ xs, -9223372036854775808 ≤ x ∧ x ≤ 9223372036854775807) {n : Int} (hn : 0 ≤ n ∧ n ≤ 4294967295) : F5_d 600 (rowsI xs, n) = some true := by
  by_cases hl : (xs.length : Int) ≤ 500
  · have L1 : F13_d 600 (rowsI xs) = some true := by simp only [F13_d, FSpec.d, F13_s, rowsI_len, decide_eq_true hl]
    have R1 : F14_d 600 (rowsI xs) = some (rowsI xs, 0) := rfl
    obtain ⟨ds, p1, e1, ⟨G, hg⟩, D⟩ := leaps_ok4 (xs := xs) (p := 0) ⟨hb, by omega, by omega, by omega⟩
    have t0 : i64 (IntKind.i64.wrap n * 50000) = n * 50000 := by
      have : IntKind.i64.wrap n = n := i64_id (by omega)
      rw [this]; exact i64_id (by omega)
    by_cases hz : ds.length = 0
    · have ez : ((((lp ds).length : Nat) : Int) == 0) = true := by rw [lp_len, hz]; rfl
      simp only [F5_d, FSpec.d, F5_s, L1, Bool.not_true, R1, e1, rowsI_len, ez, sane_ok]
    · have ez : ((((lp ds).length : Nat) : Int) == 0) = false := by rw [lp_len]; exact beq_eq_false_iff_ne.2 (by omega)
      obtain ⟨v, p2, g1, g2, g3⟩ := next_ok 600 (n := ((lp ds).length : Int)) (by rw [lp_len]; omega) D
      obtain ⟨k, rfl⟩ : ∃ k : Nat, v = (k : Int) := ⟨v.toNat, by omega⟩
      have hk : k < (lp ds).length := by omega
      have hT : (rowsI (lp ds)).take ((k : Int)).toNat = rowsI (lp (ds.take k)) := by
        rw [show ((k : Int)).toNat = k by omega, lp_take]; simp [rowsI]
      have hr : ((rowsI (lp ds))[((k : Int)).toNat]? : Option (List AV)) = some [AV.v (.int .i64 ((lp ds)[k]))] := by
        rw [show ((k : Int)).toNat = k by omega, rowsI_get _ _ hk]
      have ht : 0 ≤ n * 50000 ∧ n * 50000 ≤ 9007199254740992 := by omega
      obtain ⟨p, b, -, S⟩ := spot_ok G (n * 50000 / 1000000)
      have C1 := civil_fun G ht S
      have es : i64 ((n * 50000).tdiv 1000000) = n * 50000 / 1000000 := by
        rw [Int.tdiv_eq_ediv_of_nonneg ht.1]; exact i64_id (by omega)
      have hk0 : (0 : Int) ≤ (k : Int) := by omega
      have hk1 : (0 : Int) ≤ (k : Int) ∧ (k : Int) ≤ ((lp ds).length : Int) := by omega
      by_cases hx : n * 50000 / 1000000 < (lp ds)[k]
      · have C2 := civil_fun (G.take k) ht (spot_before G hk hx S)
        simp only [F5_d, FSpec.d, F5_s, L1, Bool.not_true, R1, e1, rowsI_len, ez, g1, t0, hT, C1, C2, hr, List.getElem?_cons_zero, es, decide_eq_true hx, civ_same, sane_ok, hk0, hk1, if_true, and_self]
        simp [civC]
      · have hx' : (lp ds)[k] ≤ n * 50000 / 1000000 := by omega
        have C2 := civil_fun (G.take k) ht (spot_behind G hk (by omega))
        have O1 := offset_fun G ht S
        have O2 := offset_fun (G.take k) ht (spot_behind (x := n * 50000 / 1000000) G hk (by omega))
        have hpk : k ≤ p := by
          rcases Nat.lt_or_ge p k with q | q
          · have h1 := S.ge p (by omega) (Nat.le_refl _)
            have h2 := lp_inc G q hk
            omega
          · exact q
        have hp4 := (S.base G (by omega)).2
        have hb0 := (S.base G (by omega)).1
        have em : i64 ((p : Int) - (k : Int)) = (p : Int) - k := i64_id (by omega)
        have em2 : i64 (((p : Int) - (k : Int)) * 1000000) = ((p : Int) - k) * 1000000 := i64_id (by omega)
        have hp4 : p ≤ 4 := by
          have := S.le
          rw [lp_len] at this
          omega
        have em3 : i64 (n * 50000 - ((p : Int) - (k : Int)) * 1000000) = n * 50000 - ((p : Int) - k) * 1000000 := i64_id (by omega)
        obtain ⟨d, d1, d2, d3, d4⟩ := Good.at ds G k hk
        have ht3 : 0 ≤ n * 50000 - ((p : Int) - (k : Int)) * 1000000 ∧ n * 50000 - ((p : Int) - (k : Int)) * 1000000 ≤ 9007199254740992 := by omega
        have q3 : (n * 50000 - ((p : Int) - (k : Int)) * 1000000) / 1000000 = n * 50000 / 1000000 - (p - k) := by omega
        have q4 : (n * 50000 - ((p : Int) - (k : Int)) * 1000000) % 1000000 = n * 50000 % 1000000 := by omega
        have C3 := civil_fun (G.take k) ht3 (by rw [q3]; exact spot_behind G hk (by omega))
        rw [q3, q4] at C3
        simp only [F5_d, FSpec.d, F5_s, L1, Bool.not_true, R1, e1, rowsI_len, ez, g1, t0, hT, C1, C2, hr, List.getElem?_cons_zero, es, decide_eq_false hx, O1, O2, em, em2, em3, C3, sane_ok, hk0, hk1, if_true, and_self]
        cases b
        · have n60 : ((n * 50000 / 1000000 - (p : Int)) % 60 == 60) = false := beq_eq_false_iff_ne.2 (by omega)
          rw [show n * 50000 / 1000000 - ((p : Int) - k) - k - (if (false = true) then 1 else 0) = n * 50000 / 1000000 - p - (if (false = true) then 1 else 0) by simp; omega]
          rw [show n * 50000 / 1000000 - ((p : Int) - k) - k = n * 50000 / 1000000 - p by omega]
          simp [civC, n60]
        · have hm : (0 : Int) ≤ (p : Int) - k := by omega
          simp [civC, hm, hpk]
  · have L1 : F13_d 600 (rowsI xs) = some false := by simp only [F13_d, FSpec.d, F13_s, rowsI_len, decide_eq_false hl]
    simp only [F5_d, FSpec.d, F5_s, L1, Bool.not_false, sane_ok]
end Go.Proofs.YtaanjciokdpkmaaDoor
/- Utc, the plain law: digits, without memory. -/
namespace Go.Proofs.YtaanjciokdpkmaaDoor
set_option linter.unusedVariables false
set_option linter.unusedSimpArgs false
set_option linter.unnecessarySimpa false
/-- A number's last digits. -/
def pad (w n : Nat) : List UInt8 := (List.range w).map fun t => Lib.dg n (w - 1 - t)
theorem pad_len (w n : Nat) : (pad w n).length = w := by simp [pad]
theorem pad_succ (w n : Nat) : pad (w + 1) n = Lib.dg n w :: pad w n := by
  unfold pad
  rw [List.range_succ_eq_map, List.map_cons, List.map_map]
  congr 1
  apply List.map_congr_left
  intro t ht
  show Lib.dg n (w + 1 - 1 - (t + 1)) = _
  rw [show w + 1 - 1 - (t + 1) = w - 1 - t by omega]
theorem pad_zero {w n : Nat} (h : n < 10 ^ w) : pad (w + 1) n = 48 :: pad w n := by
  rw [pad_succ]
  congr 1
  unfold Lib.dg
  rw [Nat.div_eq_of_lt h]
  rfl
theorem dec_pad (n : Nat) : Lib.decDigits n = pad (Lib.nDigits n) n := Lib.decDigits_eq n
theorem dig_loop (n w : Nat) (hw : w ≤ 100) : ∀ (r f k : Nat), k + r = w → r < f → n < 10 ^ k → (F39_l4 600).L f ((w : Int), ⟨(pad k n).toArray⟩) = some ⟨(pad w n).toArray⟩
  | 0, f, k, hk, hf, hn => by
    obtain ⟨f, rfl⟩ : ∃ f', f = f' + 1 := ⟨f - 1, by omega⟩
    obtain rfl : k = w := by omega
    show (F39_l4 600).b _ _ ((F39_l4 600).L f) some = _
    generalize (F39_l4 600).L f = Lf
    have hs : (⟨(pad k n).toArray⟩ : ByteArray).size = k := by show (pad k n).toArray.size = k; simp [pad_len]
    simp only [F39_l4, hs, decide_eq_false (show ¬ (k : Int) < (k : Int) by omega)]
  | r + 1, f, k, hk, hf, hn => by
    obtain ⟨f, rfl⟩ : ∃ f', f = f' + 1 := ⟨f - 1, by omega⟩
    have R := dig_loop n w hw r f (k + 1) (by omega) (by omega) (by rw [Nat.pow_succ]; omega)
    show (F39_l4 600).b _ _ ((F39_l4 600).L f) some = _
    generalize (F39_l4 600).L f = Lf at R ⊢
    have hs : (⟨(pad k n).toArray⟩ : ByteArray).size = k := by show (pad k n).toArray.size = k; simp [pad_len]
    have ha : ((⟨#[48]⟩ : ByteArray) ++ (⟨(pad k n).toArray⟩ : ByteArray)) = ⟨(pad (k + 1) n).toArray⟩ := by
      rw [pad_zero hn]
      apply ByteArray.ext
      simp [ByteArray.data_append]
    have h1 : (⟨#[48]⟩ : ByteArray).size + k ≤ 9223372036854775807 := by
      show 1 + k ≤ _
      omega
    simp only [F39_l4, hs, decide_eq_true (show (k : Int) < (w : Int) by omega), ha]
    exact (if_pos h1).trans R
theorem nDig_le : ∀ (w n : Nat), n < 10 ^ (w + 1) → Lib.nDigits n ≤ w + 1
  | 0, n, h => by rw [Lib.nDigits_small (by simpa using h)]; omega
  | w + 1, n, h => by
    by_cases h1 : n < 10
    · rw [Lib.nDigits_small h1]; omega
    · rw [Lib.nDigits_big h1]
      have := nDig_le w (n / 10) (by rw [Nat.pow_succ] at h; omega)
      omega
theorem digits_ok {n w : Nat} (hw : 1 ≤ w ∧ w ≤ 100) (hn : n < 10 ^ w) (h64 : (n : Int) ≤ 9223372036854775807) : F39_d 600 ((n : Int), (w : Int)) = some ⟨(pad w n).toArray⟩ := by
  have I : F45_d 600 (n : Int) = some ⟨(pad (Lib.nDigits n) n).toArray⟩ := by
    show (if -9223372036854775808 ≤ (n : Int) ∧ (n : Int) ≤ 9223372036854775807 then some (⟨(Lib.itoa n).toArray⟩ : ByteArray) else none) = _
    rw [if_pos (by omega), Lib.itoa_nonneg, dec_pad]
  have hd : Lib.nDigits n ≤ w := by
    have := nDig_le (w - 1) n (by rw [show w - 1 + 1 = w by omega]; exact hn)
    omega
  have L : F39_d4 600 ((w : Int), ⟨(pad (Lib.nDigits n) n).toArray⟩) = some ⟨(pad w n).toArray⟩ := dig_loop n w hw.2 (w - Lib.nDigits n) 600 (Lib.nDigits n) (by omega) (by omega) (Lib.lt_pow_nDigits n)
  simp only [F39_d, FSpec.d, F39_s, I, L]
end Go.Proofs.YtaanjciokdpkmaaDoor
/- Utc, the plain law: texts of civil times, without memory. -/
namespace Go.Proofs.YtaanjciokdpkmaaDoor
set_option linter.unusedVariables false
set_option linter.unusedSimpArgs false
set_option linter.unnecessarySimpa false
def padB (w n : Nat) : ByteArray := ⟨(pad w n).toArray⟩
theorem padB_size (w n : Nat) : (padB w n).size = w := by show (pad w n).toArray.size = w; simp [pad_len]
theorem one_size (x : UInt8) : (⟨#[x]⟩ : ByteArray).size = 1 := rfl
/-- A civil time's text. -/
def fmtB (y m d hh mm ss us : Nat) : ByteArray := (((((((((((((padB 4 y ++ ⟨#[45]⟩) ++ padB 2 m) ++ ⟨#[45]⟩) ++ padB 2 d) ++ ⟨#[84]⟩) ++ padB 2 hh) ++ ⟨#[58]⟩) ++ padB 2 mm) ++ ⟨#[58]⟩) ++ padB 2 ss) ++ ⟨#[46]⟩) ++ padB 6 us) ++ ⟨#[90]⟩)
theorem dgB {n w : Nat} (hw : 1 ≤ w ∧ w ≤ 100) (hn : n < 10 ^ w) (h64 : (n : Int) ≤ 9223372036854775807) : F39_d 600 ((n : Int), (w : Int)) = some (padB w n) := digits_ok hw hn h64
theorem format_ok {l : List (List AV)} {t : Int} {y m d hh mm ss us : Nat} (h : F18_d 600 (l, t) = some ((y : Int), (m : Int), (d : Int), (hh : Int), (mm : Int), (ss : Int), (us : Int), 0)) (b : y < 10000 ∧ m < 100 ∧ d < 100 ∧ hh < 100 ∧ mm < 100 ∧ ss < 100 ∧ us < 1000000) : F16_d 600 (l, t) = some (fmtB y m d hh mm ss us, 0) := by
  obtain ⟨b1, b2, b3, b4, b5, b6, b7⟩ := b
  have g1 : F39_d 600 ((y : Int), 4) = some (padB 4 y) := dgB (w := 4) (by omega) b1 (by omega)
  have g2 : F39_d 600 ((m : Int), 2) = some (padB 2 m) := dgB (w := 2) (by omega) b2 (by omega)
  have g3 : F39_d 600 ((d : Int), 2) = some (padB 2 d) := dgB (w := 2) (by omega) b3 (by omega)
  have g4 : F39_d 600 ((hh : Int), 2) = some (padB 2 hh) := dgB (w := 2) (by omega) b4 (by omega)
  have g5 : F39_d 600 ((mm : Int), 2) = some (padB 2 mm) := dgB (w := 2) (by omega) b5 (by omega)
  have g6 : F39_d 600 ((ss : Int), 2) = some (padB 2 ss) := dgB (w := 2) (by omega) b6 (by omega)
  have g7 : F39_d 600 ((us : Int), 6) = some (padB 6 us) := dgB (w := 6) (by omega) b7 (by omega)
  have z : ((0 : Int) != 0) = false := rfl
  simp only [F16_d, FSpec.d, F16_s, h, z, g1, g2, g3, g4, g5, g6, g7, ByteArray.size_append, padB_size, one_size, Nat.reduceAdd, Nat.reduceLeDiff, if_true]
  rfl
end Go.Proofs.YtaanjciokdpkmaaDoor
/- Utc, the plain law: the order of digits. -/
namespace Go.Proofs.YtaanjciokdpkmaaDoor
set_option linter.unusedVariables false
set_option linter.unusedSimpArgs false
set_option linter.unnecessarySimpa false
open Go.Op (bytesLess)
theorem bl_app : ∀ {a b : List UInt8} (x y : List UInt8), a.length = b.length → bytesLess a b = true → bytesLess (a ++ x) (b ++ y) = true
  | [], [], x, y, _, h => by cases h
  | p :: a, q :: b, x, y, hl, h => by
    simp only [List.cons_append, bytesLess, Bool.or_eq_true, Bool.and_eq_true] at h ⊢
    rcases h with h | ⟨h1, h2⟩
    · exact .inl h
    · exact .inr ⟨h1, bl_app x y (by simpa using hl) h2⟩
theorem bl_same : ∀ (a : List UInt8) {x y : List UInt8}, bytesLess x y = true → bytesLess (a ++ x) (a ++ y) = true
  | [], x, y, h => h
  | p :: a, x, y, h => by
    simp only [List.cons_append, bytesLess, Bool.or_eq_true, Bool.and_eq_true]
    exact .inr ⟨by simp, bl_same a h⟩
theorem dg_mod (n j w : Nat) (h : j < w) : Lib.dg (n % 10 ^ w) j = Lib.dg n j := by
  unfold Lib.dg
  congr 2
  obtain ⟨k, rfl⟩ : ∃ k, w = j + 1 + k := ⟨w - (j + 1), by omega⟩
  rw [Nat.pow_add, Nat.pow_succ, Nat.mul_assoc, Nat.mod_mul_right_div_self, Nat.mod_mul_right_mod]
theorem pad_mod (w n : Nat) : pad w (n % 10 ^ w) = pad w n := by
  unfold pad
  apply List.map_congr_left
  intro t ht
  have : t < w := by simpa using ht
  exact dg_mod n _ w (by omega)
theorem pad_less : ∀ (w : Nat) {n m : Nat}, n < m → m < 10 ^ w → bytesLess (pad w n) (pad w m) = true
  | 0, n, m, h, hm => by simp at hm; omega
  | w + 1, n, m, h, hm => by
    rw [pad_succ, pad_succ]
    have hw : 0 < 10 ^ w := Nat.pos_of_ne_zero (by simp)
    have h1 : n / 10 ^ w ≤ m / 10 ^ w := Nat.div_le_div_right (by omega)
    have h2 : m / 10 ^ w < 10 := Nat.div_lt_of_lt_mul (by rw [Nat.pow_succ] at hm; exact hm)
    simp only [bytesLess, Bool.or_eq_true, Bool.and_eq_true]
    have e1 : n / 10 ^ w % 10 = n / 10 ^ w := Nat.mod_eq_of_lt (by omega)
    have e2 : m / 10 ^ w % 10 = m / 10 ^ w := Nat.mod_eq_of_lt h2
    by_cases he : n / 10 ^ w = m / 10 ^ w
    · refine .inr ⟨by unfold Lib.dg; rw [he]; simp, ?_⟩
      rw [← pad_mod w n, ← pad_mod w m]
      refine pad_less w ?_ (Nat.mod_lt _ hw)
      have a1 := Nat.div_add_mod n (10 ^ w)
      have a2 := Nat.div_add_mod m (10 ^ w)
      rw [he] at a1
      omega
    · refine .inl ?_
      unfold Lib.dg
      rw [e1, e2]
      simp only [decide_eq_true_eq, UInt8.lt_iff_toNat_lt, UInt8.toNat_ofNat']
      omega
end Go.Proofs.YtaanjciokdpkmaaDoor
/- Utc, the plain law: the order of texts. -/
namespace Go.Proofs.YtaanjciokdpkmaaDoor
set_option linter.unusedVariables false
set_option linter.unusedSimpArgs false
set_option linter.unnecessarySimpa false
theorem fmt_list (y m d hh mm ss us : Nat) : (fmtB y m d hh mm ss us).data.toList = pad 4 y ++ (45 :: (pad 2 m ++ (45 :: (pad 2 d ++ (84 :: (pad 2 hh ++ (58 :: (pad 2 mm ++ (58 :: (pad 2 ss ++ (46 :: (pad 6 us ++ [90])))))))))))) := by
  simp [fmtB, padB, ByteArray.data_append]
open Go.Op (bytesLess)
theorem bl_cons (c : UInt8) {x y : List UInt8} (h : bytesLess x y = true) : bytesLess (c :: x) (c :: y) = true := bl_same [c] h
theorem bl_fld {w n n' : Nat} (x y : List UInt8) (h : n < n') (h' : n' < 10 ^ w) : bytesLess (pad w n ++ x) (pad w n' ++ y) = true := bl_app x y (by rw [pad_len, pad_len]) (pad_less w h h')
theorem fmt_less {y m d hh mm ss us y' m' d' hh' mm' ss' us' : Nat} (b : y' < 10000 ∧ m' < 100 ∧ d' < 100 ∧ hh' < 100 ∧ mm' < 100 ∧ ss' < 100 ∧ us' < 1000000)
    (h : y < y' ∨ y = y' ∧ (m < m' ∨ m = m' ∧ (d < d' ∨ d = d' ∧ (hh < hh' ∨ hh = hh' ∧ (mm < mm' ∨ mm = mm' ∧ (ss < ss' ∨ ss = ss' ∧ us < us')))))) : bytesLess (fmtB y m d hh mm ss us).toList (fmtB y' m' d' hh' mm' ss' us').toList = true := by
  rw [ByteArray.toList_eq, ByteArray.toList_eq, fmt_list, fmt_list]
  obtain ⟨b1, b2, b3, b4, b5, b6, b7⟩ := b
  rcases h with h | ⟨rfl, h | ⟨rfl, h | ⟨rfl, h | ⟨rfl, h | ⟨rfl, h | ⟨rfl, h⟩⟩⟩⟩⟩⟩
  · exact bl_fld _ _ h b1
  · exact bl_same _ (bl_cons _ (bl_fld _ _ h b2))
  · exact bl_same _ (bl_cons _ (bl_same _ (bl_cons _ (bl_fld _ _ h b3))))
  · exact bl_same _ (bl_cons _ (bl_same _ (bl_cons _ (bl_same _ (bl_cons _ (bl_fld _ _ h b4))))))
  · exact bl_same _ (bl_cons _ (bl_same _ (bl_cons _ (bl_same _ (bl_cons _ (bl_same _ (bl_cons _ (bl_fld _ _ h b5))))))))
  · exact bl_same _ (bl_cons _ (bl_same _ (bl_cons _ (bl_same _ (bl_cons _ (bl_same _ (bl_cons _ (bl_same _ (bl_cons _ (bl_fld _ _ h b6))))))))))
  · exact bl_same _ (bl_cons _ (bl_same _ (bl_cons _ (bl_same _ (bl_cons _ (bl_same _ (bl_cons _ (bl_same _ (bl_cons _ (bl_same _ (bl_cons _ (bl_fld _ _ h b7))))))))))))
end Go.Proofs.YtaanjciokdpkmaaDoor
/- Utc, the plain law: the order of times and of their texts. -/
namespace Go.Proofs.YtaanjciokdpkmaaDoor
set_option linter.unusedVariables false
set_option linter.unusedSimpArgs false
set_option linter.unnecessarySimpa false
open Go.Op (bytesLess)
theorem sm_le (y : Int) {a b : Nat} (h : a ≤ b) : sm y a ≤ sm y b := by
  have := sm_mono y a (b - a)
  rwa [show a + (b - a) = b by omega] at this
theorem day_lt_month {y m d : Int} (v : valD y m d) : sm y (m - 1).toNat + d - 1 < sm y m.toNat := by
  obtain ⟨v1, v2, v3, v4, v5, v6⟩ := v
  have := sm_step y (c := m) v3
  rw [show m + 1 - 1 = m by omega] at this
  omega
theorem date_lt {y m d y' m' d' : Int} (v : valD y m d) (v' : valD y' m' d') (h : fst y + sm y (m - 1).toNat + d - 1 < fst y' + sm y' (m' - 1).toNat + d' - 1) : y < y' ∨ y = y' ∧ (m < m' ∨ m = m' ∧ d < d') := by
  have a1 := day_lt_month v
  have a2 := day_lt_month v'
  obtain ⟨v1, v2, v3, v4, v5, v6⟩ := v
  obtain ⟨w1, w2, w3, w4, w5, w6⟩ := v'
  rcases Int.lt_trichotomy y y' with q | q | q
  · exact .inl q
  · subst q
    refine .inr ⟨rfl, ?_⟩
    rcases Int.lt_trichotomy m m' with r | r | r
    · exact .inl r
    · subst r
      exact .inr ⟨rfl, by omega⟩
    · have := sm_le y (a := m'.toNat) (b := (m - 1).toNat) (by omega)
      omega
  · have b1 := sm_le y' (a := m'.toNat) (b := 12) (by omega)
    have b2 := sm_year y'
    have b3 := fst_mono (show y' + 1 ≤ y by omega)
    have b4 := (sm_rng y (m - 1).toNat).1
    omega
theorem fmt_of {ds : List Int} (G : Good ds) {t : Int} (h : 0 ≤ t ∧ t ≤ 9007199254740992) {p : Nat} {b : Bool} (S : Spot ds (t / 1000000) p b) (c : Int) (hc : c = t / 1000000 - p - (if b = true then 1 else 0)) : ∃ y m d hh mm ss us : Nat, F16_d 600 (rowsI (lp ds), t) = some (fmtB y m d hh mm ss us, 0) ∧ (y < 10000 ∧ m < 100 ∧ d < 100 ∧ hh < 100 ∧ mm < 100 ∧ ss < 100 ∧ us < 1000000) ∧ valD y m d ∧ fst y + sm y ((m : Int) - 1).toNat + d - 1 = c / 86400 ∧ (hh : Int) = c % 86400 / 3600 ∧ (mm : Int) = c / 60 % 60 ∧ (ss : Int) = (if b = true then 60 else c % 60) ∧ (us : Int) = t % 1000000 := by
  obtain ⟨p', b', y, m, d, S', v, e, g, r⟩ := civil_ok G h
  obtain ⟨rfl, rfl⟩ := S.uniq S'
  have hb := (S.base G (by omega)).1
  rw [← hc] at r e hb
  have v' := v
  obtain ⟨v1, v2, v3, v4, v5, v6⟩ := v'
  have hl := lenM_rng y m
  obtain ⟨y, rfl⟩ := Int.eq_ofNat_of_zero_le (show 0 ≤ y by omega)
  obtain ⟨m, rfl⟩ := Int.eq_ofNat_of_zero_le (show 0 ≤ m by omega)
  obtain ⟨d, rfl⟩ := Int.eq_ofNat_of_zero_le (show 0 ≤ d by omega)
  obtain ⟨hh, h1⟩ := Int.eq_ofNat_of_zero_le (show 0 ≤ c % 86400 / 3600 by omega)
  obtain ⟨mm, h2⟩ := Int.eq_ofNat_of_zero_le (show 0 ≤ c / 60 % 60 by omega)
  obtain ⟨us, h4⟩ := Int.eq_ofNat_of_zero_le (show 0 ≤ t % 1000000 by omega)
  have es : (if b = true then 60 else (t / 1000000 - (p : Int)) % 60) = (if b = true then 60 else c % 60) := by
    cases b
    · simp at hc; simp [hc]
    · rfl
  rw [es] at r
  obtain ⟨ss, h3⟩ := Int.eq_ofNat_of_zero_le (show 0 ≤ (if b = true then 60 else c % 60) by split <;> omega)
  have h3' : (if b = true then 60 else c % 60) ≤ 60 := by split <;> omega
  rw [h1, h2, h3, h4] at r
  have bd : y < 10000 ∧ m < 100 ∧ d < 100 ∧ hh < 100 ∧ mm < 100 ∧ ss < 100 ∧ us < 1000000 := by omega
  exact ⟨y, m, d, hh, mm, ss, us, format_ok r bd, bd, v, e, h1.symm, h2.symm, h3.symm, h4.symm⟩
theorem Spot.mono {ds : List Int} {x x' : Int} {p p' : Nat} {b b' : Bool} (h : Spot ds x p b) (h' : Spot ds x' p' b') (hx : x ≤ x') : p ≤ p' := by
  rcases Nat.lt_or_ge p' p with q | q
  · have hj : p' < (lp ds).length := by have := h.le; omega
    have := h.lt p' hj q
    have := h'.ge p' hj (Nat.le_refl _)
    omega
  · exact q
/-- Where a leap second is, its day has ended. -/
theorem Spot.edge {ds : List Int} (G : Good ds) {x : Int} {p : Nat} (h : Spot ds x p true) : (x - p - 1) % 86400 = 86399 := by
  obtain ⟨hj, e⟩ := h.on.1 rfl
  obtain ⟨d, d1, d2, d3, d4⟩ := Good.at ds G p hj
  omega
/-- Leap seconds apart, the later of two seconds has the later civil second. -/
theorem Spot.ahead {ds : List Int} (G : Good ds) {x x' : Int} {p p' : Nat} {b b' : Bool} (h : Spot ds x p b) (h' : Spot ds x' p' b') (hx : x < x') : x - p - (if b = true then 1 else 0) < x' - p' - (if b' = true then 1 else 0) ∨ x - p - (if b = true then 1 else 0) = x' - p' - (if b' = true then 1 else 0) ∧ b = false ∧ b' = true := by
  have hm := h.mono h' (by omega)
  -- between the two seconds lie p' - p leap seconds, each a day behind the one before
  have far : ∀ k : Nat, p + k + 1 ≤ p' → x + 86401 * k < x' := by
    intro k hk
    have hj : p + k < (lp ds).length := by have := h'.le; omega
    have h2 := h'.lt (p + k) hj (by omega)
    have h1 := h.ge p (by omega) (Nat.le_refl _)
    have : ∀ q : Nat, (hq : p + q < (lp ds).length) → (lp ds)[p] + 86401 * q ≤ (lp ds)[p + q] := by
      intro q
      induction q with
      | zero => intro hq; simp
      | succ q ih =>
        intro hq
        have i1 := ih (by omega)
        have i2 := lp_inc G (show p + q < p + (q + 1) by omega) hq
        omega
    have := this k hj
    omega
  by_cases hp : p = p'
  · subst hp
    cases b <;> cases b' <;> simp
    · omega
    · omega
    · obtain ⟨hj, e⟩ := h.on.1 rfl
      have := h'.ge p hj (Nat.le_refl _)
      omega
    · obtain ⟨hj, e⟩ := h.on.1 rfl
      have := h'.ge p hj (Nat.le_refl _)
      omega
  · have f1 := far (p' - p - 1) (by omega)
    by_cases h1 : p' = p + 1
    · subst h1
      cases b
      · -- the leap second lies between
        have hj : p < (lp ds).length := by have := h'.le; omega
        have g1 := h.ge p hj (Nat.le_refl _)
        have g2 := h'.lt p hj (by omega)
        have g3 : (lp ds)[p] ≠ x := fun e => by
          have := h.on.2 ⟨hj, e⟩
          cases this
        cases b'
        · simp; omega
        · obtain ⟨hj', e'⟩ := h'.on.1 rfl
          have := lp_inc G (show p < p + 1 by omega) hj'
          simp; omega
      · obtain ⟨hj, e⟩ := h.on.1 rfl
        cases b'
        · simp; omega
        · obtain ⟨hj', e'⟩ := h'.on.1 rfl
          have := lp_inc G (show p < p + 1 by omega) hj'
          simp; omega
    · left
      cases b <;> cases b' <;> simp <;> omega
/-- Texts ascend like the times. -/
theorem text_lt {ds : List Int} (G : Good ds) {s t : Int} (hs : 0 ≤ s) (hst : s < t) (ht : t ≤ 9007199254740992) : ∃ u v, F16_d 600 (rowsI (lp ds), s) = some (u, 0) ∧ F16_d 600 (rowsI (lp ds), t) = some (v, 0) ∧ bytesLess u.toList v.toList = true := by
  obtain ⟨p, b, -, S⟩ := spot_ok G (s / 1000000)
  obtain ⟨p', b', -, S'⟩ := spot_ok G (t / 1000000)
  obtain ⟨y, m, d, hh, mm, ss, us, r, bd, v, e, h1, h2, h3, h4⟩ := fmt_of G ⟨hs, by omega⟩ S _ rfl
  obtain ⟨y', m', d', hh', mm', ss', us', r', bd', v', e', h1', h2', h3', h4'⟩ := fmt_of G ⟨by omega, ht⟩ S' _ rfl
  refine ⟨_, _, r, r', fmt_less bd' ?_⟩
  by_cases hx : s / 1000000 = t / 1000000
  · rw [← hx] at S'
    obtain ⟨rfl, rfl⟩ := S.uniq S'
    rw [← hx] at e' h1' h2' h3'
    have hd : ¬ (fst y + sm y ((m : Int) - 1).toNat + d - 1 < fst y' + sm y' ((m' : Int) - 1).toNat + d' - 1) ∧ ¬ (fst y' + sm y' ((m' : Int) - 1).toNat + d' - 1 < fst y + sm y ((m : Int) - 1).toNat + d - 1) := by omega
    have hy : y = y' ∧ m = m' ∧ d = d' := by
      have k1 := v
      have k2 := v'
      by_cases q : y = y'
      · subst q
        by_cases q2 : m = m'
        · subst q2; exact ⟨rfl, rfl, by omega⟩
        · exfalso
          rcases Nat.lt_or_gt_of_ne q2 with q3 | q3
          · have := day_lt_month v
            have := sm_le y (a := ((m : Int)).toNat) (b := ((m' : Int) - 1).toNat) (by omega)
            have := v'.2.2.2.2.1
            omega
          · have := day_lt_month v'
            have := sm_le y (a := ((m' : Int)).toNat) (b := ((m : Int) - 1).toNat) (by omega)
            have := v.2.2.2.2.1
            omega
      · exfalso
        rcases Nat.lt_or_gt_of_ne q with q3 | q3
        · have a1 := day_lt_month v
          have a2 := sm_le y (a := ((m : Int)).toNat) (b := 12) (by have := v.2.2.2.1; omega)
          have a3 := sm_year (y : Int)
          have a4 := fst_mono (show (y : Int) + 1 ≤ y' by omega)
          have a5 := (sm_rng y' ((m' : Int) - 1).toNat).1
          have := v'.2.2.2.2.1
          omega
        · have a1 := day_lt_month v'
          have a2 := sm_le y' (a := ((m' : Int)).toNat) (b := 12) (by have := v'.2.2.2.1; omega)
          have a3 := sm_year (y' : Int)
          have a4 := fst_mono (show (y' : Int) + 1 ≤ y by omega)
          have a5 := (sm_rng y ((m : Int) - 1).toNat).1
          have := v.2.2.2.2.1
          omega
    obtain ⟨rfl, rfl, rfl⟩ := hy
    have z1 : hh = hh' := by omega
    have z2 : mm = mm' := by omega
    have z3 : ss = ss' := by omega
    have z4 : us < us' := by omega
    exact .inr ⟨rfl, .inr ⟨rfl, .inr ⟨rfl, .inr ⟨z1, .inr ⟨z2, .inr ⟨z3, z4⟩⟩⟩⟩⟩⟩
  · have hA := S.ahead G S' (by omega)
    have hE : b = true → (s / 1000000 - p - (if b = true then 1 else 0)) % 86400 = 86399 := by
      intro hb; subst hb
      simpa using S.edge G
    generalize hc : s / 1000000 - (p : Int) - (if b = true then 1 else 0) = c at *
    generalize hc' : t / 1000000 - (p' : Int) - (if b' = true then 1 else 0) = c' at *
    have c0 := (S.base G (by omega)).1
    rw [hc] at c0
    by_cases hday : c / 86400 < c' / 86400
    · rcases date_lt v v' (by omega) with q | ⟨q, q | ⟨q, q2⟩⟩
      · exact .inl (by omega)
      · exact .inr ⟨by omega, .inl (by omega)⟩
      · exact .inr ⟨by omega, .inr ⟨by omega, .inl (by omega)⟩⟩
    · have hde : c / 86400 = c' / 86400 := by omega
      have n1 : ¬ (fst y' + sm y' ((m' : Int) - 1).toNat + d' - 1 ≠ fst y + sm y ((m : Int) - 1).toNat + d - 1) := by omega
      have hy : y = y' ∧ m = m' ∧ d = d' := by
        by_cases q : y = y'
        · subst q
          by_cases q2 : m = m'
          · subst q2; exact ⟨rfl, rfl, by omega⟩
          · exfalso
            rcases Nat.lt_or_gt_of_ne q2 with q3 | q3
            · have := day_lt_month v
              have := sm_le y (a := ((m : Int)).toNat) (b := ((m' : Int) - 1).toNat) (by omega)
              have := v'.2.2.2.2.1
              omega
            · have := day_lt_month v'
              have := sm_le y (a := ((m' : Int)).toNat) (b := ((m : Int) - 1).toNat) (by omega)
              have := v.2.2.2.2.1
              omega
        · exfalso
          rcases Nat.lt_or_gt_of_ne q with q3 | q3
          · have a1 := day_lt_month v
            have a2 := sm_le y (a := ((m : Int)).toNat) (b := 12) (by have := v.2.2.2.1; omega)
            have a3 := sm_year (y : Int)
            have a4 := fst_mono (show (y : Int) + 1 ≤ y' by omega)
            have a5 := (sm_rng y' ((m' : Int) - 1).toNat).1
            have := v'.2.2.2.2.1
            omega
          · have a1 := day_lt_month v'
            have a2 := sm_le y' (a := ((m' : Int)).toNat) (b := 12) (by have := v'.2.2.2.1; omega)
            have a3 := sm_year (y' : Int)
            have a4 := fst_mono (show (y' : Int) + 1 ≤ y by omega)
            have a5 := (sm_rng y ((m : Int) - 1).toNat).1
            have := v.2.2.2.2.1
            omega
      obtain ⟨rfl, rfl, rfl⟩ := hy
      refine .inr ⟨rfl, .inr ⟨rfl, .inr ⟨rfl, ?_⟩⟩⟩
      rcases hA with hA | ⟨hA, rfl, rfl⟩
      · have hbf : b = false := by
          cases b
          · rfl
          · have := hE rfl; omega
        subst hbf
        have hs' : (ss' : Int) ≥ c' % 60 := by rw [h3']; split <;> omega
        simp only [Bool.false_eq_true, if_false] at h3
        by_cases q1 : hh < hh'
        · exact .inl q1
        · refine .inr ⟨by omega, ?_⟩
          by_cases q2 : mm < mm'
          · exact .inl q2
          · refine .inr ⟨by omega, .inl ?_⟩
            omega
      · subst hA
        simp only [Bool.false_eq_true, if_false, if_true] at h3 h3'
        exact .inr ⟨by omega, .inr ⟨by omega, .inl (by omega)⟩⟩
end Go.Proofs.YtaanjciokdpkmaaDoor
