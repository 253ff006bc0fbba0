/- Utc, the plain law: days and dates, without memory. -/
import Derived.Test.YtaanjciokdpkmaaDoorUtA
namespace Go.Proofs.YtaanjciokdpkmaaDoor
set_option linter.unusedVariables false
set_option linter.unusedSimpArgs false
set_option linter.unnecessarySimpa false
def valD (y m d : Int) : Prop := 1970 ≤ y ∧ y ≤ 2300 ∧ 1 ≤ m ∧ m ≤ 12 ∧ 1 ≤ d ∧ d ≤ lenM y m
open Classical in
noncomputable def dayOf (y m d : Int) : Int × Bool := if valD y m d then (fst y + sm y (m - 1).toNat + d - 1, true) else (0, false)
theorem sm_step (y : Int) {c : Int} (h : 1 ≤ c) : sm y (c + 1 - 1).toNat = sm y (c - 1).toNat + lenM y c := by
  obtain ⟨k, rfl⟩ : ∃ k : Nat, c = (k : Int) + 1 := ⟨(c - 1).toNat, by omega⟩
  rw [show ((k : Int) + 1 + 1 - 1).toNat = k + 1 by omega, show ((k : Int) + 1 - 1).toNat = k by omega]
  rfl
theorem days_loop (N : Nat) {y m : Int} (hy : 1970 ≤ y ∧ y ≤ 2300) (hm : m ≤ 12) : ∀ (k f : Nat) (n c : Int), (k : Int) = m - c → 1 ≤ c → k < f → 0 ≤ n ∧ n ≤ 300000 + 31 * c → (F8_l9 N).L f (y, m, n, c) = some (n + sm y (m - 1).toNat - sm y (c - 1).toNat)
  | 0, f, n, c, hk, hc, hf, hn => by
    obtain ⟨f, rfl⟩ : ∃ f', f = f' + 1 := ⟨f - 1, by omega⟩
    obtain rfl : c = m := by omega
    show (F8_l9 N).b _ _ ((F8_l9 N).L f) some = _
    simp only [F8_l9]
    have : decide (c < c) = false := by simp
    rw [this]
    show some n = _
    congr 1; omega
  | k + 1, f, n, c, hk, hc, hf, hn => by
    obtain ⟨f, rfl⟩ : ∃ f', f = f' + 1 := ⟨f - 1, by omega⟩
    have hr := lenM_rng y c
    have r := days_loop N hy hm k f (n + lenM y c) (c + 1) (by omega) (by omega) (by omega) (by omega)
    show (F8_l9 N).b _ _ ((F8_l9 N).L f) some = _
    generalize (F8_l9 N).L f = Lf at r ⊢
    simp only [F8_l9, decide_eq_true (show c < m by omega), len_ok N (show 0 ≤ y by omega) (show 1 ≤ c ∧ c ≤ 12 by omega), i64_id (show -9223372036854775808 ≤ n + lenM y c ∧ n + lenM y c ≤ 9223372036854775807 by omega), i64_id (show -9223372036854775808 ≤ c + 1 ∧ c + 1 ≤ 9223372036854775807 by omega)]
    refine r.trans ?_
    rw [sm_step y hc]
    congr 1; omega
theorem rdays_loop (N : Nat) {y m : Int} (hy : 1970 ≤ y ∧ y ≤ 2300) (hm : m ≤ 12) : ∀ (k f : Nat) (n c : Int), (k : Int) = m - c → 1 ≤ c → k < f → 0 ≤ n ∧ n ≤ 300000 + 31 * c → (F9_l21 N).L f (y, m, n, c) = some (n + sm y (m - 1).toNat - sm y (c - 1).toNat)
  | 0, f, n, c, hk, hc, hf, hn => by
    obtain ⟨f, rfl⟩ : ∃ f', f = f' + 1 := ⟨f - 1, by omega⟩
    obtain rfl : c = m := by omega
    show (F9_l21 N).b _ _ ((F9_l21 N).L f) some = _
    simp only [F9_l21]
    have : decide (c < c) = false := by simp
    rw [this]
    show some n = _
    congr 1; omega
  | k + 1, f, n, c, hk, hc, hf, hn => by
    obtain ⟨f, rfl⟩ : ∃ f', f = f' + 1 := ⟨f - 1, by omega⟩
    have hr := lenM_rng y c
    have r := rdays_loop N hy hm k f (n + lenM y c) (c + 1) (by omega) (by omega) (by omega) (by omega)
    show (F9_l21 N).b _ _ ((F9_l21 N).L f) some = _
    generalize (F9_l21 N).L f = Lf at r ⊢
    simp only [F9_l21, decide_eq_true (show c < m by omega), rlen_ok N (show 0 ≤ y by omega) (show 1 ≤ c ∧ c ≤ 12 by omega), i64_id (show -9223372036854775808 ≤ n + lenM y c ∧ n + lenM y c ≤ 9223372036854775807 by omega), i64_id (show -9223372036854775808 ≤ c + 1 ∧ c + 1 ≤ 9223372036854775807 by omega)]
    refine r.trans ?_
    rw [sm_step y hc]
    congr 1; omega
theorem fst0 : fst 1970 = 0 := by decide
theorem years_loop (N : Nat) {y m : Int} (hy : 1970 ≤ y ∧ y ≤ 2300) : ∀ (k f : Nat) (n c : Int), (k : Int) = y - c → 1970 ≤ c → k < f → 0 ≤ n ∧ n ≤ 366 * (c - 1969) → (F9_l9 N).L f (y, m, n, c) = some (y, m, n + fst y - fst c)
  | 0, f, n, c, hk, hc, hf, hn => by
    obtain ⟨f, rfl⟩ : ∃ f', f = f' + 1 := ⟨f - 1, by omega⟩
    obtain rfl : c = y := by omega
    show (F9_l9 N).b _ _ ((F9_l9 N).L f) some = _
    simp only [F9_l9]
    have : decide (c < c) = false := by simp
    rw [this]
    show some (c, m, n) = _
    rw [show n + fst c - fst c = n by omega]
  | k + 1, f, n, c, hk, hc, hf, hn => by
    obtain ⟨f, rfl⟩ : ∃ f', f = f' + 1 := ⟨f - 1, by omega⟩
    have hs := fst_succ c
    have r := years_loop N (m := m) hy k f (n + 365 + (if leapB c = true then 1 else 0)) (c + 1) (by omega) (by omega) (by omega) (by split <;> omega)
    show (F9_l9 N).b _ _ ((F9_l9 N).L f) some = _
    generalize (F9_l9 N).L f = Lf at r ⊢
    simp only [F9_l9, decide_eq_true (show c < y by omega), rleap_ok N (show 0 ≤ c by omega)]
    have e1 : i64 (n + 365) = n + 365 := i64_id (by omega)
    have e2 : i64 (n + 365 + 1) = n + 365 + 1 := i64_id (by omega)
    have e3 : i64 (c + 1) = c + 1 := i64_id (by omega)
    cases hl : leapB c
    · simp only [hl] at r hs
      simp only [e1, e3]
      refine (show Lf (y, m, n + 365, c + 1) = _ from by simpa using r).trans ?_
      simp at hs
      rw [hs]
      congr 3; omega
    · simp only [hl] at r hs
      simp only [e1, e2, e3]
      refine (show Lf (y, m, n + 365 + 1, c + 1) = _ from by simpa using r).trans ?_
      simp at hs
      rw [hs]
      congr 3; omega
end Go.Proofs.YtaanjciokdpkmaaDoor
