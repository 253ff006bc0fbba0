/- Utc, the plain law: Days and Date, both packages, without memory. -/
import Derived.Test.YtaanjciokdpkmaaDoorUtB
namespace Go.Proofs.YtaanjciokdpkmaaDoor
set_option linter.unusedVariables false
set_option linter.unusedSimpArgs false
set_option linter.unnecessarySimpa false
theorem days_ok (y m d : Int) : F8_d 600 (y, m, d) = some (dayOf y m d) := by
  simp only [F8_d, FSpec.d, F8_s, in_ok]
  by_cases h1 : 1970 ≤ y ∧ y ≤ 2300
  · by_cases h2 : 1 ≤ m ∧ m ≤ 12
    · by_cases h3 : 1 ≤ d ∧ d ≤ lenM y m
      · have hr := lenM_rng y m
        have hf := fst_rng (y := y) (by omega)
        have e1 : i64 (fst y + d) = fst y + d := i64_id (by omega)
        have e2 : i64 (fst y + d - 1) = fst y + d - 1 := i64_id (by omega)
        have L := days_loop 600 (y := y) (m := m) h1 h2.2 (m - 1).toNat 600 (fst y + d - 1) 1 (by omega) (by omega) (by omega) (by omega)
        have L' : F8_d9 600 (y, m, fst y + d - 1, 1) = some (fst y + sm y (m - 1).toNat + d - 1) := L.trans (by
          show some (fst y + d - 1 + sm y (m - 1).toNat - 0) = _
          congr 1; omega)
        simp only [decide_eq_true h1, decide_eq_true h2, len_ok 600 (show 0 ≤ y by omega) h2, decide_eq_true h3, Bool.not_true, first_ok 600 (y := y) (by omega), e1, e2, L']
        unfold dayOf
        rw [if_pos ⟨h1.1, h1.2, h2.1, h2.2, h3.1, h3.2⟩]
      · simp only [decide_eq_true h1, decide_eq_true h2, len_ok 600 (show 0 ≤ y by omega) h2, decide_eq_false h3, Bool.not_true, Bool.not_false]
        unfold dayOf
        rw [if_neg (fun h => h3 ⟨h.2.2.2.2.1, h.2.2.2.2.2⟩)]
    · simp only [decide_eq_true h1, decide_eq_false h2, Bool.not_true, Bool.not_false]
      unfold dayOf
      rw [if_neg (fun h => h2 ⟨h.2.2.1, h.2.2.2.1⟩)]
  · simp only [decide_eq_false h1, Bool.not_false]
    unfold dayOf
    rw [if_neg (fun h => h1 ⟨h.1, h.2.1⟩)]
theorem rdays_ok (y m d : Int) : F9_d 600 (y, m, d) = some (dayOf y m d) := by
  simp only [F9_d, FSpec.d, F9_s, rin_ok]
  by_cases h1 : 1970 ≤ y ∧ y ≤ 2300
  · by_cases h2 : 1 ≤ m ∧ m ≤ 12
    · by_cases h3 : 1 ≤ d ∧ d ≤ lenM y m
      · have hr := lenM_rng y m
        have hf := fst_rng (y := y) (by omega)
        have e2 : i64 (d - 1) = d - 1 := i64_id (by omega)
        have Y := years_loop 600 (y := y) (m := m) h1 (y - 1970).toNat 600 (d - 1) 1970 (by omega) (by omega) (by omega) (by omega)
        have Y' : F9_d9 600 (y, m, d - 1, 1970) = some (y, m, fst y + d - 1) := Y.trans (by
          rw [fst0]
          congr 3; omega)
        have L := rdays_loop 600 (y := y) (m := m) h1 h2.2 (m - 1).toNat 600 (fst y + d - 1) 1 (by omega) (by omega) (by omega) (by omega)
        have L' : F9_d21 600 (y, m, fst y + d - 1, 1) = some (fst y + sm y (m - 1).toNat + d - 1) := L.trans (by
          show some (fst y + d - 1 + sm y (m - 1).toNat - 0) = _
          congr 1; omega)
        simp only [decide_eq_true h1, decide_eq_true h2, rlen_ok 600 (show 0 ≤ y by omega) h2, decide_eq_true h3, Bool.not_true, e2, Y', L']
        unfold dayOf
        rw [if_pos ⟨h1.1, h1.2, h2.1, h2.2, h3.1, h3.2⟩]
      · simp only [decide_eq_true h1, decide_eq_true h2, rlen_ok 600 (show 0 ≤ y by omega) h2, decide_eq_false h3, Bool.not_true, Bool.not_false]
        unfold dayOf
        rw [if_neg (fun h => h3 ⟨h.2.2.2.2.1, h.2.2.2.2.2⟩)]
    · simp only [decide_eq_true h1, decide_eq_false h2, Bool.not_true, Bool.not_false]
      unfold dayOf
      rw [if_neg (fun h => h2 ⟨h.2.2.1, h.2.2.2.1⟩)]
  · simp only [decide_eq_false h1, Bool.not_false]
    unfold dayOf
    rw [if_neg (fun h => h1 ⟨h.1, h.2.1⟩)]
theorem fst_mono {a b : Int} (h : a ≤ b) : fst a ≤ fst b := by unfold fst; omega
theorem sm_mono (y : Int) : ∀ (a k : Nat), sm y a ≤ sm y (a + k)
  | a, 0 => Int.le_refl _
  | a, k + 1 => by
    have h1 := sm_mono y a k
    have h2 := lenM_rng y (((a + k : Nat) : Int) + 1)
    rw [show a + (k + 1) = (a + k) + 1 by omega]
    simp only [sm]
    omega
theorem year_ex (x : Int) (h0 : 0 ≤ x) : ∀ k : Nat, x < fst (1970 + k) → ∃ y, 1970 ≤ y ∧ y < 1970 + (k : Int) ∧ fst y ≤ x ∧ x < fst (y + 1)
  | 0, h => by rw [show (1970 : Int) + ((0 : Nat) : Int) = 1970 by omega, fst0] at h; omega
  | k + 1, h => by
    by_cases h1 : x < fst (1970 + k)
    · obtain ⟨y, a, b, c, d⟩ := year_ex x h0 k h1
      exact ⟨y, a, by omega, c, d⟩
    · exact ⟨1970 + k, by omega, by omega, by omega, by rw [show (1970 : Int) + k + 1 = 1970 + ((k + 1 : Nat) : Int) by omega]; exact h⟩
theorem month_ex (y v : Int) (h0 : 0 ≤ v) : ∀ k : Nat, v < sm y k → ∃ j : Nat, j < k ∧ sm y j ≤ v ∧ v < sm y (j + 1)
  | 0, h => by simp only [sm] at h; omega
  | k + 1, h => by
    by_cases h1 : v < sm y k
    · obtain ⟨j, a, b, c⟩ := month_ex y v h0 k h1
      exact ⟨j, by omega, b, c⟩
    · exact ⟨k, by omega, by omega, h⟩
theorem date_year (N : Nat) {x y : Int} (hy : 1970 ≤ y ∧ y ≤ 2300) (hx : fst y ≤ x ∧ x < fst (y + 1)) : ∀ (k f : Nat) (c : Int), (k : Int) = y - c → 1970 ≤ c → k < f → (F10_l8 N).L f (x, c) = some (x, y)
  | 0, f, c, hk, hc, hf => by
    obtain ⟨f, rfl⟩ : ∃ f', f = f' + 1 := ⟨f - 1, by omega⟩
    obtain rfl : c = y := by omega
    show (F10_l8 N).b _ _ ((F10_l8 N).L f) some = _
    generalize (F10_l8 N).L f = Lf
    simp only [F10_l8, i64_id (show -9223372036854775808 ≤ c + 1 ∧ c + 1 ≤ 9223372036854775807 by omega), first_ok N (show 1970 ≤ c + 1 ∧ c + 1 ≤ 2301 by omega), decide_eq_false (show ¬ fst (c + 1) ≤ x by omega)]
  | k + 1, f, c, hk, hc, hf => by
    obtain ⟨f, rfl⟩ : ∃ f', f = f' + 1 := ⟨f - 1, by omega⟩
    have hm := fst_mono (show c + 1 ≤ y by omega)
    have r := date_year N hy hx k f (c + 1) (by omega) (by omega) (by omega)
    show (F10_l8 N).b _ _ ((F10_l8 N).L f) some = _
    generalize (F10_l8 N).L f = Lf at r ⊢
    simp only [F10_l8, i64_id (show -9223372036854775808 ≤ c + 1 ∧ c + 1 ≤ 9223372036854775807 by omega), first_ok N (show 1970 ≤ c + 1 ∧ c + 1 ≤ 2301 by omega), decide_eq_true (show fst (c + 1) ≤ x by omega)]
    exact r
theorem rdate_year (N : Nat) {x y : Int} (hy : 1970 ≤ y ∧ y ≤ 2300) (hx : fst y ≤ x ∧ x < fst (y + 1)) : ∀ (k f : Nat) (c : Int), (k : Int) = y - c → 1970 ≤ c → k < f → (F11_l9 N).L f (x - fst c, c) = some (x - fst y, y)
  | 0, f, c, hk, hc, hf => by
    obtain ⟨f, rfl⟩ : ∃ f', f = f' + 1 := ⟨f - 1, by omega⟩
    obtain rfl : c = y := by omega
    have hs := fst_succ c
    show (F11_l9 N).b _ _ ((F11_l9 N).L f) some = _
    generalize (F11_l9 N).L f = Lf
    simp only [F11_l9, rleap_ok N (show 0 ≤ c by omega)]
    cases hl : leapB c
    · simp [hl] at hs
      simp only [decide_eq_true (show x - fst c < 365 by omega)]
    · simp [hl] at hs
      simp only [decide_eq_true (show x - fst c < 366 by omega)]
  | k + 1, f, c, hk, hc, hf => by
    obtain ⟨f, rfl⟩ : ∃ f', f = f' + 1 := ⟨f - 1, by omega⟩
    have hm := fst_mono (show c + 1 ≤ y by omega)
    have hs := fst_succ c
    have h1 := fst_rng (y := c) (by omega)
    have h2 := fst_rng (y := y + 1) (by omega)
    have r := rdate_year N hy hx k f (c + 1) (by omega) (by omega) (by omega)
    have e3 : i64 (c + 1) = c + 1 := i64_id (by omega)
    show (F11_l9 N).b _ _ ((F11_l9 N).L f) some = _
    generalize (F11_l9 N).L f = Lf at r ⊢
    simp only [F11_l9, rleap_ok N (show 0 ≤ c by omega)]
    cases hl : leapB c
    · simp [hl] at hs
      simp only [decide_eq_false (show ¬ x - fst c < 365 by omega), e3]
      rw [i64_id (by omega), show x - fst c - 365 = x - fst (c + 1) by omega]
      exact r
    · simp [hl] at hs
      simp only [decide_eq_false (show ¬ x - fst c < 366 by omega), e3]
      rw [i64_id (by omega), show x - fst c - 366 = x - fst (c + 1) by omega]
      exact r
theorem date_month (N : Nat) {y m r : Int} (hy : 0 ≤ y) (hm : 1 ≤ m ∧ m ≤ 12) (hr : 0 ≤ r ∧ r < lenM y m) : ∀ (k f : Nat) (c v : Int), (k : Int) = m - c → 1 ≤ c → k < f → v = r + sm y (m - 1).toNat - sm y (c - 1).toNat → (F10_l17 N).L f (v, y, c) = some (r, y, m) ∧ (F11_l22 N).L f (v, y, c) = some (r, y, m)
  | 0, f, c, v, hk, hc, hf, hv => by
    obtain ⟨f, rfl⟩ : ∃ f', f = f' + 1 := ⟨f - 1, by omega⟩
    obtain rfl : c = m := by omega
    obtain rfl : v = r := by omega
    constructor
    · show (F10_l17 N).b _ _ ((F10_l17 N).L f) some = _
      generalize (F10_l17 N).L f = Lf
      simp only [F10_l17, len_ok N hy hm, decide_eq_false (show ¬ v ≥ lenM y c by omega)]
    · show (F11_l22 N).b _ _ ((F11_l22 N).L f) some = _
      generalize (F11_l22 N).L f = Lf
      simp only [F11_l22, rlen_ok N hy hm, decide_eq_false (show ¬ v ≥ lenM y c by omega)]
  | k + 1, f, c, v, hk, hc, hf, hv => by
    obtain ⟨f, rfl⟩ : ∃ f', f = f' + 1 := ⟨f - 1, by omega⟩
    have hs := sm_step y hc
    have hmo := sm_mono y (c + 1 - 1).toNat ((m - 1).toNat - (c + 1 - 1).toNat)
    rw [show (c + 1 - 1).toNat + ((m - 1).toNat - (c + 1 - 1).toNat) = (m - 1).toNat by omega] at hmo
    have hb1 := sm_rng y (m - 1).toNat
    have hb2 := sm_rng y (c - 1).toNat
    have hl := lenM_rng y c
    have hl2 := lenM_rng y m
    obtain ⟨r1, r2⟩ := date_month N hy hm hr k f (c + 1) (v - lenM y c) (by omega) (by omega) (by omega) (by omega)
    have e1 : i64 (v - lenM y c) = v - lenM y c := i64_id (by omega)
    have e2 : i64 (c + 1) = c + 1 := i64_id (by omega)
    constructor
    · show (F10_l17 N).b _ _ ((F10_l17 N).L f) some = _
      generalize (F10_l17 N).L f = Lf at r1 ⊢
      simp only [F10_l17, len_ok N hy (show 1 ≤ c ∧ c ≤ 12 by omega), decide_eq_true (show v ≥ lenM y c by omega), e1, e2]
      exact r1
    · show (F11_l22 N).b _ _ ((F11_l22 N).L f) some = _
      generalize (F11_l22 N).L f = Lf at r2 ⊢
      simp only [F11_l22, rlen_ok N hy (show 1 ≤ c ∧ c ≤ 12 by omega), decide_eq_true (show v ≥ lenM y c by omega), e1, e2]
      exact r2
theorem fstL : fst 2301 = 120895 := by decide
theorem last_ok : dayOf 2300 12 31 = (120894, true) := by
  unfold dayOf
  rw [if_pos (by unfold valD; decide)]
  decide
/-- A day's date, in both packages. -/
theorem date_ok {x : Int} (h : 0 ≤ x ∧ x ≤ 120894) : ∃ y m d, F10_d 600 x = some (y, m, d) ∧ F11_d 600 x = some (y, m, d) ∧ valD y m d ∧ fst y + sm y (m - 1).toNat + d - 1 = x := by
  obtain ⟨y, y1, y2, y3, y4⟩ := year_ex x h.1 331 (by rw [show (1970 : Int) + ((331 : Nat) : Int) = 2301 by omega, fstL]; omega)
  have hy := sm_year y
  obtain ⟨j, j1, j2, j3⟩ := month_ex y (x - fst y) (by omega) 12 (by omega)
  have hj : sm y (j + 1) = sm y j + lenM y ((j : Int) + 1) := rfl
  have hl := lenM_rng y ((j : Int) + 1)
  have hf := fst_rng (y := y) (by omega)
  have ej : ((j : Int) + 1 - 1).toNat = j := by omega
  obtain ⟨m1, m2⟩ := date_month 600 (y := y) (m := (j : Int) + 1) (r := x - fst y - sm y j) (by omega) (by omega) (by omega) j 600 1 (x - fst y) (by omega) (by omega) (by omega) (by
    rw [ej]
    show _ = _ - 0
    omega)
  have Y1 : F10_d8 600 (x, 1970) = some (x, y) := date_year 600 (y := y) (by omega) ⟨y3, y4⟩ (y - 1970).toNat 600 1970 (by omega) (by omega) (by omega)
  have Y2 : F11_d9 600 (x, 1970) = some (x - fst y, y) := by
    have := rdate_year 600 (y := y) (by omega) ⟨y3, y4⟩ (y - 1970).toNat 600 1970 (by omega) (by omega) (by omega)
    rw [fst0, show x - 0 = x by omega] at this
    exact this
  have M1 : F10_d17 600 (x - fst y, y, 1) = some (x - fst y - sm y j, y, (j : Int) + 1) := m1
  have M2 : F11_d22 600 (x - fst y, y, 1) = some (x - fst y - sm y j, y, (j : Int) + 1) := m2
  have e1 : i64 (120895 - 1) = 120894 := by decide
  have e2 : i64 (x - fst y) = x - fst y := i64_id (by omega)
  have hb := sm_rng y j
  have e3 : i64 (x - fst y - sm y j + 1) = x - fst y - sm y j + 1 := i64_id (by omega)
  refine ⟨y, (j : Int) + 1, x - fst y - sm y j + 1, ?_, ?_, ⟨y1, by omega, by omega, by omega, by omega, by omega⟩, by rw [ej]; omega⟩
  · simp only [F10_d, FSpec.d, F10_s, first_ok 600 (show (1970 : Int) ≤ 2301 ∧ (2301 : Int) ≤ 2301 by omega), fstL, e1, in_ok, decide_eq_true h, Bool.not_true, Y1, first_ok 600 (show 1970 ≤ y ∧ y ≤ 2301 by omega), e2, M1, e3]
  · simp only [F11_d, FSpec.d, F11_s, rdays_ok, last_ok, rin_ok, decide_eq_true h, Bool.not_true, Y2, M2, e3]
theorem date_out {x : Int} (h : ¬ (0 ≤ x ∧ x ≤ 120894)) : F10_d 600 x = some (0, 0, 0) ∧ F11_d 600 x = some (0, 0, 0) := by
  have e1 : i64 (120895 - 1) = 120894 := by decide
  constructor
  · simp only [F10_d, FSpec.d, F10_s, first_ok 600 (show (1970 : Int) ≤ 2301 ∧ (2301 : Int) ≤ 2301 by omega), fstL, e1, in_ok, decide_eq_false h, Bool.not_false]
  · simp only [F11_d, FSpec.d, F11_s, rdays_ok, last_ok, rin_ok, decide_eq_false h, Bool.not_false]
end Go.Proofs.YtaanjciokdpkmaaDoor
