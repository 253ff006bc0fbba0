/- Utc, the plain law: times are found again (UtcBack). -/
import Derived.Test.YtaanjciokdpkmaaDoorUtQ
import Derived.Test.YtaanjciokdpkmaaDoorUtV
namespace Go.Proofs.YtaanjciokdpkmaaDoor
open Go.RowKit
set_option linter.unusedVariables false
set_option linter.unusedSimpArgs false
set_option linter.unnecessarySimpa false
theorem fmt_civ {ds : List Int} (G : Good ds) {t : Int} (h : 0 ≤ t ∧ t ≤ 9007199254740992) {p : Nat} {b : Bool} (S : Spot ds (t / 1000000) p b) (c : Int) (hc : c = t / 1000000 - p - (if b = true then 1 else 0)) : ∃ y m d hh mm ss us : Nat, F16_d 600 (rowsI (lp ds), t) = some (fmtB y m d hh mm ss us, 0) ∧ F18_d 600 (rowsI (lp ds), t) = some ((y : Int), (m : Int), (d : Int), (hh : Int), (mm : Int), (ss : Int), (us : Int), 0) ∧ (y < 10000 ∧ m < 100 ∧ d < 100 ∧ hh < 100 ∧ mm < 100 ∧ ss < 100 ∧ us < 1000000) ∧ valD y m d ∧ fst y + sm y ((m : Int) - 1).toNat + d - 1 = c / 86400 ∧ (hh : Int) = c % 86400 / 3600 ∧ (mm : Int) = c / 60 % 60 ∧ (ss : Int) = (if b = true then 60 else c % 60) ∧ (us : Int) = t % 1000000 := by
  obtain ⟨p', b', y, m, d, S', v, e, g, r⟩ := civil_ok G h
  obtain ⟨rfl, rfl⟩ := S.uniq S'
  have hb := (S.base G (by omega)).1
  rw [← hc] at r e hb
  have v' := v
  obtain ⟨v1, v2, v3, v4, v5, v6⟩ := v'
  have hl := lenM_rng y m
  obtain ⟨y, rfl⟩ := Int.eq_ofNat_of_zero_le (show 0 ≤ y by omega)
  obtain ⟨m, rfl⟩ := Int.eq_ofNat_of_zero_le (show 0 ≤ m by omega)
  obtain ⟨d, rfl⟩ := Int.eq_ofNat_of_zero_le (show 0 ≤ d by omega)
  obtain ⟨hh, h1⟩ := Int.eq_ofNat_of_zero_le (show 0 ≤ c % 86400 / 3600 by omega)
  obtain ⟨mm, h2⟩ := Int.eq_ofNat_of_zero_le (show 0 ≤ c / 60 % 60 by omega)
  obtain ⟨us, h4⟩ := Int.eq_ofNat_of_zero_le (show 0 ≤ t % 1000000 by omega)
  have es : (if b = true then 60 else (t / 1000000 - (p : Int)) % 60) = (if b = true then 60 else c % 60) := by
    cases b
    · simp at hc; simp [hc]
    · rfl
  rw [es] at r
  obtain ⟨ss, h3⟩ := Int.eq_ofNat_of_zero_le (show 0 ≤ (if b = true then 60 else c % 60) by split <;> omega)
  have h3' : (if b = true then 60 else c % 60) ≤ 60 := by split <;> omega
  rw [h1, h2, h3, h4] at r
  have bd : y < 10000 ∧ m < 100 ∧ d < 100 ∧ hh < 100 ∧ mm < 100 ∧ ss < 100 ∧ us < 1000000 := by omega
  exact ⟨y, m, d, hh, mm, ss, us, format_ok r bd, r, bd, v, e, h1.symm, h2.symm, h3.symm, h4.symm⟩
/-- The leap seconds up to a second are counted. -/
theorem from_loop {ds : List Int} (G : Good ds) {s : Int} {m : Nat} (hm : m ≤ (lp ds).length) (hin : ∀ q (h : q < (lp ds).length), q < m → (lp ds)[q] - (q : Int) ≤ s) (hout : ∀ h : m < (lp ds).length, s < (lp ds)[m] - (m : Int)) (r : Int × Int × Int × Int × Int × Int × Int) : ∀ (k f i : Nat), i + k = m → k < f → (F23_l14 600).L f (rowsI (lp ds), s, (i : Int), r) = some (rowsI (lp ds), s, (m : Int), r)
  | 0, f, i, hk, hf => by
    have hl := G.len
    rw [← lp_len] at hl
    obtain ⟨f, rfl⟩ : ∃ f', f = f' + 1 := ⟨f - 1, by omega⟩
    obtain rfl : i = m := by omega
    show (F23_l14 600).b _ _ ((F23_l14 600).L f) some = _
    generalize (F23_l14 600).L f = Lf
    by_cases hlt : i < (lp ds).length
    · have h1 := hout hlt
      obtain ⟨d, d1, d2, d3, d4⟩ := Good.at ds G i hlt
      have hr := rowsI_get (lp ds) i hlt
      have e1 : i64 ((lp ds)[i] - (i : Int)) = (lp ds)[i] - (i : Int) := i64_id (by omega)
      simp only [F23_l14, rowsI_len, decide_eq_true (show (i : Int) < ((lp ds).length : Int) by omega), show (0 : Int) ≤ (i : Int) by omega, if_true, Int.toNat_natCast, hr, List.getElem?_cons_zero, e1, decide_eq_false (show ¬ (lp ds)[i] - (i : Int) ≤ s by omega)]
    · simp only [F23_l14, rowsI_len, decide_eq_false (show ¬ (i : Int) < ((lp ds).length : Int) by omega)]
  | k + 1, f, i, hk, hf => by
    have hl := G.len
    rw [← lp_len] at hl
    obtain ⟨f, rfl⟩ : ∃ f', f = f' + 1 := ⟨f - 1, by omega⟩
    have ih := from_loop G hm hin hout r k f (i + 1) (by omega) (by omega)
    show (F23_l14 600).b _ _ ((F23_l14 600).L f) some = _
    generalize (F23_l14 600).L f = Lf at ih ⊢
    have hlt : i < (lp ds).length := by omega
    have h1 := hin i hlt (by omega)
    obtain ⟨d, d1, d2, d3, d4⟩ := Good.at ds G i hlt
    have hr := rowsI_get (lp ds) i hlt
    have e1 : i64 ((lp ds)[i] - (i : Int)) = (lp ds)[i] - (i : Int) := i64_id (by omega)
    have e2 : i64 ((i : Int) + 1) = ((i + 1 : Nat) : Int) := by rw [i64_id (by omega)]; omega
    simp only [F23_l14, rowsI_len, decide_eq_true (show (i : Int) < ((lp ds).length : Int) by omega), show (0 : Int) ≤ (i : Int) by omega, if_true, Int.toNat_natCast, hr, List.getElem?_cons_zero, e1, decide_eq_true h1, e2]
    exact ih
theorem days_val {y m d : Int} (v : valD y m d) : F8_d 600 (y, m, d) = some (fst y + sm y (m - 1).toNat + d - 1, true) := by
  rw [days_ok]
  unfold dayOf
  rw [if_pos v]
/-- A civil time leads back to its time. -/
theorem from_ok {ds : List Int} (G : Good ds) {t : Int} (h : 0 ≤ t ∧ t ≤ 9007199254740992) {p : Nat} {b : Bool} (S : Spot ds (t / 1000000) p b) {c : Int} (hc : c = t / 1000000 - p - (if b = true then 1 else 0)) {y m d hh mm ss us : Int} (v : valD y m d) (e : fst y + sm y (m - 1).toNat + d - 1 = c / 86400) (h1 : hh = c % 86400 / 3600) (h2 : mm = c / 60 % 60) (h3 : ss = if b = true then 60 else c % 60) (h4 : us = t % 1000000) : F23_d 600 (rowsI (lp ds), y, m, d, hh, mm, ss, us) = some (t, 0) := by
  have hb := (S.base G (by omega))
  rw [← hc] at hb
  have hl := G.len
  rw [← lp_len] at hl
  have hp := S.le
  obtain ⟨x, hx⟩ : ∃ x, t / 1000000 = x := ⟨_, rfl⟩
  rw [hx] at S hc
  have D := days_val v
  rw [e] at D
  have hcu : c ≤ 9007199255 := by split at hc <;> omega
  have e0 : i64 (c / 86400 * 86400) = c / 86400 * 86400 := i64_id (by omega)
  have e1 : i64 (hh * 3600) = hh * 3600 := i64_id (by omega)
  have e2 : i64 (c / 86400 * 86400 + hh * 3600) = c / 86400 * 86400 + hh * 3600 := i64_id (by omega)
  have e3 : i64 (mm * 60) = mm * 60 := i64_id (by omega)
  have e4 : i64 (c / 86400 * 86400 + hh * 3600 + mm * 60) = c / 86400 * 86400 + hh * 3600 + mm * 60 := i64_id (by omega)
  have hss : 0 ≤ ss ∧ ss ≤ 60 := by split at h3 <;> omega
  have I1 : F34_d 600 (hh, 0, 23) = some true := by rw [in_ok, decide_eq_true (by omega)]
  have I2 : F34_d 600 (mm, 0, 59) = some true := by rw [in_ok, decide_eq_true (by omega)]
  have I3 : F34_d 600 (ss, 0, 60) = some true := by rw [in_ok, decide_eq_true hss]
  have I4 : F34_d 600 (us, 0, 999999) = some true := by rw [in_ok, decide_eq_true (by omega)]
  cases b
  · simp only [Bool.false_eq_true, if_false] at hc h3
    have e5 : i64 (c / 86400 * 86400 + hh * 3600 + mm * 60 + ss) = c := by rw [i64_id (by omega)]; omega
    have L : F23_d14 600 (rowsI (lp ds), c, 0, y, m, d, hh, mm, ss, us) = some (rowsI (lp ds), c, (p : Int), y, m, d, hh, mm, ss, us) := from_loop G hp (fun q hq hqp => by
      have r1 := S.lt q hq hqp
      by_cases hqe : q = p - 1
      · omega
      · have hp1 : p - 1 < (lp ds).length := by omega
        have r2 := S.lt (p - 1) hp1 (by omega)
        have r3 := lp_inc G (show q < p - 1 by omega) hp1
        omega) (fun hq => by
      have r1 := S.ge p hq (Nat.le_refl _)
      have r2 : (lp ds)[p] ≠ x := fun e => by
        have := S.on.2 ⟨hq, e⟩
        cases this
      omega) (y, m, d, hh, mm, ss, us) p 600 0 (by omega) (by omega)
    have e6 : i64 (c + (p : Int)) = c + p := i64_id (by omega)
    have e7 : i64 ((c + (p : Int)) * 1000000) = (c + p) * 1000000 := i64_id (by omega)
    have e8 : i64 ((c + (p : Int)) * 1000000 + us) = t := by rw [i64_id (by omega)]; omega
    have z : (ss == 60) = false := by simp; omega
    simp only [F23_d, FSpec.d, F23_s, valid_ok G, Bool.not_true, D, I1, I2, I3, I4, e0, e1, e2, e3, e4, e5, L, z, e6, e7, e8, decide_eq_false (show ¬ t > 9007199254740992 by omega)]
  · simp only [if_true] at hc h3
    subst h3
    obtain ⟨hj, ej⟩ := S.on.1 rfl
    have ed := S.edge G
    have e5 : i64 (c / 86400 * 86400 + hh * 3600 + mm * 60 + 60) = c + 1 := by rw [i64_id (by omega)]; omega
    have L : F23_d14 600 (rowsI (lp ds), c + 1, 0, y, m, d, hh, mm, 60, us) = some (rowsI (lp ds), c + 1, ((p + 1 : Nat) : Int), y, m, d, hh, mm, 60, us) := from_loop G (by omega) (fun q hq hqp => by
      by_cases hqe : q = p
      · subst hqe; omega
      · have r3 := lp_inc G (show q < p by omega) hj
        omega) (fun hq => by
      have r3 := lp_inc G (show p < p + 1 by omega) hq
      omega) (y, m, d, hh, mm, 60, us) (p + 1) 600 0 (by omega) (by omega)
    have hr := rowsI_get (lp ds) p hj
    have e9 : i64 (((p + 1 : Nat) : Int) - 1) = (p : Int) := by rw [i64_id (by omega)]; omega
    have e10 : i64 ((lp ds)[p] - (p : Int)) = c + 1 := by rw [i64_id (by omega)]; omega
    have e6 : i64 (c + 1 + (p : Int)) = c + 1 + p := i64_id (by omega)
    have e7 : i64 ((c + 1 + (p : Int)) * 1000000) = (c + 1 + p) * 1000000 := i64_id (by omega)
    have e8 : i64 ((c + 1 + (p : Int)) * 1000000 + us) = t := by rw [i64_id (by omega)]; omega
    have z : (((p + 1 : Nat) : Int) == 0) = false := by simp; omega
    have z2 : (c + 1 != c + 1) = false := by simp
    simp only [F23_d, FSpec.d, F23_s, valid_ok G, Bool.not_true, D, I1, I2, I3, I4, e0, e1, e2, e3, e4, e5, L, show ((60 : Int) == 60) = true from rfl, z, e9, show (0 : Int) ≤ (p : Int) by omega, if_true, Int.toNat_natCast, hr, List.getElem?_cons_zero, e10, z2, e6, e7, e8, decide_eq_false (show ¬ t > 9007199254740992 by omega)]
end Go.Proofs.YtaanjciokdpkmaaDoor
