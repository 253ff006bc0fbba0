/- Utc, the plain law: the order of times and of their texts. -/
import Derived.Test.YtaanjciokdpkmaaDoorUtO
namespace Go.Proofs.YtaanjciokdpkmaaDoor
set_option linter.unusedVariables false
set_option linter.unusedSimpArgs false
set_option linter.unnecessarySimpa false
open Go.Op (bytesLess)
theorem sm_le (y : Int) {a b : Nat} (h : a ≤ b) : sm y a ≤ sm y b := by
  have := sm_mono y a (b - a)
  rwa [show a + (b - a) = b by omega] at this
theorem day_lt_month {y m d : Int} (v : valD y m d) : sm y (m - 1).toNat + d - 1 < sm y m.toNat := by
  obtain ⟨v1, v2, v3, v4, v5, v6⟩ := v
  have := sm_step y (c := m) v3
  rw [show m + 1 - 1 = m by omega] at this
  omega
theorem date_lt {y m d y' m' d' : Int} (v : valD y m d) (v' : valD y' m' d') (h : fst y + sm y (m - 1).toNat + d - 1 < fst y' + sm y' (m' - 1).toNat + d' - 1) : y < y' ∨ y = y' ∧ (m < m' ∨ m = m' ∧ d < d') := by
  have a1 := day_lt_month v
  have a2 := day_lt_month v'
  obtain ⟨v1, v2, v3, v4, v5, v6⟩ := v
  obtain ⟨w1, w2, w3, w4, w5, w6⟩ := v'
  rcases Int.lt_trichotomy y y' with q | q | q
  · exact .inl q
  · subst q
    refine .inr ⟨rfl, ?_⟩
    rcases Int.lt_trichotomy m m' with r | r | r
    · exact .inl r
    · subst r
      exact .inr ⟨rfl, by omega⟩
    · have := sm_le y (a := m'.toNat) (b := (m - 1).toNat) (by omega)
      omega
  · have b1 := sm_le y' (a := m'.toNat) (b := 12) (by omega)
    have b2 := sm_year y'
    have b3 := fst_mono (show y' + 1 ≤ y by omega)
    have b4 := (sm_rng y (m - 1).toNat).1
    omega
theorem fmt_of {ds : List Int} (G : Good ds) {t : Int} (h : 0 ≤ t ∧ t ≤ 9007199254740992) {p : Nat} {b : Bool} (S : Spot ds (t / 1000000) p b) (c : Int) (hc : c = t / 1000000 - p - (if b = true then 1 else 0)) : ∃ y m d hh mm ss us : Nat, F16_d 600 (rowsI (lp ds), t) = some (fmtB y m d hh mm ss us, 0) ∧ (y < 10000 ∧ m < 100 ∧ d < 100 ∧ hh < 100 ∧ mm < 100 ∧ ss < 100 ∧ us < 1000000) ∧ valD y m d ∧ fst y + sm y ((m : Int) - 1).toNat + d - 1 = c / 86400 ∧ (hh : Int) = c % 86400 / 3600 ∧ (mm : Int) = c / 60 % 60 ∧ (ss : Int) = (if b = true then 60 else c % 60) ∧ (us : Int) = t % 1000000 := by
  obtain ⟨p', b', y, m, d, S', v, e, g, r⟩ := civil_ok G h
  obtain ⟨rfl, rfl⟩ := S.uniq S'
  have hb := (S.base G (by omega)).1
  rw [← hc] at r e hb
  have v' := v
  obtain ⟨v1, v2, v3, v4, v5, v6⟩ := v'
  have hl := lenM_rng y m
  obtain ⟨y, rfl⟩ := Int.eq_ofNat_of_zero_le (show 0 ≤ y by omega)
  obtain ⟨m, rfl⟩ := Int.eq_ofNat_of_zero_le (show 0 ≤ m by omega)
  obtain ⟨d, rfl⟩ := Int.eq_ofNat_of_zero_le (show 0 ≤ d by omega)
  obtain ⟨hh, h1⟩ := Int.eq_ofNat_of_zero_le (show 0 ≤ c % 86400 / 3600 by omega)
  obtain ⟨mm, h2⟩ := Int.eq_ofNat_of_zero_le (show 0 ≤ c / 60 % 60 by omega)
  obtain ⟨us, h4⟩ := Int.eq_ofNat_of_zero_le (show 0 ≤ t % 1000000 by omega)
  have es : (if b = true then 60 else (t / 1000000 - (p : Int)) % 60) = (if b = true then 60 else c % 60) := by
    cases b
    · simp at hc; simp [hc]
    · rfl
  rw [es] at r
  obtain ⟨ss, h3⟩ := Int.eq_ofNat_of_zero_le (show 0 ≤ (if b = true then 60 else c % 60) by split <;> omega)
  have h3' : (if b = true then 60 else c % 60) ≤ 60 := by split <;> omega
  rw [h1, h2, h3, h4] at r
  have bd : y < 10000 ∧ m < 100 ∧ d < 100 ∧ hh < 100 ∧ mm < 100 ∧ ss < 100 ∧ us < 1000000 := by omega
  exact ⟨y, m, d, hh, mm, ss, us, format_ok r bd, bd, v, e, h1.symm, h2.symm, h3.symm, h4.symm⟩
theorem Spot.mono {ds : List Int} {x x' : Int} {p p' : Nat} {b b' : Bool} (h : Spot ds x p b) (h' : Spot ds x' p' b') (hx : x ≤ x') : p ≤ p' := by
  rcases Nat.lt_or_ge p' p with q | q
  · have hj : p' < (lp ds).length := by have := h.le; omega
    have := h.lt p' hj q
    have := h'.ge p' hj (Nat.le_refl _)
    omega
  · exact q
/-- Where a leap second is, its day has ended. -/
theorem Spot.edge {ds : List Int} (G : Good ds) {x : Int} {p : Nat} (h : Spot ds x p true) : (x - p - 1) % 86400 = 86399 := by
  obtain ⟨hj, e⟩ := h.on.1 rfl
  obtain ⟨d, d1, d2, d3, d4⟩ := Good.at ds G p hj
  omega
/-- Leap seconds apart, the later of two seconds has the later civil second. -/
theorem Spot.ahead {ds : List Int} (G : Good ds) {x x' : Int} {p p' : Nat} {b b' : Bool} (h : Spot ds x p b) (h' : Spot ds x' p' b') (hx : x < x') : x - p - (if b = true then 1 else 0) < x' - p' - (if b' = true then 1 else 0) ∨ x - p - (if b = true then 1 else 0) = x' - p' - (if b' = true then 1 else 0) ∧ b = false ∧ b' = true := by
  have hm := h.mono h' (by omega)
  -- between the two seconds lie p' - p leap seconds, each a day behind the one before
  have far : ∀ k : Nat, p + k + 1 ≤ p' → x + 86401 * k < x' := by
    intro k hk
    have hj : p + k < (lp ds).length := by have := h'.le; omega
    have h2 := h'.lt (p + k) hj (by omega)
    have h1 := h.ge p (by omega) (Nat.le_refl _)
    have : ∀ q : Nat, (hq : p + q < (lp ds).length) → (lp ds)[p] + 86401 * q ≤ (lp ds)[p + q] := by
      intro q
      induction q with
      | zero => intro hq; simp
      | succ q ih =>
        intro hq
        have i1 := ih (by omega)
        have i2 := lp_inc G (show p + q < p + (q + 1) by omega) hq
        omega
    have := this k hj
    omega
  by_cases hp : p = p'
  · subst hp
    cases b <;> cases b' <;> simp
    · omega
    · omega
    · obtain ⟨hj, e⟩ := h.on.1 rfl
      have := h'.ge p hj (Nat.le_refl _)
      omega
    · obtain ⟨hj, e⟩ := h.on.1 rfl
      have := h'.ge p hj (Nat.le_refl _)
      omega
  · have f1 := far (p' - p - 1) (by omega)
    by_cases h1 : p' = p + 1
    · subst h1
      cases b
      · -- the leap second lies between
        have hj : p < (lp ds).length := by have := h'.le; omega
        have g1 := h.ge p hj (Nat.le_refl _)
        have g2 := h'.lt p hj (by omega)
        have g3 : (lp ds)[p] ≠ x := fun e => by
          have := h.on.2 ⟨hj, e⟩
          cases this
        cases b'
        · simp; omega
        · obtain ⟨hj', e'⟩ := h'.on.1 rfl
          have := lp_inc G (show p < p + 1 by omega) hj'
          simp; omega
      · obtain ⟨hj, e⟩ := h.on.1 rfl
        cases b'
        · simp; omega
        · obtain ⟨hj', e'⟩ := h'.on.1 rfl
          have := lp_inc G (show p < p + 1 by omega) hj'
          simp; omega
    · left
      cases b <;> cases b' <;> simp <;> omega
/-- Texts ascend like the times. -/
theorem text_lt {ds : List Int} (G : Good ds) {s t : Int} (hs : 0 ≤ s) (hst : s < t) (ht : t ≤ 9007199254740992) : ∃ u v, F16_d 600 (rowsI (lp ds), s) = some (u, 0) ∧ F16_d 600 (rowsI (lp ds), t) = some (v, 0) ∧ bytesLess u.toList v.toList = true := by
  obtain ⟨p, b, -, S⟩ := spot_ok G (s / 1000000)
  obtain ⟨p', b', -, S'⟩ := spot_ok G (t / 1000000)
  obtain ⟨y, m, d, hh, mm, ss, us, r, bd, v, e, h1, h2, h3, h4⟩ := fmt_of G ⟨hs, by omega⟩ S _ rfl
  obtain ⟨y', m', d', hh', mm', ss', us', r', bd', v', e', h1', h2', h3', h4'⟩ := fmt_of G ⟨by omega, ht⟩ S' _ rfl
  refine ⟨_, _, r, r', fmt_less bd' ?_⟩
  by_cases hx : s / 1000000 = t / 1000000
  · rw [← hx] at S'
    obtain ⟨rfl, rfl⟩ := S.uniq S'
    rw [← hx] at e' h1' h2' h3'
    have hd : ¬ (fst y + sm y ((m : Int) - 1).toNat + d - 1 < fst y' + sm y' ((m' : Int) - 1).toNat + d' - 1) ∧ ¬ (fst y' + sm y' ((m' : Int) - 1).toNat + d' - 1 < fst y + sm y ((m : Int) - 1).toNat + d - 1) := by omega
    have hy : y = y' ∧ m = m' ∧ d = d' := by
      have k1 := v
      have k2 := v'
      by_cases q : y = y'
      · subst q
        by_cases q2 : m = m'
        · subst q2; exact ⟨rfl, rfl, by omega⟩
        · exfalso
          rcases Nat.lt_or_gt_of_ne q2 with q3 | q3
          · have := day_lt_month v
            have := sm_le y (a := ((m : Int)).toNat) (b := ((m' : Int) - 1).toNat) (by omega)
            have := v'.2.2.2.2.1
            omega
          · have := day_lt_month v'
            have := sm_le y (a := ((m' : Int)).toNat) (b := ((m : Int) - 1).toNat) (by omega)
            have := v.2.2.2.2.1
            omega
      · exfalso
        rcases Nat.lt_or_gt_of_ne q with q3 | q3
        · have a1 := day_lt_month v
          have a2 := sm_le y (a := ((m : Int)).toNat) (b := 12) (by have := v.2.2.2.1; omega)
          have a3 := sm_year (y : Int)
          have a4 := fst_mono (show (y : Int) + 1 ≤ y' by omega)
          have a5 := (sm_rng y' ((m' : Int) - 1).toNat).1
          have := v'.2.2.2.2.1
          omega
        · have a1 := day_lt_month v'
          have a2 := sm_le y' (a := ((m' : Int)).toNat) (b := 12) (by have := v'.2.2.2.1; omega)
          have a3 := sm_year (y' : Int)
          have a4 := fst_mono (show (y' : Int) + 1 ≤ y by omega)
          have a5 := (sm_rng y ((m : Int) - 1).toNat).1
          have := v.2.2.2.2.1
          omega
    obtain ⟨rfl, rfl, rfl⟩ := hy
    have z1 : hh = hh' := by omega
    have z2 : mm = mm' := by omega
    have z3 : ss = ss' := by omega
    have z4 : us < us' := by omega
    exact .inr ⟨rfl, .inr ⟨rfl, .inr ⟨rfl, .inr ⟨z1, .inr ⟨z2, .inr ⟨z3, z4⟩⟩⟩⟩⟩⟩
  · have hA := S.ahead G S' (by omega)
    have hE : b = true → (s / 1000000 - p - (if b = true then 1 else 0)) % 86400 = 86399 := by
      intro hb; subst hb
      simpa using S.edge G
    generalize hc : s / 1000000 - (p : Int) - (if b = true then 1 else 0) = c at *
    generalize hc' : t / 1000000 - (p' : Int) - (if b' = true then 1 else 0) = c' at *
    have c0 := (S.base G (by omega)).1
    rw [hc] at c0
    by_cases hday : c / 86400 < c' / 86400
    · rcases date_lt v v' (by omega) with q | ⟨q, q | ⟨q, q2⟩⟩
      · exact .inl (by omega)
      · exact .inr ⟨by omega, .inl (by omega)⟩
      · exact .inr ⟨by omega, .inr ⟨by omega, .inl (by omega)⟩⟩
    · have hde : c / 86400 = c' / 86400 := by omega
      have n1 : ¬ (fst y' + sm y' ((m' : Int) - 1).toNat + d' - 1 ≠ fst y + sm y ((m : Int) - 1).toNat + d - 1) := by omega
      have hy : y = y' ∧ m = m' ∧ d = d' := by
        by_cases q : y = y'
        · subst q
          by_cases q2 : m = m'
          · subst q2; exact ⟨rfl, rfl, by omega⟩
          · exfalso
            rcases Nat.lt_or_gt_of_ne q2 with q3 | q3
            · have := day_lt_month v
              have := sm_le y (a := ((m : Int)).toNat) (b := ((m' : Int) - 1).toNat) (by omega)
              have := v'.2.2.2.2.1
              omega
            · have := day_lt_month v'
              have := sm_le y (a := ((m' : Int)).toNat) (b := ((m : Int) - 1).toNat) (by omega)
              have := v.2.2.2.2.1
              omega
        · exfalso
          rcases Nat.lt_or_gt_of_ne q with q3 | q3
          · have a1 := day_lt_month v
            have a2 := sm_le y (a := ((m : Int)).toNat) (b := 12) (by have := v.2.2.2.1; omega)
            have a3 := sm_year (y : Int)
            have a4 := fst_mono (show (y : Int) + 1 ≤ y' by omega)
            have a5 := (sm_rng y' ((m' : Int) - 1).toNat).1
            have := v'.2.2.2.2.1
            omega
          · have a1 := day_lt_month v'
            have a2 := sm_le y' (a := ((m' : Int)).toNat) (b := 12) (by have := v'.2.2.2.1; omega)
            have a3 := sm_year (y' : Int)
            have a4 := fst_mono (show (y' : Int) + 1 ≤ y by omega)
            have a5 := (sm_rng y ((m : Int) - 1).toNat).1
            have := v.2.2.2.2.1
            omega
      obtain ⟨rfl, rfl, rfl⟩ := hy
      refine .inr ⟨rfl, .inr ⟨rfl, .inr ⟨rfl, ?_⟩⟩⟩
      rcases hA with hA | ⟨hA, rfl, rfl⟩
      · have hbf : b = false := by
          cases b
          · rfl
          · have := hE rfl; omega
        subst hbf
        have hs' : (ss' : Int) ≥ c' % 60 := by rw [h3']; split <;> omega
        simp only [Bool.false_eq_true, if_false] at h3
        by_cases q1 : hh < hh'
        · exact .inl q1
        · refine .inr ⟨by omega, ?_⟩
          by_cases q2 : mm < mm'
          · exact .inl q2
          · refine .inr ⟨by omega, .inl ?_⟩
            omega
      · subst hA
        simp only [Bool.false_eq_true, if_false, if_true] at h3 h3'
        exact .inr ⟨by omega, .inr ⟨by omega, .inl (by omega)⟩⟩
end Go.Proofs.YtaanjciokdpkmaaDoor
