/- Utc, the plain law: civil times and offsets, without memory. -/
import Derived.Test.YtaanjciokdpkmaaDoorUtH
namespace Go.Proofs.YtaanjciokdpkmaaDoor
set_option linter.unusedVariables false
set_option linter.unusedSimpArgs false
set_option linter.unnecessarySimpa false
theorem time_ok (N : Nat) {t : Int} (h : 0 ≤ t ∧ t ≤ 9007199254740992) : F40_d N t = some true := by
  simp only [F40_d, FSpec.d, F40_s, in_ok, decide_eq_true h]
/-- Where a second lies in a table: so many leap seconds ahead of it; whether it is one. -/
structure Spot (ds : List Int) (x : Int) (p : Nat) (b : Bool) : Prop where
  le : p ≤ (lp ds).length
  lt : ∀ q (h : q < (lp ds).length), q < p → (lp ds)[q] < x
  ge : ∀ q (h : q < (lp ds).length), p ≤ q → x ≤ (lp ds)[q]
  on : b = true ↔ ∃ h : p < (lp ds).length, (lp ds)[p] = x
theorem Spot.uniq {ds : List Int} {x : Int} {p p' : Nat} {b b' : Bool} (h : Spot ds x p b) (h' : Spot ds x p' b') : p = p' ∧ b = b' := by
  have e : p = p' := by
    rcases Nat.lt_trichotomy p p' with q | q | q
    · have := h.ge p (by have := h'.le; omega) (Nat.le_refl _)
      have := h'.lt p (by have := h'.le; omega) q
      omega
    · exact q
    · have := h'.ge p' (by have := h.le; omega) (Nat.le_refl _)
      have := h.lt p' (by have := h.le; omega) q
      omega
  subst e
  refine ⟨rfl, ?_⟩
  have := h.on.trans h'.on.symm
  cases b <;> cases b' <;> simp_all
theorem Spot.base {ds : List Int} (G : Good ds) {x : Int} {p : Nat} {b : Bool} (h : Spot ds x p b) (hx : 0 ≤ x) : 0 ≤ x - p - (if b = true then 1 else 0) ∧ p ≤ 4 := by
  have hl := G.len
  have hp := h.le
  rw [lp_len] at hp
  refine ⟨?_, by omega⟩
  cases b
  · by_cases h0 : p = 0
    · simp [h0]; exact hx
    · have hj : p - 1 < (lp ds).length := by rw [lp_len]; omega
      have h1 := h.lt (p - 1) hj (by omega)
      obtain ⟨d, d1, d2, d3, d4⟩ := Good.at ds G (p - 1) hj
      simp; omega
  · obtain ⟨hj, e⟩ := h.on.1 rfl
    obtain ⟨d, d1, d2, d3, d4⟩ := Good.at ds G p hj
    simp; omega
theorem spot_ok {ds : List Int} (G : Good ds) (x : Int) : ∃ (p : Nat) (b : Bool), F41_d 600 (rowsI (lp ds), x) = some ((p : Int), b) ∧ Spot ds x p b := by
  obtain ⟨p, b, h1, h2, h3, h4, h5⟩ := bs_ok G x
  exact ⟨p, b, h1, h2, h3, h4, h5⟩
theorem offset_ok {ds : List Int} (G : Good ds) {t : Int} (h : 0 ≤ t ∧ t ≤ 9007199254740992) : ∃ (p : Nat) (b : Bool), F17_d 600 (rowsI (lp ds), t) = some (p : Int) ∧ Spot ds (t / 1000000) p b := by
  obtain ⟨p, b, h1, h2⟩ := spot_ok G (t / 1000000)
  refine ⟨p, b, ?_, h2⟩
  have e1 : i64 (t.tdiv 1000000) = t / 1000000 := by
    rw [Int.tdiv_eq_ediv_of_nonneg h.1]; exact i64_id (by omega)
  simp only [F17_d, FSpec.d, F17_s, valid_ok G, time_ok 600 h, Bool.not_true, e1, h1]
/-- The civil time of a second that is counted without leap seconds. -/
structure Civ (c x : Int) (sec : Int) (us : Int) (o : Int × Int × Int × Int × Int × Int × Int × Int) : Prop where
  val : valD o.1 o.2.1 o.2.2.1
  day : fst o.1 + sm o.1 (o.2.1 - 1).toNat + o.2.2.1 - 1 = c / 86400
  h : o.2.2.2.1 = c % 86400 / 3600
  m : o.2.2.2.2.1 = c / 60 % 60
  s : o.2.2.2.2.2.1 = sec
  u : o.2.2.2.2.2.2.1 = us
  e : o.2.2.2.2.2.2.2 = 0
theorem civil_ok {ds : List Int} (G : Good ds) {t : Int} (h : 0 ≤ t ∧ t ≤ 9007199254740992) : ∃ (p : Nat) (b : Bool) (y m d : Int), Spot ds (t / 1000000) p b ∧ valD y m d ∧ (fst y + sm y (m - 1).toNat + d - 1 = (t / 1000000 - p - (if b = true then 1 else 0)) / 86400) ∧ F10_d 600 ((t / 1000000 - p - (if b = true then 1 else 0)) / 86400) = some (y, m, d) ∧
    F18_d 600 (rowsI (lp ds), t) = some (y, m, d, (t / 1000000 - p - (if b = true then 1 else 0)) % 86400 / 3600, (t / 1000000 - p - (if b = true then 1 else 0)) / 60 % 60, (if b = true then 60 else (t / 1000000 - p) % 60), t % 1000000, 0) := by
  obtain ⟨p, b, h1, h2⟩ := spot_ok G (t / 1000000)
  have hb := h2.base G (by omega)
  have e1 : i64 (t.tdiv 1000000) = t / 1000000 := by
    rw [Int.tdiv_eq_ediv_of_nonneg h.1]; exact i64_id (by omega)
  have e2 : i64 (t / 1000000 - (p : Int)) = t / 1000000 - p := i64_id (by omega)
  have eu : t.tmod 1000000 = t % 1000000 := Int.tmod_eq_emod_of_nonneg h.1
  obtain ⟨y, m, d, g1, g2, g3, g4⟩ := date_ok (x := (t / 1000000 - p - (if b = true then 1 else 0)) / 86400) (by omega)
  refine ⟨p, b, y, m, d, h2, g3, g4, g1, ?_⟩
  cases b
  · simp only [Bool.false_eq_true, if_false, Int.sub_zero] at hb g1 ⊢
    have k1 : (t / 1000000 - (p : Int)).tdiv 86400 = (t / 1000000 - p) / 86400 := Int.tdiv_eq_ediv_of_nonneg hb.1
    have k2 : (t / 1000000 - (p : Int)).tmod 86400 = (t / 1000000 - p) % 86400 := Int.tmod_eq_emod_of_nonneg hb.1
    have k3 : ((t / 1000000 - (p : Int)) % 86400).tdiv 3600 = (t / 1000000 - p) % 86400 / 3600 := Int.tdiv_eq_ediv_of_nonneg (by omega)
    have k4 : (t / 1000000 - (p : Int)).tdiv 60 = (t / 1000000 - p) / 60 := Int.tdiv_eq_ediv_of_nonneg hb.1
    have k5 : ((t / 1000000 - (p : Int)) / 60).tmod 60 = (t / 1000000 - p) / 60 % 60 := Int.tmod_eq_emod_of_nonneg (by omega)
    have k6 : (t / 1000000 - (p : Int)).tmod 60 = (t / 1000000 - p) % 60 := Int.tmod_eq_emod_of_nonneg hb.1
    have i1 : i64 ((t / 1000000 - (p : Int)) / 86400) = (t / 1000000 - p) / 86400 := i64_id (by omega)
    have i2 : i64 ((t / 1000000 - (p : Int)) % 86400 / 3600) = (t / 1000000 - p) % 86400 / 3600 := i64_id (by omega)
    have i3 : i64 ((t / 1000000 - (p : Int)) / 60) = (t / 1000000 - p) / 60 := i64_id (by omega)
    simp only [F18_d, FSpec.d, F18_s, valid_ok G, time_ok 600 h, Bool.not_true, e1, h1, e2, eu, k1, k2, k3, k4, i1, i2, i3, k5, k6, g1]
  · simp only [if_true] at hb g1 ⊢
    have e3 : i64 (t / 1000000 - (p : Int) - 1) = t / 1000000 - p - 1 := i64_id (by omega)
    have k1 : (t / 1000000 - (p : Int) - 1).tdiv 86400 = (t / 1000000 - p - 1) / 86400 := Int.tdiv_eq_ediv_of_nonneg hb.1
    have k2 : (t / 1000000 - (p : Int) - 1).tmod 86400 = (t / 1000000 - p - 1) % 86400 := Int.tmod_eq_emod_of_nonneg hb.1
    have k3 : ((t / 1000000 - (p : Int) - 1) % 86400).tdiv 3600 = (t / 1000000 - p - 1) % 86400 / 3600 := Int.tdiv_eq_ediv_of_nonneg (by omega)
    have k4 : (t / 1000000 - (p : Int) - 1).tdiv 60 = (t / 1000000 - p - 1) / 60 := Int.tdiv_eq_ediv_of_nonneg hb.1
    have k5 : ((t / 1000000 - (p : Int) - 1) / 60).tmod 60 = (t / 1000000 - p - 1) / 60 % 60 := Int.tmod_eq_emod_of_nonneg (by omega)
    have i1 : i64 ((t / 1000000 - (p : Int) - 1) / 86400) = (t / 1000000 - p - 1) / 86400 := i64_id (by omega)
    have i2 : i64 ((t / 1000000 - (p : Int) - 1) % 86400 / 3600) = (t / 1000000 - p - 1) % 86400 / 3600 := i64_id (by omega)
    have i3 : i64 ((t / 1000000 - (p : Int) - 1) / 60) = (t / 1000000 - p - 1) / 60 := i64_id (by omega)
    simp only [F18_d, FSpec.d, F18_s, valid_ok G, time_ok 600 h, Bool.not_true, e1, h1, e2, e3, eu, k1, k2, k3, k4, i1, i2, i3, k5, g1]
end Go.Proofs.YtaanjciokdpkmaaDoor
