/- ClockRecords, the plain law: jumps, runs, intervals. -/
import Derived.Test.YtecoemdhnphmdaaRecB
namespace Go.Proofs.Ytecoemdhnphmdaa
set_option linter.unusedVariables false
set_option linter.unusedSimpArgs false
set_option linter.unnecessarySimpa false
theorem ela_ok (N : Nat) {drift d : Int} (hd : 0 ≤ drift ∧ drift ≤ 50000) (h : 0 ≤ d ∧ d ≤ 101000) : ∃ lo hi, F17_d N (drift, d) = some (lo, hi) ∧ (0 ≤ lo ∧ lo ≤ 200000) ∧ (0 ≤ hi ∧ hi ≤ 200000) := by
  simp only [F17_d, FSpec.d, F17_s, in_yes N (x := drift) (lo := 0) (hi := 500000) (by omega), time_yes N (x := d) (by omega), Bool.not_true]
  have e1 : i64 (1000000 + drift) = 1000000 + drift := i64_id (by omega)
  have e2 : i64 (1000000 - drift) = 1000000 - drift := i64_id (by omega)
  have n1 : ¬ (1000000 + drift = 0) := by omega
  have n2 : ¬ (1000000 - drift = 0) := by omega
  have t1 : d.tdiv (1000000 + drift) = 0 := Int.tdiv_eq_zero_of_lt (by omega) (by omega)
  have t2 : d.tdiv (1000000 - drift) = 0 := Int.tdiv_eq_zero_of_lt (by omega) (by omega)
  have m1 : d.tmod (1000000 + drift) = d := Int.tmod_eq_of_lt (by omega) (by omega)
  have m2 : d.tmod (1000000 - drift) = d := Int.tmod_eq_of_lt (by omega) (by omega)
  have z0 : i64 0 = 0 := i64_id (by omega)
  have z1 : i64 (0 * 1000000) = 0 := i64_id (by omega)
  have e3 : i64 (d * 1000000) = d * 1000000 := i64_id (by omega)
  have q1 : (d * 1000000).tdiv (1000000 + drift) = d * 1000000 / (1000000 + drift) := Int.tdiv_eq_ediv_of_nonneg (by omega)
  have b1 : 0 ≤ d * 1000000 / (1000000 + drift) := Int.ediv_nonneg (by omega) (by omega)
  have b2 : d * 1000000 / (1000000 + drift) < 200000 := Int.ediv_lt_of_lt_mul (by omega) (by omega)
  have e4 : i64 (d * 1000000 + (1000000 - drift)) = d * 1000000 + (1000000 - drift) := i64_id (by omega)
  have e5 : i64 (d * 1000000 + (1000000 - drift) - 1) = d * 1000000 + (1000000 - drift) - 1 := i64_id (by omega)
  have q2 : (d * 1000000 + (1000000 - drift) - 1).tdiv (1000000 - drift) = (d * 1000000 + (1000000 - drift) - 1) / (1000000 - drift) := Int.tdiv_eq_ediv_of_nonneg (by omega)
  have b3 : 0 ≤ (d * 1000000 + (1000000 - drift) - 1) / (1000000 - drift) := Int.ediv_nonneg (by omega) (by omega)
  have b4 : (d * 1000000 + (1000000 - drift) - 1) / (1000000 - drift) < 200000 := Int.ediv_lt_of_lt_mul (by omega) (by omega)
  simp only [e1, e2, n1, n2, if_false, t1, t2, m1, m2, z0, z1, e3, e4, e5, q1, q2]
  rw [i64_id (x := d * 1000000 / (1000000 + drift)) (by omega), i64_id (x := (d * 1000000 + (1000000 - drift) - 1) / (1000000 - drift)) (by omega), i64_id (x := 0 + d * 1000000 / (1000000 + drift)) (by omega), i64_id (x := 0 + (d * 1000000 + (1000000 - drift) - 1) / (1000000 - drift)) (by omega)]
  exact ⟨_, _, rfl, by omega, by omega⟩
/-- An interval near the base. -/
def Near (lo hi : Int) : Prop := (999999000000 ≤ lo ∧ lo ≤ 1000001000000) ∧ (999999000000 ≤ hi ∧ hi ≤ 1000001000000)
theorem from_ok (N : Nat) {a : Int × Int × Int} {drift t : Int} (hd : 0 ≤ drift ∧ drift ≤ 50000) (ha : 1000 ≤ a.1 ∧ a.1 ≤ 101000) (hr : 999999999900 ≤ a.2.1 ∧ a.2.1 ≤ a.2.2 ∧ a.2.2 ≤ 1000000200000) (ht : 0 ≤ t ∧ t ≤ 101000) : ∃ lo hi, F47_d N (a.1, a.2.1, a.2.2, drift, t) = some (lo, hi) ∧ Near lo hi := by
  simp only [F47_d, FSpec.d, F47_s]
  by_cases h : t ≥ a.1
  · obtain ⟨lo, hi, h1, h2, h3⟩ := ela_ok N hd (d := t - a.1) (by omega)
    have e : i64 (t - a.1) = t - a.1 := i64_id (by omega)
    simp only [h, decide_true, e, h1]
    rw [i64_id (by omega), i64_id (by omega)]
    exact ⟨_, _, rfl, by unfold Near; omega⟩
  · obtain ⟨lo, hi, h1, h2, h3⟩ := ela_ok N hd (d := a.1 - t) (by omega)
    have e : i64 (a.1 - t) = a.1 - t := i64_id (by omega)
    simp only [h, decide_false, e, h1]
    rw [i64_id (by omega), i64_id (by omega)]
    exact ⟨_, _, rfl, by unfold Near; omega⟩
theorem com_ok (N : Nat) (a b c d : Int) : F37_d N (a, b, c, d) = some (if c > a then c else a, if d < b then d else b) := rfl
theorem hull_ok (N : Nat) (a b c d : Int) : F51_d N (a, b, c, d) = some (if c < a then c else a, if d > b then d else b) := rfl
theorem agr_ok (N : Nat) {a b : Int × Int × Int} {drift : Int} (hd : 0 ≤ drift ∧ drift ≤ 50000) (ha : 1000 ≤ a.1 ∧ a.1 ≤ 101000) (hr : 999999999900 ≤ a.2.1 ∧ a.2.1 ≤ a.2.2 ∧ a.2.2 ≤ 1000000200000) (hb : 1000 ≤ b.1 ∧ b.1 ≤ 101000) : ∃ r, F38_d N (a.1, a.2.1, a.2.2, b.1, b.2.1, b.2.2, drift) = some r := by
  obtain ⟨lo, hi, h1, h2⟩ := from_ok N hd ha hr (t := b.1) (by omega)
  simp only [F38_d, FSpec.d, F38_s, h1, com_ok]
  exact ⟨_, rfl⟩
theorem jmp_loop (N : Nat) {A : List (Int × Int × Int)} (HA : Anc A) {drift : Int} (hd : 0 ≤ drift ∧ drift ≤ 50000) : ∀ (k i f : Nat) (J : List Int), k < f → 1 ≤ i → i + k = max A.length 1 → J.length ≤ i → (∀ j ∈ J, 1 ≤ j ∧ j < (A.length : Int)) →
    ∃ J' : List Int, (F16_l0 N).L f (rowsI J, rowsA A, drift, (i : Int)) = some (rowsI J') ∧ (∀ j ∈ J', 1 ≤ j ∧ j < (A.length : Int)) ∧ J'.length ≤ 10
  | 0, i, f, J, hf, h1, hi, hl, hJ => by
    obtain ⟨f, rfl⟩ : ∃ f', f = f' + 1 := ⟨f - 1, by omega⟩
    have l5 := HA.len
    refine ⟨J, ?_, hJ, by omega⟩
    show (F16_l0 N).b _ _ ((F16_l0 N).L f) some = _
    simp only [F16_l0, rowsA_len]
    have : decide ((i : Int) < (A.length : Int)) = false := by simp; omega
    simp only [this]
  | k + 1, i, f, J, hf, h1, hi, hl, hJ => by
    obtain ⟨f, rfl⟩ : ∃ f', f = f' + 1 := ⟨f - 1, by omega⟩
    have l5 := HA.len
    have hlt : i < A.length := by omega
    have hlt' : i - 1 < A.length := by omega
    have m0 := List.getElem_mem hlt
    have m1 := List.getElem_mem hlt'
    obtain ⟨r, hr⟩ := agr_ok N hd (HA.tag _ m1) (HA.rng _ m1) (HA.tag _ m0)
    have c1 : decide ((i : Int) < (A.length : Int)) = true := by simp; omega
    have c2 : (0 : Int) ≤ (i : Int) := by omega
    have c4 : i64 ((i : Int) + 1) = ((i + 1 : Nat) : Int) := by rw [i64_id (by omega)]; omega
    have c6 : i64 ((i : Int) - 1) = ((i - 1 : Nat) : Int) := by rw [i64_id (by omega)]; omega
    have c8 : (0 : Int) ≤ ((i - 1 : Nat) : Int) := by omega
    have hb : ((rowsI J).length + [[AV.v (.int .i64 (i : Int))]].length) * 8 ≤ maxBytes := by
      rw [rowsI_len]; unfold maxBytes; simp; omega
    have hrow : rowsI J ++ [[AV.v (.int .i64 (i : Int))]] = rowsI (J ++ [(i : Int)]) := by simp [rowsI]
    cases r with
    | true =>
      obtain ⟨J', r1, r2⟩ := jmp_loop N HA hd k (i + 1) f J (by omega) (by omega) (by omega) (by omega) hJ
      refine ⟨J', ?_, r2⟩
      show (F16_l0 N).b _ _ ((F16_l0 N).L f) some = _
      obtain ⟨Lf, hL⟩ : ∃ Lf, Lf = (F16_l0 N).L f := ⟨_, rfl⟩
      rw [← hL] at r1 ⊢
      simp only [F16_l0, rowsA_len, c1, c2, c6, c8, if_true, Int.toNat_natCast, rowsA_get A _ hlt, rowsA_get A _ hlt', List.getElem?_cons_zero, List.getElem?_cons_succ, hr, Bool.not_true, c4]
      exact r1
    | false =>
      obtain ⟨J', r1, r2⟩ := jmp_loop N HA hd k (i + 1) f (J ++ [(i : Int)]) (by omega) (by omega) (by omega) (by simp; omega) (fun j hj => by
        rcases List.mem_append.1 hj with h | h
        · exact hJ j h
        · simp at h; subst h; omega)
      refine ⟨J', ?_, r2⟩
      show (F16_l0 N).b _ _ ((F16_l0 N).L f) some = _
      obtain ⟨Lf, hL⟩ : ∃ Lf, Lf = (F16_l0 N).L f := ⟨_, rfl⟩
      rw [← hL] at r1 ⊢
      simp only [F16_l0, rowsA_len, c1, c2, c6, c8, if_true, Int.toNat_natCast, rowsA_get A _ hlt, rowsA_get A _ hlt', List.getElem?_cons_zero, List.getElem?_cons_succ, hr, Bool.not_false, c4, hb, hrow]
      exact r1
theorem jmp_ok {A : List (Int × Int × Int)} (HA : Anc A) {drift : Int} (hd : 0 ≤ drift ∧ drift ≤ 50000) : ∃ J : List Int, F16_d 600 (rowsA A, drift) = some (rowsI J, 0) ∧ (∀ j ∈ J, 1 ≤ j ∧ j < (A.length : Int)) ∧ J.length ≤ 10 := by
  have l5 := HA.len
  obtain ⟨J, r1, r2⟩ := jmp_loop 600 HA hd (max A.length 1 - 1) 1 600 [] (by omega) (by omega) (by omega) (by simp) (by simp)
  refine ⟨J, ?_, r2⟩
  replace r1 : (F16_l0 600).L 600 (([] : List (List AV)), rowsA A, drift, 1) = some (rowsI J) := r1
  simp only [F16_d, FSpec.d, F16_s, valid_ok HA hd, Bool.not_true, F16_d0, r1]
theorem idx_loop (N : Nat) (J : List Int) (v : Int) : ∀ (k i f : Nat), k < f → i + k = J.length → J.length ≤ 10 → ∃ r, (F58_l0 N).L f (rowsI J, v, (J.length : Int), (i : Int)) = some r ∧ ∀ q, r = .inl q → 0 ≤ q ∧ v ∈ J
  | 0, i, f, hf, hi, hl => by
    obtain ⟨f, rfl⟩ : ∃ f', f = f' + 1 := ⟨f - 1, by omega⟩
    refine ⟨.inr (), ?_, fun q h => by cases h⟩
    show (F58_l0 N).b _ _ ((F58_l0 N).L f) some = _
    have : decide ((i : Int) < (J.length : Int)) = false := by simp; omega
    simp only [F58_l0, this]
  | k + 1, i, f, hf, hi, hl => by
    obtain ⟨f, rfl⟩ : ∃ f', f = f' + 1 := ⟨f - 1, by omega⟩
    have hlt : i < J.length := by omega
    have c1 : decide ((i : Int) < (J.length : Int)) = true := by simp; omega
    have c2 : (0 : Int) ≤ (i : Int) := by omega
    have c4 : i64 ((i : Int) + 1) = ((i + 1 : Nat) : Int) := by rw [i64_id (by omega)]; omega
    obtain ⟨r, r1, r2⟩ := idx_loop N J v k (i + 1) f (by omega) (by omega) hl
    obtain ⟨Lf, hL⟩ : ∃ Lf, Lf = (F58_l0 N).L f := ⟨_, rfl⟩
    by_cases he : v = J[i]
    · refine ⟨.inl (i : Int), ?_, fun q h => ?_⟩
      · show (F58_l0 N).b _ _ ((F58_l0 N).L f) some = _
        rw [← hL]
        have c3 : (v == J[i]) = true := by simp [he]
        simp only [F58_l0, c1, c2, if_true, Int.toNat_natCast, rowsI_get J i hlt, List.getElem?_cons_zero, c3]
      · cases h
        exact ⟨c2, he ▸ List.getElem_mem hlt⟩
    · refine ⟨r, ?_, r2⟩
      show (F58_l0 N).b _ _ ((F58_l0 N).L f) some = _
      rw [← hL] at r1 ⊢
      have c3 : (v == J[i]) = false := by simp [he]
      simp only [F58_l0, c1, c2, if_true, Int.toNat_natCast, rowsI_get J i hlt, List.getElem?_cons_zero, c3, c4]
      exact r1
theorem has_ok (J : List Int) (v : Int) (hl : J.length ≤ 10) : ∃ b, F50_d 600 (rowsI J, v) = some b ∧ (b = true → v ∈ J) := by
  obtain ⟨r, r1, r2⟩ := idx_loop 600 J v J.length 0 600 (by omega) (by omega) hl
  replace r1 : (F58_l0 600).L 600 (rowsI J, v, (J.length : Int), 0) = some r := r1
  simp only [F50_d, FSpec.d, F50_s, F58_d, F58_s, F58_d0, rowsI_len, r1]
  cases r with
  | inl q => exact ⟨_, rfl, fun _ => (r2 q rfl).2⟩
  | inr q => exact ⟨_, rfl, fun h => by simp at h⟩
end Go.Proofs.Ytecoemdhnphmdaa
