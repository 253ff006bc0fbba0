/- ClockRecords, the plain law: corrected times. -/
import Derived.Test.YtecoemdhnphmdaaRecC
namespace Go.Proofs.Ytecoemdhnphmdaa
set_option linter.unusedVariables false
set_option linter.unusedSimpArgs false
set_option linter.unnecessarySimpa false
theorem run_loop (N : Nat) (J : List Int) {n i : Int} : ∀ (k q f : Nat) (s e : Int), k < f → q + k = J.length → J.length ≤ 10 → (0 ≤ s ∧ s ≤ i) → (i < e ∧ e ≤ n) → ∃ s' e', (F52_l0 N).L f (rowsI J, i, s, e, (J.length : Int), (q : Int)) = some (s', e') ∧ (0 ≤ s' ∧ s' ≤ i) ∧ (i < e' ∧ e' ≤ n) ∨ ∃ j ∈ J, j < 1
  | 0, q, f, s, e, hf, hq, hl, hs, he => by
    obtain ⟨f, rfl⟩ : ∃ f', f = f' + 1 := ⟨f - 1, by omega⟩
    refine ⟨s, e, .inl ⟨?_, hs, he⟩⟩
    show (F52_l0 N).b _ _ ((F52_l0 N).L f) some = _
    have : decide ((q : Int) < (J.length : Int)) = false := by simp; omega
    simp only [F52_l0, this]
  | k + 1, q, f, s, e, hf, hq, hl, hs, he => by
    obtain ⟨f, rfl⟩ : ∃ f', f = f' + 1 := ⟨f - 1, by omega⟩
    have hlt : q < J.length := by omega
    have c1 : decide ((q : Int) < (J.length : Int)) = true := by simp; omega
    have c2 : (0 : Int) ≤ (q : Int) := by omega
    have c4 : i64 ((q : Int) + 1) = ((q + 1 : Nat) : Int) := by rw [i64_id (by omega)]; omega
    by_cases hj : J[q] < 1
    · exact ⟨0, 0, .inr ⟨_, List.getElem_mem hlt, hj⟩⟩
    obtain ⟨Lf, hL⟩ : ∃ Lf, Lf = (F52_l0 N).L f := ⟨_, rfl⟩
    by_cases h1 : J[q] ≤ i
    · obtain ⟨s', e', r⟩ := run_loop N J (n := n) (i := i) k (q + 1) f J[q] e (by omega) (by omega) hl (by omega) he
      refine ⟨s', e', r.imp (fun ⟨r1, r2⟩ => ⟨?_, r2⟩) id⟩
      show (F52_l0 N).b _ _ ((F52_l0 N).L f) some = _
      rw [← hL] at r1 ⊢
      simp only [F52_l0, c1, c2, if_true, Int.toNat_natCast, rowsI_get J q hlt, List.getElem?_cons_zero, h1, decide_true, c4]
      exact r1
    · by_cases h2 : J[q] < e
      · obtain ⟨s', e', r⟩ := run_loop N J (n := n) (i := i) k (q + 1) f s J[q] (by omega) (by omega) hl hs (by omega)
        refine ⟨s', e', r.imp (fun ⟨r1, r2⟩ => ⟨?_, r2⟩) id⟩
        show (F52_l0 N).b _ _ ((F52_l0 N).L f) some = _
        rw [← hL] at r1 ⊢
        simp only [F52_l0, c1, c2, if_true, Int.toNat_natCast, rowsI_get J q hlt, List.getElem?_cons_zero, h1, h2, decide_true, decide_false, c4]
        exact r1
      · obtain ⟨s', e', r⟩ := run_loop N J (n := n) (i := i) k (q + 1) f s e (by omega) (by omega) hl hs he
        refine ⟨s', e', r.imp (fun ⟨r1, r2⟩ => ⟨?_, r2⟩) id⟩
        show (F52_l0 N).b _ _ ((F52_l0 N).L f) some = _
        rw [← hL] at r1 ⊢
        simp only [F52_l0, c1, c2, if_true, Int.toNat_natCast, rowsI_get J q hlt, List.getElem?_cons_zero, h1, h2, decide_false, c4]
        exact r1
theorem run_ok (J : List Int) {n i : Int} (hl : J.length ≤ 10) (hi : 0 ≤ i ∧ i < n) (hJ : ∀ j ∈ J, 1 ≤ j) : ∃ s e, F52_d 600 (rowsI J, n, i) = some (s, e) ∧ (0 ≤ s ∧ s ≤ i) ∧ (i < e ∧ e ≤ n) := by
  obtain ⟨s, e, r⟩ := run_loop 600 J (n := n) (i := i) J.length 0 600 0 n (by omega) (by omega) hl (by omega) (by omega)
  rcases r with ⟨r, r2⟩ | ⟨j, hj, hj2⟩
  · refine ⟨s, e, ?_, r2⟩
    replace r : (F52_l0 600).L 600 (rowsI J, i, 0, n, (J.length : Int), 0) = some (s, e) := r
    simp only [F52_d, FSpec.d, F52_s, F52_d0, rowsI_len, r]
  · have := hJ j hj; omega
theorem behind_loop (N : Nat) {A : List (Int × Int × Int)} (HA : Anc A) (J : List (List AV)) (drift tag c d : Int) : ∀ (k i f : Nat), k < f → i + k = A.length → ∃ b : Nat, b ≤ A.length ∧ (F36_l0 N).L f (rowsA A, J, drift, tag, (i : Int), c, d) = some (rowsA A, J, drift, tag, (b : Int), c, d)
  | 0, i, f, hf, hi => by
    obtain ⟨f, rfl⟩ : ∃ f', f = f' + 1 := ⟨f - 1, by omega⟩
    refine ⟨i, by omega, ?_⟩
    show (F36_l0 N).b _ _ ((F36_l0 N).L f) some = _
    have : decide ((i : Int) < (A.length : Int)) = false := by simp; omega
    simp only [F36_l0, rowsA_len, this]
  | k + 1, i, f, hf, hi => by
    obtain ⟨f, rfl⟩ : ∃ f', f = f' + 1 := ⟨f - 1, by omega⟩
    have l5 := HA.len
    have hlt : i < A.length := by omega
    have c1 : decide ((i : Int) < (A.length : Int)) = true := by simp; omega
    have c2 : (0 : Int) ≤ (i : Int) := by omega
    have c4 : i64 ((i : Int) + 1) = ((i + 1 : Nat) : Int) := by rw [i64_id (by omega)]; omega
    obtain ⟨b, hb, r1⟩ := behind_loop N HA J drift tag c d k (i + 1) f (by omega) (by omega)
    obtain ⟨Lf, hL⟩ : ∃ Lf, Lf = (F36_l0 N).L f := ⟨_, rfl⟩
    by_cases h : A[i].1 ≤ tag
    · refine ⟨b, hb, ?_⟩
      show (F36_l0 N).b _ _ ((F36_l0 N).L f) some = _
      rw [← hL] at r1 ⊢
      simp only [F36_l0, rowsA_len, c1, c2, if_true, Int.toNat_natCast, rowsA_get A i hlt, List.drop_zero, List.getElem?_cons_zero, h, decide_true, c4]
      exact r1
    · refine ⟨i, by omega, ?_⟩
      show (F36_l0 N).b _ _ ((F36_l0 N).L f) some = _
      rw [← hL]
      simp only [F36_l0, rowsA_len, c1, c2, if_true, Int.toNat_natCast, rowsA_get A i hlt, List.drop_zero, List.getElem?_cons_zero, h, decide_false]
theorem com_loop (N : Nat) {S : List (Int × Int × Int)} {drift t : Int} (hd : 0 ≤ drift ∧ drift ≤ 50000) (ht : 0 ≤ t ∧ t ≤ 101000) (hl : S.length ≤ 5) (h1 : ∀ a ∈ S, 1000 ≤ a.1 ∧ a.1 ≤ 101000) (h2 : ∀ a ∈ S, 999999999900 ≤ a.2.1 ∧ a.2.1 ≤ a.2.2 ∧ a.2.2 ≤ 1000000200000) (c d : Int) : ∀ (k i f : Nat) (lo hi : Int), k < f → i + k = S.length → Near lo hi → ∃ lo' hi', (F36_l1 N).L f (rowsA S, drift, t, (S.length : Int), (i : Int), c, d, lo, hi) = some (c, d, lo', hi') ∧ Near lo' hi'
  | 0, i, f, lo, hi, hf, hi', hn => by
    obtain ⟨f, rfl⟩ : ∃ f', f = f' + 1 := ⟨f - 1, by omega⟩
    refine ⟨lo, hi, ?_, hn⟩
    show (F36_l1 N).b _ _ ((F36_l1 N).L f) some = _
    have : decide ((i : Int) < (S.length : Int)) = false := by simp; omega
    simp only [F36_l1, this]
  | k + 1, i, f, lo, hi, hf, hi', hn => by
    obtain ⟨f, rfl⟩ : ∃ f', f = f' + 1 := ⟨f - 1, by omega⟩
    have hlt : i < S.length := by omega
    have m := List.getElem_mem hlt
    have c1 : decide ((i : Int) < (S.length : Int)) = true := by simp; omega
    have c2 : (0 : Int) ≤ (i : Int) := by omega
    have c4 : i64 ((i : Int) + 1) = ((i + 1 : Nat) : Int) := by rw [i64_id (by omega)]; omega
    obtain ⟨a, b, g1, g2⟩ := from_ok N hd (h1 _ m) (h2 _ m) ht
    obtain ⟨lo', hi'', r1, r2⟩ := com_loop N hd ht hl h1 h2 c d k (i + 1) f (if a > lo then a else lo) (if b < hi then b else hi) (by omega) (by omega) (by unfold Near at *; split <;> split <;> omega)
    refine ⟨lo', hi'', ?_, r2⟩
    show (F36_l1 N).b _ _ ((F36_l1 N).L f) some = _
    obtain ⟨Lf, hL⟩ : ∃ Lf, Lf = (F36_l1 N).L f := ⟨_, rfl⟩
    rw [← hL] at r1 ⊢
    simp only [F36_l1, c1, c2, if_true, Int.toNat_natCast, rowsA_get S i hlt, List.getElem?_cons_zero, List.getElem?_cons_succ, g1, com_ok, c4]
    exact r1
theorem with_ok {A : List (Int × Int × Int)} (HA : Anc A) (h0 : A.length ≠ 0) {J : List Int} (hl : J.length ≤ 10) (hJ : ∀ j ∈ J, 1 ≤ j ∧ j < (A.length : Int)) {drift t : Int} (hd : 0 ≤ drift ∧ drift ≤ 50000) (ht : 0 ≤ t ∧ t ≤ 101000) : ∃ lo hi, F36_d 600 (rowsA A, rowsI J, drift, t) = some (lo, hi) ∧ Near lo hi := by
  have l5 := HA.len
  obtain ⟨b, hb, r1⟩ := behind_loop 600 HA (rowsI J) drift t 0 0 A.length 0 600 (by omega) (by omega)
  replace r1 : (F36_l0 600).L 600 (rowsA A, rowsI J, drift, t, 0, 0, 0) = some (rowsA A, rowsI J, drift, t, (b : Int), 0, 0) := r1
  obtain ⟨q, g1, g2⟩ := has_ok J (b : Int) hl
  simp only [F36_d, FSpec.d, F36_s, F36_d0, r1, g1]
  have c2 : (0 : Int) ≤ (b : Int) := by omega
  cases q with
  | true =>
    have hbj := hJ _ (g2 rfl)
    have hlt : b < A.length := by omega
    have hlt' : b - 1 < A.length := by omega
    have c6 : i64 ((b : Int) - 1) = ((b - 1 : Nat) : Int) := by rw [i64_id (by omega)]; omega
    have c8 : (0 : Int) ≤ ((b - 1 : Nat) : Int) := by omega
    obtain ⟨lo, hi, k1, k2⟩ := from_ok 600 hd (HA.tag _ (List.getElem_mem hlt')) (HA.rng _ (List.getElem_mem hlt')) ht
    obtain ⟨lo2, hi2, k3, k4⟩ := from_ok 600 hd (HA.tag _ (List.getElem_mem hlt)) (HA.rng _ (List.getElem_mem hlt)) ht
    simp only [c6, c8, c2, if_true, Int.toNat_natCast, rowsA_get A _ hlt, rowsA_get A _ hlt', List.getElem?_cons_zero, List.getElem?_cons_succ, k1, k3, hull_ok]
    exact ⟨_, _, rfl, by unfold Near at *; split <;> split <;> omega⟩
  | false =>
    have c6 : i64 ((b : Int) - 1) = (b : Int) - 1 := i64_id (by omega)
    obtain ⟨i, hi⟩ : ∃ i : Int, i = (if 0 > (b : Int) - 1 then 0 else (b : Int) - 1) := ⟨_, rfl⟩
    have hib : 0 ≤ i ∧ i < (A.length : Int) := by rw [hi]; split <;> omega
    obtain ⟨s, e, k1, k2, k3⟩ := run_ok J (n := (A.length : Int)) (i := i) hl hib (fun j hj => (hJ j hj).1)
    have hs : s.toNat < A.length := by omega
    obtain ⟨lo, hi', k4, k5⟩ := from_ok 600 hd (HA.tag _ (List.getElem_mem hs)) (HA.rng _ (List.getElem_mem hs)) ht
    have hrow : ((rowsA A).take e.toNat).drop s.toNat = rowsA ((A.take e.toNat).drop s.toNat) := by simp [rowsA, List.map_take, List.map_drop]
    have hmem : ∀ a ∈ (A.take e.toNat).drop s.toNat, a ∈ A := fun a ha => List.mem_of_mem_take (List.mem_of_mem_drop ha)
    obtain ⟨lo2, hi2, k6, k7⟩ := com_loop 600 (S := (A.take e.toNat).drop s.toNat) hd ht (by simp; omega) (fun a ha => HA.tag a (hmem a ha)) (fun a ha => HA.rng a (hmem a ha)) 0 0 _ 0 600 lo hi' (Nat.lt_of_le_of_lt (Nat.le_refl ((A.take e.toNat).drop s.toNat).length) (by simp; omega)) (by omega) k5
    replace k6 : (F36_l1 600).L 600 (rowsA ((A.take e.toNat).drop s.toNat), drift, t, (((A.take e.toNat).drop s.toNat).length : Int), 0, 0, 0, lo, hi') = some (0, 0, lo2, hi2) := k6
    have cond : 0 ≤ s ∧ s ≤ e ∧ e ≤ (A.length : Int) := by omega
    simp only [c6, ← hi, rowsA_len, k1, k2.1, if_true, rowsA_get A _ hs, List.getElem?_cons_zero, List.getElem?_cons_succ, k4, cond, true_and, and_self, hrow, F36_d1, k6]
    exact ⟨_, _, rfl, k7⟩
/-- Each corrected time is near, or there is none. -/
theorem cor_ok {A : List (Int × Int × Int)} (HA : Anc A) {drift t : Int} (hd : 0 ≤ drift ∧ drift ≤ 50000) (ht : 0 ≤ t ∧ t ≤ 101000) : ∃ x off e, F15_d 600 (rowsA A, drift, t) = some (x, off, e) ∧ (e = 0 → 0 ≤ off ∧ off ≤ 10000000) := by
  obtain ⟨J, j1, j2, j3⟩ := jmp_ok HA hd
  simp only [F15_d, FSpec.d, F15_s, j1, time_yes 600 (x := t) (by omega), Bool.not_true, bne_self_eq_false, rowsA_len]
  by_cases h0 : A.length = 0
  · have : ((A.length : Int) == 0) = true := by simp [h0]
    simp only [this]
    exact ⟨_, _, _, rfl, fun h => by cases h⟩
  · have c0 : ((A.length : Int) == 0) = false := by simp [h0]
    obtain ⟨lo, hi, w1, w2⟩ := with_ok HA h0 j3 j2 hd ht
    unfold Near at w2
    have c1 : ¬ ((0 : Int) > lo) := by omega
    have c2 : ¬ ((9007199254740992 : Int) < hi) := by omega
    simp only [c0, w1, com_ok, c1, c2, if_false]
    by_cases h : lo > hi
    · simp only [h, decide_true]
      exact ⟨_, _, _, rfl, fun h => by cases h⟩
    · simp only [h, decide_false]
      have e1 : i64 (lo + hi) = lo + hi := i64_id (by omega)
      have q : (lo + hi).tdiv 2 = (lo + hi) / 2 := Int.tdiv_eq_ediv_of_nonneg (by omega)
      have e2 : i64 ((lo + hi) / 2) = (lo + hi) / 2 := i64_id (by omega)
      have e3 : i64 (hi - (lo + hi) / 2) = hi - (lo + hi) / 2 := i64_id (by omega)
      simp only [e1, q, e2, e3]
      exact ⟨_, _, _, rfl, fun _ => by omega⟩
end Go.Proofs.Ytecoemdhnphmdaa
