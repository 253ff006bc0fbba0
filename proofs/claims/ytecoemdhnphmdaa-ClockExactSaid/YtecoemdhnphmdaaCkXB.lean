/- ClockExact, the plain law: any anchors: Jumps, within, Correct of both packages. -/
import Derived.Test.YtecoemdhnphmdaaCkXA
namespace Go.Proofs.Ytecoemdhnphmdaa
open Go.RowKit
set_option linter.unusedVariables false
set_option linter.unusedSimpArgs false
set_option linter.unnecessarySimpa false
theorem gOk_at {A : List An} {drift : Int} (V : Vld A drift) {i : Nat} (h : i < A.length) : aOk A[i] := by
  have g := (V.1 i (by omega) h).1
  rwa [getD_at h] at g
theorem asc_at {A : List An} {drift : Int} (V : Vld A drift) {i : Nat} (h : i + 1 < A.length) : A[i].1 < A[i + 1].1 := by
  have g := (V.1 (i + 1) (by omega) h).2 (by omega)
  rw [getD_at h, Nat.add_sub_cancel, getD_at (by omega : i < A.length)] at g
  exact g
theorem asc_all {A : List An} {drift : Int} (V : Vld A drift) : ∀ (k i : Nat) (h : i + k < A.length), A[i].1 ≤ A[i + k].1
  | 0, i, h => Int.le_refl _
  | k + 1, i, h => by
    have r := asc_all V k i (by omega)
    have g := asc_at V (i := i + k) (by omega)
    exact Int.le_trans r (Int.le_of_lt g)
theorem vld_pair {A : List An} {drift : Int} (V : Vld A drift) {i : Nat} (h : i + 1 < A.length) : Vld [A[i], A[i + 1]] drift := by
  refine ⟨fun j hj hl => ?_, V.2.1, by simp⟩
  have hl2 : j < 2 := by simpa using hl
  have : j = 0 ∨ j = 1 := by omega
  rcases this with rfl | rfl
  · exact ⟨gOk_at V (by omega), fun q => by omega⟩
  · exact ⟨gOk_at V h, fun _ => asc_at V h⟩
theorem j_loop {A : List An} {drift : Int} (V : Vld A drift) : ∀ (k i f : Nat) (acc : List Int), k < f → A.length ≤ i + 1 + k → acc.length ≤ i → (∀ j ∈ acc, 1 ≤ j ∧ j < (A.length : Int)) →
    ∃ J, (F16_l9 600).L f (rowsI acc, rowsA A, drift, ((i + 1 : Nat) : Int)) = some (rowsI J) ∧ (F24_l9 600).L f (rowsI acc, rowsA A, drift, ((i + 1 : Nat) : Int)) = some (rowsI J) ∧ (∀ j ∈ J, 1 ≤ j ∧ j < (A.length : Int)) ∧ J.length ≤ i + k
  | 0, i, f, acc, hf, hi, ha, hj => by
    obtain ⟨f, rfl⟩ : ∃ f', f = f' + 1 := ⟨f - 1, by omega⟩
    have c : decide (((i + 1 : Nat) : Int) < (A.length : Int)) = false := by rw [decide_eq_false_iff_not]; omega
    refine ⟨acc, ?_, ?_, hj, by omega⟩
    · show (F16_l9 600).b _ _ ((F16_l9 600).L f) some = _
      simp only [F16_l9, rowsA_len, c]
    · show (F24_l9 600).b _ _ ((F24_l9 600).L f) some = _
      simp only [F24_l9, rowsA_len, c]
  | k + 1, i, f, acc, hf, hi, ha, hj => by
    obtain ⟨f, rfl⟩ : ∃ f', f = f' + 1 := ⟨f - 1, by omega⟩
    by_cases hlt : i + 1 < A.length
    · have l3 := V.2.2
      have hlt' : i < A.length := by omega
      have c1 : decide (((i + 1 : Nat) : Int) < (A.length : Int)) = true := by rw [decide_eq_true_iff]; omega
      have c2 : (0 : Int) ≤ ((i + 1 : Nat) : Int) := by omega
      have c3 : i64 (((i + 1 : Nat) : Int) - 1) = (i : Int) := by rw [i64_id (by omega)]; omega
      have c4 : i64 (((i + 1 : Nat) : Int) + 1) = ((i + 1 + 1 : Nat) : Int) := by rw [i64_id (by omega)]; omega
      have c5 : (0 : Int) ≤ (i : Int) := by omega
      have hb : ∀ r : List AV, ((rowsI acc).length + [r].length) * 8 ≤ maxBytes := fun r => by
        rw [rowsI_len]; unfold maxBytes; simp; omega
      have a1 := ag_ok A[i] A[i + 1] drift
      have a2 := ragrees_any A[i] A[i + 1] drift
      rw [decide_eq_true (vld_pair V hlt), Bool.true_and] at a2
      cases hc : agB A[i] A[i + 1] drift with
      | true =>
        rw [hc] at a1 a2
        obtain ⟨J, r1, r2, r3, r4⟩ := j_loop V k (i + 1) f acc (by omega) (by omega) (by omega) hj
        refine ⟨J, ?_, ?_, r3, by omega⟩
        · show (F16_l9 600).b _ _ ((F16_l9 600).L f) some = _
          obtain ⟨Lf, hL⟩ : ∃ Lf, Lf = (F16_l9 600).L f := ⟨_, rfl⟩
          rw [← hL] at r1 ⊢
          simp only [F16_l9, rowsA_len, c1, c2, c3, c4, c5, if_true, Int.toNat_natCast, rowsA_get A _ hlt, rowsA_get A _ hlt', List.getElem?_cons_zero, List.getElem?_cons_succ, a1, Bool.not_true]
          exact r1
        · show (F24_l9 600).b _ _ ((F24_l9 600).L f) some = _
          obtain ⟨Lf, hL⟩ : ∃ Lf, Lf = (F24_l9 600).L f := ⟨_, rfl⟩
          rw [← hL] at r2 ⊢
          simp only [F24_l9, rowsA_len, c1, c2, c3, c4, c5, if_true, Int.toNat_natCast, rowsA_get A _ hlt, rowsA_get A _ hlt', List.getElem?_cons_zero, List.getElem?_cons_succ, a2, Bool.not_true]
          exact r2
      | false =>
        rw [hc] at a1 a2
        obtain ⟨J, r1, r2, r3, r4⟩ := j_loop V k (i + 1) f (acc ++ [((i + 1 : Nat) : Int)]) (by omega) (by omega) (by rw [List.length_append, List.length_singleton]; omega) (fun j hm => by
          rcases List.mem_append.1 hm with h | h
          · exact hj j h
          · rw [List.mem_singleton.1 h]; omega)
        refine ⟨J, ?_, ?_, r3, by omega⟩
        · show (F16_l9 600).b _ _ ((F16_l9 600).L f) some = _
          obtain ⟨Lf, hL⟩ : ∃ Lf, Lf = (F16_l9 600).L f := ⟨_, rfl⟩
          rw [← hL] at r1 ⊢
          simp only [F16_l9, rowsA_len, c1, c2, c3, c4, c5, if_true, Int.toNat_natCast, rowsA_get A _ hlt, rowsA_get A _ hlt', List.getElem?_cons_zero, List.getElem?_cons_succ, a1, Bool.not_false, hb, rowsI_snoc]
          exact r1
        · show (F24_l9 600).b _ _ ((F24_l9 600).L f) some = _
          obtain ⟨Lf, hL⟩ : ∃ Lf, Lf = (F24_l9 600).L f := ⟨_, rfl⟩
          rw [← hL] at r2 ⊢
          simp only [F24_l9, rowsA_len, c1, c2, c3, c4, c5, if_true, Int.toNat_natCast, rowsA_get A _ hlt, rowsA_get A _ hlt', List.getElem?_cons_zero, List.getElem?_cons_succ, a2, Bool.not_false, hb, rowsI_snoc]
          exact r2
    · have c : decide (((i + 1 : Nat) : Int) < (A.length : Int)) = false := by rw [decide_eq_false_iff_not]; omega
      refine ⟨acc, ?_, ?_, hj, by omega⟩
      · show (F16_l9 600).b _ _ ((F16_l9 600).L f) some = _
        simp only [F16_l9, rowsA_len, c]
      · show (F24_l9 600).b _ _ ((F24_l9 600).L f) some = _
        simp only [F24_l9, rowsA_len, c]
/-- Jumps: the same list and the same answer in both packages; for valid anchors each of them lies within. -/
theorem jumps_any {A : List An} (hl : A.length ≤ 300) (drift : Int) : ∃ (J : List Int) (e : Int), F16_d 600 (rowsA A, drift) = some (rowsI J, e) ∧ F24_d 600 (rowsA A, drift) = some (rowsI J, e) ∧ J.length ≤ 300 ∧ (Vld A drift → e = 0 ∧ ∀ j ∈ J, 1 ≤ j ∧ j < (A.length : Int)) ∧ (¬ Vld A drift → e = 1) := by
  by_cases V : Vld A drift
  · obtain ⟨J, r1, r2, r3, r4⟩ := j_loop V A.length 0 600 [] (by omega) (by omega) (by simp) (by simp)
    replace r1 : (F16_l9 600).L 600 (([] : List (List AV)), rowsA A, drift, 1) = some (rowsI J) := r1
    replace r2 : (F24_l9 600).L 600 (([] : List (List AV)), rowsA A, drift, 1) = some (rowsI J) := r2
    refine ⟨J, 0, ?_, ?_, by omega, fun _ => ⟨rfl, r3⟩, fun h => absurd V h⟩
    · simp only [F16_d, FSpec.d, F16_s, F16_d9, valid_any hl, V, decide_true, Bool.not_true, r1]
    · simp only [F24_d, FSpec.d, F24_s, F24_d9, rvalid_any hl, V, decide_true, Bool.not_true, r2]
  · refine ⟨[], 1, ?_, ?_, by simp, fun h => absurd h V, fun _ => rfl⟩
    · simp only [F16_d, FSpec.d, F16_s, valid_any hl, V, decide_false, Bool.not_false]; rfl
    · simp only [F24_d, FSpec.d, F24_s, rvalid_any hl, V, decide_false, Bool.not_false]; rfl
/-! Contains. -/
theorem idx_loop (J : List Int) (x : Int) (hl : J.length ≤ 300) : ∀ (k i f : Nat), k < f → i + k = J.length → (x ∈ J.drop i ∧ ∃ q : Nat, (F58_l4 600).L f (rowsI J, x, (J.length : Int), (i : Int)) = some (.inl (q : Int))) ∨ (x ∉ J.drop i ∧ (F58_l4 600).L f (rowsI J, x, (J.length : Int), (i : Int)) = some (.inr ()))
  | 0, i, f, hf, hi => by
    obtain ⟨f, rfl⟩ : ∃ f', f = f' + 1 := ⟨f - 1, by omega⟩
    refine .inr ⟨by rw [List.drop_of_length_le (by omega)]; simp, ?_⟩
    show (F58_l4 600).b _ _ ((F58_l4 600).L f) some = _
    have c : decide ((i : Int) < (J.length : Int)) = false := by rw [decide_eq_false_iff_not]; omega
    simp only [F58_l4, c]
  | k + 1, i, f, hf, hi => by
    obtain ⟨f, rfl⟩ : ∃ f', f = f' + 1 := ⟨f - 1, by omega⟩
    have hlt : i < J.length := by omega
    have c1 : decide ((i : Int) < (J.length : Int)) = true := by rw [decide_eq_true_iff]; omega
    have c2 : (0 : Int) ≤ (i : Int) := by omega
    have c4 : i64 ((i : Int) + 1) = ((i + 1 : Nat) : Int) := by rw [i64_id (by omega)]; omega
    have hd : J.drop i = J[i] :: J.drop (i + 1) := List.drop_eq_getElem_cons hlt
    by_cases h : x = J[i]
    · refine .inl ⟨by rw [hd, h]; exact List.mem_cons_self, i, ?_⟩
      show (F58_l4 600).b _ _ ((F58_l4 600).L f) some = _
      have c5 : (x == J[i]) = true := beq_iff_eq.2 h
      simp only [F58_l4, c1, c2, if_true, Int.toNat_natCast, rowsI_get J i hlt, List.getElem?_cons_zero, c5]
    · have c5 : (x == J[i]) = false := beq_eq_false_iff_ne.2 h
      have r := idx_loop J x hl k (i + 1) f (by omega) (by omega)
      have st : (F58_l4 600).L (f + 1) (rowsI J, x, (J.length : Int), (i : Int)) = (F58_l4 600).L f (rowsI J, x, (J.length : Int), ((i + 1 : Nat) : Int)) := by
        show (F58_l4 600).b _ _ ((F58_l4 600).L f) some = _
        obtain ⟨Lf, hL⟩ : ∃ Lf, Lf = (F58_l4 600).L f := ⟨_, rfl⟩
        rw [← hL]
        simp only [F58_l4, c1, c2, if_true, Int.toNat_natCast, rowsI_get J i hlt, List.getElem?_cons_zero, c5, c4]
        exact if_pos trivial
      rw [st, hd]
      rcases r with ⟨h1, h2⟩ | ⟨h1, h2⟩
      · exact .inl ⟨List.mem_cons_of_mem _ h1, h2⟩
      · exact .inr ⟨fun q => (List.mem_cons.1 q).elim h h1, h2⟩
theorem has_any (J : List Int) (x : Int) (hl : J.length ≤ 300) : F50_d 600 (rowsI J, x) = some (decide (x ∈ J)) := by
  have r := idx_loop J x hl J.length 0 600 (by omega) (by omega)
  simp only [F50_d, FSpec.d, F50_s, F58_d, F58_s, F58_d4, rowsI_len]
  rcases r with ⟨h1, q, h2⟩ | ⟨h1, h2⟩
  · replace h2 : (F58_l4 600).L 600 (rowsI J, x, (J.length : Int), 0) = some (.inl (q : Int)) := h2
    have c : (q : Int) ≥ 0 := by omega
    have m : x ∈ J := h1
    simp only [h2, c, m, decide_true]
  · replace h2 : (F58_l4 600).L 600 (rowsI J, x, (J.length : Int), 0) = some (.inr ()) := h2
    have m : x ∉ J := h1
    simp only [h2, m, decide_false]
    rfl
/-! within. -/
theorem beh_loop {A : List An} (hl : A.length ≤ 300) (J : List (List AV)) (drift tag c d : Int) : ∀ (k i f : Nat), k < f → i + k = A.length → (∀ j (h : j < A.length), j < i → A[j].1 ≤ tag) →
    ∃ b : Nat, b ≤ A.length ∧ (F36_l4 600).L f (rowsA A, J, drift, tag, (i : Int), c, d) = some (rowsA A, J, drift, tag, (b : Int), c, d) ∧ (∀ j (h : j < A.length), j < b → A[j].1 ≤ tag) ∧ (∀ h : b < A.length, tag < A[b].1)
  | 0, i, f, hf, hi, hp => by
    obtain ⟨f, rfl⟩ : ∃ f', f = f' + 1 := ⟨f - 1, by omega⟩
    refine ⟨i, by omega, ?_, hp, fun h => by omega⟩
    show (F36_l4 600).b _ _ ((F36_l4 600).L f) some = _
    have : decide ((i : Int) < (A.length : Int)) = false := by rw [decide_eq_false_iff_not]; omega
    simp only [F36_l4, rowsA_len, this]
  | k + 1, i, f, hf, hi, hp => by
    obtain ⟨f, rfl⟩ : ∃ f', f = f' + 1 := ⟨f - 1, by omega⟩
    have hlt : i < A.length := by omega
    have c1 : decide ((i : Int) < (A.length : Int)) = true := by rw [decide_eq_true_iff]; omega
    have c2 : (0 : Int) ≤ (i : Int) := by omega
    have c4 : i64 ((i : Int) + 1) = ((i + 1 : Nat) : Int) := by rw [i64_id (by omega)]; omega
    by_cases h : A[i].1 ≤ tag
    · obtain ⟨b, hb, r1, r2, r3⟩ := beh_loop hl J drift tag c d k (i + 1) f (by omega) (by omega) (fun j hj hji => by
        by_cases e : j = i
        · subst e; exact h
        · exact hp j hj (by omega))
      refine ⟨b, hb, ?_, r2, r3⟩
      show (F36_l4 600).b _ _ ((F36_l4 600).L f) some = _
      obtain ⟨Lf, hL⟩ : ∃ Lf, Lf = (F36_l4 600).L f := ⟨_, rfl⟩
      rw [← hL] at r1 ⊢
      simp only [F36_l4, rowsA_len, c1, c2, if_true, Int.toNat_natCast, rowsA_get A i hlt, List.drop_zero, List.getElem?_cons_zero, h, decide_true, c4]
      exact r1
    · refine ⟨i, by omega, ?_, hp, fun _ => by omega⟩
      show (F36_l4 600).b _ _ ((F36_l4 600).L f) some = _
      obtain ⟨Lf, hL⟩ : ∃ Lf, Lf = (F36_l4 600).L f := ⟨_, rfl⟩
      rw [← hL]
      simp only [F36_l4, rowsA_len, c1, c2, if_true, Int.toNat_natCast, rowsA_get A i hlt, List.drop_zero, List.getElem?_cons_zero, h, decide_false]
/-- Both packages' runs: the document's search and the code's. -/
theorem run_any {A : List An} {drift : Int} (hl : A.length ≤ 300) (J : List Int) (hJl : J.length ≤ 300) (hJ : ∀ j ∈ J, 1 ≤ j ∧ j < (A.length : Int)) (t : Int) {b : Nat} (hlo : ∀ j (h : j < A.length), j < b → A[j].1 ≤ t) (hhi : ∀ j (h : j < A.length), b ≤ j → t < A[j].1) {i : Int} (hi : ∀ k : Int, 1 ≤ k → (k ≤ i ↔ k < b)) (c d : Int) :
    ∀ (k q f : Nat) (s e : Int), k < f → q + k = J.length → (0 ≤ s ∧ s ≤ i) → (i < e ∧ e ≤ A.length) →
    (((b : Int) ∈ J.drop q) ∧ ∃ s' e', (F46_l6 600).L f (rowsA A, rowsI J, drift, t, c, d, s, e, (q : Int)) = some (.inl (rowsA A, drift, t, (if (fr (A.getD b (0, 0, 0)) drift t).1 < (fr (A.getD (b - 1) (0, 0, 0)) drift t).1 then (fr (A.getD b (0, 0, 0)) drift t).1 else (fr (A.getD (b - 1) (0, 0, 0)) drift t).1), (if (fr (A.getD b (0, 0, 0)) drift t).2 > (fr (A.getD (b - 1) (0, 0, 0)) drift t).2 then (fr (A.getD b (0, 0, 0)) drift t).2 else (fr (A.getD (b - 1) (0, 0, 0)) drift t).2), s', e'))) ∨
    (((b : Int) ∉ J.drop q) ∧ ∃ s' e' : Int, (F46_l6 600).L f (rowsA A, rowsI J, drift, t, c, d, s, e, (q : Int)) = some (.inr (rowsA A, drift, t, c, d, s', e')) ∧ (F52_l5 600).L f (rowsI J, i, s, e, (J.length : Int), (q : Int)) = some (s', e') ∧ (0 ≤ s' ∧ s' ≤ i) ∧ (i < e' ∧ e' ≤ A.length))
  | 0, q, f, s, e, hf, hq, hs, he => by
    obtain ⟨f, rfl⟩ : ∃ f', f = f' + 1 := ⟨f - 1, by omega⟩
    have c1 : decide ((q : Int) < (J.length : Int)) = false := by rw [decide_eq_false_iff_not]; omega
    refine .inr ⟨by rw [List.drop_of_length_le (by omega)]; simp, s, e, ?_, ?_, hs, he⟩
    · show (F46_l6 600).b _ _ ((F46_l6 600).L f) some = _
      simp only [F46_l6, rowsI_len, c1]
    · show (F52_l5 600).b _ _ ((F52_l5 600).L f) some = _
      simp only [F52_l5, c1]
  | k + 1, q, f, s, e, hf, hq, hs, he => by
    obtain ⟨f, rfl⟩ : ∃ f', f = f' + 1 := ⟨f - 1, by omega⟩
    have hlt : q < J.length := by omega
    have c1 : decide ((q : Int) < (J.length : Int)) = true := by rw [decide_eq_true_iff]; omega
    have c2 : (0 : Int) ≤ (q : Int) := by omega
    have c4 : i64 ((q : Int) + 1) = ((q + 1 : Nat) : Int) := by rw [i64_id (by omega)]; omega
    have hd : J.drop q = J[q] :: J.drop (q + 1) := List.drop_eq_getElem_cons hlt
    obtain ⟨hj1, hj2⟩ := hJ J[q] (List.getElem_mem hlt)
    obtain ⟨m, hm⟩ : ∃ m : Nat, J[q] = (m : Int) := ⟨J[q].toNat, by omega⟩
    have g := rowsI_get J q hlt
    rw [hm] at g hd hj1 hj2
    have hml : m < A.length := by omega
    have hml' : m - 1 < A.length := by omega
    have c5 : (0 : Int) ≤ (m : Int) := by omega
    have c6 : i64 ((m : Int) - 1) = ((m - 1 : Nat) : Int) := by rw [i64_id (by omega)]; omega
    have c7 : (0 : Int) ≤ ((m - 1 : Nat) : Int) := by omega
    have him := hi (m : Int) hj1
    by_cases h1 : m < b
    · have t1 : t ≥ A[m].1 := hlo m hml h1
      have u1 : (m : Int) ≤ i := him.2 (by omega)
      have hd2 : ((b : Int) ∈ J.drop q ↔ (b : Int) ∈ J.drop (q + 1)) := by
        rw [hd, List.mem_cons]
        exact ⟨fun h => h.elim (fun h => absurd h (by omega)) id, .inr⟩
      have r := run_any (drift := drift) hl J hJl hJ t hlo hhi hi c d k (q + 1) f (m : Int) e (by omega) (by omega) (by omega) he
      have st : (F46_l6 600).L (f + 1) (rowsA A, rowsI J, drift, t, c, d, s, e, (q : Int)) = (F46_l6 600).L f (rowsA A, rowsI J, drift, t, c, d, (m : Int), e, ((q + 1 : Nat) : Int)) := by
        show (F46_l6 600).b _ _ ((F46_l6 600).L f) some = _
        obtain ⟨Lf, hL⟩ : ∃ Lf, Lf = (F46_l6 600).L f := ⟨_, rfl⟩
        rw [← hL]
        simp only [F46_l6, rowsI_len, c1, c2, c4, c5, if_true, Int.toNat_natCast, g, List.getElem?_cons_zero, List.drop_zero, rowsA_get A _ hml, t1, decide_true]
        exact if_pos trivial
      have st2 : (F52_l5 600).L (f + 1) (rowsI J, i, s, e, (J.length : Int), (q : Int)) = (F52_l5 600).L f (rowsI J, i, (m : Int), e, (J.length : Int), ((q + 1 : Nat) : Int)) := by
        show (F52_l5 600).b _ _ ((F52_l5 600).L f) some = _
        obtain ⟨Lf, hL⟩ : ∃ Lf, Lf = (F52_l5 600).L f := ⟨_, rfl⟩
        rw [← hL]
        simp only [F52_l5, c1, c2, c4, if_true, Int.toNat_natCast, g, List.getElem?_cons_zero, u1, decide_true]
        exact if_pos trivial
      rw [st, st2, hd2]
      exact r
    · by_cases h2 : m = b
      · subst h2
        have t1 : ¬ t ≥ A[m].1 := by have := hhi m hml (by omega); omega
        have t2 : t ≥ A[m - 1].1 := hlo (m - 1) hml' (by omega)
        refine .inl ⟨by rw [hd]; simp, s, e, ?_⟩
        show (F46_l6 600).b _ _ ((F46_l6 600).L f) some = _
        obtain ⟨Lf, hL⟩ : ∃ Lf, Lf = (F46_l6 600).L f := ⟨_, rfl⟩
        rw [← hL]
        simp only [F46_l6, rowsI_len, c1, c2, c4, c5, c6, c7, if_true, Int.toNat_natCast, g, List.getElem?_cons_zero, List.getElem?_cons_succ, List.drop_zero, rowsA_get A _ hml, rowsA_get A _ hml', t1, t2, decide_true, decide_false, rfr_ok, getD_at hml, getD_at hml']
      · have t1 : ¬ t ≥ A[m].1 := by have := hhi m hml (by omega); omega
        have t2 : ¬ t ≥ A[m - 1].1 := by have := hhi (m - 1) hml' (by omega); omega
        have u1 : ¬ (m : Int) ≤ i := fun h => by have := him.1 h; omega
        have hd2 : ((b : Int) ∈ J.drop q ↔ (b : Int) ∈ J.drop (q + 1)) := by
          rw [hd, List.mem_cons]
          exact ⟨fun h => h.elim (fun h => absurd h (by omega)) id, .inr⟩
        have r := run_any (drift := drift) hl J hJl hJ t hlo hhi hi c d k (q + 1) f s (if (m : Int) < e then (m : Int) else e) (by omega) (by omega) hs (by split <;> omega)
        have st : (F46_l6 600).L (f + 1) (rowsA A, rowsI J, drift, t, c, d, s, e, (q : Int)) = (F46_l6 600).L f (rowsA A, rowsI J, drift, t, c, d, s, (if (m : Int) < e then (m : Int) else e), ((q + 1 : Nat) : Int)) := by
          show (F46_l6 600).b _ _ ((F46_l6 600).L f) some = _
          obtain ⟨Lf, hL⟩ : ∃ Lf, Lf = (F46_l6 600).L f := ⟨_, rfl⟩
          rw [← hL]
          simp only [F46_l6, rowsI_len, c1, c2, c4, c5, c6, c7, if_true, Int.toNat_natCast, g, List.getElem?_cons_zero, List.drop_zero, rowsA_get A _ hml, rowsA_get A _ hml', t1, t2, decide_false]
          exact if_pos trivial
        have st2 : (F52_l5 600).L (f + 1) (rowsI J, i, s, e, (J.length : Int), (q : Int)) = (F52_l5 600).L f (rowsI J, i, s, (if (m : Int) < e then (m : Int) else e), (J.length : Int), ((q + 1 : Nat) : Int)) := by
          show (F52_l5 600).b _ _ ((F52_l5 600).L f) some = _
          obtain ⟨Lf, hL⟩ : ∃ Lf, Lf = (F52_l5 600).L f := ⟨_, rfl⟩
          rw [← hL]
          by_cases h3 : (m : Int) < e
          · simp only [F52_l5, c1, c2, c4, if_true, Int.toNat_natCast, g, List.getElem?_cons_zero, u1, h3, decide_false, decide_true]
            exact if_pos trivial
          · simp only [F52_l5, c1, c2, c4, if_true, Int.toNat_natCast, g, List.getElem?_cons_zero, u1, h3, decide_false, if_false]
            exact if_pos trivial
        rw [st, st2, hd2]
        exact r
/-- The common part of the intervals of a run. -/
theorem com_any {A S : List An} (hl : A.length ≤ 300) (drift t : Int) {s : Nat} (hS : ∀ j (h : j < S.length), ∃ h2 : s + j < A.length, S[j] = A[s + j]) (c d : Int) : ∀ (k i f : Nat) (lo hi : Int), k < f → i + 1 + k = S.length →
    ∃ lo' hi', (F36_l18 600).L f (rowsA S, drift, t, (S.length : Int), ((i + 1 : Nat) : Int), c, d, lo, hi) = some (c, d, lo', hi') ∧ (F46_l26 600).L f (rowsA A, drift, t, lo, hi, (s : Int), ((s + S.length : Nat) : Int), ((s + (i + 1) : Nat) : Int)) = some (lo', hi')
  | 0, i, f, lo, hi, hf, hk => by
    obtain ⟨f, rfl⟩ : ∃ f', f = f' + 1 := ⟨f - 1, by omega⟩
    have c1 : decide (((i + 1 : Nat) : Int) < (S.length : Int)) = false := by rw [decide_eq_false_iff_not]; omega
    have c2 : decide (((s + (i + 1) : Nat) : Int) < ((s + S.length : Nat) : Int)) = false := by rw [decide_eq_false_iff_not]; omega
    refine ⟨lo, hi, ?_, ?_⟩
    · show (F36_l18 600).b _ _ ((F36_l18 600).L f) some = _
      simp only [F36_l18, c1]
    · show (F46_l26 600).b _ _ ((F46_l26 600).L f) some = _
      simp only [F46_l26, c2]
  | k + 1, i, f, lo, hi, hf, hk => by
    obtain ⟨f, rfl⟩ : ∃ f', f = f' + 1 := ⟨f - 1, by omega⟩
    have hlt : i + 1 < S.length := by omega
    obtain ⟨hA, eA⟩ := hS (i + 1) hlt
    have c1 : decide (((i + 1 : Nat) : Int) < (S.length : Int)) = true := by rw [decide_eq_true_iff]; omega
    have c2 : decide (((s + (i + 1) : Nat) : Int) < ((s + S.length : Nat) : Int)) = true := by rw [decide_eq_true_iff]; omega
    have c3 : (0 : Int) ≤ ((i + 1 : Nat) : Int) := by omega
    have c4 : (0 : Int) ≤ ((s + (i + 1) : Nat) : Int) := by omega
    have c5 : i64 (((i + 1 : Nat) : Int) + 1) = ((i + 1 + 1 : Nat) : Int) := by rw [i64_id (by omega)]; omega
    have c6 : i64 (((s + (i + 1) : Nat) : Int) + 1) = ((s + (i + 1 + 1) : Nat) : Int) := by rw [i64_id (by omega)]; omega
    have c7 : (((s + (i + 1) : Nat) : Int) == (s : Int)) = false := beq_eq_false_iff_ne.2 (by omega)
    obtain ⟨lo', hi', r1, r2⟩ := com_any hl drift t hS c d k (i + 1) f (if (fr A[s + (i + 1)] drift t).1 > lo then (fr A[s + (i + 1)] drift t).1 else lo) (if (fr A[s + (i + 1)] drift t).2 < hi then (fr A[s + (i + 1)] drift t).2 else hi) (by omega) (by omega)
    refine ⟨lo', hi', ?_, ?_⟩
    · show (F36_l18 600).b _ _ ((F36_l18 600).L f) some = _
      obtain ⟨Lf, hL⟩ : ∃ Lf, Lf = (F36_l18 600).L f := ⟨_, rfl⟩
      rw [← hL] at r1 ⊢
      simp only [F36_l18, c1, c3, c5, if_true, Int.toNat_natCast, rowsA_get S _ hlt, eA, List.getElem?_cons_zero, List.getElem?_cons_succ, fr_ok, F37_d, FSpec.d, F37_s]
      exact r1
    · show (F46_l26 600).b _ _ ((F46_l26 600).L f) some = _
      obtain ⟨Lf, hL⟩ : ∃ Lf, Lf = (F46_l26 600).L f := ⟨_, rfl⟩
      rw [← hL] at r2 ⊢
      simp only [F46_l26, c2, c4, c6, c7, if_true, Int.toNat_natCast, rowsA_get A _ hA, List.getElem?_cons_zero, List.getElem?_cons_succ, rfr_ok]
      exact r2
theorem com_first {A S : List An} (hl : A.length ≤ 300) (drift t : Int) {s : Nat} (hS : ∀ j (h : j < S.length), ∃ h2 : s + j < A.length, S[j] = A[s + j]) (c d : Int) (h0 : 0 < S.length) (hs : s < A.length) (c' d' : Int) :
    ∃ lo' hi', (F36_l18 600).L 600 (rowsA S, drift, t, (S.length : Int), 0, c, d, (fr A[s] drift t).1, (fr A[s] drift t).2) = some (c, d, lo', hi') ∧ (F46_l26 600).L 600 (rowsA A, drift, t, c', d', (s : Int), ((s + S.length : Nat) : Int), (s : Int)) = some (lo', hi') := by
  obtain ⟨hA, eA⟩ := hS 0 h0
  have hSl : S.length ≤ 300 := by obtain ⟨h, -⟩ := hS (S.length - 1) (by omega); omega
  have c1 : decide ((0 : Int) < (S.length : Int)) = true := by rw [decide_eq_true_iff]; omega
  have c2 : decide ((s : Int) < ((s + S.length : Nat) : Int)) = true := by rw [decide_eq_true_iff]; omega
  have c3 : (0 : Int) ≤ 0 := by omega
  have c3' : (0 : Int).toNat = 0 := rfl
  have c4 : (0 : Int) ≤ (s : Int) := by omega
  have c5 : i64 ((0 : Int) + 1) = ((0 + 1 : Nat) : Int) := rfl
  have c6 : i64 ((s : Int) + 1) = ((s + (0 + 1) : Nat) : Int) := by rw [i64_id (by omega)]; omega
  have c7 : ((s : Int) == (s : Int)) = true := by simp
  obtain ⟨lo', hi', r1, r2⟩ := com_any hl drift t hS c d (S.length - 1) 0 599 (if (fr A[s] drift t).1 > (fr A[s] drift t).1 then (fr A[s] drift t).1 else (fr A[s] drift t).1) (if (fr A[s] drift t).2 < (fr A[s] drift t).2 then (fr A[s] drift t).2 else (fr A[s] drift t).2) (by omega) (by omega)
  refine ⟨lo', hi', ?_, ?_⟩
  · show (F36_l18 600).b _ _ ((F36_l18 600).L 599) some = _
    obtain ⟨Lf, hL⟩ : ∃ Lf, Lf = (F36_l18 600).L 599 := ⟨_, rfl⟩
    rw [← hL] at r1 ⊢
    simp only [F36_l18, c1, c3, c3', c5, if_true, rowsA_get S _ h0, eA, Nat.add_zero, List.getElem?_cons_zero, List.getElem?_cons_succ, fr_ok, F37_d, FSpec.d, F37_s]
    exact r1
  · show (F46_l26 600).b _ _ ((F46_l26 600).L 599) some = _
    obtain ⟨Lf, hL⟩ : ∃ Lf, Lf = (F46_l26 600).L 599 := ⟨_, rfl⟩
    rw [← hL] at r2 ⊢
    simp only [F46_l26, c2, c4, c6, c7, if_true, Int.toNat_natCast, rowsA_get A _ hs, List.getElem?_cons_zero, List.getElem?_cons_succ, rfr_ok]
    exact r2
theorem with_any {A : List An} {drift : Int} (V : Vld A drift) (h0 : A.length ≠ 0) {J : List Int} (j1 : F24_d 600 (rowsA A, drift) = some (rowsI J, 0)) (hJl : J.length ≤ 300) (hJ : ∀ j ∈ J, 1 ≤ j ∧ j < (A.length : Int)) (t : Int) :
    ∃ v, F36_d 600 (rowsA A, rowsI J, drift, t) = some v ∧ F46_d 600 (rowsA A, drift, t) = some v := by
  have hl : A.length ≤ 300 := by have := V.2.2; omega
  obtain ⟨b, hb, r1, r2, r3⟩ := beh_loop hl (rowsI J) drift t 0 0 A.length 0 600 (by omega) (by omega) (fun j _ h => by omega)
  replace r1 : (F36_l4 600).L 600 (rowsA A, rowsI J, drift, t, 0, 0, 0) = some (rowsA A, rowsI J, drift, t, (b : Int), 0, 0) := r1
  have hhi : ∀ j (h : j < A.length), b ≤ j → t < A[j].1 := fun j h hbj => by
    have g := asc_all V (j - b) b (by omega)
    have e : b + (j - b) = j := by omega
    simp only [e] at g
    exact Int.lt_of_lt_of_le (r3 (by omega)) g
  have g1 := has_any J (b : Int) hJl
  obtain ⟨i, hi⟩ : ∃ i : Int, i = (if 0 > (b : Int) - 1 then 0 else (b : Int) - 1) := ⟨_, rfl⟩
  have hib : 0 ≤ i ∧ i < (A.length : Int) := by rw [hi]; split <;> omega
  have hik : ∀ k : Int, 1 ≤ k → (k ≤ i ↔ k < b) := fun k hk => by rw [hi]; split <;> constructor <;> omega
  have R := run_any (drift := drift) hl J hJl hJ t r2 hhi hik 0 0 J.length 0 600 0 (A.length : Int) (by omega) (by omega) (by omega) (by omega)
  rcases R with ⟨m, s, e, k1⟩ | ⟨m, s, e, k1, k2, k3, k4⟩
  · replace k1 : (F46_l6 600).L 600 (rowsA A, rowsI J, drift, t, 0, 0, 0, (A.length : Int), 0) = _ := k1
    replace m : (b : Int) ∈ J := m
    have hbj := hJ _ m
    have hlt : b < A.length := by omega
    have hlt' : b - 1 < A.length := by omega
    rw [getD_at hlt, getD_at hlt'] at k1
    have c2 : (0 : Int) ≤ (b : Int) := by omega
    have c6 : i64 ((b : Int) - 1) = ((b - 1 : Nat) : Int) := by rw [i64_id (by omega)]; omega
    have c8 : (0 : Int) ≤ ((b - 1 : Nat) : Int) := by omega
    refine ⟨((if (fr A[b] drift t).1 < (fr A[b - 1] drift t).1 then (fr A[b] drift t).1 else (fr A[b - 1] drift t).1), (if (fr A[b] drift t).2 > (fr A[b - 1] drift t).2 then (fr A[b] drift t).2 else (fr A[b - 1] drift t).2)), ?_, ?_⟩
    rotate_left
    · simp only [F46_d, FSpec.d, F46_s, F46_d6, j1, rowsA_len, k1]
    · simp only [F36_d, FSpec.d, F36_s, F36_d4, r1, g1, m, decide_true, c6, c8, c2, if_true, Int.toNat_natCast, rowsA_get A _ hlt, rowsA_get A _ hlt', List.getElem?_cons_zero, List.getElem?_cons_succ, fr_ok, F51_d, F51_s]
  · replace k1 : (F46_l6 600).L 600 (rowsA A, rowsI J, drift, t, 0, 0, 0, (A.length : Int), 0) = _ := k1
    replace k2 : (F52_l5 600).L 600 (rowsI J, i, 0, (A.length : Int), (J.length : Int), 0) = _ := k2
    replace m : ¬ (b : Int) ∈ J := m
    obtain ⟨s', hs'⟩ : ∃ s' : Nat, s = (s' : Int) := ⟨s.toNat, by omega⟩
    obtain ⟨e', he'⟩ : ∃ e' : Nat, e = (e' : Int) := ⟨e.toNat, by omega⟩
    subst hs' he'
    have hs : s' < A.length := by omega
    have hrow : ((rowsA A).take e').drop s' = rowsA ((A.take e').drop s') := by simp [rowsA, List.map_take, List.map_drop]
    have hSl : ((A.take e').drop s').length = e' - s' := by rw [List.length_drop, List.length_take]; omega
    have hS : ∀ j (h : j < ((A.take e').drop s').length), ∃ h2 : s' + j < A.length, ((A.take e').drop s')[j] = A[s' + j] := fun j h => ⟨by omega, by rw [List.getElem_drop, List.getElem_take]⟩
    obtain ⟨lo, hi', q1, q2⟩ := com_first hl drift t hS 0 0 (by omega) hs 0 0
    have ee : s' + ((A.take e').drop s').length = e' := by omega
    rw [ee] at q2
    have c6 : i64 ((b : Int) - 1) = (b : Int) - 1 := i64_id (by omega)
    have cond : (0 : Int) ≤ (s' : Int) ∧ (s' : Int) ≤ (e' : Int) ∧ (e' : Int) ≤ (A.length : Int) := by omega
    have c8 : (0 : Int) ≤ (s' : Int) := by omega
    refine ⟨(lo, hi'), ?_, ?_⟩
    · simp only [F36_d, FSpec.d, F36_s, F36_d4, r1, g1, m, decide_false, c6, ← hi, rowsA_len, F52_d, F52_s, F52_d5, rowsI_len, k2, c8, if_true, Int.toNat_natCast, rowsA_get A _ hs, List.getElem?_cons_zero, List.getElem?_cons_succ, fr_ok, cond, and_self, true_and, hrow, F36_d18, q1]
    · simp only [F46_d, FSpec.d, F46_s, F46_d6, F46_d26, j1, rowsA_len, k1, q2]
/-- Correct. -/
theorem cor_any {A : List An} (hl : A.length ≤ 300) (drift t : Int) : ∃ v, F15_d 600 (rowsA A, drift, t) = some v ∧ F28_d 600 (rowsA A, drift, t) = some v := by
  obtain ⟨J, e, j1, j2, jl, j3, j4⟩ := jumps_any hl drift
  by_cases V : Vld A drift
  · obtain ⟨rfl, hJ⟩ := j3 V
    by_cases h1 : tOk t
    · by_cases h0 : A.length = 0
      · have c0 : ((A.length : Int) == 0) = true := by simp [h0]
        refine ⟨(0, 0, 6), ?_, ?_⟩
        · simp only [F15_d, FSpec.d, F15_s, j1, bne_self_eq_false, time_any, h1, decide_true, Bool.not_true, rowsA_len, c0]
        · simp only [F28_d, FSpec.d, F28_s, rvalid_any hl, V, rtime_any, h1, decide_true, Bool.not_true, rowsA_len, c0]
      · have c0 : ((A.length : Int) == 0) = false := by simp [h0]
        obtain ⟨v, w1, w2⟩ := with_any V h0 j2 jl hJ t
        by_cases h2 : (if 0 > v.1 then 0 else v.1) > (if 9007199254740992 < v.2 then 9007199254740992 else v.2)
        · refine ⟨(0, 0, 11), ?_, ?_⟩
          · simp only [F15_d, FSpec.d, F15_s, j1, bne_self_eq_false, time_any, h1, decide_true, Bool.not_true, rowsA_len, c0, w1, F37_d, F37_s, h2]
          · simp only [F28_d, FSpec.d, F28_s, rvalid_any hl, V, rtime_any, h1, decide_true, Bool.not_true, rowsA_len, c0, w2, h2]
        · have e1 : F15_d 600 (rowsA A, drift, t) = F28_d 600 (rowsA A, drift, t) := by
            simp only [F15_d, F28_d, FSpec.d, F15_s, F28_s, j1, bne_self_eq_false, time_any, rvalid_any hl, V, rtime_any, h1, decide_true, Bool.not_true, rowsA_len, c0, w1, w2, F37_d, F37_s, h2, decide_false]
          have e2 : ∃ v, F28_d 600 (rowsA A, drift, t) = some v := by
            simp only [F28_d, FSpec.d, F28_s, rvalid_any hl, V, rtime_any, h1, decide_true, Bool.not_true, rowsA_len, c0, w2, h2, decide_false]
            exact ⟨_, rfl⟩
          obtain ⟨v, e2⟩ := e2
          exact ⟨v, e1.trans e2, e2⟩
    · have h3 := decide_eq_false h1
      refine ⟨(0, 0, 1), ?_, ?_⟩
      · simp only [F15_d, FSpec.d, F15_s, j1, bne_self_eq_false, time_any, h3, Bool.not_false]
      · simp only [F28_d, FSpec.d, F28_s, rvalid_any hl, V, rtime_any, h3, decide_true, Bool.not_true, Bool.not_false]
  · have he := j4 V
    subst he
    refine ⟨(0, 0, 1), ?_, ?_⟩
    · have c : ((1 : Int) != 0) = true := rfl
      simp only [F15_d, FSpec.d, F15_s, j1, c]
    · have h3 := decide_eq_false V
      simp only [F28_d, FSpec.d, F28_s, rvalid_any hl, h3, Bool.not_false]
end Go.Proofs.Ytecoemdhnphmdaa
