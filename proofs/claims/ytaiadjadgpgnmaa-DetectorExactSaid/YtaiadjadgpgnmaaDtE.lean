/- The detector, plain laws: what a run keeps. -/
import Derived.Test.YtaiadjadgpgnmaaDtD
namespace Go.Proofs.Ytaiadjadgpgnmaa
set_option linter.unusedVariables false
set_option linter.unusedSimpArgs false
set_option linter.unnecessarySimpa false
/-- What holds ahead of sample number c: triggers that have ended, the open one. -/
structure Inv (lo c : Int) (q : Trg × List Trg) : Prop where
  ended : ∀ t ∈ q.2, lo ≤ t.1 ∧ t.1 < t.2.1 ∧ t.2.1 < c
  opn : q.1 = (-1, 0, 0) ∨ (lo ≤ q.1.1 ∧ q.1.1 < c ∧ q.1.2.1 = -1)
theorem Inv.mono {lo c c' : Int} {q : Trg × List Trg} (h : Inv lo c q) (hc : c ≤ c') : Inv lo c' q where
  ended := fun t ht => by have := h.ended t ht; omega
  opn := by rcases h.opn with h | h
            · exact .inl h
            · exact .inr (by omega)
/-- The three ways of a step: nothing but the peak; an end; a begin. -/
theorem stp_cases (S L a b : Int) (z : List Int) (base : Int) (i : Nat) (q : Trg × List Trg) :
    (stp S L a b z base i q = (tr2 (z.getD i 0) q.1, q.2) ∧ ¬ (base + i + 1 ≥ L ∧ q.1.1 ≥ 0 ∧ reachB S L b (W z S.toNat i) (W z L.toNat i) = false) ∧ ¬ (base + i + 1 ≥ L ∧ q.1.1 < 0 ∧ reachB S L a (W z S.toNat i) (W z L.toNat i) = true)) ∨
    (stp S L a b z base i q = ((-1, 0, 0), q.2 ++ [(q.1.1, base + i, q.1.2.2)]) ∧ base + i + 1 ≥ L ∧ q.1.1 ≥ 0 ∧ reachB S L b (W z S.toNat i) (W z L.toNat i) = false) ∨
    (stp S L a b z base i q = (tr2 (z.getD i 0) (base + i, -1, 0), q.2) ∧ base + i + 1 ≥ L ∧ q.1.1 < 0 ∧ reachB S L a (W z S.toNat i) (W z L.toNat i) = true) := by
  unfold stp tr1
  by_cases c1 : base + i + 1 ≥ L
  · by_cases c2 : q.1.1 ≥ 0
    · cases c3 : reachB S L b (W z S.toNat i) (W z L.toNat i) with
      | true =>
        refine .inl ⟨?_, by simp, by omega⟩
        simp only [c1, c2, if_true]
      | false =>
        refine .inr (.inl ⟨?_, c1, c2, rfl⟩)
        simp only [c1, c2, if_true, Bool.false_eq_true, if_false]
        rfl
    · cases c3 : reachB S L a (W z S.toNat i) (W z L.toNat i) with
      | true =>
        refine .inr (.inr ⟨?_, c1, by omega, rfl⟩)
        simp only [c1, c2, if_true, if_false]
      | false =>
        refine .inl ⟨?_, by omega, by simp⟩
        simp only [c1, c2, if_true, if_false, Bool.false_eq_true]
  · refine .inl ⟨?_, by omega, by omega⟩
    simp only [c1, if_false]
theorem tr2_on (x : Int) (t : Trg) : (tr2 x t).1 = t.1 ∧ (tr2 x t).2.1 = t.2.1 ∧ t.2.2 ≤ (tr2 x t).2.2 := by
  unfold tr2
  split
  · refine ⟨rfl, rfl, ?_⟩
    simp only
    split <;> omega
  · exact ⟨rfl, rfl, by omega⟩
theorem tr2_none (x : Int) : tr2 x (-1, 0, 0) = (-1, 0, 0) := rfl
theorem Inv.stp {S L a b lo base : Int} {z : List Int} {i : Nat} {q : Trg × List Trg} (h : Inv lo (base + i) q) (hlo : 0 ≤ lo ∧ lo ≤ base + i) : Inv lo (base + i + 1) (stp S L a b z base i q) := by
  rcases stp_cases S L a b z base i q with ⟨e, _⟩ | ⟨e, _, c, _⟩ | ⟨e, _, c, _⟩
  · rw [e]
    refine ⟨fun t ht => by have := h.ended t ht; omega, ?_⟩
    rcases h.opn with h | h
    · left; simp only [h, tr2_none]
    · right
      have := tr2_on (z.getD i 0) q.1
      simp only
      omega
  · rw [e]
    refine ⟨fun t ht => ?_, .inl rfl⟩
    rcases List.mem_append.1 ht with ht | ht
    · have := h.ended t ht; omega
    · simp at ht
      subst ht
      rcases h.opn with h | h
      · rw [h] at c; simp at c
      · simp only; omega
  · rw [e]
    refine ⟨fun t ht => by have := h.ended t ht; omega, .inr ?_⟩
    have := tr2_on (z.getD i 0) (base + i, -1, 0)
    simp only at this ⊢
    omega
theorem Inv.run {S L a b lo base : Int} {z : List Int} : ∀ (k i : Nat) {q : Trg × List Trg}, Inv lo (base + i) q → (0 ≤ lo ∧ lo ≤ base + i) → Inv lo (base + (i + k : Nat)) (runT S L a b z base k i q)
  | 0, i, q, h, hlo => h
  | k + 1, i, q, h, hlo => by
    have h2 := h.stp (S := S) (L := L) (a := a) (b := b) (z := z) hlo
    have e : base + (i : Int) + 1 = base + ((i + 1 : Nat) : Int) := by omega
    rw [e] at h2
    have := Inv.run (S := S) (L := L) (a := a) (b := b) (z := z) k (i + 1) h2 (by omega)
    rw [show i + (k + 1) = i + 1 + k by omega]
    exact this
theorem Inv.none0 {lo c : Int} : Inv lo c none0 := ⟨fun t ht => (by cases ht), .inl rfl⟩
/-- The triggers that have ended stand ahead of all that a run adds. -/
theorem stp_pre (S L a b : Int) (z : List Int) (base : Int) (i : Nat) (t : Trg) (E F : List Trg) : stp S L a b z base i (t, E ++ F) = ((stp S L a b z base i (t, F)).1, E ++ (stp S L a b z base i (t, F)).2) := by
  unfold stp tr1
  simp only
  split
  · split
    · split
      · rfl
      · simp
    · split <;> rfl
  · rfl
theorem runT_pre (S L a b : Int) (z : List Int) (base : Int) : ∀ (k i : Nat) (t : Trg) (E F : List Trg), runT S L a b z base k i (t, E ++ F) = ((runT S L a b z base k i (t, F)).1, E ++ (runT S L a b z base k i (t, F)).2)
  | 0, i, t, E, F => rfl
  | k + 1, i, t, E, F => by
    unfold runT
    rw [stp_pre, runT_pre S L a b z base k]
theorem closed_pre (t : Trg) (E F : List Trg) : closed (t, E ++ F) = E ++ closed (t, F) := by
  unfold closed
  simp only
  split
  · rw [List.append_assoc]
  · rfl
/-- What becomes of an open trigger. -/
theorem run_open (S L a b : Int) (z : List Int) (base : Int) : ∀ (k i : Nat) (t : Trg), t.1 ≥ 0 → t.2.1 = -1 → ∃ u more, closed (runT S L a b z base k i (t, [])) = u :: more ∧ u.1 = t.1 ∧ t.2.2 ≤ u.2.2 ∧ (u.2.1 = -1 ∨ u.2.1 ≥ base + i)
  | 0, i, t, h, ht => ⟨t, [], by unfold runT closed; rw [if_pos h]; rfl, rfl, by omega, .inl ht⟩
  | k + 1, i, t, h, ht => by
    unfold runT
    rcases stp_cases S L a b z base i (t, []) with ⟨e, _⟩ | ⟨e, _, c, _⟩ | ⟨e, _, c, _⟩
    · rw [e]
      have h2 := tr2_on (z.getD i 0) t
      obtain ⟨u, more, u1, u2, u3, u4⟩ := run_open S L a b z base k (i + 1) (tr2 (z.getD i 0) t) (by omega) (by omega)
      exact ⟨u, more, u1, by omega, by omega, by omega⟩
    · rw [e]
      have := runT_pre S L a b z base k (i + 1) (-1, 0, 0) [(t.1, base + i, t.2.2)] []
      rw [List.append_nil] at this
      simp only [List.nil_append]
      rw [this, closed_pre]
      exact ⟨_, _, rfl, rfl, by simp only; omega, .inr (by simp only; omega)⟩
    · simp only at c; omega
theorem P_take {z : List Int} {k n : Nat} (h : n ≤ k) : P (z.take k) n = P z n := by
  unfold P; rw [List.take_take, Nat.min_eq_left h]
theorem stp_take {S L a b : Int} {z : List Int} {base : Int} {k i : Nat} (h : i < k) (q : Trg × List Trg) : stp S L a b (z.take k) base i q = stp S L a b z base i q := by
  have g : (z.take k).getD i 0 = z.getD i 0 := by
    simp only [List.getD_eq_getElem?_getD, List.getElem?_take, h, if_true]
  have w : ∀ n, W (z.take k) n i = W z n i := fun n => by
    unfold W; rw [P_take (by omega), P_take (by omega)]
  unfold stp
  rw [g, w, w]
theorem runT_take {S L a b : Int} {z : List Int} {base : Int} {k : Nat} : ∀ (m i : Nat) (q : Trg × List Trg), i + m ≤ k → runT S L a b (z.take k) base m i q = runT S L a b z base m i q
  | 0, i, q, h => rfl
  | m + 1, i, q, h => by
    unfold runT
    rw [stp_take (by omega), runT_take m (i + 1) _ (by omega)]
theorem outs_len (S L a b : Int) (z : List Int) : (outs S L a b z).length ≤ z.length + 1 := by
  unfold outs closed
  have := runT_len S L a b z 0 z.length 0 none0
  simp only [none0, List.length_nil] at this
  split
  · rw [List.length_append, List.length_singleton]; simp only [none0]; omega
  · simp only [none0]; omega
/-- Same. -/
theorem same_loop (N : Nat) (E : List Trg) (hE : E.length ≤ 1000) : ∀ (k i f : Nat), k < f → i + k = E.length → (F15_l8 N).L f (rowsT E, rowsT E, (i : Int)) = some (.inr ())
  | 0, i, f, hf, hi => by
    obtain ⟨f, rfl⟩ : ∃ f', f = f' + 1 := ⟨f - 1, by omega⟩
    show (F15_l8 N).b _ _ ((F15_l8 N).L f) some = _
    have c : decide ((i : Int) < (E.length : Int)) = false := by simp; omega
    simp only [F15_l8, rowsT_len, c]
  | k + 1, i, f, hf, hi => by
    obtain ⟨f, rfl⟩ : ∃ f', f = f' + 1 := ⟨f - 1, by omega⟩
    have hlt : i < E.length := by omega
    have c1 : decide ((i : Int) < (E.length : Int)) = true := by simp; omega
    have c2 : (0 : Int) ≤ (i : Int) := by omega
    have c4 : i64 ((i : Int) + 1) = ((i + 1 : Nat) : Int) := by rw [i64_id (by omega)]; omega
    have r1 := same_loop N E hE k (i + 1) f (by omega) (by omega)
    show (F15_l8 N).b _ _ ((F15_l8 N).L f) some = _
    obtain ⟨Lf, hL⟩ : ∃ Lf, Lf = (F15_l8 N).L f := ⟨_, rfl⟩
    rw [← hL] at r1 ⊢
    simp only [F15_l8, rowsT_len, c1, c2, if_true, Int.toNat_natCast, rowsT_get E i hlt, List.getElem?_cons_zero, List.getElem?_cons_succ, beq_self_eq_true, Bool.and_self, Bool.not_true, c4]
    exact r1
theorem same_ok (E : List Trg) (hE : E.length ≤ 590) : F15_d 600 (rowsT E, rowsT E) = some true := by
  have r := same_loop 600 E (by omega) E.length 0 600 (by omega) (by omega)
  replace r : (F15_l8 600).L 600 (rowsT E, rowsT E, 0) = some (.inr ()) := r
  simp only [F15_d, FSpec.d, F15_s, bne_self_eq_false, F15_d8, r]
end Go.Proofs.Ytaiadjadgpgnmaa
