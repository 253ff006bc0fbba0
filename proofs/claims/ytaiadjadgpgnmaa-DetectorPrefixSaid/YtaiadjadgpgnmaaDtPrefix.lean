/- DetectorPrefix, the plain law, and its call. -/
import Derived.Test.YtaiadjadgpgnmaaDtE
namespace Go.Proofs.Ytaiadjadgpgnmaa
open Go.RowKit
set_option linter.unusedVariables false
set_option linter.unusedSimpArgs false
set_option linter.unnecessarySimpa false
theorem W_in {z : List Int} (hz : ∀ v ∈ z, Abs v) {n i : Nat} (hi : i < z.length) : 0 ≤ W z n i := by
  have := P_le hz (i + 1) (i + 1 - n) (by omega) hi
  unfold W
  omega
theorem reach_mono {S L a b sh lg : Int} (hS : 1 ≤ S) (hab : b ≤ a) (hg : 0 ≤ lg) (h : reachB S L b sh lg = false) : reachB S L a sh lg = false := by
  unfold reachB at h ⊢
  cases c : lg != 0 with
  | false => rfl
  | true =>
    rw [c] at h
    simp only [Bool.true_and, decide_eq_false_iff_not] at h ⊢
    have e : b * S * lg ≤ a * S * lg := Int.mul_le_mul_of_nonneg_right (Int.mul_le_mul_of_nonneg_right hab (by omega)) hg
    omega
theorem early_stp {S L a b : Int} {z : List Int} {i : Nat} (h : (i : Int) + 1 < L) : stp S L a b z 0 i none0 = none0 := by
  unfold stp tr1
  have : ¬ ((0 : Int) + i + 1 ≥ L) := by omega
  simp only [this, if_false]
  rfl
theorem early_run {S L a b : Int} {z : List Int} : ∀ (k i : Nat), (i : Int) + k < L → runT S L a b z 0 k i none0 = none0
  | 0, i, h => rfl
  | k + 1, i, h => by
    unfold runT
    rw [early_stp (by omega)]
    exact early_run k (i + 1) (by omega)
/-! A quiet lead. -/
def lead (M : Nat) (z : List Int) : List Int := List.replicate M 0 ++ z
theorem P_lead (M : Nat) (z : List Int) (j : Nat) : P (lead M z) (M + j) = P z j := by
  unfold P lead
  rw [List.take_append, List.length_replicate, List.take_of_length_le (by simp), List.sum_append]
  have e : (List.replicate M (0 : Int)).sum = 0 := by induction M with
    | zero => rfl
    | succ M ih => rw [List.replicate_succ, List.sum_cons, ih]; rfl
  rw [e, show M + j - M = j by omega]
  omega
theorem W_lead {M : Nat} {z : List Int} {n j : Nat} (h : n ≤ j + 1) : W (lead M z) n (M + j) = W z n j := by
  unfold W
  rw [show M + j + 1 = M + (j + 1) by omega, show M + (j + 1) - n = M + (j + 1 - n) by omega, P_lead, P_lead]
theorem getD_lead (M : Nat) (z : List Int) (j : Nat) : (lead M z).getD (M + j) 0 = z.getD j 0 := by
  unfold lead
  simp only [List.getD_eq_getElem?_getD]
  rw [List.getElem?_append_right (by simp), List.length_replicate, show M + j - M = j by omega]
def ushT (M : Int) (t : Trg) : Trg := if t.1 ≥ 0 then (t.1 + M, if t.2.1 ≥ 0 then t.2.1 + M else t.2.1, t.2.2) else t
def ushQ (M : Int) (q : Trg × List Trg) : Trg × List Trg := (ushT M q.1, q.2.map (ushT M))
theorem tr2_ush {M : Int} (hM : 0 ≤ M) (x : Int) (t : Trg) : tr2 x (ushT M t) = ushT M (tr2 x t) := by
  unfold tr2 ushT
  by_cases c : t.1 ≥ 0
  · have c2 : t.1 + M ≥ 0 := by omega
    simp only [c, c2, if_true]
  · simp only [c, if_false]
theorem stp_lead {S L a b : Int} {z : List Int} {M j : Nat} (hS : 1 ≤ S) (hSL : S < L) (hj : L ≤ j + 1) (q : Trg × List Trg) : stp S L a b (lead M z) 0 (M + j) (ushQ M q) = ushQ M (stp S L a b z 0 j q) := by
  have w1 : W (lead M z) S.toNat (M + j) = W z S.toNat j := W_lead (by omega)
  have w2 : W (lead M z) L.toNat (M + j) = W z L.toNat j := W_lead (by omega)
  obtain ⟨⟨o, f, p⟩, E⟩ := q
  unfold stp tr1
  rw [w1, w2, getD_lead]
  have c1 : (0 : Int) + ((M + j : Nat) : Int) + 1 ≥ L := by omega
  have c2 : (0 : Int) + (j : Int) + 1 ≥ L := by omega
  simp only [ushQ, c1, c2, if_true]
  by_cases c : o ≥ 0
  · have c3 : (ushT M (o, f, p)).1 ≥ 0 := by unfold ushT; simp only [c, if_true]; omega
    have e1 : (ushT M (o, f, p)).1 = o + M := by unfold ushT; simp only [c, if_true]
    have e2 : (ushT M (o, f, p)).2.2 = p := by unfold ushT; simp only [c, if_true]
    simp only [c, c3, if_true]
    split
    · simp only [tr2_ush (M := (M : Int)) (by omega)]
    · have hj0 : (0 : Int) + (j : Int) ≥ 0 := by omega
      simp only [e1, e2, List.map_append, List.map_cons, List.map_nil]
      have k1 : ushT M (o, 0 + (j : Int), p) = (o + M, 0 + ((M + j : Nat) : Int), p) := by
        unfold ushT
        simp only [c, hj0, if_true]
        rw [show (0 : Int) + (j : Int) + M = 0 + ((M + j : Nat) : Int) by omega]
      rw [k1]
      rfl
  · have c3 : ¬ (ushT M (o, f, p)).1 ≥ 0 := by unfold ushT; simp only [c, if_false, not_false_eq_true]
    simp only [c, c3, if_false]
    split
    · have k1 : (0 + ((M + j : Nat) : Int), (-1 : Int), (0 : Int)) = ushT M (0 + (j : Int), -1, 0) := by
        unfold ushT
        have hj0 : (0 : Int) + (j : Int) ≥ 0 := by omega
        have hn : ¬ ((-1 : Int) ≥ 0) := by omega
        simp only [hj0, hn, if_true, if_false]
        rw [show (0 : Int) + (j : Int) + M = 0 + ((M + j : Nat) : Int) by omega]
      rw [k1]
      simp only [tr2_ush (M := (M : Int)) (by omega)]
    · simp only [tr2_ush (M := (M : Int)) (by omega)]
theorem runT_lead {S L a b : Int} {z : List Int} {M : Nat} (hS : 1 ≤ S) (hSL : S < L) : ∀ (k j : Nat) (q : Trg × List Trg), L ≤ j + 1 → runT S L a b (lead M z) 0 k (M + j) (ushQ M q) = ushQ M (runT S L a b z 0 k j q)
  | 0, j, q, _ => rfl
  | k + 1, j, q, hj => by
    unfold runT
    rw [stp_lead hS hSL hj]
    exact runT_lead hS hSL k (j + 1) _ (by omega)
theorem closed_ush {M : Int} (hM : 0 ≤ M) (q : Trg × List Trg) : closed (ushQ M q) = (closed q).map (ushT M) := by
  unfold closed ushQ
  have e : (ushT M q.1).1 ≥ 0 ↔ q.1.1 ≥ 0 := by
    unfold ushT
    split
    · simp only; omega
    · exact Iff.rfl
  by_cases c : q.1.1 ≥ 0
  · have c2 := e.2 c
    simp only [c, c2, if_true, List.map_append, List.map_cons, List.map_nil]
  · have c2 : ¬ (ushT M q.1).1 ≥ 0 := fun h => c (e.1 h)
    simp only [c, c2, if_false]
/-! What the law does with the triggers. -/
def bad (T : Int) (t : Trg) : Bool := decide (t.1 < T) && (decide (t.2.1 < 0) || decide (t.2.1 > T))
def sftT (M : Int) (t : Trg) : Trg := (t.1 - M, if t.2.1 ≥ 0 then t.2.1 - M else t.2.1, t.2.2)
def lateL (M : Int) (l : List Trg) : List Trg := (l.filter fun t => decide (t.1 ≥ M)).map (sftT M)
def keepL (L : Int) (l : List Trg) : List Trg := l.filter fun t => decide (t.1 ≥ L - 1)
theorem late_early {M L : Int} : ∀ {l : List Trg}, (∀ t ∈ l, t.1 < M + L - 1) → keepL L (lateL M l) = []
  | [], _ => rfl
  | t :: r, h => by
    have ih := late_early (M := M) (L := L) (l := r) fun t ht => h t (List.mem_cons_of_mem _ ht)
    have ht := h t List.mem_cons_self
    unfold keepL lateL at ih ⊢
    rw [List.filter_cons]
    split
    · rw [List.map_cons, List.filter_cons]
      have c : ¬ ((sftT M t).1 ≥ L - 1) := by unfold sftT; simp only; omega
      simp only [c, decide_false, Bool.false_eq_true, if_false]
      exact ih
    · exact ih
theorem late_late {M L : Int} (hM : 0 ≤ M) (hL : 1 ≤ L) : ∀ {l : List Trg}, (∀ t ∈ l, L - 1 ≤ t.1) → keepL L (lateL M (l.map (ushT M))) = l
  | [], _ => rfl
  | t :: r, h => by
    have ih := late_late hM hL (l := r) fun t ht => h t (List.mem_cons_of_mem _ ht)
    have ht := h t List.mem_cons_self
    unfold keepL lateL at ih ⊢
    have c0 : t.1 ≥ 0 := by omega
    have e : sftT M (ushT M t) = t := by
      unfold ushT sftT
      simp only [c0, if_true]
      by_cases c : t.2.1 ≥ 0
      · have c2 : t.2.1 + M ≥ 0 := by omega
        simp only [c, c2, if_true]
        rw [show t.1 + M - M = t.1 by omega, show t.2.1 + M - M = t.2.1 by omega]
      · simp only [c, if_false]
        rw [show t.1 + M - M = t.1 by omega]
    have c1 : (ushT M t).1 ≥ M := by unfold ushT; simp only [c0, if_true]; omega
    have c2 : t.1 ≥ L - 1 := by omega
    rw [List.map_cons, List.filter_cons]
    simp only [c1, decide_true, if_true]
    rw [List.map_cons, e, List.filter_cons]
    simp only [c2, decide_true, if_true]
    rw [ih]
theorem late_app (M L : Int) (l r : List Trg) : keepL L (lateL M (l ++ r)) = keepL L (lateL M l) ++ keepL L (lateL M r) := by
  unfold keepL lateL
  rw [List.filter_append, List.map_append, List.filter_append]
theorem none_pre {S L a b : Int} {z : List Int} {base : Int} (k i : Nat) (E : List Trg) : closed (runT S L a b z base k i ((-1, 0, 0), E)) = E ++ closed (runT S L a b z base k i none0) := by
  have := runT_pre S L a b z base k i (-1, 0, 0) E []
  rw [List.append_nil] at this
  rw [this, closed_pre]
  rfl
theorem lead_law {S L a b : Int} (h : DtOk S L a b) {z : List Int} (hz : ∀ v ∈ z, Abs v) {M : Nat} (hN : L ≤ z.length) (hb : (outs S L a b (lead M z)).any (bad (M + L - 1)) = false) : keepL L (lateL M (outs S L a b (lead M z))) = outs S L a b z := by
  have ⟨h1, h2, h3, h4, h5, h6⟩ := h
  obtain ⟨l, hl⟩ : ∃ l : Nat, L = (l : Int) + 1 := ⟨L.toNat - 1, by omega⟩
  obtain ⟨m, hm⟩ : ∃ m, z.length = l + (m + 1) := ⟨z.length - l - 1, by omega⟩
  have hlen : (lead M z).length = (M + l) + (m + 1) := by unfold lead; simp; omega
  have hz0 : outs S L a b z = closed (runT S L a b z 0 (m + 1) l none0) := by
    unfold outs
    rw [hm, runT_add, early_run l 0 (by omega), Nat.zero_add]
  have hp : outs S L a b (lead M z) = closed (runT S L a b (lead M z) 0 (m + 1) (M + l) (runT S L a b (lead M z) 0 (M + l) 0 none0)) := by
    unfold outs
    rw [hlen, runT_add, Nat.zero_add]
  have hA : Inv 0 (M + l) (runT S L a b (lead M z) 0 (M + l) 0 none0) := by
    have := Inv.run (S := S) (L := L) (a := a) (b := b) (z := lead M z) (lo := 0) (base := 0) (M + l) 0 Inv.none0 (by omega)
    rw [show (0 : Int) + ((0 + (M + l) : Nat) : Int) = M + l by omega] at this
    exact this
  rw [hp] at hb ⊢
  generalize runT S L a b (lead M z) 0 (M + l) 0 none0 = A at hA hb ⊢
  obtain ⟨t, E⟩ := A
  have late : ∀ (k i : Nat), (l : Int) ≤ i → keepL L (lateL M ((closed (runT S L a b z 0 k i none0)).map (ushT M))) = closed (runT S L a b z 0 k i none0) := fun k i hi => by
    refine late_late (by omega) (by omega) fun t ht => ?_
    have := Inv.run (S := S) (L := L) (a := a) (b := b) (z := z) (lo := l) (base := 0) k i (Inv.none0 (c := 0 + (i : Int))) (by omega)
    unfold closed at ht
    split at ht
    · rcases List.mem_append.1 ht with ht | ht
      · have := this.ended t ht; omega
      · simp at ht
        subst ht
        rcases this.opn with e | e
        · rename_i c; rw [e] at c; simp at c
        · omega
    · have := this.ended t ht; omega
  have fromNone : ∀ (k i : Nat) (F : List Trg), (l : Int) ≤ i → (∀ u ∈ F, u.1 < M + L - 1) → keepL L (lateL M (closed (runT S L a b (lead M z) 0 k (M + i) ((-1, 0, 0), F)))) = closed (runT S L a b z 0 k i none0) := fun k i F hi hF => by
    rw [none_pre, late_app, late_early hF, List.nil_append]
    have e : none0 = ushQ M none0 := rfl
    rw [e, runT_lead h1 h2 k i none0 (by omega), closed_ush (by omega), ← e]
    exact late k i hi
  have hE : ∀ u ∈ E, u.1 < M + L - 1 := fun u hu => by have := hA.ended u hu; omega
  rcases hA.opn with e | ⟨o1, o2, o3⟩
  · simp only at e
    subst e
    rw [hz0]
    exact fromNone (m + 1) l E (by omega) hE
  · simp only at o1 o2 o3
    unfold runT at hb ⊢
    rcases stp_cases S L a b (lead M z) 0 (M + l) (t, E) with ⟨e, _⟩ | ⟨e, c1, c2, c3⟩ | ⟨e, _, c, _⟩
    · exfalso
      rw [e] at hb
      simp only at hb
      have h2 := tr2_on ((lead M z).getD (M + l) 0) t
      generalize tr2 ((lead M z).getD (M + l) 0) t = t' at h2 hb
      have pre := runT_pre S L a b (lead M z) 0 m (M + l + 1) t' E []
      rw [List.append_nil] at pre
      rw [pre, closed_pre] at hb
      obtain ⟨u, more, u1, u2, u3, u4⟩ := run_open S L a b (lead M z) 0 m (M + l + 1) t' (by omega) (by omega)
      have hc : closed ((runT S L a b (lead M z) 0 m (M + l + 1) (t', [])).1, (runT S L a b (lead M z) 0 m (M + l + 1) (t', [])).2) = u :: more := u1
      rw [hc, List.any_append, List.any_cons] at hb
      have : bad (M + L - 1) u = true := by
        unfold bad
        have d1 : u.1 < M + L - 1 := by omega
        rcases u4 with u4 | u4
        · have d2 : u.2.1 < 0 := by omega
          simp [d1, d2]
        · have d2 : u.2.1 > M + L - 1 := by omega
          simp [d1, d2]
      rw [this] at hb
      simp at hb
    · rw [e]
      simp only
      have w1 : W (lead M z) S.toNat (M + l) = W z S.toNat l := W_lead (by omega)
      have w2 : W (lead M z) L.toNat (M + l) = W z L.toNat l := W_lead (by omega)
      rw [w1, w2] at c3
      have c4 := reach_mono h1 h5 (W_in hz (show l < z.length by omega)) c3
      have e0 : stp S L a b z 0 l none0 = none0 := by
        rcases stp_cases S L a b z 0 l none0 with ⟨e, _⟩ | ⟨_, _, c, _⟩ | ⟨_, _, _, c⟩
        · rw [e]; rfl
        · simp [none0] at c
        · rw [c4] at c; cases c
      have : outs S L a b z = closed (runT S L a b z 0 m (l + 1) none0) := by
        rw [hz0]
        show closed (runT S L a b z 0 m (l + 1) (stp S L a b z 0 l none0)) = _
        rw [e0]
      rw [this]
      refine fromNone m (l + 1) (E ++ [(t.1, 0 + ((M + l : Nat) : Int), t.2.2)]) (by omega) fun u hu => ?_
      rcases List.mem_append.1 hu with hu | hu
      · exact hE u hu
      · simp at hu; subst hu; simp only; omega
    · simp only at c; omega
/-! The prefix. -/
structure Pre (A B : List Trg) : Prop where
  len : A.length ≤ B.length
  on : ∀ (i : Nat) (h : i < A.length) (h' : i < B.length), A[i].1 = B[i].1
  same : ∀ (i : Nat) (h : i < A.length) (h' : i < B.length), A[i].2.1 ≥ 0 → A[i] = B[i]
  last : ∀ (i : Nat) (h : i < A.length) (h' : i < B.length), A[i].2.1 < 0 → i + 1 = A.length ∧ A[i].2.2 ≤ B[i].2.2
theorem pre_law {S L a b : Int} {z : List Int} {k : Nat} (hk : k ≤ z.length) : Pre (outs S L a b (z.take k)) (outs S L a b z) := by
  have e1 : outs S L a b (z.take k) = closed (runT S L a b z 0 k 0 none0) := by
    unfold outs
    rw [List.length_take, Nat.min_eq_left hk, runT_take _ _ _ (by omega)]
  obtain ⟨m, hm⟩ : ∃ m, z.length = k + m := ⟨z.length - k, by omega⟩
  have e2 : outs S L a b z = closed (runT S L a b z 0 m k (runT S L a b z 0 k 0 none0)) := by
    unfold outs
    rw [hm, runT_add, Nat.zero_add]
  have hA : Inv 0 (0 + ((0 + k : Nat) : Int)) (runT S L a b z 0 k 0 none0) := Inv.run k 0 Inv.none0 (by omega)
  rw [e1, e2]
  generalize runT S L a b z 0 k 0 none0 = A at hA
  obtain ⟨t, E⟩ := A
  have p := runT_pre S L a b z 0 m k t E []
  rw [List.append_nil] at p
  rw [p, closed_pre]
  rcases hA.opn with e | ⟨o1, o2, o3⟩
  · simp only at e
    subst e
    have : closed ((-1, 0, 0), E) = E := rfl
    rw [this]
    refine ⟨by simp, fun i h h' => ?_, fun i h h' c => ?_, fun i h h' c => ?_⟩
    · rw [List.getElem_append_left h]
    · rw [List.getElem_append_left h]
    · have := hA.ended E[i] (List.getElem_mem h); omega
  · simp only at o1 o2 o3
    have hc : closed (t, E) = E ++ [t] := by unfold closed; rw [if_pos (by simp only; omega)]
    obtain ⟨u, more, u1, u2, u3, u4⟩ := run_open S L a b z 0 m k t (by omega) o3
    have hd : closed ((runT S L a b z 0 m k (t, [])).1, (runT S L a b z 0 m k (t, [])).2) = u :: more := u1
    rw [hc, hd]
    have q1 : ∀ (i : Nat) (h : i < (E ++ [t]).length), (i < E.length ∨ i = E.length) := fun i h => by simp at h; omega
    refine ⟨by simp, fun i h h' => ?_, fun i h h' c => ?_, fun i h h' c => ?_⟩
    · rcases q1 i h with g | g
      · rw [List.getElem_append_left g, List.getElem_append_left g]
      · subst g; simp [u2]
    · rcases q1 i h with g | g
      · rw [List.getElem_append_left g, List.getElem_append_left g]
      · subst g; simp at c; omega
    · rcases q1 i h with g | g
      · rw [List.getElem_append_left g] at c
        have := hA.ended E[i] (List.getElem_mem g); omega
      · subst g; refine ⟨by simp, ?_⟩; simp; exact u3
end Go.Proofs.Ytaiadjadgpgnmaa
