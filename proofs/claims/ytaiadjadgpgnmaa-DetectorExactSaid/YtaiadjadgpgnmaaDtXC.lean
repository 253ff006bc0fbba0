/- DetectorExact, the plain law: watches of both packages. -/
import Derived.Test.YtaiadjadgpgnmaaDtXB
namespace Go.Proofs.Ytaiadjadgpgnmaa
open Go.RowKit
set_option linter.unusedVariables false
set_option linter.unusedSimpArgs false
set_option linter.unnecessarySimpa false
def lastB (L c o f p : Int) : Bool :=
  if o = -1 then (decide (f = 0) && decide (p = 0)) else (decide (c ≥ L) && (decide (0 ≤ o ∧ o ≤ c - 1) && (decide (f = -1) && decide (0 ≤ p ∧ p ≤ 1073741823))))
def wB (S L a b : Int) (pa : List Int) (c o f p : Int) : Bool :=
  decide (DtOk S L a b) && (decide ((pa.length : Int) < L) && (pa.all absB && (decide ((pa.length : Int) ≤ c ∧ c ≤ 16777216) && (!(decide ((pa.length : Int) < L - 1 ∧ c ≠ (pa.length : Int))) && lastB L c o f p))))
theorem last_any {L c : Int} (o f p : Int) : (match (o == -1) with
      | true => (match (f == 0) with | true => some (p == 0) | false => some false)
      | false => (match decide (c ≥ L) with
        | true => (match F37_d 600 (o, 0, c - 1) with
          | some y => (match y with
            | true => (match (f == -1) with | true => (match F37_d 600 (p, 0, 1073741823) with | some y => some y | none => none) | false => some false)
            | false => some false)
          | none => none)
        | false => some false)) = some (lastB L c o f p) := by
  unfold lastB
  by_cases h1 : o = -1
  · subst h1
    by_cases h2 : f = 0
    · subst h2
      by_cases h3 : p = 0
      · subst h3; rfl
      · have k : (p == 0) = false := beq_eq_false_iff_ne.2 h3
        simp [k, h3]
    · have k : (f == 0) = false := beq_eq_false_iff_ne.2 h2
      simp [k, h2]
  · have k : (o == -1) = false := beq_eq_false_iff_ne.2 h1
    rw [if_neg h1]
    simp only [k, in_any]
    by_cases h2 : c ≥ L
    · simp only [h2, decide_true]
      by_cases h3 : 0 ≤ o ∧ o ≤ c - 1
      · simp only [h3, decide_true, and_self]
        by_cases h4 : f = -1
        · subst h4
          simp
        · have k : (f == -1) = false := beq_eq_false_iff_ne.2 h4
          simp [k, h4]
      · simp only [decide_eq_false h3]; rfl
    · simp only [h2, decide_false]; rfl
theorem rlast_any {L c : Int} (o f p : Int) : (match (o == -1) with
      | true => (match (f == 0) with | true => some (p == 0) | false => some false)
      | false => (match F40_d 600 (o, 0, c - 1) with
          | some y => (match y with
            | true => (match decide (c ≥ L) with
              | true => (match (f == -1) with | true => (match F40_d 600 (p, 0, 1073741823) with | some y => some y | none => none) | false => some false)
              | false => some false)
            | false => some false)
          | none => none)) = some (lastB L c o f p) := by
  rw [← last_any]
  cases o == -1 with
  | true => rfl
  | false =>
    simp only [in_any, rin_any]
    cases decide (c ≥ L) with
    | true =>
      cases decide (0 ≤ o ∧ o ≤ c - 1) <;> cases f == -1 <;> rfl
    | false =>
      cases decide (0 ≤ o ∧ o ≤ c - 1) <;> rfl
theorem vw_any (S L a b : Int) {pa : List Int} (hl : pa.length ≤ 590) (c o f p : Int) : F31_d 600 (S, L, a, b, rowsI pa, c, o, f, p) = some (wB S L a b pa c o f p) := by
  unfold wB
  by_cases h : DtOk S L a b
  · have ⟨g1, g2, g3, g4, g5, g6⟩ := h
    have d := decide_eq_true h
    have e1 : i64 (L - 1) = L - 1 := i64_id (by omega)
    by_cases h2 : (pa.length : Int) < L
    · have k2 : decide ((pa.length : Int) ≥ L) = false := by rw [decide_eq_false_iff_not]; omega
      cases h3 : pa.all absB with
      | true =>
        by_cases h4 : (pa.length : Int) ≤ c ∧ c ≤ 16777216
        · have d4 := decide_eq_true h4
          have e2 : i64 (c - 1) = c - 1 := i64_id (by omega)
          have la := last_any (L := L) (c := c) o f p
          by_cases h5 : (pa.length : Int) < L - 1
          · by_cases h6 : c = (pa.length : Int)
            · have k6 : (c != (pa.length : Int)) = false := by rw [h6]; exact bne_self_eq_false _
              simp only [F31_d, FSpec.d, F31_s, valid_any, d, Bool.not_true, rowsI_len, k2, acont_any pa hl, h3, in_any 600 c, d4, e1, e2, h5, decide_true, k6]
              refine la.trans ?_
              have k7 : decide ((pa.length : Int) < L ∧ True) = true := by simp [h2]
              have k8 : decide (True ∧ c ≠ (pa.length : Int)) = false := by simp [h6]
              simp [h2, h6]
            · have k6 : (c != (pa.length : Int)) = true := by simp [h6]
              simp only [F31_d, FSpec.d, F31_s, valid_any, d, Bool.not_true, rowsI_len, k2, acont_any pa hl, h3, in_any 600 c, d4, e1, e2, h5, decide_true, k6]
              simp [h6]
          · simp only [F31_d, FSpec.d, F31_s, valid_any, d, Bool.not_true, rowsI_len, k2, acont_any pa hl, h3, in_any 600 c, d4, e1, e2, h5, decide_false]
            refine la.trans ?_
            simp [h2]
        · have d4 := decide_eq_false h4
          simp only [F31_d, FSpec.d, F31_s, valid_any, d, Bool.not_true, rowsI_len, k2, acont_any pa hl, h3, in_any 600 c, d4, Bool.not_false]
          simp
      | false =>
        simp only [F31_d, FSpec.d, F31_s, valid_any, d, Bool.not_true, rowsI_len, k2, acont_any pa hl, h3, Bool.not_false]
        simp
    · have k2 : decide ((pa.length : Int) ≥ L) = true := by rw [decide_eq_true_iff]; omega
      simp only [F31_d, FSpec.d, F31_s, valid_any, d, Bool.not_true, rowsI_len, k2]
      simp [h2]
  · have d := decide_eq_false h
    simp only [F31_d, FSpec.d, F31_s, valid_any, d, Bool.not_false, Bool.false_and]
theorem rvw_lp {S L a b c o f p : Int} {S' L' a' b' : Int} {l : List Int} (hl : l.length ≤ 1000) : ∀ (k i fu : Nat), k < fu → i + k = l.length → (F21_l9 600).L fu ((i : Int), S, L, a, b, rowsI l, c, o, f, p, S', L', a', b') = some (if (l.drop i).all absB then .inr (S, L, a, b, rowsI l, c, o, f, p, S', L', a', b') else .inl (false, S, L, a, b, rowsI l, c, o, f, p, S', L', a', b'))
  | 0, i, fu, hf, hi => by
    obtain ⟨v, rfl⟩ : ∃ f', fu = f' + 1 := ⟨fu - 1, by omega⟩
    show (F21_l9 600).b _ _ ((F21_l9 600).L v) some = _
    have c : decide ((i : Int) < (l.length : Int)) = false := by rw [decide_eq_false_iff_not]; omega
    rw [List.drop_eq_nil_of_le (by omega)]
    simp only [F21_l9, rowsI_len, c]
    rfl
  | k + 1, i, fu, hf, hi => by
    obtain ⟨v, rfl⟩ : ∃ f', fu = f' + 1 := ⟨fu - 1, by omega⟩
    have hlt : i < l.length := by omega
    have c1 : decide ((i : Int) < (l.length : Int)) = true := by rw [decide_eq_true_iff]; omega
    have c2 : (0 : Int) ≤ (i : Int) := by omega
    have e2 : i64 ((i : Int) + 1) = ((i + 1 : Nat) : Int) := by rw [i64_id (by omega)]; omega
    have r := rvw_lp (S := S) (L := L) (a := a) (b := b) (c := c) (o := o) (f := f) (p := p) (S' := S') (L' := L') (a' := a') (b' := b') hl k (i + 1) v (by omega) (by omega)
    have ra : F40_d 600 (l[i], 0, 1073741823) = some (absB l[i]) := rin_any 600 _ _ _
    show (F21_l9 600).b _ _ ((F21_l9 600).L v) some = _
    obtain ⟨Lf, hL⟩ : ∃ Lf, Lf = (F21_l9 600).L v := ⟨_, rfl⟩
    rw [← hL] at r ⊢
    rw [all_drop hlt]
    cases h : absB l[i] with
    | true =>
      simp only [F21_l9, rowsI_len, c1, c2, if_true, Int.toNat_natCast, rowsI_get l i hlt, List.getElem?_cons_zero, ra, h, Bool.not_true, e2, Bool.true_and]
      exact r
    | false =>
      simp only [F21_l9, rowsI_len, c1, c2, if_true, Int.toNat_natCast, rowsI_get l i hlt, List.getElem?_cons_zero, ra, h, Bool.not_false, Bool.false_and]
      rfl
theorem rvw_any (S L a b : Int) {pa : List Int} (hl : pa.length ≤ 590) (c o f p : Int) : F21_d 600 (S, L, a, b, rowsI pa, c, o, f, p) = some (wB S L a b pa c o f p) := by
  unfold wB
  by_cases h : DtOk S L a b
  · have ⟨g1, g2, g3, g4, g5, g6⟩ := h
    have d := decide_eq_true h
    have e1 : i64 (L - 1) = L - 1 := i64_id (by omega)
    by_cases h2 : (pa.length : Int) < L
    · have k2 : decide ((pa.length : Int) > L - 1) = false := by rw [decide_eq_false_iff_not]; omega
      by_cases h4 : (pa.length : Int) ≤ c ∧ c ≤ 16777216
      · have d4 := decide_eq_true h4
        have e2 : i64 (c - 1) = c - 1 := i64_id (by omega)
        have la := rlast_any (L := L) (c := c) o f p
        have lo := rvw_lp (S := S) (L := L) (a := a) (b := b) (c := c) (o := o) (f := f) (p := p) (S' := S) (L' := L) (a' := a) (b' := b) (l := pa) (by omega) _ 0 600 (by omega) (Nat.zero_add _)
        replace lo : (F21_l9 600).L 600 (0, S, L, a, b, rowsI pa, c, o, f, p, S, L, a, b) = _ := lo
        rw [List.drop_zero] at lo
        by_cases h5 : (pa.length : Int) < L - 1
        · by_cases h6 : c = (pa.length : Int)
          · have k6 : (c != (pa.length : Int)) = false := by rw [h6]; exact bne_self_eq_false _
            cases h3 : pa.all absB with
            | true =>
              replace lo := lo.trans (congrArg some (if_pos h3))
              simp only [F21_d, FSpec.d, F21_s, rvalid_any, d, Bool.not_true, rowsI_len, k2, rin_any 600 c, d4, e1, e2, h5, decide_true, k6, F21_d9, lo]
              refine la.trans ?_
              simp [h2, h6]
            | false =>
              replace lo := lo.trans (congrArg some (if_neg (by simp [h3])))
              simp only [F21_d, FSpec.d, F21_s, rvalid_any, d, Bool.not_true, rowsI_len, k2, rin_any 600 c, d4, e1, e2, h5, decide_true, k6, F21_d9, lo]
              simp
          · have k6 : (c != (pa.length : Int)) = true := by simp [h6]
            simp only [F21_d, FSpec.d, F21_s, rvalid_any, d, Bool.not_true, rowsI_len, k2, rin_any 600 c, d4, e1, e2, h5, decide_true, k6]
            simp [h6]
        · cases h3 : pa.all absB with
          | true =>
            replace lo := lo.trans (congrArg some (if_pos h3))
            simp only [F21_d, FSpec.d, F21_s, rvalid_any, d, Bool.not_true, rowsI_len, k2, rin_any 600 c, d4, e1, e2, h5, decide_false, F21_d9, lo]
            refine la.trans ?_
            simp [h2]
          | false =>
            replace lo := lo.trans (congrArg some (if_neg (by simp [h3])))
            simp only [F21_d, FSpec.d, F21_s, rvalid_any, d, Bool.not_true, rowsI_len, k2, rin_any 600 c, d4, e1, e2, h5, decide_false, F21_d9, lo]
            simp
      · have d4 := decide_eq_false h4
        simp only [F21_d, FSpec.d, F21_s, rvalid_any, d, Bool.not_true, rowsI_len, e1, k2, rin_any 600 c, d4, Bool.not_false]
        simp
    · have k2 : decide ((pa.length : Int) > L - 1) = true := by rw [decide_eq_true_iff]; omega
      simp only [F21_d, FSpec.d, F21_s, rvalid_any, d, Bool.not_true, rowsI_len, e1, k2]
      simp [h2]
  · have d := decide_eq_false h
    simp only [F21_d, FSpec.d, F21_s, rvalid_any, d, Bool.not_false, Bool.false_and]
/-- What a valid watch is. -/
structure WOk (S L a b : Int) (pa : List Int) (c o f p : Int) : Prop where
  d : DtOk S L a b
  l : (pa.length : Int) < L
  v : ∀ v ∈ pa, Abs v
  c1 : (pa.length : Int) ≤ c ∧ c ≤ 16777216
  c2 : (pa.length : Int) < L - 1 → c = (pa.length : Int)
  t : o = -1 ∨ c ≥ L
theorem WOk.of {S L a b : Int} {pa : List Int} {c o f p : Int} (h : wB S L a b pa c o f p = true) : WOk S L a b pa c o f p := by
  unfold wB at h
  simp only [Bool.and_eq_true, decide_eq_true_eq, Bool.not_eq_true', decide_eq_false_iff_not] at h
  obtain ⟨h1, h2, h3, h4, h5, h6⟩ := h
  refine ⟨h1, h2, all_abs h3, h4, fun q => ?_, ?_⟩
  · by_cases e : c = (pa.length : Int)
    · exact e
    · exact absurd ⟨q, e⟩ h5
  · unfold lastB at h6
    by_cases e : o = -1
    · exact .inl e
    · rw [if_neg e] at h6
      simp only [Bool.and_eq_true, decide_eq_true_eq] at h6
      exact .inr h6.1
theorem fin_any (S L a b : Int) {pa : List Int} (hl : pa.length ≤ 590) (c o f p : Int) : ∃ (E : List Trg) (e : Int), E.length ≤ 1 ∧ F22_d 600 (S, L, a, b, rowsI pa, c, o, f, p) = some (rowsT E, e) ∧ F32_d 600 (S, L, a, b, rowsI pa, c, o, f, p) = some (rowsT E, e) := by
  cases h : wB S L a b pa c o f p with
  | false =>
    refine ⟨[], 1, by simp, ?_, ?_⟩
    · simp only [F22_d, FSpec.d, F22_s, vw_any S L a b hl, h, Bool.not_false]; rfl
    · simp only [F32_d, FSpec.d, F32_s, rvw_any S L a b hl, h, Bool.not_false]; rfl
  | true =>
    by_cases g : o < 0
    · refine ⟨[], 0, by simp, ?_, ?_⟩
      · simp only [F22_d, FSpec.d, F22_s, vw_any S L a b hl, h, Bool.not_true, g, decide_true]; rfl
      · simp only [F32_d, FSpec.d, F32_s, rvw_any S L a b hl, h, Bool.not_true, g, decide_true]; rfl
    · refine ⟨[(o, f, p)], 0, by simp, ?_, ?_⟩
      · simp only [F22_d, FSpec.d, F22_s, vw_any S L a b hl, h, Bool.not_true, g, decide_false]; rfl
      · simp only [F32_d, FSpec.d, F32_s, rvw_any S L a b hl, h, Bool.not_true, g, decide_false]; rfl
end Go.Proofs.Ytaiadjadgpgnmaa
