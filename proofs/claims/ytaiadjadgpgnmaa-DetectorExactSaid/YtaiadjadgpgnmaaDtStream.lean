/- DetectorStream, the plain law: watches. -/
import Derived.Test.YtaiadjadgpgnmaaDtE
namespace Go.Proofs.Ytaiadjadgpgnmaa
open Go.RowKit
set_option linter.unusedVariables false
set_option linter.unusedSimpArgs false
set_option linter.unnecessarySimpa false
theorem in_ok {x lo hi : Int} (h : lo ≤ x ∧ x ≤ hi) (N : Nat) : F37_d N (x, lo, hi) = some true := by
  have c1 : decide (x ≥ lo) = true := by rw [decide_eq_true_iff]; omega
  have c2 : decide (x ≤ hi) = true := by rw [decide_eq_true_iff]; omega
  simp only [F37_d, FSpec.d, F37_s, c1, c2]
theorem rin_ok {x lo hi : Int} (h : lo ≤ x ∧ x ≤ hi) (N : Nat) : F40_d N (x, lo, hi) = some true := by
  have c1 : decide (x ≥ lo) = true := by rw [decide_eq_true_iff]; omega
  have c2 : decide (x ≤ hi) = true := by rw [decide_eq_true_iff]; omega
  simp only [F40_d, FSpec.d, F40_s, c1, c2]
theorem rvalid_ok {S L a b : Int} (h : DtOk S L a b) (N : Nat) : F26_d N (S, L, a, b) = some true := by
  obtain ⟨h1, h2, h3, h4, h5, h6⟩ := h
  simp only [F26_d, FSpec.d, F26_s, h1, h2, h3, h4, h5, h6, decide_true]
theorem aidx_loop (N : Nat) (l : List Int) (hl : l.length ≤ 100000) (hx : ∀ x ∈ l, Abs x) : ∀ (k i f : Nat), k < f → i + k = l.length → (F48a_l4 N).L f (rowsI l, (l.length : Int), (i : Int)) = some (.inr ())
  | 0, i, f, hf, hi => by
    obtain ⟨f, rfl⟩ : ∃ f', f = f' + 1 := ⟨f - 1, by omega⟩
    show (F48a_l4 N).b _ _ ((F48a_l4 N).L f) some = _
    have c : decide ((i : Int) < (l.length : Int)) = false := by simp; omega
    simp only [F48a_l4, c]
  | k + 1, i, f, hf, hi => by
    obtain ⟨f, rfl⟩ : ∃ f', f = f' + 1 := ⟨f - 1, by omega⟩
    have hlt : i < l.length := by omega
    have hs := hx _ (List.getElem_mem hlt)
    unfold Abs at hs
    have c1 : decide ((i : Int) < (l.length : Int)) = true := by simp; omega
    have c2 : (0 : Int) ≤ (i : Int) := by omega
    have e2 : i64 ((i : Int) + 1) = ((i + 1 : Nat) : Int) := by rw [i64_id (by omega)]; omega
    have r := aidx_loop N l hl hx k (i + 1) f (by omega) (by omega)
    show (F48a_l4 N).b _ _ ((F48a_l4 N).L f) some = _
    obtain ⟨Lf, hL⟩ : ∃ Lf, Lf = (F48a_l4 N).L f := ⟨_, rfl⟩
    rw [← hL] at r ⊢
    have e3 : F47_d N l[i] = some false := by
      simp only [F47_d, FSpec.d, F47_s, in_ok hs, Bool.not_true]
    simp only [F48a_l4, c1, c2, if_true, Int.toNat_natCast, rowsI_get l i hlt, List.getElem?_cons_zero, e3, e2]
    exact r
theorem acont_ok (l : List Int) (hl : l.length ≤ 590) (hx : ∀ x ∈ l, Abs x) : F33a_d 600 (rowsI l) = some false := by
  have r := aidx_loop 600 l (by omega) hx l.length 0 600 (by omega) (by omega)
  replace r : (F48a_l4 600).L 600 (rowsI l, (l.length : Int), 0) = _ := r
  have c : decide ((-1 : Int) ≥ 0) = false := rfl
  simp only [F33a_d, FSpec.d, F33a_s, F48a_d, F48a_s, F48a_d4, rowsI_len, r, c]
theorem clone_ok (l : List Int) (hl : l.length ≤ 1000) : F39_d 600 (rowsI l) = some (rowsI l) := by
  have hb : (([] : List (List AV)).length + (rowsI l).length) * 8 ≤ maxBytes := by rw [rowsI_len]; unfold maxBytes; simp; omega
  cases l with
  | nil =>
    have hb2 : (([] : List (List AV)).length + ([] : List (List AV)).length) * 8 ≤ maxBytes := hb
    show both (some ([] : List (List AV))) (if (([] : List (List AV)).length + ([] : List (List AV)).length) * 8 ≤ maxBytes then some ([] ++ []) else none) = _
    rw [if_pos hb2]
    exact both_self _
  | cons x r =>
    show (if (([] : List (List AV)).length + (rowsI (x :: r)).length) * 8 ≤ maxBytes then some ([] ++ rowsI (x :: r)) else none) = _
    rw [if_pos hb]
    rfl
/-- A watch that has seen i of the values. -/
structure Wat (L : Int) (i : Nat) (t : Trg) : Prop where
  opn : t = (-1, 0, 0) ∨ (0 ≤ t.1 ∧ t.1 < i ∧ t.2.1 = -1 ∧ L ≤ i ∧ 0 ≤ t.2.2 ∧ t.2.2 ≤ 1073741823)
theorem Wat.stp {S L a b : Int} {z : List Int} (hz : ∀ v ∈ z, Abs v) {i : Nat} {t : Trg} {E : List Trg} (h : Wat L i t) : Wat L (i + 1) (stp S L a b z 0 i (t, E)).1 := by
  have hv : 0 ≤ z.getD i 0 ∧ z.getD i 0 ≤ 1073741823 := by
    rw [List.getD_eq_getElem?_getD]
    cases e : z[i]? with
    | none => simp
    | some v => have := hz v (List.mem_of_getElem? e); unfold Abs at this; exact this
  have pk : ∀ u : Trg, (0 ≤ u.2.2 ∧ u.2.2 ≤ 1073741823) → 0 ≤ (tr2 (z.getD i 0) u).2.2 ∧ (tr2 (z.getD i 0) u).2.2 ≤ 1073741823 := fun u hu => by
    unfold tr2
    split
    · simp only; split <;> omega
    · exact hu
  rcases stp_cases S L a b z 0 i (t, E) with ⟨e, _⟩ | ⟨e, _, c, _⟩ | ⟨e, c0, c, _⟩
  · rw [e]
    rcases h.opn with h | h
    · exact ⟨.inl (by simp only [h, tr2_none])⟩
    · have h2 := tr2_on (z.getD i 0) t
      have h3 := pk t (by omega)
      refine ⟨.inr ?_⟩
      simp only
      omega
  · rw [e]; exact ⟨.inl rfl⟩
  · rw [e]
    have h2 := tr2_on (z.getD i 0) (0 + (i : Int), -1, 0)
    have h3 := pk (0 + (i : Int), -1, 0) (by simp)
    refine ⟨.inr ?_⟩
    simp only at h2 h3 ⊢
    omega
theorem Wat.run {S L a b : Int} {z : List Int} (hz : ∀ v ∈ z, Abs v) : ∀ (k i : Nat) {q : Trg × List Trg}, Wat L i q.1 → Wat L (i + k) (runT S L a b z 0 k i q).1
  | 0, i, q, h => h
  | k + 1, i, q, h => by
    have := Wat.run (S := S) (L := L) (a := a) (b := b) hz k (i + 1) (q := Ytaiadjadgpgnmaa.stp S L a b z 0 i q) (h.stp hz)
    rw [show i + (k + 1) = i + 1 + k by omega]
    exact this
theorem vw_ok {S L a b : Int} (h : DtOk S L a b) {z : List Int} (hz : ∀ v ∈ z, Abs v) (hzl : z.length ≤ 590) {i : Nat} (hi : i ≤ z.length) {o f p : Int} (hw : Wat L i (o, f, p)) : F31_d 600 (S, L, a, b, rowsI (pst z L.toNat i), (i : Int), o, f, p) = some true := by
  have ⟨g1, g2, g3, g4, g5, g6⟩ := h
  have hl := pst_len (z := z) (l := L.toNat) hi
  have c1 : decide (((pst z L.toNat i).length : Int) ≥ L) = false := by rw [decide_eq_false_iff_not]; omega
  have hc := acont_ok (pst z L.toNat i) (by omega) (fun x hx => hz x (mem_pst hx))
  have i1 := in_ok (x := (i : Int)) (lo := ((pst z L.toNat i).length : Int)) (hi := 16777216) (by omega) 600
  have e1 : i64 (L - 1) = L - 1 := i64_id (by omega)
  have e2 : i64 ((i : Int) - 1) = (i : Int) - 1 := i64_id (by omega)
  have last : (match (o == -1) with
      | true => (match (f == 0) with | true => some (p == 0) | false => some false)
      | false => (match decide ((i : Int) ≥ L) with
        | true => (match F37_d 600 (o, 0, (i : Int) - 1) with
          | some y => (match y with
            | true => (match (f == -1) with | true => (match F37_d 600 (p, 0, 1073741823) with | some y => some y | none => none) | false => some false)
            | false => some false)
          | none => none)
        | false => some false)) = some true := by
    rcases hw.opn with e | ⟨h1, h2, h3, h4, h5, h6⟩
    · simp only [Prod.mk.injEq] at e
      obtain ⟨rfl, rfl, rfl⟩ := e
      rfl
    · simp only at h1 h2 h3 h4 h5 h6
      have k1 : (o == -1) = false := by rw [beq_eq_false_iff_ne]; omega
      have k2 : decide ((i : Int) ≥ L) = true := by rw [decide_eq_true_iff]; omega
      have k3 : (f == -1) = true := by rw [h3]; rfl
      simp only [k1, k2, in_ok (x := o) (lo := 0) (hi := (i : Int) - 1) (by omega), k3, in_ok (x := p) (lo := 0) (hi := 1073741823) ⟨h5, h6⟩]
  by_cases c : ((pst z L.toNat i).length : Int) < L - 1
  · have k : ((i : Int) != ((pst z L.toNat i).length : Int)) = false := by simp; omega
    simp only [F31_d, FSpec.d, F31_s, valid_ok h, Bool.not_true, rowsI_len, c1, hc, i1, e1, e2, c, decide_true, k]
    exact last
  · simp only [F31_d, FSpec.d, F31_s, valid_ok h, Bool.not_true, rowsI_len, c1, hc, i1, e1, e2, c, decide_false]
    exact last
theorem rvw_loop {S L a b c o f p : Int} {S' L' a' b' : Int} {l : List Int} (hl : l.length ≤ 1000) (hx : ∀ x ∈ l, Abs x) : ∀ (k i fu : Nat), k < fu → i + k = l.length → (F21_l9 600).L fu ((i : Int), S, L, a, b, rowsI l, c, o, f, p, S', L', a', b') = some (.inr (S, L, a, b, rowsI l, c, o, f, p, S', L', a', b'))
  | 0, i, fu, hf, hi => by
    obtain ⟨v, rfl⟩ : ∃ f', fu = f' + 1 := ⟨fu - 1, by omega⟩
    show (F21_l9 600).b _ _ ((F21_l9 600).L v) some = _
    have c : decide ((i : Int) < (l.length : Int)) = false := by rw [decide_eq_false_iff_not]; omega
    simp only [F21_l9, rowsI_len, c]
  | k + 1, i, fu, hf, hi => by
    obtain ⟨v, rfl⟩ : ∃ f', fu = f' + 1 := ⟨fu - 1, by omega⟩
    have hlt : i < l.length := by omega
    have hs := hx _ (List.getElem_mem hlt)
    have c1 : decide ((i : Int) < (l.length : Int)) = true := by rw [decide_eq_true_iff]; omega
    have c2 : (0 : Int) ≤ (i : Int) := by omega
    have e2 : i64 ((i : Int) + 1) = ((i + 1 : Nat) : Int) := by rw [i64_id (by omega)]; omega
    have r := rvw_loop (S := S) (L := L) (a := a) (b := b) (c := c) (o := o) (f := f) (p := p) (S' := S') (L' := L') (a' := a') (b' := b') hl hx k (i + 1) v (by omega) (by omega)
    show (F21_l9 600).b _ _ ((F21_l9 600).L v) some = _
    obtain ⟨Lf, hL⟩ : ∃ Lf, Lf = (F21_l9 600).L v := ⟨_, rfl⟩
    rw [← hL] at r ⊢
    simp only [F21_l9, rowsI_len, c1, c2, if_true, Int.toNat_natCast, rowsI_get l i hlt, List.getElem?_cons_zero, rin_ok hs, Bool.not_true, e2]
    exact r
theorem rvw_ok {S L a b : Int} (h : DtOk S L a b) {z : List Int} (hz : ∀ v ∈ z, Abs v) (hzl : z.length ≤ 590) {i : Nat} (hi : i ≤ z.length) {o f p : Int} (hw : Wat L i (o, f, p)) : F21_d 600 (S, L, a, b, rowsI (pst z L.toNat i), (i : Int), o, f, p) = some true := by
  have ⟨g1, g2, g3, g4, g5, g6⟩ := h
  have hl := pst_len (z := z) (l := L.toNat) hi
  have e1 : i64 (L - 1) = L - 1 := i64_id (by omega)
  have e2 : i64 ((i : Int) - 1) = (i : Int) - 1 := i64_id (by omega)
  have c1 : decide (((pst z L.toNat i).length : Int) > L - 1) = false := by rw [decide_eq_false_iff_not]; omega
  have i1 := rin_ok (x := (i : Int)) (lo := ((pst z L.toNat i).length : Int)) (hi := 16777216) (by omega) 600
  have lo := rvw_loop (S := S) (L := L) (a := a) (b := b) (c := (i : Int)) (o := o) (f := f) (p := p) (S' := S) (L' := L) (a' := a) (b' := b) (l := pst z L.toNat i) (by omega) (fun x hx => hz x (mem_pst hx)) _ 0 600 (by omega) (Nat.zero_add _)
  replace lo : (F21_l9 600).L 600 (0, S, L, a, b, rowsI (pst z L.toNat i), (i : Int), o, f, p, S, L, a, b) = _ := lo
  have last : (match (o == -1) with
      | true => (match (f == 0) with | true => some (p == 0) | false => some false)
      | false => (match F40_d 600 (o, 0, (i : Int) - 1) with
          | some y => (match y with
            | true => (match decide ((i : Int) ≥ L) with
              | true => (match (f == -1) with | true => (match F40_d 600 (p, 0, 1073741823) with | some y => some y | none => none) | false => some false)
              | false => some false)
            | false => some false)
          | none => none)) = some true := by
    rcases hw.opn with e | ⟨h1, h2, h3, h4, h5, h6⟩
    · simp only [Prod.mk.injEq] at e
      obtain ⟨rfl, rfl, rfl⟩ := e
      rfl
    · simp only at h1 h2 h3 h4 h5 h6
      have k1 : (o == -1) = false := by rw [beq_eq_false_iff_ne]; omega
      have k2 : decide ((i : Int) ≥ L) = true := by rw [decide_eq_true_iff]; omega
      have k3 : (f == -1) = true := by rw [h3]; rfl
      simp only [k1, k2, rin_ok (x := o) (lo := 0) (hi := (i : Int) - 1) (by omega), k3, rin_ok (x := p) (lo := 0) (hi := 1073741823) ⟨h5, h6⟩]
  by_cases c : ((pst z L.toNat i).length : Int) < L - 1
  · have k : ((i : Int) != ((pst z L.toNat i).length : Int)) = false := by simp; omega
    simp only [F21_d, FSpec.d, F21_s, rvalid_ok h, Bool.not_true, rowsI_len, c1, i1, e1, e2, c, decide_true, k, F21_d9, lo]
    exact last
  · simp only [F21_d, FSpec.d, F21_s, rvalid_ok h, Bool.not_true, rowsI_len, c1, i1, e1, e2, c, decide_false, F21_d9, lo]
    exact last
end Go.Proofs.Ytaiadjadgpgnmaa
