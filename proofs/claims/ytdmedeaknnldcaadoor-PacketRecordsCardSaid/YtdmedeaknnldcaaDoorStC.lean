/- Steim, the plain law: differences, groups, words. -/
import Derived.Test.YtdmedeaknnldcaaDoorStB
namespace Go.Proofs.YtdmedeaknnldcaaDoor
open Go.RowKit
set_option linter.unusedVariables false
set_option linter.unusedSimpArgs false
set_option linter.unnecessarySimpa false
/-! Samples. -/
def Smp (x : Int) : Prop := -1073741823 ≤ x ∧ x ≤ 1073741823
instance (x : Int) : Decidable (Smp x) := inferInstanceAs (Decidable (_ ∧ _))
theorem smp_any (x : Int) : F55_d 600 x = some (decide (Smp x)) := by
  simp only [F55_d, FSpec.d, F55_s, sin_any]
  rfl
theorem out_loop (l : List Int) (hl : l.length ≤ 1000) : ∀ (k i f : Nat), k < f → i + k = l.length → (F74_l4 600).L f (rowsI l, (l.length : Int), (i : Int)) = some (.inr ()) ∧ (l.drop i).all (fun x => decide (Smp x)) = true ∨ ∃ q : Nat, (F74_l4 600).L f (rowsI l, (l.length : Int), (i : Int)) = some (.inl (q : Int)) ∧ (l.drop i).all (fun x => decide (Smp x)) = false
  | 0, i, f, hf, hi => by
    obtain ⟨f, rfl⟩ : ∃ f', f = f' + 1 := ⟨f - 1, by omega⟩
    have c : decide ((i : Int) < (l.length : Int)) = false := by rw [decide_eq_false_iff_not]; omega
    refine .inl ⟨?_, by rw [List.drop_of_length_le (by omega)]; rfl⟩
    show (F74_l4 600).b _ _ ((F74_l4 600).L f) some = _
    simp only [F74_l4, c]
  | k + 1, i, f, hf, hi => by
    obtain ⟨f, rfl⟩ : ∃ f', f = f' + 1 := ⟨f - 1, by omega⟩
    have hlt : i < l.length := by omega
    have c1 : decide ((i : Int) < (l.length : Int)) = true := by rw [decide_eq_true_iff]; omega
    have c2 : (0 : Int) ≤ (i : Int) := by omega
    have c4 : i64 ((i : Int) + 1) = ((i + 1 : Nat) : Int) := by rw [i64_id (by omega)]; omega
    have hd : l.drop i = l[i] :: l.drop (i + 1) := List.drop_eq_getElem_cons hlt
    by_cases h : Smp l[i]
    · have st : (F74_l4 600).L (f + 1) (rowsI l, (l.length : Int), (i : Int)) = (F74_l4 600).L f (rowsI l, (l.length : Int), ((i + 1 : Nat) : Int)) := by
        show (F74_l4 600).b _ _ ((F74_l4 600).L f) some = _
        obtain ⟨Lf, hL⟩ : ∃ Lf, Lf = (F74_l4 600).L f := ⟨_, rfl⟩
        rw [← hL]
        simp only [F74_l4, c1, c2, if_true, Int.toNat_natCast, rowsI_get l i hlt, List.getElem?_cons_zero, F54_d, FSpec.d, F54_s, smp_any, decide_eq_true h, Bool.not_true, c4]
        exact if_pos trivial
      have r := out_loop l hl k (i + 1) f (by omega) (by omega)
      rw [st, hd, List.all_cons, decide_eq_true h, Bool.true_and]
      exact r
    · refine .inr ⟨i, ?_, by rw [hd, List.all_cons, decide_eq_false h]; rfl⟩
      show (F74_l4 600).b _ _ ((F74_l4 600).L f) some = _
      simp only [F74_l4, c1, c2, if_true, Int.toNat_natCast, rowsI_get l i hlt, List.getElem?_cons_zero, F54_d, FSpec.d, F54_s, smp_any, decide_eq_false h, Bool.not_false]
theorem out_any (l : List Int) (hl : l.length ≤ 590) : F53_d 600 (rowsI l) = some (!l.all fun x => decide (Smp x)) := by
  simp only [F53_d, FSpec.d, F53_s, F74_d, F74_s, F74_d4, rowsI_len]
  rcases out_loop l (by omega) l.length 0 600 (by omega) (by omega) with ⟨h1, h2⟩ | ⟨q, h1, h2⟩
  · replace h1 : (F74_l4 600).L 600 (rowsI l, (l.length : Int), 0) = _ := h1
    replace h2 : l.all (fun x => decide (Smp x)) = true := h2
    simp only [h1, h2]; rfl
  · replace h1 : (F74_l4 600).L 600 (rowsI l, (l.length : Int), 0) = _ := h1
    replace h2 : l.all (fun x => decide (Smp x)) = false := h2
    have c : (q : Int) ≥ 0 := by omega
    simp only [h1, h2, c, decide_true, Bool.not_false]
/-! Differences. -/
def dX (X : List Int) : List Int := (List.range X.length).map fun i => if i = 0 then 0 else X.getD i 0 - X.getD (i - 1) 0
theorem dX_len (X : List Int) : (dX X).length = X.length := by simp [dX]
theorem dX_zero (X : List Int) (h : 0 < X.length) : (dX X)[0]'(by rw [dX_len]; exact h) = 0 := by simp [dX]
theorem dX_get (X : List Int) (i : Nat) (h : i + 1 < X.length) : (dX X)[i + 1]'(by rw [dX_len]; exact h) = X[i + 1] - X[i] := by
  have h2 : i < X.length := by omega
  simp [dX, List.getD, h, h2]
def cellsI (l : List Int) : List AV := l.map I
theorem cellsI_len (l : List Int) : (cellsI l).length = l.length := by simp [cellsI]
theorem cellsI_dat (l : List Int) : (cellsI l).map dat0 = cellsI l := by
  simp only [cellsI, List.map_map]
  rfl
theorem cellsI_set (l : List Int) (i : Nat) (v : Int) : (cellsI l).set i (AV.v (.int .i64 v)) = cellsI (l.set i v) := by
  simp only [cellsI, List.map_set]
theorem chunksI : ∀ l : List Int, chunks (cellsI l) 1 l.length = rowsI l
  | [] => rfl
  | a :: r => by
    have q := chunksI r
    show _ :: chunks (cellsI r) 1 r.length = _
    rw [q]; rfl
theorem set_step (l : List Int) (i : Nat) (h : i < l.length) : (l.take i ++ List.replicate (l.length - i) 0).set i l[i] = l.take (i + 1) ++ List.replicate (l.length - (i + 1)) 0 := by
  have ht : (l.take i).length = i := by simp; omega
  have e : l.length - i = (l.length - (i + 1)) + 1 := by omega
  rw [List.set_append_right _ _ (by omega), ht, Nat.sub_self, e, List.replicate_succ, List.set_cons_zero, List.take_succ_eq_append_getElem h, List.append_assoc]
  rfl
theorem set_step2 (l : List Int) (i n : Nat) (hn : l.length = n) (h : i < l.length) : (l.take i ++ List.replicate (n - i) 0).set i l[i] = l.take (i + 1) ++ List.replicate (n - (i + 1)) 0 := by
  subst hn
  exact set_step l i h
theorem dif_loop (X : List Int) (hl : X.length ≤ 590) (hX : ∀ x ∈ X, Smp x) : ∀ (k i f : Nat), k < f → i + k = X.length → 1 ≤ i → (F56_l5 600).L f (rowsI X, X.length, (i : Int), cellsI ((dX X).take i ++ List.replicate (X.length - i) 0)) = some (X.length, cellsI (dX X))
  | 0, i, f, hf, hi, h1 => by
    obtain ⟨f, rfl⟩ : ∃ f', f = f' + 1 := ⟨f - 1, by omega⟩
    show (F56_l5 600).b _ _ ((F56_l5 600).L f) some = _
    have c : decide ((i : Int) < (X.length : Int)) = false := by rw [decide_eq_false_iff_not]; omega
    have e : (dX X).take i ++ List.replicate (X.length - i) 0 = dX X := by
      rw [List.take_of_length_le (by rw [dX_len]; omega), show X.length - i = 0 by omega]
      simp
    simp only [F56_l5, rowsI_len, c, e, cellsI_dat]
  | k + 1, i, f, hf, hi, h1 => by
    obtain ⟨f, rfl⟩ : ∃ f', f = f' + 1 := ⟨f - 1, by omega⟩
    obtain ⟨j, rfl⟩ : ∃ j, i = j + 1 := ⟨i - 1, by omega⟩
    have r1 := dif_loop X hl hX k (j + 1 + 1) f (by omega) (by omega) (by omega)
    show (F56_l5 600).b _ _ ((F56_l5 600).L f) some = _
    obtain ⟨Lf, hL⟩ : ∃ Lf, Lf = (F56_l5 600).L f := ⟨_, rfl⟩
    rw [← hL] at r1 ⊢
    have hlt : j + 1 < X.length := by omega
    have hlt' : j < X.length := by omega
    have c1 : decide (((j + 1 : Nat) : Int) < (X.length : Int)) = true := by rw [decide_eq_true_iff]; omega
    have c2 : (0 : Int) ≤ ((j + 1 : Nat) : Int) := by omega
    have c3 : i64 (((j + 1 : Nat) : Int) - 1) = (j : Int) := by rw [i64_id (by omega)]; omega
    have c4 : i64 (((j + 1 : Nat) : Int) + 1) = ((j + 1 + 1 : Nat) : Int) := by rw [i64_id (by omega)]; omega
    have c5 : (0 : Int) ≤ (j : Int) := by omega
    have c6 : (0 : Int) ≤ ((j + 1 : Nat) : Int) ∧ ((j + 1 : Nat) : Int) < (X.length : Int) := by omega
    have b1 := hX _ (List.getElem_mem hlt)
    have b2 := hX _ (List.getElem_mem hlt')
    unfold Smp at b1 b2
    have e1 : i64 (X[j + 1] - X[j]) = (dX X)[j + 1]'(by rw [dX_len]; exact hlt) := by rw [dX_get X j hlt]; exact i64_id (by omega)
    have e2 : (0 + (j + 1)) * 1 = j + 1 := by omega
    have hlen : j + 1 + 1 ≤ (cellsI ((dX X).take (j + 1) ++ List.replicate (X.length - (j + 1)) 0)).length := by
      rw [cellsI_len]; simp [dX_len]; omega
    have st := set_step2 (dX X) (j + 1) X.length (dX_len X) (by rw [dX_len]; exact hlt)
    simp only [F56_l5, rowsI_len, c1, c2, c3, c4, c5, c6, and_self, if_true, Int.toNat_natCast, rowsI_get X _ hlt, rowsI_get X _ hlt', List.getElem?_cons_zero, e1, e2, hlen, cellsI_set, st, cellsI_dat]
    exact r1
theorem dif_ok (X : List Int) (hl : X.length ≤ 590) (h0 : X ≠ []) (hX : ∀ x ∈ X, Smp x) : F56_d 600 (rowsI X) = some (rowsI (dX X)) := by
  have hp : 0 < X.length := List.length_pos_iff.2 h0
  have c1 : (0 : Int) ≤ (X.length : Int) ∧ (X.length : Int) ≤ (X.length : Int) ∧ X.length * 8 ≤ maxBytes := ⟨by omega, by omega, by unfold maxBytes; omega⟩
  have e : List.replicate X.length (AV.v (.int .i64 0)) = cellsI ((dX X).take 1 ++ List.replicate (X.length - 1) 0) := by
    have : (dX X).take 1 = [0] := by
      obtain ⟨n, hn⟩ : ∃ n, X.length = n + 1 := ⟨X.length - 1, by omega⟩
      simp [dX, hn, List.range_succ_eq_map]
    rw [this]
    obtain ⟨n, hn⟩ : ∃ n, X.length = n + 1 := ⟨X.length - 1, by omega⟩
    rw [hn]
    simp [cellsI, List.replicate_succ]
  have r := dif_loop X hl hX (X.length - 1) 1 600 (by omega) (by omega) (by omega)
  rw [← e] at r
  have hd : (List.replicate X.length (AV.v (.int .i64 0))).map dat0 = List.replicate X.length (AV.v (.int .i64 0)) := by rw [List.map_replicate]; rfl
  replace r : (F56_l5 600).L 600 (rowsI X, X.length, 1, List.replicate X.length (AV.v (.int .i64 0))) = _ := r
  have b2 : X.length * 1 ≤ (cellsI (dX X)).length := by rw [cellsI_len, dX_len]; omega
  have e3 : (cellsI (dX X)).take (X.length * 1) = cellsI (dX X) := List.take_of_length_le (by rw [cellsI_len, dX_len]; omega)
  have e4 : chunks (cellsI (dX X)) 1 X.length = rowsI (dX X) := by
    have := chunksI (dX X)
    rw [dX_len] at this
    exact this
  simp only [F56_d, FSpec.d, F56_s, rowsI_len, Int.toNat_natCast, c1, and_self, if_true, hd, F56_d5, r, b2, e3, e4]
/-! Which groups fit. -/
theorem fit_loop (w : Int) (P : Int → Prop) [DecidablePred P] (hP : ∀ x, F61_d 600 (x, w) = some (decide (P x))) (l : List Int) (hl : l.length ≤ 500) : ∀ (k i f : Nat), k < f → i + k = l.length → (F74a_l4 600).L f (rowsI l, (l.length : Int), (i : Int), w) = some (.inr w) ∧ (l.drop i).all (fun x => decide (P x)) = true ∨ ∃ q : Nat, (F74a_l4 600).L f (rowsI l, (l.length : Int), (i : Int), w) = some (.inl ((q : Int), w)) ∧ (l.drop i).all (fun x => decide (P x)) = false
  | 0, i, f, hf, hi => by
    obtain ⟨f, rfl⟩ : ∃ f', f = f' + 1 := ⟨f - 1, by omega⟩
    have c : decide ((i : Int) < (l.length : Int)) = false := by rw [decide_eq_false_iff_not]; omega
    refine .inl ⟨?_, by rw [List.drop_of_length_le (by omega)]; rfl⟩
    show (F74a_l4 600).b _ _ ((F74a_l4 600).L f) some = _
    simp only [F74a_l4, c]
  | k + 1, i, f, hf, hi => by
    obtain ⟨f, rfl⟩ : ∃ f', f = f' + 1 := ⟨f - 1, by omega⟩
    have hlt : i < l.length := by omega
    have c1 : decide ((i : Int) < (l.length : Int)) = true := by rw [decide_eq_true_iff]; omega
    have c2 : (0 : Int) ≤ (i : Int) := by omega
    have c4 : i64 ((i : Int) + 1) = ((i + 1 : Nat) : Int) := by rw [i64_id (by omega)]; omega
    have hd : l.drop i = l[i] :: l.drop (i + 1) := List.drop_eq_getElem_cons hlt
    by_cases h : P l[i]
    · have st : (F74a_l4 600).L (f + 1) (rowsI l, (l.length : Int), (i : Int), w) = (F74a_l4 600).L f (rowsI l, (l.length : Int), ((i + 1 : Nat) : Int), w) := by
        show (F74a_l4 600).b _ _ ((F74a_l4 600).L f) some = _
        obtain ⟨Lf, hL⟩ : ∃ Lf, Lf = (F74a_l4 600).L f := ⟨_, rfl⟩
        rw [← hL]
        simp only [F74a_l4, c1, c2, if_true, Int.toNat_natCast, rowsI_get l i hlt, List.getElem?_cons_zero, F75_d, FSpec.d, F75_s, hP, decide_eq_true h, Bool.not_true, c4]
        exact if_pos trivial
      have r := fit_loop w P hP l hl k (i + 1) f (by omega) (by omega)
      rw [st, hd, List.all_cons, decide_eq_true h, Bool.true_and]
      exact r
    · refine .inr ⟨i, ?_, by rw [hd, List.all_cons, decide_eq_false h]; rfl⟩
      show (F74a_l4 600).b _ _ ((F74a_l4 600).L f) some = _
      simp only [F74a_l4, c1, c2, if_true, Int.toNat_natCast, rowsI_get l i hlt, List.getElem?_cons_zero, F75_d, FSpec.d, F75_s, hP, decide_eq_false h, Bool.not_false]
def fitB (n : Nat) (P : Int → Prop) [DecidablePred P] (D : List Int) : Bool := decide (n ≤ D.length) && (D.take n).all fun x => decide (P x)
theorem fit_any (n : Nat) (w : Int) (P : Int → Prop) [DecidablePred P] (hP : ∀ x, F61_d 600 (x, w) = some (decide (P x))) (hn : n ≤ 4) (D : List Int) : F58_d 600 (rowsI D, (n : Int), w) = some (fitB n P D) := by
  simp only [F58_d, FSpec.d, F58_s, rowsI_len]
  unfold fitB
  by_cases h : n ≤ D.length
  · have c1 : (D.length : Int) ≥ (n : Int) := by omega
    have c2 : (0 : Int) ≤ (n : Int) ∧ (n : Int) ≤ (D.length : Int) := by omega
    have e : (rowsI D).take n = rowsI (D.take n) := by simp [rowsI, List.map_take]
    have hl : (D.take n).length ≤ 4 := by simp; omega
    simp only [c1, decide_true, c2, and_self, if_true, Int.toNat_natCast, e, h, Bool.true_and, F53a_d, F53a_s, FSpec.d, F74a_d, F74a_s, F74a_d4, rowsI_len]
    rcases fit_loop w P hP (D.take n) (by omega) (D.take n).length 0 600 (by omega) (by omega) with ⟨h1, h2⟩ | ⟨q, h1, h2⟩
    · replace h1 : (F74a_l4 600).L 600 (rowsI (D.take n), ((D.take n).length : Int), 0, w) = _ := h1
      replace h2 : (D.take n).all (fun x => decide (P x)) = true := h2
      simp only [h1, h2]; rfl
    · replace h1 : (F74a_l4 600).L 600 (rowsI (D.take n), ((D.take n).length : Int), 0, w) = _ := h1
      replace h2 : (D.take n).all (fun x => decide (P x)) = false := h2
      have c : (q : Int) ≥ 0 := by omega
      simp only [h1, h2, c, decide_true, Bool.not_true]
  · have c1 : ¬ (D.length : Int) ≥ (n : Int) := by omega
    simp only [c1, decide_false, h, Bool.false_and]
/-! Packing. -/
theorem pack_step (l : List Int) (hl : l.length ≤ 4) (w : Nat) (hw : w ≤ 32) (i f : Nat) (hi : i < l.length) (acc y : Int) (hy : F38_d 600 (l[i], (w : Int)) = some (y, 0)) (hy2 : 0 ≤ y ∧ y < 2 ^ w) (ha : 0 ≤ acc) (hb : acc * 2 ^ w + y ≤ 4294967295) : (F59_l5 600).L (f + 1) (rowsI l, (w : Int), acc, (l.length : Int), (i : Int)) = (F59_l5 600).L f (rowsI l, (w : Int), acc * 2 ^ w + y, (l.length : Int), ((i + 1 : Nat) : Int)) := by
  show (F59_l5 600).b _ _ ((F59_l5 600).L f) some = _
  obtain ⟨Lf, hL⟩ : ∃ Lf, Lf = (F59_l5 600).L f := ⟨_, rfl⟩
  rw [← hL]
  have c1 : decide ((i : Int) < (l.length : Int)) = true := by rw [decide_eq_true_iff]; omega
  have c2 : (0 : Int) ≤ (i : Int) := by omega
  have c4 : i64 ((i : Int) + 1) = ((i + 1 : Nat) : Int) := by rw [i64_id (by omega)]; omega
  have c5 : ¬ ((w : Int) < 0) := by omega
  have h0 : 0 ≤ acc * 2 ^ w := Int.mul_nonneg ha (Int.le_of_lt (Int.pow_pos (by omega)))
  have e1 : shL .i64 acc (w : Int) = acc * 2 ^ w := by
    have := shL_ok (x := acc) (y := (w : Int)) (by omega) (by rw [Int.toNat_natCast]; omega)
    rwa [Int.toNat_natCast] at this
  have e2 : bOr .i64 (acc * 2 ^ w) y = acc * 2 ^ w + y := bOr_ok (by omega) ha hy2 (by omega)
  simp only [F59_l5, c1, c2, if_true, Int.toNat_natCast, rowsI_get l i hi, List.getElem?_cons_zero, hy, c5, if_false, e1, e2, c4]
  exact if_neg (fun h => h)
theorem pack_end (l : List Int) (w acc : Int) (f : Nat) : (F59_l5 600).L (f + 1) (rowsI l, w, acc, (l.length : Int), (l.length : Int)) = some acc := by
  show (F59_l5 600).b _ _ ((F59_l5 600).L f) some = _
  have c : decide ((l.length : Int) < (l.length : Int)) = false := by rw [decide_eq_false_iff_not]; omega
  simp only [F59_l5, c]
theorem pack8 (a b c d : Int) (ha : Fit8 a) (hb : Fit8 b) (hc : Fit8 c) (hd : Fit8 d) : F59_d 600 (rowsI [a, b, c, d], 8) = some (((a % 256 * 256 + b % 256) * 256 + c % 256) * 256 + d % 256) := by
  have s1 := pack_step [a, b, c, d] (by simp) 8 (by omega) 0 599 (by simp) 0 (a % 256) (wrap8 ha) (by omega) (by omega) (by omega)
  have s2 := pack_step [a, b, c, d] (by simp) 8 (by omega) 1 598 (by simp) (0 * 2 ^ 8 + a % 256) (b % 256) (wrap8 hb) (by omega) (by omega) (by omega)
  have s3 := pack_step [a, b, c, d] (by simp) 8 (by omega) 2 597 (by simp) ((0 * 2 ^ 8 + a % 256) * 2 ^ 8 + b % 256) (c % 256) (wrap8 hc) (by omega) (by omega) (by omega)
  have s4 := pack_step [a, b, c, d] (by simp) 8 (by omega) 3 596 (by simp) (((0 * 2 ^ 8 + a % 256) * 2 ^ 8 + b % 256) * 2 ^ 8 + c % 256) (d % 256) (wrap8 hd) (by omega) (by omega) (by omega)
  have s5 := pack_end [a, b, c, d] 8 ((((0 * 2 ^ 8 + a % 256) * 2 ^ 8 + b % 256) * 2 ^ 8 + c % 256) * 2 ^ 8 + d % 256) 595
  have r : (F59_l5 600).L 600 (rowsI [a, b, c, d], 8, 0, ([a, b, c, d].length : Int), 0) = _ := s1.trans (s2.trans (s3.trans (s4.trans s5)))
  simp only [F59_d, FSpec.d, F59_s, rowsI_len, F59_d5, r]
  congr 1
  omega
theorem pack16 (a b : Int) (ha : Fit16 a) (hb : Fit16 b) : F59_d 600 (rowsI [a, b], 16) = some (a % 65536 * 65536 + b % 65536) := by
  have s1 := pack_step [a, b] (by simp) 16 (by omega) 0 599 (by simp) 0 (a % 65536) (wrap16 ha) (by omega) (by omega) (by omega)
  have s2 := pack_step [a, b] (by simp) 16 (by omega) 1 598 (by simp) (0 * 2 ^ 16 + a % 65536) (b % 65536) (wrap16 hb) (by omega) (by omega) (by omega)
  have s5 := pack_end [a, b] 16 ((0 * 2 ^ 16 + a % 65536) * 2 ^ 16 + b % 65536) 597
  have r : (F59_l5 600).L 600 (rowsI [a, b], 16, 0, ([a, b].length : Int), 0) = _ := s1.trans (s2.trans s5)
  simp only [F59_d, FSpec.d, F59_s, rowsI_len, F59_d5, r]
  congr 1
  omega
theorem pack32 (a : Int) (ha : Fit32 a) : F59_d 600 (rowsI [a], 32) = some (a % 4294967296) := by
  have s1 := pack_step [a] (by simp) 32 (by omega) 0 599 (by simp) 0 (a % 4294967296) (wrap32 ha) (by omega) (by omega) (by omega)
  have s5 := pack_end [a] 32 (0 * 2 ^ 32 + a % 4294967296) 598
  have r : (F59_l5 600).L 600 (rowsI [a], 32, 0, ([a].length : Int), 0) = _ := s1.trans s5
  simp only [F59_d, FSpec.d, F59_s, rowsI_len, F59_d5, r]
  congr 1
  omega
end Go.Proofs.YtdmedeaknnldcaaDoor
