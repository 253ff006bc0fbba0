/- Steim, the plain law: the document's functions. -/
import Derived.Test.YteplhedodcaljaaStL
import Derived.Test.YteplhedodcaljaaStW
namespace Go.Proofs.Yteplhedodcaljaa
open Go.RowKit
set_option linter.unusedVariables false
set_option linter.unusedSimpArgs false
set_option linter.unnecessarySimpa false
theorem rin_no {x lo hi : Int} (h : ¬ (lo ≤ x ∧ x ≤ hi)) : F42_d 600 (x, lo, hi) = some false := by rw [rin_any, decide_eq_false h]

theorem rfits8 (x : Int) : F65_d 600 (x, 8) = some (decide (Fit8 x)) := by
  have e1 : i64 (8 - 1) = 7 := by kernel_rfl
  have e0 : IntKind.u64.wrap 7 = 7 := by kernel_rfl
  have e2 : shL .i64 1 7 = 128 := by kernel_rfl
  have e3 : i64 (0 - 128) = -128 := by kernel_rfl
  have c : ¬ ((7 : Int) < 0) := by omega
  simp only [F65_d, FSpec.d, F65_s, rin_yes (x := 8) (lo := 1) (hi := 56) (by omega), e1, e0, c, if_false, e2, e3]
  unfold Fit8
  by_cases h1 : x ≥ -128
  · have h2 : -128 ≤ x := h1
    simp only [h1, h2, decide_true, true_and]
    congr 1
    exact decide_eq_decide.2 (by omega)
  · have h2 : ¬ -128 ≤ x := h1
    simp only [h1, h2, decide_false, false_and]
theorem rwrap8 {x : Int} (h : Fit8 x) : F45_d 600 (x, 8) = some (x % 256, 0) := by
  have e0 : IntKind.u64.wrap 8 = 8 := by kernel_rfl
  have e1 : shL .i64 1 8 = 256 := by kernel_rfl
  have c : ¬ ((8 : Int) < 0) := by omega
  have hh := h
  unfold Fit8 at hh
  have e2 : i64 (x + 256) = x + 256 := i64_id (by omega)
  simp only [F45_d, FSpec.d, F45_s, rfits8, decide_eq_true h, Bool.not_true, e0, c, if_false, e1, e2]
  by_cases h1 : x < 0
  · simp only [h1, decide_true]
    congr 2
    omega
  · simp only [h1, decide_false]
    congr 2
    omega
theorem rsign8 {v : Int} (h : 0 ≤ v ∧ v < 256) : F49_d 600 (v, 8) = some (sgn8 v, 0) := by
  have e0 : IntKind.u64.wrap 8 = 8 := by kernel_rfl
  have e1 : shL .i64 1 8 = 256 := by kernel_rfl
  have e2 : i64 (8 - 1) = 7 := by kernel_rfl
  have e3 : IntKind.u64.wrap 7 = 7 := by kernel_rfl
  have e4 : shL .i64 1 7 = 128 := by kernel_rfl
  have c : ¬ ((8 : Int) < 0) := by omega
  have c2 : ¬ ((7 : Int) < 0) := by omega
  have i1 : F42_d 600 (8, 1, 56) = some true := rin_yes (by omega)
  have d1 : decide (v < 0) = false := by rw [decide_eq_false_iff_not]; omega
  have d2 : decide (v ≥ 256) = false := by rw [decide_eq_false_iff_not]; omega
  simp only [F49_d, FSpec.d, F49_s, i1, Bool.not_true, d1, e0, c, if_false, e1, d2, e2, e3, c2, e4]
  by_cases hv : v ≥ 128
  · have e5 : i64 (v - 256) = v - 256 := i64_id (by omega)
    have s : sgn8 v = v - 256 := if_neg (by omega)
    simp only [hv, decide_true, e5, s]
  · have s : sgn8 v = v := if_pos (by omega)
    simp only [hv, decide_false, s]

theorem rfits16 (x : Int) : F65_d 600 (x, 16) = some (decide (Fit16 x)) := by
  have e1 : i64 (16 - 1) = 15 := by kernel_rfl
  have e0 : IntKind.u64.wrap 15 = 15 := by kernel_rfl
  have e2 : shL .i64 1 15 = 32768 := by kernel_rfl
  have e3 : i64 (0 - 32768) = -32768 := by kernel_rfl
  have c : ¬ ((15 : Int) < 0) := by omega
  simp only [F65_d, FSpec.d, F65_s, rin_yes (x := 16) (lo := 1) (hi := 56) (by omega), e1, e0, c, if_false, e2, e3]
  unfold Fit16
  by_cases h1 : x ≥ -32768
  · have h2 : -32768 ≤ x := h1
    simp only [h1, h2, decide_true, true_and]
    congr 1
    exact decide_eq_decide.2 (by omega)
  · have h2 : ¬ -32768 ≤ x := h1
    simp only [h1, h2, decide_false, false_and]
theorem rwrap16 {x : Int} (h : Fit16 x) : F45_d 600 (x, 16) = some (x % 65536, 0) := by
  have e0 : IntKind.u64.wrap 16 = 16 := by kernel_rfl
  have e1 : shL .i64 1 16 = 65536 := by kernel_rfl
  have c : ¬ ((16 : Int) < 0) := by omega
  have hh := h
  unfold Fit16 at hh
  have e2 : i64 (x + 65536) = x + 65536 := i64_id (by omega)
  simp only [F45_d, FSpec.d, F45_s, rfits16, decide_eq_true h, Bool.not_true, e0, c, if_false, e1, e2]
  by_cases h1 : x < 0
  · simp only [h1, decide_true]
    congr 2
    omega
  · simp only [h1, decide_false]
    congr 2
    omega
theorem rsign16 {v : Int} (h : 0 ≤ v ∧ v < 65536) : F49_d 600 (v, 16) = some (sgn16 v, 0) := by
  have e0 : IntKind.u64.wrap 16 = 16 := by kernel_rfl
  have e1 : shL .i64 1 16 = 65536 := by kernel_rfl
  have e2 : i64 (16 - 1) = 15 := by kernel_rfl
  have e3 : IntKind.u64.wrap 15 = 15 := by kernel_rfl
  have e4 : shL .i64 1 15 = 32768 := by kernel_rfl
  have c : ¬ ((16 : Int) < 0) := by omega
  have c2 : ¬ ((15 : Int) < 0) := by omega
  have i1 : F42_d 600 (16, 1, 56) = some true := rin_yes (by omega)
  have d1 : decide (v < 0) = false := by rw [decide_eq_false_iff_not]; omega
  have d2 : decide (v ≥ 65536) = false := by rw [decide_eq_false_iff_not]; omega
  simp only [F49_d, FSpec.d, F49_s, i1, Bool.not_true, d1, e0, c, if_false, e1, d2, e2, e3, c2, e4]
  by_cases hv : v ≥ 32768
  · have e5 : i64 (v - 65536) = v - 65536 := i64_id (by omega)
    have s : sgn16 v = v - 65536 := if_neg (by omega)
    simp only [hv, decide_true, e5, s]
  · have s : sgn16 v = v := if_pos (by omega)
    simp only [hv, decide_false, s]

theorem rfits32 (x : Int) : F65_d 600 (x, 32) = some (decide (Fit32 x)) := by
  have e1 : i64 (32 - 1) = 31 := by kernel_rfl
  have e0 : IntKind.u64.wrap 31 = 31 := by kernel_rfl
  have e2 : shL .i64 1 31 = 2147483648 := by kernel_rfl
  have e3 : i64 (0 - 2147483648) = -2147483648 := by kernel_rfl
  have c : ¬ ((31 : Int) < 0) := by omega
  simp only [F65_d, FSpec.d, F65_s, rin_yes (x := 32) (lo := 1) (hi := 56) (by omega), e1, e0, c, if_false, e2, e3]
  unfold Fit32
  by_cases h1 : x ≥ -2147483648
  · have h2 : -2147483648 ≤ x := h1
    simp only [h1, h2, decide_true, true_and]
    congr 1
    exact decide_eq_decide.2 (by omega)
  · have h2 : ¬ -2147483648 ≤ x := h1
    simp only [h1, h2, decide_false, false_and]
theorem rwrap32 {x : Int} (h : Fit32 x) : F45_d 600 (x, 32) = some (x % 4294967296, 0) := by
  have e0 : IntKind.u64.wrap 32 = 32 := by kernel_rfl
  have e1 : shL .i64 1 32 = 4294967296 := by kernel_rfl
  have c : ¬ ((32 : Int) < 0) := by omega
  have hh := h
  unfold Fit32 at hh
  have e2 : i64 (x + 4294967296) = x + 4294967296 := i64_id (by omega)
  simp only [F45_d, FSpec.d, F45_s, rfits32, decide_eq_true h, Bool.not_true, e0, c, if_false, e1, e2]
  by_cases h1 : x < 0
  · simp only [h1, decide_true]
    congr 2
    omega
  · simp only [h1, decide_false]
    congr 2
    omega
theorem rsign32 {v : Int} (h : 0 ≤ v ∧ v < 4294967296) : F49_d 600 (v, 32) = some (sgn32 v, 0) := by
  have e0 : IntKind.u64.wrap 32 = 32 := by kernel_rfl
  have e1 : shL .i64 1 32 = 4294967296 := by kernel_rfl
  have e2 : i64 (32 - 1) = 31 := by kernel_rfl
  have e3 : IntKind.u64.wrap 31 = 31 := by kernel_rfl
  have e4 : shL .i64 1 31 = 2147483648 := by kernel_rfl
  have c : ¬ ((32 : Int) < 0) := by omega
  have c2 : ¬ ((31 : Int) < 0) := by omega
  have i1 : F42_d 600 (32, 1, 56) = some true := rin_yes (by omega)
  have d1 : decide (v < 0) = false := by rw [decide_eq_false_iff_not]; omega
  have d2 : decide (v ≥ 4294967296) = false := by rw [decide_eq_false_iff_not]; omega
  simp only [F49_d, FSpec.d, F49_s, i1, Bool.not_true, d1, e0, c, if_false, e1, d2, e2, e3, c2, e4]
  by_cases hv : v ≥ 2147483648
  · have e5 : i64 (v - 4294967296) = v - 4294967296 := i64_id (by omega)
    have s : sgn32 v = v - 4294967296 := if_neg (by omega)
    simp only [hv, decide_true, e5, s]
  · have s : sgn32 v = v := if_pos (by omega)
    simp only [hv, decide_false, s]

theorem len1 (x : List AV) : [x].length = 1 := rfl
theorem rsmp_any (x : Int) : F50_d 600 x = some (decide (Smp x)) := by
  simp only [F50_d, FSpec.d, F50_s, rin_any]
  rfl
theorem rall_loop (l : List Int) (hl : l.length ≤ 1000) : ∀ (k i f : Nat), k < f → i + k = l.length → (F43_l4 600).L f (rowsI l, (i : Int)) = some (.inr ()) ∧ (l.drop i).all (fun x => decide (Smp x)) = true ∨ (F43_l4 600).L f (rowsI l, (i : Int)) = some (.inl false) ∧ (l.drop i).all (fun x => decide (Smp x)) = false
  | 0, i, f, hf, hi => by
    obtain ⟨f, rfl⟩ : ∃ f', f = f' + 1 := ⟨f - 1, by omega⟩
    have c : decide ((i : Int) < (l.length : Int)) = false := by rw [decide_eq_false_iff_not]; omega
    refine .inl ⟨?_, by rw [List.drop_of_length_le (by omega)]; rfl⟩
    show (F43_l4 600).b _ _ ((F43_l4 600).L f) some = _
    simp only [F43_l4, rowsI_len, c]
  | k + 1, i, f, hf, hi => by
    obtain ⟨f, rfl⟩ : ∃ f', f = f' + 1 := ⟨f - 1, by omega⟩
    have hlt : i < l.length := by omega
    have c1 : decide ((i : Int) < (l.length : Int)) = true := by rw [decide_eq_true_iff]; omega
    have c2 : (0 : Int) ≤ (i : Int) := by omega
    have c4 : i64 ((i : Int) + 1) = ((i + 1 : Nat) : Int) := by rw [i64_id (by omega)]; omega
    have hd : l.drop i = l[i] :: l.drop (i + 1) := List.drop_eq_getElem_cons hlt
    by_cases h : Smp l[i]
    · have st : (F43_l4 600).L (f + 1) (rowsI l, (i : Int)) = (F43_l4 600).L f (rowsI l, ((i + 1 : Nat) : Int)) := by
        show (F43_l4 600).b _ _ ((F43_l4 600).L f) some = _
        obtain ⟨Lf, hL⟩ : ∃ Lf, Lf = (F43_l4 600).L f := ⟨_, rfl⟩
        rw [← hL]
        simp only [F43_l4, rowsI_len, c1, c2, if_true, Int.toNat_natCast, rowsI_get l i hlt, List.getElem?_cons_zero, rsmp_any, decide_eq_true h, Bool.not_true, c4]
        exact if_pos trivial
      have r := rall_loop l hl k (i + 1) f (by omega) (by omega)
      rw [st, hd, List.all_cons, decide_eq_true h, Bool.true_and]
      exact r
    · refine .inr ⟨?_, by rw [hd, List.all_cons, decide_eq_false h]; rfl⟩
      show (F43_l4 600).b _ _ ((F43_l4 600).L f) some = _
      simp only [F43_l4, rowsI_len, c1, c2, if_true, Int.toNat_natCast, rowsI_get l i hlt, List.getElem?_cons_zero, rsmp_any, decide_eq_false h, Bool.not_false]
theorem rall_any (l : List Int) (hl : l.length ≤ 590) : F43_d 600 (rowsI l) = some (l.all fun x => decide (Smp x)) := by
  simp only [F43_d, FSpec.d, F43_s, F43_d4]
  rcases rall_loop l (by omega) l.length 0 600 (by omega) (by omega) with ⟨h1, h2⟩ | ⟨h1, h2⟩
  · replace h1 : (F43_l4 600).L 600 (rowsI l, 0) = _ := h1
    replace h2 : l.all (fun x => decide (Smp x)) = true := h2
    simp only [h1, h2]
  · replace h1 : (F43_l4 600).L 600 (rowsI l, 0) = _ := h1
    replace h2 : l.all (fun x => decide (Smp x)) = false := h2
    simp only [h1, h2]
/-! fit, pack, words. -/
theorem rfit_loop (w : Int) (P : Int → Prop) [DecidablePred P] (hP : ∀ x, F65_d 600 (x, w) = some (decide (P x))) (l : List Int) (n : Nat) (hn : n ≤ 4) (hl : n ≤ l.length) : ∀ (k i f : Nat), k < f → i + k = n → (F63_l8 600).L f (rowsI l, (n : Int), w, (i : Int)) = some (.inr ()) ∧ ((l.take n).drop i).all (fun x => decide (P x)) = true ∨ (F63_l8 600).L f (rowsI l, (n : Int), w, (i : Int)) = some (.inl false) ∧ ((l.take n).drop i).all (fun x => decide (P x)) = false
  | 0, i, f, hf, hi => by
    obtain ⟨f, rfl⟩ : ∃ f', f = f' + 1 := ⟨f - 1, by omega⟩
    have c : decide ((i : Int) < (n : Int)) = false := by rw [decide_eq_false_iff_not]; omega
    refine .inl ⟨?_, by rw [List.drop_of_length_le (by simp; omega)]; rfl⟩
    show (F63_l8 600).b _ _ ((F63_l8 600).L f) some = _
    simp only [F63_l8, c]
  | k + 1, i, f, hf, hi => by
    obtain ⟨f, rfl⟩ : ∃ f', f = f' + 1 := ⟨f - 1, by omega⟩
    have hlt : i < l.length := by omega
    have hlt2 : i < (l.take n).length := by simp; omega
    have c1 : decide ((i : Int) < (n : Int)) = true := by rw [decide_eq_true_iff]; omega
    have c2 : (0 : Int) ≤ (i : Int) := by omega
    have c4 : i64 ((i : Int) + 1) = ((i + 1 : Nat) : Int) := by rw [i64_id (by omega)]; omega
    have hd : (l.take n).drop i = l[i] :: (l.take n).drop (i + 1) := by rw [List.drop_eq_getElem_cons hlt2, List.getElem_take]
    by_cases h : P l[i]
    · have st : (F63_l8 600).L (f + 1) (rowsI l, (n : Int), w, (i : Int)) = (F63_l8 600).L f (rowsI l, (n : Int), w, ((i + 1 : Nat) : Int)) := by
        show (F63_l8 600).b _ _ ((F63_l8 600).L f) some = _
        obtain ⟨Lf, hL⟩ : ∃ Lf, Lf = (F63_l8 600).L f := ⟨_, rfl⟩
        rw [← hL]
        simp only [F63_l8, c1, c2, if_true, Int.toNat_natCast, rowsI_get l i hlt, List.getElem?_cons_zero, hP, decide_eq_true h, Bool.not_true, c4]
        exact if_pos trivial
      have r := rfit_loop w P hP l n hn hl k (i + 1) f (by omega) (by omega)
      rw [st, hd, List.all_cons, decide_eq_true h, Bool.true_and]
      exact r
    · refine .inr ⟨?_, by rw [hd, List.all_cons, decide_eq_false h]; rfl⟩
      show (F63_l8 600).b _ _ ((F63_l8 600).L f) some = _
      simp only [F63_l8, c1, c2, if_true, Int.toNat_natCast, rowsI_get l i hlt, List.getElem?_cons_zero, hP, decide_eq_false h, Bool.not_false]
theorem rfit_any (n : Nat) (w : Int) (P : Int → Prop) [DecidablePred P] (hP : ∀ x, F65_d 600 (x, w) = some (decide (P x))) (hn : n ≤ 4) (D : List Int) : F63_d 600 (rowsI D, (n : Int), w) = some (fitB n P D) := by
  simp only [F63_d, FSpec.d, F63_s, rowsI_len]
  unfold fitB
  by_cases h : n ≤ D.length
  · have c1 : ¬ (D.length : Int) < (n : Int) := by omega
    simp only [c1, decide_false, h, decide_true, Bool.true_and, F63_d8]
    rcases rfit_loop w P hP D n hn h n 0 600 (by omega) (by omega) with ⟨h1, h2⟩ | ⟨h1, h2⟩
    · replace h1 : (F63_l8 600).L 600 (rowsI D, (n : Int), w, 0) = _ := h1
      replace h2 : (D.take n).all (fun x => decide (P x)) = true := h2
      simp only [h1, h2]
    · replace h1 : (F63_l8 600).L 600 (rowsI D, (n : Int), w, 0) = _ := h1
      replace h2 : (D.take n).all (fun x => decide (P x)) = false := h2
      simp only [h1, h2]
  · have c1 : (D.length : Int) < (n : Int) := by omega
    simp only [c1, decide_true, h, decide_false, Bool.false_and]
theorem rpack_step (l : List Int) (hl : l.length ≤ 4) (w : Nat) (hw : w ≤ 32) (i f : Nat) (hi : i < l.length) (acc y : Int) (hy : F45_d 600 (l[i], (w : Int)) = some (y, 0)) (hy2 : 0 ≤ y ∧ y < 2 ^ w) (ha : 0 ≤ acc) (hb : acc * 2 ^ w + y ≤ 4294967295) : (F64_l5 600).L (f + 1) (rowsI l, (w : Int), acc, (i : Int)) = (F64_l5 600).L f (rowsI l, (w : Int), acc * 2 ^ w + y, ((i + 1 : Nat) : Int)) := by
  show (F64_l5 600).b _ _ ((F64_l5 600).L f) some = _
  obtain ⟨Lf, hL⟩ : ∃ Lf, Lf = (F64_l5 600).L f := ⟨_, rfl⟩
  rw [← hL]
  have c1 : decide ((i : Int) < (l.length : Int)) = true := by rw [decide_eq_true_iff]; omega
  have c2 : (0 : Int) ≤ (i : Int) := by omega
  have c4 : i64 ((i : Int) + 1) = ((i + 1 : Nat) : Int) := by rw [i64_id (by omega)]; omega
  have c5 : ¬ ((w : Int) < 0) := by omega
  have c6 : IntKind.u64.wrap (w : Int) = (w : Int) := u64_id (by omega)
  have h0 : 0 ≤ acc * 2 ^ w := Int.mul_nonneg ha (Int.le_of_lt (Int.pow_pos (by omega)))
  have e1 : shL .i64 acc (w : Int) = acc * 2 ^ w := by
    have := shL_ok (x := acc) (y := (w : Int)) (by omega) (by rw [Int.toNat_natCast]; omega)
    rwa [Int.toNat_natCast] at this
  have e2 : bOr .i64 (acc * 2 ^ w) y = acc * 2 ^ w + y := bOr_ok (by omega) ha hy2 (by omega)
  simp only [F64_l5, rowsI_len, c1, c2, if_true, Int.toNat_natCast, rowsI_get l i hi, List.getElem?_cons_zero, hy, c6, c5, if_false, e1, e2, c4]
  exact if_neg (fun h => h)
theorem rpack_end (l : List Int) (w acc : Int) (f : Nat) : (F64_l5 600).L (f + 1) (rowsI l, w, acc, (l.length : Int)) = some acc := by
  show (F64_l5 600).b _ _ ((F64_l5 600).L f) some = _
  have c : decide ((l.length : Int) < (l.length : Int)) = false := by rw [decide_eq_false_iff_not]; omega
  simp only [F64_l5, rowsI_len, c]
theorem rpack8 (a b c d : Int) (ha : Fit8 a) (hb : Fit8 b) (hc : Fit8 c) (hd : Fit8 d) : F64_d 600 (rowsI [a, b, c, d], 8) = some (((a % 256 * 256 + b % 256) * 256 + c % 256) * 256 + d % 256) := by
  have s1 := rpack_step [a, b, c, d] (by simp) 8 (by omega) 0 599 (by simp) 0 (a % 256) (rwrap8 ha) (by omega) (by omega) (by omega)
  have s2 := rpack_step [a, b, c, d] (by simp) 8 (by omega) 1 598 (by simp) (0 * 2 ^ 8 + a % 256) (b % 256) (rwrap8 hb) (by omega) (by omega) (by omega)
  have s3 := rpack_step [a, b, c, d] (by simp) 8 (by omega) 2 597 (by simp) ((0 * 2 ^ 8 + a % 256) * 2 ^ 8 + b % 256) (c % 256) (rwrap8 hc) (by omega) (by omega) (by omega)
  have s4 := rpack_step [a, b, c, d] (by simp) 8 (by omega) 3 596 (by simp) (((0 * 2 ^ 8 + a % 256) * 2 ^ 8 + b % 256) * 2 ^ 8 + c % 256) (d % 256) (rwrap8 hd) (by omega) (by omega) (by omega)
  have s5 := rpack_end [a, b, c, d] 8 ((((0 * 2 ^ 8 + a % 256) * 2 ^ 8 + b % 256) * 2 ^ 8 + c % 256) * 2 ^ 8 + d % 256) 595
  have r : (F64_l5 600).L 600 (rowsI [a, b, c, d], 8, 0, 0) = _ := s1.trans (s2.trans (s3.trans (s4.trans s5)))
  simp only [F64_d, FSpec.d, F64_s, F64_d5, r]
  congr 1
  omega
theorem rpack16 (a b : Int) (ha : Fit16 a) (hb : Fit16 b) : F64_d 600 (rowsI [a, b], 16) = some (a % 65536 * 65536 + b % 65536) := by
  have s1 := rpack_step [a, b] (by simp) 16 (by omega) 0 599 (by simp) 0 (a % 65536) (rwrap16 ha) (by omega) (by omega) (by omega)
  have s2 := rpack_step [a, b] (by simp) 16 (by omega) 1 598 (by simp) (0 * 2 ^ 16 + a % 65536) (b % 65536) (rwrap16 hb) (by omega) (by omega) (by omega)
  have s5 := rpack_end [a, b] 16 ((0 * 2 ^ 16 + a % 65536) * 2 ^ 16 + b % 65536) 597
  have r : (F64_l5 600).L 600 (rowsI [a, b], 16, 0, 0) = _ := s1.trans (s2.trans s5)
  simp only [F64_d, FSpec.d, F64_s, F64_d5, r]
  congr 1
  omega
theorem rpack32 (a : Int) (ha : Fit32 a) : F64_d 600 (rowsI [a], 32) = some (a % 4294967296) := by
  have s1 := rpack_step [a] (by simp) 32 (by omega) 0 599 (by simp) 0 (a % 4294967296) (rwrap32 ha) (by omega) (by omega) (by omega)
  have s5 := rpack_end [a] 32 (0 * 2 ^ 32 + a % 4294967296) 598
  have r : (F64_l5 600).L 600 (rowsI [a], 32, 0, 0) = _ := s1.trans s5
  simp only [F64_d, FSpec.d, F64_s, F64_d5, r]
  congr 1
  omega
theorem rdif_loop (X : List Int) (hl : X.length ≤ 590) (hX : ∀ x ∈ X, Smp x) : ∀ (k i f : Nat), k < f → i + k = X.length → (F44_l5 600).L f (rowsI ((dX X).take i), rowsI X, (i : Int)) = some (rowsI (dX X))
  | 0, i, f, hf, hi => by
    obtain ⟨f, rfl⟩ : ∃ f', f = f' + 1 := ⟨f - 1, by omega⟩
    show (F44_l5 600).b _ _ ((F44_l5 600).L f) some = _
    have c : decide ((i : Int) < (X.length : Int)) = false := by rw [decide_eq_false_iff_not]; omega
    have e : (dX X).take i = dX X := List.take_of_length_le (by rw [dX_len]; omega)
    simp only [F44_l5, rowsI_len, c, e]
  | k + 1, i, f, hf, hi => by
    obtain ⟨f, rfl⟩ : ∃ f', f = f' + 1 := ⟨f - 1, by omega⟩
    have r1 := rdif_loop X hl hX k (i + 1) f (by omega) (by omega)
    show (F44_l5 600).b _ _ ((F44_l5 600).L f) some = _
    obtain ⟨Lf, hL⟩ : ∃ Lf, Lf = (F44_l5 600).L f := ⟨_, rfl⟩
    rw [← hL] at r1 ⊢
    have hlt : i < X.length := by omega
    have hltD : i < (dX X).length := by rw [dX_len]; exact hlt
    have c1 : decide ((i : Int) < (X.length : Int)) = true := by rw [decide_eq_true_iff]; omega
    have c2 : (0 : Int) ≤ (i : Int) := by omega
    have c4 : i64 ((i : Int) + 1) = ((i + 1 : Nat) : Int) := by rw [i64_id (by omega)]; omega
    have hb : (((dX X).take i).length + 1) * 8 ≤ maxBytes := by simp [dX_len]; unfold maxBytes; omega
    have et : (dX X).take (i + 1) = (dX X).take i ++ [(dX X)[i]] := List.take_succ_eq_append_getElem hltD
    rw [et] at r1
    cases i with
    | zero =>
      have m0 : (((0 : Nat) : Int) == 0) = true := rfl
      rw [dX_zero X hlt] at r1
      simp only [F44_l5, rowsI_len, c1, m0, len1, hb, if_true, rowsI_snoc, c4]
      exact r1
    | succ j =>
      have m0 : (((j + 1 : Nat) : Int) == 0) = false := by rw [beq_eq_false_iff_ne]; omega
      have c3 : i64 (((j + 1 : Nat) : Int) - 1) = (j : Int) := by rw [i64_id (by omega)]; omega
      have c5 : (0 : Int) ≤ (j : Int) := by omega
      have hlt' : j < X.length := by omega
      have b1 := hX _ (List.getElem_mem hlt)
      have b2 := hX _ (List.getElem_mem hlt')
      unfold Smp at b1 b2
      have e1 : i64 (X[j + 1] - X[j]) = (dX X)[j + 1] := by rw [dX_get X j hlt]; exact i64_id (by omega)
      simp only [F44_l5, rowsI_len, c1, m0, c2, c3, c5, if_true, Int.toNat_natCast, rowsI_get X _ hlt, rowsI_get X _ hlt', List.getElem?_cons_zero, e1, len1, hb, rowsI_snoc, c4]
      exact r1
theorem rwds_loop : ∀ (n f : Nat) (D : List Int) (out : List (Int × Int)), n < f → D.length ≤ n → n ≤ 590 → out.length + n ≤ 1000 → (∀ x ∈ D, Fit32 x) → (F44_l16 600).L f (rowsW out, rowsI D) = some (rowsW (out ++ wds n D))
  | 0, f, D, out, hf, hl, hn, ho, h32 => by
    obtain ⟨f, rfl⟩ : ∃ f', f = f' + 1 := ⟨f - 1, by omega⟩
    obtain rfl : D = [] := List.length_eq_zero_iff.1 (by omega)
    show (F44_l16 600).b _ _ ((F44_l16 600).L f) some = _
    have c : decide ((([] : List Int).length : Int) > 0) = false := rfl
    simp only [F44_l16, rowsI_len, c, wds, List.append_nil]
  | n + 1, f, D, out, hf, hl, hn, ho, h32 => by
    obtain ⟨f, rfl⟩ : ∃ f', f = f' + 1 := ⟨f - 1, by omega⟩
    by_cases h0 : D = []
    · subst h0
      show (F44_l16 600).b _ _ ((F44_l16 600).L f) some = _
      have c : decide ((([] : List Int).length : Int) > 0) = false := rfl
      have e : wds (n + 1) [] = [] := rfl
      simp only [F44_l16, rowsI_len, c, e, List.append_nil]
    · have hp : 0 < D.length := List.length_pos_iff.2 h0
      have c : decide ((D.length : Int) > 0) = true := by rw [decide_eq_true_iff]; omega
      have f4 := rfit_any 4 8 Fit8 rfits8 (by omega) D
      have f2 := rfit_any 2 16 Fit16 rfits16 (by omega) D
      replace f4 : F63_d 600 (rowsI D, 4, 8) = some (fitB 4 Fit8 D) := f4
      replace f2 : F63_d 600 (rowsI D, 2, 16) = some (fitB 2 Fit16 D) := f2
      have hb : ((rowsW out).length + 1) * 16 ≤ maxBytes := by rw [rowsW_len]; unfold maxBytes; omega
      have ih : ∀ (m : Nat) (w : Int × Int), 1 ≤ m → (F44_l16 600).L f (rowsW (out ++ [w]), rowsI (D.drop m)) = some (rowsW (out ++ w :: wds n (D.drop m))) := fun m w hm => by
        have r1 := rwds_loop n f (D.drop m) (out ++ [w]) (by omega) (by rw [List.length_drop]; omega) (by omega) (by simp; omega) (fun x hx => h32 x (List.mem_of_mem_drop hx))
        rw [List.append_assoc] at r1
        exact r1
      have et : ∀ m, (rowsI D).take m = rowsI (D.take m) := fun m => by simp [rowsI, List.map_take]
      have ed : ∀ m, (rowsI D).drop m = rowsI (D.drop m) := fun m => by simp [rowsI, List.map_drop]
      rw [wds_cons n D h0]
      show (F44_l16 600).b _ _ ((F44_l16 600).L f) some = _
      obtain ⟨Lf, hL⟩ : ∃ Lf, Lf = (F44_l16 600).L f := ⟨_, rfl⟩
      rw [← hL] at ih ⊢
      have t4 : (4 : Int).toNat = 4 := rfl
      have t2 : (2 : Int).toNat = 2 := rfl
      have t1 : (1 : Int).toNat = 1 := rfl
      cases h4 : fitB 4 Fit8 D with
      | true =>
        rw [h4] at f4
        obtain ⟨a, b, e, d, r, rfl, q1, q2, q3, q4⟩ := fit4_inv h4
        have pk : F64_d 600 (rowsI ((a :: b :: e :: d :: r).take 4), 8) = some (p8 (a :: b :: e :: d :: r)) := rpack8 a b e d q1 q2 q3 q4
        have c3 : (0 : Int) ≤ 4 ∧ (4 : Int) ≤ ((a :: b :: e :: d :: r).length : Int) := by simp only [List.length_cons]; omega
        have i1 := ih 4 (1, p8 (a :: b :: e :: d :: r)) (by omega)
        rw [if_pos rfl]
        simp only [F44_l16, rowsI_len, c, f4, c3, and_self, if_true, t4, et, ed, pk, len1, hb, rowsW_snoc]
        first | exact i1 | exact (if_pos trivial).trans i1 | (simp only [List.length_cons] at c3; simp only [c3, and_self, if_true]; exact i1)
      | false =>
        rw [h4] at f4
        rw [if_neg (by simp)]
        cases h2 : fitB 2 Fit16 D with
        | true =>
          rw [h2] at f2
          obtain ⟨a, b, r, rfl, q1, q2⟩ := fit2_inv h2
          have pk : F64_d 600 (rowsI ((a :: b :: r).take 2), 16) = some (p16 (a :: b :: r)) := rpack16 a b q1 q2
          have c3 : (0 : Int) ≤ 2 ∧ (2 : Int) ≤ ((a :: b :: r).length : Int) := by simp only [List.length_cons]; omega
          have i1 := ih 2 (2, p16 (a :: b :: r)) (by omega)
          rw [if_pos rfl]
          simp only [F44_l16, rowsI_len, c, f4, f2, c3, and_self, if_true, t2, et, ed, pk, len1, hb, rowsW_snoc]
          first | exact i1 | exact (if_pos trivial).trans i1 | (simp only [List.length_cons] at c3; simp only [c3, and_self, if_true]; exact i1)
        | false =>
          rw [h2] at f2
          rw [if_neg (by simp)]
          match D, h0, h32, hp, c, f4, f2, ih, et, ed with
          | a :: r, _, h32, hp, c, f4, f2, ih, et, ed =>
            have pk : F64_d 600 (rowsI ((a :: r).take 1), 32) = some (p32 (a :: r)) := rpack32 a (h32 a List.mem_cons_self)
            have c3 : (0 : Int) ≤ 1 ∧ (1 : Int) ≤ ((a :: r).length : Int) := by simp only [List.length_cons]; omega
            have i1 := ih 1 (3, p32 (a :: r)) (by omega)
            simp only [F44_l16, rowsI_len, c, f4, f2, c3, and_self, if_true, t1, et, ed, pk, len1, hb, rowsW_snoc]
            first | exact i1 | exact (if_pos trivial).trans i1 | (simp only [List.length_cons] at c3; simp only [c3, and_self, if_true]; exact i1)
theorem rwords_ok (X : List Int) (hl : X.length ≤ 500) (hX : ∀ x ∈ X, Smp x) : F44_d 600 (rowsI X) = some (rowsW (wX X)) := by
  have r1 := rdif_loop X (by omega) hX X.length 0 600 (by omega) (by omega)
  replace r1 : (F44_l5 600).L 600 (([] : List (List AV)), rowsI X, 0) = _ := r1
  have r2 := rwds_loop X.length 600 (dX X) [] (by omega) (by rw [dX_len]; omega) (by omega) (by simp; omega) (dX_fit hX)
  replace r2 : (F44_l16 600).L 600 (([] : List (List AV)), rowsI (dX X)) = some (rowsW (wX X)) := r2
  simp only [F44_d, FSpec.d, F44_s, F44_d5, r1, F44_d16, r2]
theorem rWords_ok (X : List Int) (hl : X.length ≤ 500) : F22_d 600 (rowsI X) = some (if X.all fun x => decide (Smp x) then ((wX X).length : Int) else 0) := by
  cases h : X.all fun x => decide (Smp x) with
  | true =>
    simp only [F22_d, FSpec.d, F22_s, rall_any X (by omega), h, Bool.not_true, rwords_ok X hl ((all_iff X).1 h), rowsW_len, if_true]
  | false =>
    simp only [F22_d, FSpec.d, F22_s, rall_any X (by omega), h, Bool.not_false]
    rfl
def frI (n : Nat) : Int := if n = 0 then 0 else (nfr n : Int)
theorem rFrames_ok (X : List Int) (hl : X.length ≤ 500) : F23_d 600 (rowsI X) = some (if X.all fun x => decide (Smp x) then frI (wX X).length else 0) := by
  have hw := (wX_len X).1
  cases h : X.all fun x => decide (Smp x) with
  | true =>
    have h2 := rWords_ok X hl
    rw [h] at h2
    simp only [if_true] at h2
    by_cases h0 : (wX X).length = 0
    · have c : (((wX X).length : Int) == 0) = true := by simp [h0]
      have e : frI (wX X).length = 0 := if_pos h0
      simp only [F23_d, FSpec.d, F23_s, h2, c, if_true, e]
    · have c : (((wX X).length : Int) == 0) = false := by rw [beq_eq_false_iff_ne]; omega
      have e : frI (wX X).length = (nfr (wX X).length : Int) := if_neg h0
      have e1 : i64 (((wX X).length : Int) - 13) = ((wX X).length : Int) - 13 := i64_id (by omega)
      have e2 : i64 ((if 0 > ((wX X).length : Int) - 13 then 0 else ((wX X).length : Int) - 13) + 14) = (if 0 > ((wX X).length : Int) - 13 then 0 else ((wX X).length : Int) - 13) + 14 := i64_id (by split <;> omega)
      have e3 : i64 (((if 0 > ((wX X).length : Int) - 13 then 0 else ((wX X).length : Int) - 13) + 14).tdiv 15) = ((if 0 > ((wX X).length : Int) - 13 then 0 else ((wX X).length : Int) - 13) + 14) / 15 := by
        rw [Int.tdiv_eq_ediv_of_nonneg (by split <;> omega), i64_id (by split <;> omega)]
      have e4 : i64 (1 + ((if 0 > ((wX X).length : Int) - 13 then 0 else ((wX X).length : Int) - 13) + 14) / 15) = (nfr (wX X).length : Int) := by
        rw [i64_id (by split <;> omega)]
        unfold nfr
        split <;> omega
      simp only [F23_d, FSpec.d, F23_s, h2, c, if_true, e, e1, e2, e3, e4]
  | false =>
    have h2 := rWords_ok X hl
    rw [h] at h2
    simp only [Bool.false_eq_true, if_false] at h2
    simp only [F23_d, FSpec.d, F23_s, h2, beq_self_eq_true, Bool.false_eq_true, if_false]
end Go.Proofs.Yteplhedodcaljaa
