/- Steim, the plain law: the functions of package bits, without memory. -/
import Derived.Test.YtdmedeaknnldcaaDoorStA
namespace Go.Proofs.YtdmedeaknnldcaaDoor
open Go.RowKit
set_option linter.unusedVariables false
set_option linter.unusedSimpArgs false
set_option linter.unnecessarySimpa false
theorem in_any (N : Nat) (x lo hi : Int) : F40_d N (x, lo, hi) = some (decide (lo ≤ x ∧ x ≤ hi)) := by
  simp only [F40_d, FSpec.d, F40_s]
  by_cases h1 : x ≥ lo
  · have h2 : lo ≤ x := h1
    simp only [h1, h2, decide_true, true_and]
  · have h2 : ¬ lo ≤ x := h1
    simp only [h1, h2, decide_false, false_and]
theorem sin_any (N : Nat) (x lo hi : Int) : F66_d N (x, lo, hi) = some (decide (lo ≤ x ∧ x ≤ hi)) := in_any N x lo hi
theorem in_yes {x lo hi : Int} (h : lo ≤ x ∧ x ≤ hi) : F40_d 600 (x, lo, hi) = some true := by rw [in_any, decide_eq_true h]
theorem in_no {x lo hi : Int} (h : ¬ (lo ≤ x ∧ x ≤ hi)) : F40_d 600 (x, lo, hi) = some false := by rw [in_any, decide_eq_false h]
theorem sin_yes {x lo hi : Int} (h : lo ≤ x ∧ x ≤ hi) : F66_d 600 (x, lo, hi) = some true := by rw [sin_any, decide_eq_true h]
theorem sin_no {x lo hi : Int} (h : ¬ (lo ≤ x ∧ x ≤ hi)) : F66_d 600 (x, lo, hi) = some false := by rw [sin_any, decide_eq_false h]
theorem ite_T {α : Type} (a b : α) : (if True then a else b) = a := if_pos trivial
theorem ite_F {α : Type} (a b : α) : (if False then a else b) = b := if_neg (fun h => h)

/-! 8 bits. -/
def Fit8 (x : Int) : Prop := -128 ≤ x ∧ x ≤ 127
instance (x : Int) : Decidable (Fit8 x) := inferInstanceAs (Decidable (_ ∧ _))
theorem fits8 (x : Int) : F61_d 600 (x, 8) = some (decide (Fit8 x)) := by
  have e1 : i64 (8 - 1) = 7 := by kernel_rfl
  have e2 : shL .i64 (-1) 7 = -128 := by kernel_rfl
  have e3 : shL .i64 1 7 = 128 := by kernel_rfl
  have e4 : i64 (128 - 1) = 127 := by kernel_rfl
  have c : ¬ ((7 : Int) < 0) := by omega
  simp only [F61_d, FSpec.d, F61_s, in_yes (x := 8) (lo := 1) (hi := 56) (by omega), e1, e2, e3, e4, c, if_false, in_any]
  rfl
theorem wrap8 {x : Int} (h : Fit8 x) : F38_d 600 (x, 8) = some (x % 256, 0) := by
  have e1 : i64 (shL .i64 1 8 - 1) = 2 ^ 8 - 1 := by kernel_rfl
  have c : ¬ ((8 : Int) < 0) := by omega
  simp only [F38_d, FSpec.d, F38_s, fits8, decide_eq_true h, Bool.not_true, c, if_false, e1, bAnd_ok (w := 8) (by omega)]
  rfl
def sgn8 (v : Int) : Int := if v < 128 then v else v - 256
theorem sgn8_mod {x : Int} (h : Fit8 x) : sgn8 (x % 256) = x := by
  unfold sgn8; unfold Fit8 at h
  split <;> omega
theorem sgn8_fit {v : Int} (h : 0 ≤ v ∧ v < 256) : Fit8 (sgn8 v) := by
  unfold sgn8 Fit8
  split <;> omega
theorem sign8 {v : Int} (h : 0 ≤ v ∧ v < 256) : F69_d 600 (v, 8) = some (sgn8 v, 0) := by
  have e0 : i64 (shL .i64 1 8 - 1) = 255 := by kernel_rfl
  have e1 : i64 (8 - 1) = 7 := by kernel_rfl
  have e2 : shL .i64 1 8 = 256 := by kernel_rfl
  have e3 : shR .i64 v 7 = v / 128 := shR_ok (by omega)
  have c : ¬ ((8 : Int) < 0) := by omega
  have c2 : ¬ ((7 : Int) < 0) := by omega
  have i1 : F40_d 600 (8, 1, 56) = some true := in_yes (by omega)
  have i2 : F40_d 600 (v, 0, 255) = some true := in_yes (by omega)
  simp only [F69_d, FSpec.d, F69_s, i1, Bool.not_true, c, if_false, e0, i2, e1, c2, e3]
  by_cases hv : v < 128
  · have b : (v / 128 == 1) = false := by rw [beq_eq_false_iff_ne]; omega
    have s : sgn8 v = v := if_pos hv
    simp only [b, s]
  · have b : (v / 128 == 1) = true := by rw [beq_iff_eq]; omega
    have s : sgn8 v = v - 256 := if_neg hv
    have e4 : i64 (v - 256) = v - 256 := i64_id (by omega)
    simp only [b, s, e2, e4]

/-! 16 bits. -/
def Fit16 (x : Int) : Prop := -32768 ≤ x ∧ x ≤ 32767
instance (x : Int) : Decidable (Fit16 x) := inferInstanceAs (Decidable (_ ∧ _))
theorem fits16 (x : Int) : F61_d 600 (x, 16) = some (decide (Fit16 x)) := by
  have e1 : i64 (16 - 1) = 15 := by kernel_rfl
  have e2 : shL .i64 (-1) 15 = -32768 := by kernel_rfl
  have e3 : shL .i64 1 15 = 32768 := by kernel_rfl
  have e4 : i64 (32768 - 1) = 32767 := by kernel_rfl
  have c : ¬ ((15 : Int) < 0) := by omega
  simp only [F61_d, FSpec.d, F61_s, in_yes (x := 16) (lo := 1) (hi := 56) (by omega), e1, e2, e3, e4, c, if_false, in_any]
  rfl
theorem wrap16 {x : Int} (h : Fit16 x) : F38_d 600 (x, 16) = some (x % 65536, 0) := by
  have e1 : i64 (shL .i64 1 16 - 1) = 2 ^ 16 - 1 := by kernel_rfl
  have c : ¬ ((16 : Int) < 0) := by omega
  simp only [F38_d, FSpec.d, F38_s, fits16, decide_eq_true h, Bool.not_true, c, if_false, e1, bAnd_ok (w := 16) (by omega)]
  rfl
def sgn16 (v : Int) : Int := if v < 32768 then v else v - 65536
theorem sgn16_mod {x : Int} (h : Fit16 x) : sgn16 (x % 65536) = x := by
  unfold sgn16; unfold Fit16 at h
  split <;> omega
theorem sgn16_fit {v : Int} (h : 0 ≤ v ∧ v < 65536) : Fit16 (sgn16 v) := by
  unfold sgn16 Fit16
  split <;> omega
theorem sign16 {v : Int} (h : 0 ≤ v ∧ v < 65536) : F69_d 600 (v, 16) = some (sgn16 v, 0) := by
  have e0 : i64 (shL .i64 1 16 - 1) = 65535 := by kernel_rfl
  have e1 : i64 (16 - 1) = 15 := by kernel_rfl
  have e2 : shL .i64 1 16 = 65536 := by kernel_rfl
  have e3 : shR .i64 v 15 = v / 32768 := shR_ok (by omega)
  have c : ¬ ((16 : Int) < 0) := by omega
  have c2 : ¬ ((15 : Int) < 0) := by omega
  have i1 : F40_d 600 (16, 1, 56) = some true := in_yes (by omega)
  have i2 : F40_d 600 (v, 0, 65535) = some true := in_yes (by omega)
  simp only [F69_d, FSpec.d, F69_s, i1, Bool.not_true, c, if_false, e0, i2, e1, c2, e3]
  by_cases hv : v < 32768
  · have b : (v / 32768 == 1) = false := by rw [beq_eq_false_iff_ne]; omega
    have s : sgn16 v = v := if_pos hv
    simp only [b, s]
  · have b : (v / 32768 == 1) = true := by rw [beq_iff_eq]; omega
    have s : sgn16 v = v - 65536 := if_neg hv
    have e4 : i64 (v - 65536) = v - 65536 := i64_id (by omega)
    simp only [b, s, e2, e4]

/-! 32 bits. -/
def Fit32 (x : Int) : Prop := -2147483648 ≤ x ∧ x ≤ 2147483647
instance (x : Int) : Decidable (Fit32 x) := inferInstanceAs (Decidable (_ ∧ _))
theorem fits32 (x : Int) : F61_d 600 (x, 32) = some (decide (Fit32 x)) := by
  have e1 : i64 (32 - 1) = 31 := by kernel_rfl
  have e2 : shL .i64 (-1) 31 = -2147483648 := by kernel_rfl
  have e3 : shL .i64 1 31 = 2147483648 := by kernel_rfl
  have e4 : i64 (2147483648 - 1) = 2147483647 := by kernel_rfl
  have c : ¬ ((31 : Int) < 0) := by omega
  simp only [F61_d, FSpec.d, F61_s, in_yes (x := 32) (lo := 1) (hi := 56) (by omega), e1, e2, e3, e4, c, if_false, in_any]
  rfl
theorem wrap32 {x : Int} (h : Fit32 x) : F38_d 600 (x, 32) = some (x % 4294967296, 0) := by
  have e1 : i64 (shL .i64 1 32 - 1) = 2 ^ 32 - 1 := by kernel_rfl
  have c : ¬ ((32 : Int) < 0) := by omega
  simp only [F38_d, FSpec.d, F38_s, fits32, decide_eq_true h, Bool.not_true, c, if_false, e1, bAnd_ok (w := 32) (by omega)]
  rfl
def sgn32 (v : Int) : Int := if v < 2147483648 then v else v - 4294967296
theorem sgn32_mod {x : Int} (h : Fit32 x) : sgn32 (x % 4294967296) = x := by
  unfold sgn32; unfold Fit32 at h
  split <;> omega
theorem sgn32_fit {v : Int} (h : 0 ≤ v ∧ v < 4294967296) : Fit32 (sgn32 v) := by
  unfold sgn32 Fit32
  split <;> omega
theorem sign32 {v : Int} (h : 0 ≤ v ∧ v < 4294967296) : F69_d 600 (v, 32) = some (sgn32 v, 0) := by
  have e0 : i64 (shL .i64 1 32 - 1) = 4294967295 := by kernel_rfl
  have e1 : i64 (32 - 1) = 31 := by kernel_rfl
  have e2 : shL .i64 1 32 = 4294967296 := by kernel_rfl
  have e3 : shR .i64 v 31 = v / 2147483648 := shR_ok (by omega)
  have c : ¬ ((32 : Int) < 0) := by omega
  have c2 : ¬ ((31 : Int) < 0) := by omega
  have i1 : F40_d 600 (32, 1, 56) = some true := in_yes (by omega)
  have i2 : F40_d 600 (v, 0, 4294967295) = some true := in_yes (by omega)
  simp only [F69_d, FSpec.d, F69_s, i1, Bool.not_true, c, if_false, e0, i2, e1, c2, e3]
  by_cases hv : v < 2147483648
  · have b : (v / 2147483648 == 1) = false := by rw [beq_eq_false_iff_ne]; omega
    have s : sgn32 v = v := if_pos hv
    simp only [b, s]
  · have b : (v / 2147483648 == 1) = true := by rw [beq_iff_eq]; omega
    have s : sgn32 v = v - 4294967296 := if_neg hv
    have e4 : i64 (v - 4294967296) = v - 4294967296 := i64_id (by omega)
    simp only [b, s, e2, e4]

/-! Four bytes. -/
def be4 (n : Int) : List Int := [n / 16777216 % 256, n / 65536 % 256, n / 256 % 256, n % 256]
theorem be4_rng (n : Int) : ∀ x ∈ be4 n, 0 ≤ x ∧ x ≤ 255 := by
  intro x hx
  simp only [be4, List.mem_cons, List.not_mem_nil, or_false] at hx
  omega
theorem u8_wrap (x : Int) : IntKind.u8.wrap x = x % 256 := by
  rfl
theorem rows8_len (l : List Int) : (rows8 l).length = l.length := by simp [rows8]
theorem rows8_snoc (l : List Int) (x : Int) : rows8 l ++ [[AV.v (.int .u8 x)]] = rows8 (l ++ [x]) := by simp [rows8]
theorem put_step (l : List Int) (hl : l.length ≤ 1000000) (n : Int) (i f : Nat) (hi : i ≤ 7) : (F24_l9 600).L (f + 1) (rows8 l, n, (i : Int)) = (F24_l9 600).L f (rows8 (l ++ [n / 2 ^ (8 * i) % 256]), n, (i : Int) - 1) := by
  show (F24_l9 600).b _ _ ((F24_l9 600).L f) some = _
  obtain ⟨Lf, hL⟩ : ∃ Lf, Lf = (F24_l9 600).L f := ⟨_, rfl⟩
  rw [← hL]
  have c1 : decide ((i : Int) ≥ 0) = true := by rw [decide_eq_true_iff]; omega
  have e1 : i64 (8 * (i : Int)) = 8 * (i : Int) := i64_id (by omega)
  have c2 : ¬ (8 * (i : Int) < 0) := by omega
  have e2 : shR .i64 n (8 * (i : Int)) = n / 2 ^ (8 * i) := by
    rw [shR_ok (by omega)]
    have : (8 * (i : Int)).toNat = 8 * i := by omega
    rw [this]
  have e3 : i64 ((i : Int) - 1) = (i : Int) - 1 := i64_id (by omega)
  have b : ((rows8 l).length + 1) * 1 ≤ maxBytes := by rw [rows8_len]; unfold maxBytes; omega
  simp only [F24_l9, c1, e1, c2, if_false, e2, e3, u8_wrap, List.length_cons, List.length_nil, Nat.zero_add, b, if_true, rows8_snoc]
  exact if_pos trivial
theorem put4 (s : ByteArray) (hs : s.size ≤ 900000) {n : Int} (hn : 0 ≤ n ∧ n ≤ 4294967295) : F24_d 600 (s, n, 4) = some (s ++ strOfNums (be4 n), 0) := by
  have e1 : i64 (8 * 4) = 32 := by kernel_rfl
  have e2 : i64 (shL .i64 1 32 - 1) = 4294967295 := by kernel_rfl
  have e3 : i64 (4 - 1) = 3 := by kernel_rfl
  have c : ¬ ((32 : Int) < 0) := by omega
  have i1 : F40_d 600 (4, 1, 7) = some true := in_yes (by omega)
  have i2 : F40_d 600 (n, 0, 4294967295) = some true := in_yes hn
  have hl := nums_len s
  have r : (F24_l9 600).L 600 (rows8 (nums s), n, 3) = some (rows8 (nums s ++ be4 n)) := by
    have s1 := put_step (nums s) (by omega) n 3 599 (by omega)
    have s2 := put_step (nums s ++ [n / 2 ^ (8 * 3) % 256]) (by simp; omega) n 2 598 (by omega)
    have s3 := put_step (nums s ++ [n / 2 ^ (8 * 3) % 256] ++ [n / 2 ^ (8 * 2) % 256]) (by simp; omega) n 1 597 (by omega)
    have s4 := put_step (nums s ++ [n / 2 ^ (8 * 3) % 256] ++ [n / 2 ^ (8 * 2) % 256] ++ [n / 2 ^ (8 * 1) % 256]) (by simp; omega) n 0 596 (by omega)
    have s5 : ∀ l : List Int, (F24_l9 600).L 596 (rows8 l, n, ((0 : Nat) : Int) - 1) = some (rows8 l) := fun l => by
      show (F24_l9 600).b _ _ ((F24_l9 600).L 595) some = _
      have c0 : decide ((((0 : Nat) : Int) - 1) ≥ 0) = false := by rw [decide_eq_false_iff_not]; omega
      simp only [F24_l9, c0]
    have t1 : (((3 : Nat) : Int) - 1) = ((2 : Nat) : Int) := by omega
    have t2 : (((2 : Nat) : Int) - 1) = ((1 : Nat) : Int) := by omega
    have t3 : (((1 : Nat) : Int) - 1) = ((0 : Nat) : Int) := by omega
    rw [t1] at s1
    rw [t2] at s2
    rw [t3] at s3
    refine s1.trans (s2.trans (s3.trans (s4.trans ((s5 _).trans ?_))))
    congr 2
    simp only [be4, List.append_assoc, List.cons_append, List.nil_append]
    simp
  simp only [F24_d, FSpec.d, F24_s, i1, Bool.not_true, e1, c, if_false, e2, i2, e3, bytesL_eq, F24_d9, r, numsOf_rows8, strOf_app, strOf_nums]
/-- The four bytes at a place. -/
def get4 (s : ByteArray) (m : Nat) : Int := (((nums s).getD m 0 * 256 + (nums s).getD (m + 1) 0) * 256 + (nums s).getD (m + 2) 0) * 256 + (nums s).getD (m + 3) 0
theorem num_rng (s : ByteArray) (m : Nat) : 0 ≤ (nums s).getD m 0 ∧ (nums s).getD m 0 ≤ 255 := by
  by_cases h : m < (nums s).length
  · rw [List.getD_eq_getElem?_getD, List.getElem?_eq_getElem h]
    exact nums_rng s _ (List.getElem_mem h)
  · rw [List.getD_eq_getElem?_getD, List.getElem?_eq_none (by omega)]
    simp
theorem get4_rng (s : ByteArray) (m : Nat) : 0 ≤ get4 s m ∧ get4 s m ≤ 4294967295 := by
  unfold get4
  have h1 := num_rng s m
  have h2 := num_rng s (m + 1)
  have h3 := num_rng s (m + 2)
  have h4 := num_rng s (m + 3)
  omega
theorem get_step (s : ByteArray) (m i f : Nat) (acc : Int) (hm : m ≤ 1000000) (hi : i < 4) (hs : m + i < s.size) (ha : 0 ≤ acc ∧ acc < 16777216) : (F64_l13 600).L (f + 1) (s, (m : Int), acc, 4, (i : Int)) = (F64_l13 600).L f (s, (m : Int), acc * 256 + (nums s).getD (m + i) 0, 4, ((i + 1 : Nat) : Int)) := by
  show (F64_l13 600).b _ _ ((F64_l13 600).L f) some = _
  obtain ⟨Lf, hL⟩ : ∃ Lf, Lf = (F64_l13 600).L f := ⟨_, rfl⟩
  rw [← hL]
  have c1 : decide ((i : Int) < 4) = true := by rw [decide_eq_true_iff]; omega
  have e1 : i64 ((m : Int) + (i : Int)) = ((m + i : Nat) : Int) := by rw [i64_id (by omega)]; omega
  have c2 : (0 : Int) ≤ ((m + i : Nat) : Int) := by omega
  have e3 : i64 ((i : Int) + 1) = ((i + 1 : Nat) : Int) := by rw [i64_id (by omega)]; omega
  obtain ⟨u, hu, hv⟩ := byte_get s (m + i) hs
  have hr := num_rng s (m + i)
  have e4 : shL .i64 acc 8 = acc * 2 ^ 8 := shL_ok (by omega) (by
    have : ((8 : Int)).toNat = 8 := rfl
    rw [this]
    omega)
  have e5 : IntKind.i64.wrap ((nums s).getD (m + i) 0) = (nums s).getD (m + i) 0 := i64_id (by omega)
  have e6 : bOr .i64 (acc * 2 ^ 8) ((nums s).getD (m + i) 0) = acc * 2 ^ 8 + (nums s).getD (m + i) 0 := bOr_ok (by omega) ha.1 (by omega) (by omega)
  simp only [F64_l13, c1, e1, c2, if_true, Int.toNat_natCast, hu, hv, e4, e5, e6, e3]
  exact if_pos trivial
theorem get4_ok (s : ByteArray) (m : Nat) (hm : m ≤ 1000000) (h : m + 4 ≤ s.size) (hs : s.size ≤ 1000000) : F64_d 600 (s, (m : Int), 4) = some (get4 s m, 0) := by
  have i1 : F40_d 600 (4, 1, 7) = some true := in_yes (by omega)
  have c1 : decide ((m : Int) < 0) = false := by rw [decide_eq_false_iff_not]; omega
  have e1 : i64 ((s.size : Int) - 4) = (s.size : Int) - 4 := i64_id (by omega)
  have c2 : decide ((m : Int) > (s.size : Int) - 4) = false := by rw [decide_eq_false_iff_not]; omega
  have h1 := num_rng s m
  have h2 := num_rng s (m + 1)
  have h3 := num_rng s (m + 2)
  have h4 := num_rng s (m + 3)
  have r : (F64_l13 600).L 600 (s, (m : Int), 0, 4, 0) = some (get4 s m) := by
    have s1 := get_step s m 0 599 0 hm (by omega) (by omega) (by omega)
    have s2 := get_step s m 1 598 (0 * 256 + (nums s).getD (m + 0) 0) hm (by omega) (by omega) (by simp only [Nat.add_zero]; omega)
    have s3 := get_step s m 2 597 ((0 * 256 + (nums s).getD (m + 0) 0) * 256 + (nums s).getD (m + 1) 0) hm (by omega) (by omega) (by simp only [Nat.add_zero]; omega)
    have s4 := get_step s m 3 596 (((0 * 256 + (nums s).getD (m + 0) 0) * 256 + (nums s).getD (m + 1) 0) * 256 + (nums s).getD (m + 2) 0) hm (by omega) (by omega) (by simp only [Nat.add_zero]; omega)
    have s5 : ∀ x : Int, (F64_l13 600).L 596 (s, (m : Int), x, 4, ((3 + 1 : Nat) : Int)) = some x := fun x => by
      show (F64_l13 600).b _ _ ((F64_l13 600).L 595) some = _
      have c0 : decide (((3 + 1 : Nat) : Int) < 4) = false := by rw [decide_eq_false_iff_not]; omega
      simp only [F64_l13, c0]
    refine s1.trans (s2.trans (s3.trans (s4.trans ((s5 _).trans ?_))))
    congr 1
    unfold get4
    simp only [Nat.add_zero]
    omega
  simp only [F64_d, FSpec.d, F64_s, i1, Bool.not_true, c1, e1, c2, F64_d13, r]
/-! Pairs. -/
theorem shift_ok {x i : Int} (hx : 0 ≤ x ∧ x ≤ 4294967295) (hi : 0 ≤ i ∧ i ≤ 15) : F62_d 600 (x, i) = some (30 - 2 * i, true) := by
  have e1 : i64 (2 * i) = 2 * i := i64_id (by omega)
  have e2 : i64 (30 - 2 * i) = 30 - 2 * i := i64_id (by omega)
  simp only [F62_d, FSpec.d, F62_s, in_yes hx, in_yes hi, e1, e2]
theorem pair_ok {x : Int} {i : Nat} (hx : 0 ≤ x ∧ x ≤ 4294967295) (hi : i ≤ 15) : F85_d 600 (x, (i : Int)) = some (x / 2 ^ (30 - 2 * i) % 4, 0) := by
  have c : ¬ (30 - 2 * (i : Int) < 0) := by omega
  have e1 : shR .i64 x (30 - 2 * (i : Int)) = x / 2 ^ (30 - 2 * i) := by
    rw [shR_ok (by omega)]
    have : (30 - 2 * (i : Int)).toNat = 30 - 2 * i := by omega
    rw [this]
  have e2 : bAnd .i64 (x / 2 ^ (30 - 2 * i)) 3 = x / 2 ^ (30 - 2 * i) % 4 := bAnd_ok (w := 2) (by omega)
  simp only [F85_d, FSpec.d, F85_s, shift_ok hx (show 0 ≤ (i : Int) ∧ (i : Int) ≤ 15 by omega), Bool.not_true, c, if_false, e1, e2]
/-- A pair is set where none was. -/
theorem setp_ok {a v : Int} {i : Nat} (hi : i ≤ 15) (ha : 0 ≤ a) (hx : a * 2 ^ (32 - 2 * i) ≤ 4294967295) (hv : 0 ≤ v ∧ v ≤ 3) (hb : (4 * a + v) * 2 ^ (30 - 2 * i) ≤ 4294967295) : F39_d 600 (a * 2 ^ (32 - 2 * i), (i : Int), v) = some ((4 * a + v) * 2 ^ (30 - 2 * i), 0) := by
  have hp : (1 : Int) ≤ 2 ^ (30 - 2 * i) := Int.pow_pos (by omega)
  have hpw : (2 : Int) ^ (32 - 2 * i) = 4 * 2 ^ (30 - 2 * i) := by
    rw [show 32 - 2 * i = (30 - 2 * i) + 2 by omega, Int.pow_add]
    omega
  have h0 : 0 ≤ a * 2 ^ (32 - 2 * i) := Int.mul_nonneg ha (by omega)
  have hpl : (2 : Int) ^ (30 - 2 * i) ≤ 2 ^ 30 := two_le (by omega)
  have c : ¬ (30 - 2 * (i : Int) < 0) := by omega
  have tn : (30 - 2 * (i : Int)).toNat = 30 - 2 * i := by omega
  have e1 : shL .i64 3 (30 - 2 * (i : Int)) = 3 * 2 ^ (30 - 2 * i) := by
    rw [shL_ok (by omega) (by rw [tn]; omega), tn]
  have hvp : 0 ≤ v * 2 ^ (30 - 2 * i) ∧ v * 2 ^ (30 - 2 * i) ≤ 3 * 2 ^ (30 - 2 * i) := ⟨Int.mul_nonneg hv.1 (by omega), Int.mul_le_mul_of_nonneg_right hv.2 (by omega)⟩
  have e2 : shL .i64 v (30 - 2 * (i : Int)) = v * 2 ^ (30 - 2 * i) := by
    rw [shL_ok (by omega) (by rw [tn]; omega), tn]
  have e3 : bNot .i64 (a * 2 ^ (32 - 2 * i)) (3 * 2 ^ (30 - 2 * i)) = a * 2 ^ (32 - 2 * i) := bNot_ok (by omega) ⟨h0, hx⟩ (by
    rw [hpw, ← Int.mul_assoc, Int.mul_ediv_cancel _ (by omega)]
    omega)
  have e4 : bOr .i64 (a * 2 ^ (32 - 2 * i)) (v * 2 ^ (30 - 2 * i)) = (4 * a + v) * 2 ^ (30 - 2 * i) := by
    have e5 : (4 * a + v) * 2 ^ (30 - 2 * i) = a * 2 ^ (32 - 2 * i) + v * 2 ^ (30 - 2 * i) := by
      rw [hpw, Int.add_mul, ← Int.mul_assoc, Int.mul_comm 4 a]
    rw [e5]
    have hw : (2 : Int) ^ (32 - 2 * i) = 2 ^ (32 - 2 * i) := rfl
    exact bOr_ok (w := 32 - 2 * i) (by omega) ha ⟨hvp.1, by rw [hpw]; omega⟩ (by rw [← e5]; omega)
  have i1 : F40_d 600 (v, 0, 3) = some true := in_yes hv
  simp only [F39_d, FSpec.d, F39_s, shift_ok ⟨h0, hx⟩ (show 0 ≤ (i : Int) ∧ (i : Int) ≤ 15 by omega), Bool.not_true, i1, c, if_false, e1, e2, e3, e4]
end Go.Proofs.YtdmedeaknnldcaaDoor
