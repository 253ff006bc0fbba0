/- Several texts as one (written by merge.py): StA StB StC StD StE StF StG StH PkA. -/
import Derived.Test.YtdmedeaknnldcaaGreatDoorPkT
/- Steim, the plain law: numbers in bits and bytes; the functions of bits without memory. -/
namespace Go.Proofs.YtdmedeaknnldcaaGreatDoor
open Go.RowKit
set_option linter.unusedVariables false
set_option linter.unusedSimpArgs false
set_option linter.unnecessarySimpa false
def rowsI (xs : List Int) : List (List AV) := xs.map fun x => [I x]
theorem i64_id {x : Int} (h : -9223372036854775808 ≤ x ∧ x ≤ 9223372036854775807) : i64 x = x := IntWalk.i64_in _ (by omega)
theorem rowsI_len (xs : List Int) : (rowsI xs).length = xs.length := by simp [rowsI]
theorem rowsI_get (xs : List Int) (k : Nat) (h : k < xs.length) : (rowsI xs)[k]? = some [I xs[k]] := by simp [rowsI, h]
theorem rowsI_app (xs ys : List Int) : rowsI xs ++ rowsI ys = rowsI (xs ++ ys) := by simp [rowsI]
theorem rowsI_snoc (xs : List Int) (y : Int) : rowsI xs ++ [[AV.v (.int .i64 y)]] = rowsI (xs ++ [y]) := by simp [rowsI]
theorem LSpec.one (l : LSpec) (x : l.X) : l.L 600 x = l.b x l.Y (l.L 599) some := rfl
/-! Shifts and masks. -/
theorem two_le {a b : Nat} (h : a ≤ b) : (2 : Int) ^ a ≤ 2 ^ b := by
  have := Nat.pow_le_pow_right (n := 2) (by omega) h
  exact_mod_cast this
theorem shL_ok {x y : Int} (hy : 0 ≤ y ∧ y ≤ 63) (h : -9223372036854775808 ≤ x * 2 ^ y.toNat ∧ x * 2 ^ y.toNat ≤ 9223372036854775807) : shL .i64 x y = x * 2 ^ y.toNat := by
  unfold shL
  have : min y.toNat (IntKind.bits .i64) = y.toNat := Nat.min_eq_left (by show y.toNat ≤ 64; omega)
  rw [this]
  exact i64_id h
theorem shR_ok {x y : Int} (hy : 0 ≤ y ∧ y ≤ 63) : shR .i64 x y = x / 2 ^ y.toNat := by
  unfold shR
  have : min y.toNat (IntKind.bits .i64) = y.toNat := Nat.min_eq_left (by show y.toNat ≤ 64; omega)
  rw [this]
  exact Int.fdiv_eq_ediv_of_nonneg _ (Int.le_of_lt (Int.pow_pos (by omega)))
theorem ofInt_nat (x : Int) : ((BitVec.ofInt 64 x).toNat : Int) = x % 18446744073709551616 := by
  rw [BitVec.toNat_ofInt]
  have : (0 : Int) ≤ x % ((2 ^ 64 : Nat) : Int) := Int.emod_nonneg _ (by decide)
  rw [Int.toNat_of_nonneg this]
  rfl
theorem bAnd_ok {x : Int} {w : Nat} (hw : w ≤ 62) : bAnd .i64 x (2 ^ w - 1) = x % 2 ^ w := by
  unfold bAnd
  show IntKind.i64.wrap (((BitVec.ofInt 64 x &&& BitVec.ofInt 64 (2 ^ w - 1)).toNat : Nat) : Int) = _
  have hp : (1 : Int) ≤ 2 ^ w := Int.pow_pos (by omega)
  have hp2 : ((2 : Int) ^ w) ≤ 2 ^ 62 := two_le hw
  have h2 : (BitVec.ofInt 64 ((2 : Int) ^ w - 1)).toNat = 2 ^ w - 1 := by
    have e := ofInt_nat ((2 : Int) ^ w - 1)
    rw [Int.emod_eq_of_lt (by omega) (by omega)] at e
    have : (((2 ^ w - 1 : Nat)) : Int) = 2 ^ w - 1 := by
      rw [Int.ofNat_sub (Nat.pos_of_ne_zero (by simp))]; simp
    omega
  rw [BitVec.toNat_and, h2, Nat.and_two_pow_sub_one_eq_mod]
  have e1 : (((BitVec.ofInt 64 x).toNat % 2 ^ w : Nat) : Int) = x % 2 ^ w := by
    rw [Int.natCast_emod, ofInt_nat]
    have hd : ((2 ^ w : Nat) : Int) ∣ 18446744073709551616 := by
      refine ⟨((2 ^ (64 - w) : Nat) : Int), ?_⟩
      rw [← Int.natCast_mul, ← Nat.pow_add, show w + (64 - w) = 64 by omega]
      rfl
    rw [Int.emod_emod_of_dvd _ hd]
    simp
  rw [e1]
  have q1 : 0 ≤ x % 2 ^ w := Int.emod_nonneg _ (by omega)
  have q2 : x % 2 ^ w < 2 ^ w := Int.emod_lt_of_pos _ (by omega)
  exact i64_id (by omega)
theorem bOr_ok {a b : Int} {w : Nat} (hw : w ≤ 62) (ha : 0 ≤ a) (hb : 0 ≤ b ∧ b < 2 ^ w) (hs : a * 2 ^ w + b ≤ 9223372036854775807) : bOr .i64 (a * 2 ^ w) b = a * 2 ^ w + b := by
  unfold bOr
  show IntKind.i64.wrap (((BitVec.ofInt 64 (a * 2 ^ w) ||| BitVec.ofInt 64 b).toNat : Nat) : Int) = _
  have hp : (1 : Int) ≤ 2 ^ w := Int.pow_pos (by omega)
  have h0 : 0 ≤ a * 2 ^ w := Int.mul_nonneg ha (by omega)
  obtain ⟨A, rfl⟩ : ∃ A : Nat, a = (A : Int) := ⟨a.toNat, by omega⟩
  obtain ⟨B, rfl⟩ : ∃ B : Nat, b = (B : Int) := ⟨b.toNat, by omega⟩
  have eB : B < 2 ^ w := by
    have := hb.2
    have e : ((2 ^ w : Nat) : Int) = 2 ^ w := by simp
    omega
  have e1 : (BitVec.ofInt 64 ((A : Int) * 2 ^ w)).toNat = A * 2 ^ w := by
    have e := ofInt_nat ((A : Int) * 2 ^ w)
    rw [Int.emod_eq_of_lt (by omega) (by omega)] at e
    have : ((A * 2 ^ w : Nat) : Int) = (A : Int) * 2 ^ w := by simp
    omega
  have e2 : (BitVec.ofInt 64 (B : Int)).toNat = B := by
    have e := ofInt_nat (B : Int)
    rw [Int.emod_eq_of_lt (by omega) (by omega)] at e
    omega
  rw [BitVec.toNat_or, e1, e2, Nat.mul_comm A, ← Nat.two_pow_add_eq_or_of_lt eB]
  have e3 : ((2 ^ w * A + B : Nat) : Int) = (A : Int) * 2 ^ w + B := by simp [Int.mul_comm]
  rw [e3]
  exact i64_id (by omega)
/-- A pair that is empty is not cleared. -/
theorem bNot_ok {x : Int} {n : Nat} (hn : n ≤ 30) (hx : 0 ≤ x ∧ x ≤ 4294967295) (h0 : x / 2 ^ n % 4 = 0) : bNot .i64 x (3 * 2 ^ n) = x := by
  unfold bNot
  show IntKind.i64.wrap (((BitVec.ofInt 64 x &&& ~~~BitVec.ofInt 64 (3 * 2 ^ n)).toNat : Nat) : Int) = _
  obtain ⟨X, rfl⟩ : ∃ X : Nat, x = (X : Int) := ⟨x.toNat, by omega⟩
  have hp2 : ((2 : Int) ^ n) ≤ 2 ^ 30 := two_le hn
  have hp : (1 : Int) ≤ 2 ^ n := Int.pow_pos (by omega)
  have e1 : (BitVec.ofInt 64 (X : Int)).toNat = X := by
    have e := ofInt_nat (X : Int)
    rw [Int.emod_eq_of_lt (by omega) (by omega)] at e
    omega
  have e2 : (BitVec.ofInt 64 ((3 : Int) * 2 ^ n)).toNat = 3 * 2 ^ n := by
    have e := ofInt_nat ((3 : Int) * 2 ^ n)
    rw [Int.emod_eq_of_lt (by omega) (by omega)] at e
    have : ((3 * 2 ^ n : Nat) : Int) = (3 : Int) * 2 ^ n := by simp
    omega
  have hq : X / 2 ^ n % 4 = 0 := by
    have : ((X / 2 ^ n % 4 : Nat) : Int) = 0 := by simpa using h0
    omega
  have hz : (BitVec.ofInt 64 (X : Int) &&& ~~~BitVec.ofInt 64 ((3 : Int) * 2 ^ n)) = BitVec.ofInt 64 (X : Int) := by
    apply BitVec.eq_of_getLsbD_eq
    intro j hj
    rw [BitVec.getLsbD_and, BitVec.getLsbD_not, ← BitVec.testBit_toNat, ← BitVec.testBit_toNat, e1, e2, Nat.testBit_mul_two_pow]
    by_cases hjn : n ≤ j
    · obtain ⟨i, rfl⟩ : ∃ i, j = n + i := ⟨j - n, by omega⟩
      rw [Nat.add_sub_cancel_left]
      have et : X.testBit (n + i) = (X / 2 ^ n).testBit i := by rw [Nat.testBit_div_two_pow, Nat.add_comm]
      rw [et]
      have h4 : ∀ k < 2, (X / 2 ^ n).testBit k = false := fun k hk => by
        have : ((X / 2 ^ n) % 2 ^ 2).testBit k = false := by
          show ((X / 2 ^ n) % 4).testBit k = false
          rw [hq]; simp
        rw [Nat.testBit_mod_two_pow] at this
        simpa [hk] using this
      by_cases hi : i < 2
      · rw [h4 i hi]; simp
      · have h3 : (3 : Nat).testBit i = false := Nat.testBit_lt_two_pow (by
          have : 2 ^ 2 ≤ 2 ^ i := Nat.pow_le_pow_right (by omega) (by omega)
          omega)
        simp [h3, hj]
    · simp [hjn, hj]
  rw [hz, e1]
  exact i64_id (by omega)
/-! Bytes. -/
def rows8 (l : List Int) : List (List AV) := l.map fun n => [AV.v (.int .u8 n)]
def nums (b : ByteArray) : List Int := b.data.toList.map fun x => (x.toNat : Int)
theorem bytesL_eq (b : ByteArray) : bytesL b = rows8 (nums b) := by simp [bytesL, rows8, nums]
theorem numsOf_rows8 : ∀ l : List Int, numsOf (rows8 l) = some l
  | [] => rfl
  | x :: r => by
    have := numsOf_rows8 r
    simp only [rows8, List.map_cons, numsOf] at this ⊢
    rw [this]
theorem nums_len (b : ByteArray) : (nums b).length = b.size := by simp [nums]
theorem strOf_nums (b : ByteArray) : strOfNums (nums b) = b := by
  have h : (nums b).map (fun n => UInt8.ofNat n.toNat) = b.data.toList := by
    simp only [nums, List.map_map]
    conv => rhs; rw [← List.map_id b.data.toList]
    apply List.map_congr_left
    intro x _
    simp
  unfold strOfNums
  rw [h]
theorem strOf_app (l m : List Int) : strOfNums (l ++ m) = strOfNums l ++ strOfNums m := by
  apply ByteArray.ext
  simp [strOfNums]
theorem nums_strOf {l : List Int} (h : ∀ x ∈ l, 0 ≤ x ∧ x ≤ 255) : nums (strOfNums l) = l := by
  unfold nums strOfNums
  simp only [List.map_map]
  conv => rhs; rw [← List.map_id l]
  apply List.map_congr_left
  intro x hx
  have := h x hx
  simp
  omega
theorem nums_rng (b : ByteArray) : ∀ x ∈ nums b, 0 ≤ x ∧ x ≤ 255 := by
  intro x hx
  simp only [nums, List.mem_map] at hx
  obtain ⟨u, -, rfl⟩ := hx
  have := u.toNat_lt
  omega
theorem byte_get (b : ByteArray) (i : Nat) (h : i < b.size) : ∃ u : UInt8, b[i]? = some u ∧ (u.toNat : Int) = (nums b).getD i 0 := by
  refine ⟨b[i], by simp [h], ?_⟩
  have : i < (nums b).length := by rw [nums_len]; exact h
  simp [List.getD, nums, h]
  rfl
end Go.Proofs.YtdmedeaknnldcaaGreatDoor
/- Steim, the plain law: the functions of package bits, without memory. -/
namespace Go.Proofs.YtdmedeaknnldcaaGreatDoor
open Go.RowKit
set_option linter.unusedVariables false
set_option linter.unusedSimpArgs false
set_option linter.unnecessarySimpa false
theorem in_any (N : Nat) (x lo hi : Int) : F64_d N (x, lo, hi) = some (decide (lo ≤ x ∧ x ≤ hi)) := by
  simp only [F64_d, FSpec.d, F64_s]
  by_cases h1 : x ≥ lo
  · have h2 : lo ≤ x := h1
    simp only [h1, h2, decide_true, true_and]
  · have h2 : ¬ lo ≤ x := h1
    simp only [h1, h2, decide_false, false_and]
theorem sin_any (N : Nat) (x lo hi : Int) : F102_d N (x, lo, hi) = some (decide (lo ≤ x ∧ x ≤ hi)) := in_any N x lo hi
theorem in_yes {x lo hi : Int} (h : lo ≤ x ∧ x ≤ hi) : F64_d 600 (x, lo, hi) = some true := by rw [in_any, decide_eq_true h]
theorem sin_yes {x lo hi : Int} (h : lo ≤ x ∧ x ≤ hi) : F102_d 600 (x, lo, hi) = some true := by rw [sin_any, decide_eq_true h]
theorem sin_no {x lo hi : Int} (h : ¬ (lo ≤ x ∧ x ≤ hi)) : F102_d 600 (x, lo, hi) = some false := by rw [sin_any, decide_eq_false h]
/-! 8 bits. -/
def Fit8 (x : Int) : Prop := -128 ≤ x ∧ x ≤ 127
instance (x : Int) : Decidable (Fit8 x) := inferInstanceAs (Decidable (_ ∧ _))
theorem fits8 (x : Int) : F96_d 600 (x, 8) = some (decide (Fit8 x)) := by
  have e1 : i64 (8 - 1) = 7 := by kernel_rfl
  have e2 : shL .i64 (-1) 7 = -128 := by kernel_rfl
  have e3 : shL .i64 1 7 = 128 := by kernel_rfl
  have e4 : i64 (128 - 1) = 127 := by kernel_rfl
  have c : ¬ ((7 : Int) < 0) := by omega
  simp only [F96_d, FSpec.d, F96_s, in_yes (x := 8) (lo := 1) (hi := 56) (by omega), e1, e2, e3, e4, c, if_false, in_any]
  rfl
theorem wrap8 {x : Int} (h : Fit8 x) : F62_d 600 (x, 8) = some (x % 256, 0) := by
  have e1 : i64 (shL .i64 1 8 - 1) = 2 ^ 8 - 1 := by kernel_rfl
  have c : ¬ ((8 : Int) < 0) := by omega
  simp only [F62_d, FSpec.d, F62_s, fits8, decide_eq_true h, Bool.not_true, c, if_false, e1, bAnd_ok (w := 8) (by omega)]
  rfl
def sgn8 (v : Int) : Int := if v < 128 then v else v - 256
theorem sgn8_mod {x : Int} (h : Fit8 x) : sgn8 (x % 256) = x := by
  unfold sgn8; unfold Fit8 at h
  split <;> omega
theorem sgn8_fit {v : Int} (h : 0 ≤ v ∧ v < 256) : Fit8 (sgn8 v) := by
  unfold sgn8 Fit8
  split <;> omega
theorem sign8 {v : Int} (h : 0 ≤ v ∧ v < 256) : F105_d 600 (v, 8) = some (sgn8 v, 0) := by
  have e0 : i64 (shL .i64 1 8 - 1) = 255 := by kernel_rfl
  have e1 : i64 (8 - 1) = 7 := by kernel_rfl
  have e2 : shL .i64 1 8 = 256 := by kernel_rfl
  have e3 : shR .i64 v 7 = v / 128 := shR_ok (by omega)
  have c : ¬ ((8 : Int) < 0) := by omega
  have c2 : ¬ ((7 : Int) < 0) := by omega
  have i1 : F64_d 600 (8, 1, 56) = some true := in_yes (by omega)
  have i2 : F64_d 600 (v, 0, 255) = some true := in_yes (by omega)
  simp only [F105_d, FSpec.d, F105_s, i1, Bool.not_true, c, if_false, e0, i2, e1, c2, e3]
  by_cases hv : v < 128
  · have b : (v / 128 == 1) = false := by rw [beq_eq_false_iff_ne]; omega
    have s : sgn8 v = v := if_pos hv
    simp only [b, s]
  · have b : (v / 128 == 1) = true := by rw [beq_iff_eq]; omega
    have s : sgn8 v = v - 256 := if_neg hv
    have e4 : i64 (v - 256) = v - 256 := i64_id (by omega)
    simp only [b, s, e2, e4]

/-! 16 bits. -/
def Fit16 (x : Int) : Prop := -32768 ≤ x ∧ x ≤ 32767
instance (x : Int) : Decidable (Fit16 x) := inferInstanceAs (Decidable (_ ∧ _))
theorem fits16 (x : Int) : F96_d 600 (x, 16) = some (decide (Fit16 x)) := by
  have e1 : i64 (16 - 1) = 15 := by kernel_rfl
  have e2 : shL .i64 (-1) 15 = -32768 := by kernel_rfl
  have e3 : shL .i64 1 15 = 32768 := by kernel_rfl
  have e4 : i64 (32768 - 1) = 32767 := by kernel_rfl
  have c : ¬ ((15 : Int) < 0) := by omega
  simp only [F96_d, FSpec.d, F96_s, in_yes (x := 16) (lo := 1) (hi := 56) (by omega), e1, e2, e3, e4, c, if_false, in_any]
  rfl
theorem wrap16 {x : Int} (h : Fit16 x) : F62_d 600 (x, 16) = some (x % 65536, 0) := by
  have e1 : i64 (shL .i64 1 16 - 1) = 2 ^ 16 - 1 := by kernel_rfl
  have c : ¬ ((16 : Int) < 0) := by omega
  simp only [F62_d, FSpec.d, F62_s, fits16, decide_eq_true h, Bool.not_true, c, if_false, e1, bAnd_ok (w := 16) (by omega)]
  rfl
def sgn16 (v : Int) : Int := if v < 32768 then v else v - 65536
theorem sgn16_mod {x : Int} (h : Fit16 x) : sgn16 (x % 65536) = x := by
  unfold sgn16; unfold Fit16 at h
  split <;> omega
theorem sgn16_fit {v : Int} (h : 0 ≤ v ∧ v < 65536) : Fit16 (sgn16 v) := by
  unfold sgn16 Fit16
  split <;> omega
theorem sign16 {v : Int} (h : 0 ≤ v ∧ v < 65536) : F105_d 600 (v, 16) = some (sgn16 v, 0) := by
  have e0 : i64 (shL .i64 1 16 - 1) = 65535 := by kernel_rfl
  have e1 : i64 (16 - 1) = 15 := by kernel_rfl
  have e2 : shL .i64 1 16 = 65536 := by kernel_rfl
  have e3 : shR .i64 v 15 = v / 32768 := shR_ok (by omega)
  have c : ¬ ((16 : Int) < 0) := by omega
  have c2 : ¬ ((15 : Int) < 0) := by omega
  have i1 : F64_d 600 (16, 1, 56) = some true := in_yes (by omega)
  have i2 : F64_d 600 (v, 0, 65535) = some true := in_yes (by omega)
  simp only [F105_d, FSpec.d, F105_s, i1, Bool.not_true, c, if_false, e0, i2, e1, c2, e3]
  by_cases hv : v < 32768
  · have b : (v / 32768 == 1) = false := by rw [beq_eq_false_iff_ne]; omega
    have s : sgn16 v = v := if_pos hv
    simp only [b, s]
  · have b : (v / 32768 == 1) = true := by rw [beq_iff_eq]; omega
    have s : sgn16 v = v - 65536 := if_neg hv
    have e4 : i64 (v - 65536) = v - 65536 := i64_id (by omega)
    simp only [b, s, e2, e4]

/-! 32 bits. -/
def Fit32 (x : Int) : Prop := -2147483648 ≤ x ∧ x ≤ 2147483647
instance (x : Int) : Decidable (Fit32 x) := inferInstanceAs (Decidable (_ ∧ _))
theorem fits32 (x : Int) : F96_d 600 (x, 32) = some (decide (Fit32 x)) := by
  have e1 : i64 (32 - 1) = 31 := by kernel_rfl
  have e2 : shL .i64 (-1) 31 = -2147483648 := by kernel_rfl
  have e3 : shL .i64 1 31 = 2147483648 := by kernel_rfl
  have e4 : i64 (2147483648 - 1) = 2147483647 := by kernel_rfl
  have c : ¬ ((31 : Int) < 0) := by omega
  simp only [F96_d, FSpec.d, F96_s, in_yes (x := 32) (lo := 1) (hi := 56) (by omega), e1, e2, e3, e4, c, if_false, in_any]
  rfl
theorem wrap32 {x : Int} (h : Fit32 x) : F62_d 600 (x, 32) = some (x % 4294967296, 0) := by
  have e1 : i64 (shL .i64 1 32 - 1) = 2 ^ 32 - 1 := by kernel_rfl
  have c : ¬ ((32 : Int) < 0) := by omega
  simp only [F62_d, FSpec.d, F62_s, fits32, decide_eq_true h, Bool.not_true, c, if_false, e1, bAnd_ok (w := 32) (by omega)]
  rfl
def sgn32 (v : Int) : Int := if v < 2147483648 then v else v - 4294967296
theorem sgn32_mod {x : Int} (h : Fit32 x) : sgn32 (x % 4294967296) = x := by
  unfold sgn32; unfold Fit32 at h
  split <;> omega
theorem sgn32_fit {v : Int} (h : 0 ≤ v ∧ v < 4294967296) : Fit32 (sgn32 v) := by
  unfold sgn32 Fit32
  split <;> omega
theorem sign32 {v : Int} (h : 0 ≤ v ∧ v < 4294967296) : F105_d 600 (v, 32) = some (sgn32 v, 0) := by
  have e0 : i64 (shL .i64 1 32 - 1) = 4294967295 := by kernel_rfl
  have e1 : i64 (32 - 1) = 31 := by kernel_rfl
  have e2 : shL .i64 1 32 = 4294967296 := by kernel_rfl
  have e3 : shR .i64 v 31 = v / 2147483648 := shR_ok (by omega)
  have c : ¬ ((32 : Int) < 0) := by omega
  have c2 : ¬ ((31 : Int) < 0) := by omega
  have i1 : F64_d 600 (32, 1, 56) = some true := in_yes (by omega)
  have i2 : F64_d 600 (v, 0, 4294967295) = some true := in_yes (by omega)
  simp only [F105_d, FSpec.d, F105_s, i1, Bool.not_true, c, if_false, e0, i2, e1, c2, e3]
  by_cases hv : v < 2147483648
  · have b : (v / 2147483648 == 1) = false := by rw [beq_eq_false_iff_ne]; omega
    have s : sgn32 v = v := if_pos hv
    simp only [b, s]
  · have b : (v / 2147483648 == 1) = true := by rw [beq_iff_eq]; omega
    have s : sgn32 v = v - 4294967296 := if_neg hv
    have e4 : i64 (v - 4294967296) = v - 4294967296 := i64_id (by omega)
    simp only [b, s, e2, e4]

/-! Four bytes. -/
def be4 (n : Int) : List Int := [n / 16777216 % 256, n / 65536 % 256, n / 256 % 256, n % 256]
theorem be4_rng (n : Int) : ∀ x ∈ be4 n, 0 ≤ x ∧ x ≤ 255 := by
  intro x hx
  simp only [be4, List.mem_cons, List.not_mem_nil, or_false] at hx
  omega
theorem u8_wrap (x : Int) : IntKind.u8.wrap x = x % 256 := by
  rfl
theorem rows8_len (l : List Int) : (rows8 l).length = l.length := by simp [rows8]
theorem rows8_snoc (l : List Int) (x : Int) : rows8 l ++ [[AV.v (.int .u8 x)]] = rows8 (l ++ [x]) := by simp [rows8]
theorem put_step (l : List Int) (hl : l.length ≤ 1000000) (n : Int) (i f : Nat) (hi : i ≤ 7) : (F35_l9 600).L (f + 1) (rows8 l, n, (i : Int)) = (F35_l9 600).L f (rows8 (l ++ [n / 2 ^ (8 * i) % 256]), n, (i : Int) - 1) := by
  show (F35_l9 600).b _ _ ((F35_l9 600).L f) some = _
  obtain ⟨Lf, hL⟩ : ∃ Lf, Lf = (F35_l9 600).L f := ⟨_, rfl⟩
  rw [← hL]
  have c1 : decide ((i : Int) ≥ 0) = true := by rw [decide_eq_true_iff]; omega
  have e1 : i64 (8 * (i : Int)) = 8 * (i : Int) := i64_id (by omega)
  have c2 : ¬ (8 * (i : Int) < 0) := by omega
  have e2 : shR .i64 n (8 * (i : Int)) = n / 2 ^ (8 * i) := by
    rw [shR_ok (by omega)]
    have : (8 * (i : Int)).toNat = 8 * i := by omega
    rw [this]
  have e3 : i64 ((i : Int) - 1) = (i : Int) - 1 := i64_id (by omega)
  have b : ((rows8 l).length + 1) * 1 ≤ maxBytes := by rw [rows8_len]; unfold maxBytes; omega
  simp only [F35_l9, c1, e1, c2, if_false, e2, e3, u8_wrap, List.length_cons, List.length_nil, Nat.zero_add, b, if_true, rows8_snoc]
  exact if_pos trivial
theorem put4 (s : ByteArray) (hs : s.size ≤ 900000) {n : Int} (hn : 0 ≤ n ∧ n ≤ 4294967295) : F35_d 600 (s, n, 4) = some (s ++ strOfNums (be4 n), 0) := by
  have e1 : i64 (8 * 4) = 32 := by kernel_rfl
  have e2 : i64 (shL .i64 1 32 - 1) = 4294967295 := by kernel_rfl
  have e3 : i64 (4 - 1) = 3 := by kernel_rfl
  have c : ¬ ((32 : Int) < 0) := by omega
  have i1 : F64_d 600 (4, 1, 7) = some true := in_yes (by omega)
  have i2 : F64_d 600 (n, 0, 4294967295) = some true := in_yes hn
  have hl := nums_len s
  have r : (F35_l9 600).L 600 (rows8 (nums s), n, 3) = some (rows8 (nums s ++ be4 n)) := by
    have s1 := put_step (nums s) (by omega) n 3 599 (by omega)
    have s2 := put_step (nums s ++ [n / 2 ^ (8 * 3) % 256]) (by simp; omega) n 2 598 (by omega)
    have s3 := put_step (nums s ++ [n / 2 ^ (8 * 3) % 256] ++ [n / 2 ^ (8 * 2) % 256]) (by simp; omega) n 1 597 (by omega)
    have s4 := put_step (nums s ++ [n / 2 ^ (8 * 3) % 256] ++ [n / 2 ^ (8 * 2) % 256] ++ [n / 2 ^ (8 * 1) % 256]) (by simp; omega) n 0 596 (by omega)
    have s5 : ∀ l : List Int, (F35_l9 600).L 596 (rows8 l, n, ((0 : Nat) : Int) - 1) = some (rows8 l) := fun l => by
      show (F35_l9 600).b _ _ ((F35_l9 600).L 595) some = _
      have c0 : decide ((((0 : Nat) : Int) - 1) ≥ 0) = false := by rw [decide_eq_false_iff_not]; omega
      simp only [F35_l9, c0]
    have t1 : (((3 : Nat) : Int) - 1) = ((2 : Nat) : Int) := by omega
    have t2 : (((2 : Nat) : Int) - 1) = ((1 : Nat) : Int) := by omega
    have t3 : (((1 : Nat) : Int) - 1) = ((0 : Nat) : Int) := by omega
    rw [t1] at s1
    rw [t2] at s2
    rw [t3] at s3
    refine s1.trans (s2.trans (s3.trans (s4.trans ((s5 _).trans ?_))))
    congr 2
    simp only [be4, List.append_assoc, List.cons_append, List.nil_append]
    simp
  simp only [F35_d, FSpec.d, F35_s, i1, Bool.not_true, e1, c, if_false, e2, i2, e3, bytesL_eq, F35_d9, r, numsOf_rows8, strOf_app, strOf_nums]
/-- The four bytes at a place. -/
def get4 (s : ByteArray) (m : Nat) : Int := (((nums s).getD m 0 * 256 + (nums s).getD (m + 1) 0) * 256 + (nums s).getD (m + 2) 0) * 256 + (nums s).getD (m + 3) 0
theorem num_rng (s : ByteArray) (m : Nat) : 0 ≤ (nums s).getD m 0 ∧ (nums s).getD m 0 ≤ 255 := by
  by_cases h : m < (nums s).length
  · rw [List.getD_eq_getElem?_getD, List.getElem?_eq_getElem h]
    exact nums_rng s _ (List.getElem_mem h)
  · rw [List.getD_eq_getElem?_getD, List.getElem?_eq_none (by omega)]
    simp
theorem get4_rng (s : ByteArray) (m : Nat) : 0 ≤ get4 s m ∧ get4 s m ≤ 4294967295 := by
  unfold get4
  have h1 := num_rng s m
  have h2 := num_rng s (m + 1)
  have h3 := num_rng s (m + 2)
  have h4 := num_rng s (m + 3)
  omega
theorem get_step (s : ByteArray) (m i f : Nat) (acc : Int) (hm : m ≤ 1000000) (hi : i < 4) (hs : m + i < s.size) (ha : 0 ≤ acc ∧ acc < 16777216) : (F100_l13 600).L (f + 1) (s, (m : Int), acc, 4, (i : Int)) = (F100_l13 600).L f (s, (m : Int), acc * 256 + (nums s).getD (m + i) 0, 4, ((i + 1 : Nat) : Int)) := by
  show (F100_l13 600).b _ _ ((F100_l13 600).L f) some = _
  obtain ⟨Lf, hL⟩ : ∃ Lf, Lf = (F100_l13 600).L f := ⟨_, rfl⟩
  rw [← hL]
  have c1 : decide ((i : Int) < 4) = true := by rw [decide_eq_true_iff]; omega
  have e1 : i64 ((m : Int) + (i : Int)) = ((m + i : Nat) : Int) := by rw [i64_id (by omega)]; omega
  have c2 : (0 : Int) ≤ ((m + i : Nat) : Int) := by omega
  have e3 : i64 ((i : Int) + 1) = ((i + 1 : Nat) : Int) := by rw [i64_id (by omega)]; omega
  obtain ⟨u, hu, hv⟩ := byte_get s (m + i) hs
  have hr := num_rng s (m + i)
  have e4 : shL .i64 acc 8 = acc * 2 ^ 8 := shL_ok (by omega) (by
    have : ((8 : Int)).toNat = 8 := rfl
    rw [this]
    omega)
  have e5 : IntKind.i64.wrap ((nums s).getD (m + i) 0) = (nums s).getD (m + i) 0 := i64_id (by omega)
  have e6 : bOr .i64 (acc * 2 ^ 8) ((nums s).getD (m + i) 0) = acc * 2 ^ 8 + (nums s).getD (m + i) 0 := bOr_ok (by omega) ha.1 (by omega) (by omega)
  simp only [F100_l13, c1, e1, c2, if_true, Int.toNat_natCast, hu, hv, e4, e5, e6, e3]
  exact if_pos trivial
theorem get4_ok (s : ByteArray) (m : Nat) (hm : m ≤ 1000000) (h : m + 4 ≤ s.size) (hs : s.size ≤ 1000000) : F100_d 600 (s, (m : Int), 4) = some (get4 s m, 0) := by
  have i1 : F64_d 600 (4, 1, 7) = some true := in_yes (by omega)
  have c1 : decide ((m : Int) < 0) = false := by rw [decide_eq_false_iff_not]; omega
  have e1 : i64 ((s.size : Int) - 4) = (s.size : Int) - 4 := i64_id (by omega)
  have c2 : decide ((m : Int) > (s.size : Int) - 4) = false := by rw [decide_eq_false_iff_not]; omega
  have h1 := num_rng s m
  have h2 := num_rng s (m + 1)
  have h3 := num_rng s (m + 2)
  have h4 := num_rng s (m + 3)
  have r : (F100_l13 600).L 600 (s, (m : Int), 0, 4, 0) = some (get4 s m) := by
    have s1 := get_step s m 0 599 0 hm (by omega) (by omega) (by omega)
    have s2 := get_step s m 1 598 (0 * 256 + (nums s).getD (m + 0) 0) hm (by omega) (by omega) (by simp only [Nat.add_zero]; omega)
    have s3 := get_step s m 2 597 ((0 * 256 + (nums s).getD (m + 0) 0) * 256 + (nums s).getD (m + 1) 0) hm (by omega) (by omega) (by simp only [Nat.add_zero]; omega)
    have s4 := get_step s m 3 596 (((0 * 256 + (nums s).getD (m + 0) 0) * 256 + (nums s).getD (m + 1) 0) * 256 + (nums s).getD (m + 2) 0) hm (by omega) (by omega) (by simp only [Nat.add_zero]; omega)
    have s5 : ∀ x : Int, (F100_l13 600).L 596 (s, (m : Int), x, 4, ((3 + 1 : Nat) : Int)) = some x := fun x => by
      show (F100_l13 600).b _ _ ((F100_l13 600).L 595) some = _
      have c0 : decide (((3 + 1 : Nat) : Int) < 4) = false := by rw [decide_eq_false_iff_not]; omega
      simp only [F100_l13, c0]
    refine s1.trans (s2.trans (s3.trans (s4.trans ((s5 _).trans ?_))))
    congr 1
    unfold get4
    simp only [Nat.add_zero]
    omega
  simp only [F100_d, FSpec.d, F100_s, i1, Bool.not_true, c1, e1, c2, F100_d13, r]
/-! Pairs. -/
theorem shift_ok {x i : Int} (hx : 0 ≤ x ∧ x ≤ 4294967295) (hi : 0 ≤ i ∧ i ≤ 15) : F97_d 600 (x, i) = some (30 - 2 * i, true) := by
  have e1 : i64 (2 * i) = 2 * i := i64_id (by omega)
  have e2 : i64 (30 - 2 * i) = 30 - 2 * i := i64_id (by omega)
  simp only [F97_d, FSpec.d, F97_s, in_yes hx, in_yes hi, e1, e2]
theorem pair_ok {x : Int} {i : Nat} (hx : 0 ≤ x ∧ x ≤ 4294967295) (hi : i ≤ 15) : F122_d 600 (x, (i : Int)) = some (x / 2 ^ (30 - 2 * i) % 4, 0) := by
  have c : ¬ (30 - 2 * (i : Int) < 0) := by omega
  have e1 : shR .i64 x (30 - 2 * (i : Int)) = x / 2 ^ (30 - 2 * i) := by
    rw [shR_ok (by omega)]
    have : (30 - 2 * (i : Int)).toNat = 30 - 2 * i := by omega
    rw [this]
  have e2 : bAnd .i64 (x / 2 ^ (30 - 2 * i)) 3 = x / 2 ^ (30 - 2 * i) % 4 := bAnd_ok (w := 2) (by omega)
  simp only [F122_d, FSpec.d, F122_s, shift_ok hx (show 0 ≤ (i : Int) ∧ (i : Int) ≤ 15 by omega), Bool.not_true, c, if_false, e1, e2]
/-- A pair is set where none was. -/
theorem setp_ok {a v : Int} {i : Nat} (hi : i ≤ 15) (ha : 0 ≤ a) (hx : a * 2 ^ (32 - 2 * i) ≤ 4294967295) (hv : 0 ≤ v ∧ v ≤ 3) (hb : (4 * a + v) * 2 ^ (30 - 2 * i) ≤ 4294967295) : F63_d 600 (a * 2 ^ (32 - 2 * i), (i : Int), v) = some ((4 * a + v) * 2 ^ (30 - 2 * i), 0) := by
  have hp : (1 : Int) ≤ 2 ^ (30 - 2 * i) := Int.pow_pos (by omega)
  have hpw : (2 : Int) ^ (32 - 2 * i) = 4 * 2 ^ (30 - 2 * i) := by
    rw [show 32 - 2 * i = (30 - 2 * i) + 2 by omega, Int.pow_add]
    omega
  have h0 : 0 ≤ a * 2 ^ (32 - 2 * i) := Int.mul_nonneg ha (by omega)
  have hpl : (2 : Int) ^ (30 - 2 * i) ≤ 2 ^ 30 := two_le (by omega)
  have c : ¬ (30 - 2 * (i : Int) < 0) := by omega
  have tn : (30 - 2 * (i : Int)).toNat = 30 - 2 * i := by omega
  have e1 : shL .i64 3 (30 - 2 * (i : Int)) = 3 * 2 ^ (30 - 2 * i) := by
    rw [shL_ok (by omega) (by rw [tn]; omega), tn]
  have hvp : 0 ≤ v * 2 ^ (30 - 2 * i) ∧ v * 2 ^ (30 - 2 * i) ≤ 3 * 2 ^ (30 - 2 * i) := ⟨Int.mul_nonneg hv.1 (by omega), Int.mul_le_mul_of_nonneg_right hv.2 (by omega)⟩
  have e2 : shL .i64 v (30 - 2 * (i : Int)) = v * 2 ^ (30 - 2 * i) := by
    rw [shL_ok (by omega) (by rw [tn]; omega), tn]
  have e3 : bNot .i64 (a * 2 ^ (32 - 2 * i)) (3 * 2 ^ (30 - 2 * i)) = a * 2 ^ (32 - 2 * i) := bNot_ok (by omega) ⟨h0, hx⟩ (by
    rw [hpw, ← Int.mul_assoc, Int.mul_ediv_cancel _ (by omega)]
    omega)
  have e4 : bOr .i64 (a * 2 ^ (32 - 2 * i)) (v * 2 ^ (30 - 2 * i)) = (4 * a + v) * 2 ^ (30 - 2 * i) := by
    have e5 : (4 * a + v) * 2 ^ (30 - 2 * i) = a * 2 ^ (32 - 2 * i) + v * 2 ^ (30 - 2 * i) := by
      rw [hpw, Int.add_mul, ← Int.mul_assoc, Int.mul_comm 4 a]
    rw [e5]
    have hw : (2 : Int) ^ (32 - 2 * i) = 2 ^ (32 - 2 * i) := rfl
    exact bOr_ok (w := 32 - 2 * i) (by omega) ha ⟨hvp.1, by rw [hpw]; omega⟩ (by rw [← e5]; omega)
  have i1 : F64_d 600 (v, 0, 3) = some true := in_yes hv
  simp only [F63_d, FSpec.d, F63_s, shift_ok ⟨h0, hx⟩ (show 0 ≤ (i : Int) ∧ (i : Int) ≤ 15 by omega), Bool.not_true, i1, c, if_false, e1, e2, e3, e4]
end Go.Proofs.YtdmedeaknnldcaaGreatDoor
/- Steim, the plain law: differences, groups, words. -/
namespace Go.Proofs.YtdmedeaknnldcaaGreatDoor
open Go.RowKit
set_option linter.unusedVariables false
set_option linter.unusedSimpArgs false
set_option linter.unnecessarySimpa false
/-! Samples. -/
def Smp (x : Int) : Prop := -1073741823 ≤ x ∧ x ≤ 1073741823
instance (x : Int) : Decidable (Smp x) := inferInstanceAs (Decidable (_ ∧ _))
theorem smp_any (x : Int) : F90_d 600 x = some (decide (Smp x)) := by
  simp only [F90_d, FSpec.d, F90_s, sin_any]
  rfl
theorem out_loop (l : List Int) (hl : l.length ≤ 1000) : ∀ (k i f : Nat), k < f → i + k = l.length → (F110_l4 600).L f (rowsI l, (l.length : Int), (i : Int)) = some (.inr ()) ∧ (l.drop i).all (fun x => decide (Smp x)) = true ∨ ∃ q : Nat, (F110_l4 600).L f (rowsI l, (l.length : Int), (i : Int)) = some (.inl (q : Int)) ∧ (l.drop i).all (fun x => decide (Smp x)) = false
  | 0, i, f, hf, hi => by
    obtain ⟨f, rfl⟩ : ∃ f', f = f' + 1 := ⟨f - 1, by omega⟩
    have c : decide ((i : Int) < (l.length : Int)) = false := by rw [decide_eq_false_iff_not]; omega
    refine .inl ⟨?_, by rw [List.drop_of_length_le (by omega)]; rfl⟩
    show (F110_l4 600).b _ _ ((F110_l4 600).L f) some = _
    simp only [F110_l4, c]
  | k + 1, i, f, hf, hi => by
    obtain ⟨f, rfl⟩ : ∃ f', f = f' + 1 := ⟨f - 1, by omega⟩
    have hlt : i < l.length := by omega
    have c1 : decide ((i : Int) < (l.length : Int)) = true := by rw [decide_eq_true_iff]; omega
    have c2 : (0 : Int) ≤ (i : Int) := by omega
    have c4 : i64 ((i : Int) + 1) = ((i + 1 : Nat) : Int) := by rw [i64_id (by omega)]; omega
    have hd : l.drop i = l[i] :: l.drop (i + 1) := List.drop_eq_getElem_cons hlt
    by_cases h : Smp l[i]
    · have st : (F110_l4 600).L (f + 1) (rowsI l, (l.length : Int), (i : Int)) = (F110_l4 600).L f (rowsI l, (l.length : Int), ((i + 1 : Nat) : Int)) := by
        show (F110_l4 600).b _ _ ((F110_l4 600).L f) some = _
        obtain ⟨Lf, hL⟩ : ∃ Lf, Lf = (F110_l4 600).L f := ⟨_, rfl⟩
        rw [← hL]
        simp only [F110_l4, c1, c2, if_true, Int.toNat_natCast, rowsI_get l i hlt, List.getElem?_cons_zero, F89_d, FSpec.d, F89_s, smp_any, decide_eq_true h, Bool.not_true, c4]
        exact if_pos trivial
      have r := out_loop l hl k (i + 1) f (by omega) (by omega)
      rw [st, hd, List.all_cons, decide_eq_true h, Bool.true_and]
      exact r
    · refine .inr ⟨i, ?_, by rw [hd, List.all_cons, decide_eq_false h]; rfl⟩
      show (F110_l4 600).b _ _ ((F110_l4 600).L f) some = _
      simp only [F110_l4, c1, c2, if_true, Int.toNat_natCast, rowsI_get l i hlt, List.getElem?_cons_zero, F89_d, FSpec.d, F89_s, smp_any, decide_eq_false h, Bool.not_false]
theorem out_any (l : List Int) (hl : l.length ≤ 590) : F88_d 600 (rowsI l) = some (!l.all fun x => decide (Smp x)) := by
  simp only [F88_d, FSpec.d, F88_s, F110_d, F110_s, F110_d4, rowsI_len]
  rcases out_loop l (by omega) l.length 0 600 (by omega) (by omega) with ⟨h1, h2⟩ | ⟨q, h1, h2⟩
  · replace h1 : (F110_l4 600).L 600 (rowsI l, (l.length : Int), 0) = _ := h1
    replace h2 : l.all (fun x => decide (Smp x)) = true := h2
    simp only [h1, h2]; rfl
  · replace h1 : (F110_l4 600).L 600 (rowsI l, (l.length : Int), 0) = _ := h1
    replace h2 : l.all (fun x => decide (Smp x)) = false := h2
    have c : (q : Int) ≥ 0 := by omega
    simp only [h1, h2, c, decide_true, Bool.not_false]
/-! Differences. -/
def dX (X : List Int) : List Int := (List.range X.length).map fun i => if i = 0 then 0 else X.getD i 0 - X.getD (i - 1) 0
theorem dX_len (X : List Int) : (dX X).length = X.length := by simp [dX]
theorem dX_zero (X : List Int) (h : 0 < X.length) : (dX X)[0]'(by rw [dX_len]; exact h) = 0 := by simp [dX]
theorem dX_get (X : List Int) (i : Nat) (h : i + 1 < X.length) : (dX X)[i + 1]'(by rw [dX_len]; exact h) = X[i + 1] - X[i] := by
  have h2 : i < X.length := by omega
  simp [dX, List.getD, h, h2]
def cellsI (l : List Int) : List AV := l.map I
theorem cellsI_len (l : List Int) : (cellsI l).length = l.length := by simp [cellsI]
theorem cellsI_dat (l : List Int) : (cellsI l).map dat0 = cellsI l := by
  simp only [cellsI, List.map_map]
  rfl
theorem cellsI_set (l : List Int) (i : Nat) (v : Int) : (cellsI l).set i (AV.v (.int .i64 v)) = cellsI (l.set i v) := by
  simp only [cellsI, List.map_set]
theorem chunksI : ∀ l : List Int, chunks (cellsI l) 1 l.length = rowsI l
  | [] => rfl
  | a :: r => by
    have q := chunksI r
    show _ :: chunks (cellsI r) 1 r.length = _
    rw [q]; rfl
theorem set_step (l : List Int) (i : Nat) (h : i < l.length) : (l.take i ++ List.replicate (l.length - i) 0).set i l[i] = l.take (i + 1) ++ List.replicate (l.length - (i + 1)) 0 := by
  have ht : (l.take i).length = i := by simp; omega
  have e : l.length - i = (l.length - (i + 1)) + 1 := by omega
  rw [List.set_append_right _ _ (by omega), ht, Nat.sub_self, e, List.replicate_succ, List.set_cons_zero, List.take_succ_eq_append_getElem h, List.append_assoc]
  rfl
theorem set_step2 (l : List Int) (i n : Nat) (hn : l.length = n) (h : i < l.length) : (l.take i ++ List.replicate (n - i) 0).set i l[i] = l.take (i + 1) ++ List.replicate (n - (i + 1)) 0 := by
  subst hn
  exact set_step l i h
theorem dif_loop (X : List Int) (hl : X.length ≤ 590) (hX : ∀ x ∈ X, Smp x) : ∀ (k i f : Nat), k < f → i + k = X.length → 1 ≤ i → (F91_l5 600).L f (rowsI X, X.length, (i : Int), cellsI ((dX X).take i ++ List.replicate (X.length - i) 0)) = some (X.length, cellsI (dX X))
  | 0, i, f, hf, hi, h1 => by
    obtain ⟨f, rfl⟩ : ∃ f', f = f' + 1 := ⟨f - 1, by omega⟩
    show (F91_l5 600).b _ _ ((F91_l5 600).L f) some = _
    have c : decide ((i : Int) < (X.length : Int)) = false := by rw [decide_eq_false_iff_not]; omega
    have e : (dX X).take i ++ List.replicate (X.length - i) 0 = dX X := by
      rw [List.take_of_length_le (by rw [dX_len]; omega), show X.length - i = 0 by omega]
      simp
    simp only [F91_l5, rowsI_len, c, e, cellsI_dat]
  | k + 1, i, f, hf, hi, h1 => by
    obtain ⟨f, rfl⟩ : ∃ f', f = f' + 1 := ⟨f - 1, by omega⟩
    obtain ⟨j, rfl⟩ : ∃ j, i = j + 1 := ⟨i - 1, by omega⟩
    have r1 := dif_loop X hl hX k (j + 1 + 1) f (by omega) (by omega) (by omega)
    show (F91_l5 600).b _ _ ((F91_l5 600).L f) some = _
    obtain ⟨Lf, hL⟩ : ∃ Lf, Lf = (F91_l5 600).L f := ⟨_, rfl⟩
    rw [← hL] at r1 ⊢
    have hlt : j + 1 < X.length := by omega
    have hlt' : j < X.length := by omega
    have c1 : decide (((j + 1 : Nat) : Int) < (X.length : Int)) = true := by rw [decide_eq_true_iff]; omega
    have c2 : (0 : Int) ≤ ((j + 1 : Nat) : Int) := by omega
    have c3 : i64 (((j + 1 : Nat) : Int) - 1) = (j : Int) := by rw [i64_id (by omega)]; omega
    have c4 : i64 (((j + 1 : Nat) : Int) + 1) = ((j + 1 + 1 : Nat) : Int) := by rw [i64_id (by omega)]; omega
    have c5 : (0 : Int) ≤ (j : Int) := by omega
    have c6 : (0 : Int) ≤ ((j + 1 : Nat) : Int) ∧ ((j + 1 : Nat) : Int) < (X.length : Int) := by omega
    have b1 := hX _ (List.getElem_mem hlt)
    have b2 := hX _ (List.getElem_mem hlt')
    unfold Smp at b1 b2
    have e1 : i64 (X[j + 1] - X[j]) = (dX X)[j + 1]'(by rw [dX_len]; exact hlt) := by rw [dX_get X j hlt]; exact i64_id (by omega)
    have e2 : (0 + (j + 1)) * 1 = j + 1 := by omega
    have hlen : j + 1 + 1 ≤ (cellsI ((dX X).take (j + 1) ++ List.replicate (X.length - (j + 1)) 0)).length := by
      rw [cellsI_len]; simp [dX_len]; omega
    have st := set_step2 (dX X) (j + 1) X.length (dX_len X) (by rw [dX_len]; exact hlt)
    simp only [F91_l5, rowsI_len, c1, c2, c3, c4, c5, c6, and_self, if_true, Int.toNat_natCast, rowsI_get X _ hlt, rowsI_get X _ hlt', List.getElem?_cons_zero, e1, e2, hlen, cellsI_set, st, cellsI_dat]
    exact r1
theorem dif_ok (X : List Int) (hl : X.length ≤ 590) (h0 : X ≠ []) (hX : ∀ x ∈ X, Smp x) : F91_d 600 (rowsI X) = some (rowsI (dX X)) := by
  have hp : 0 < X.length := List.length_pos_iff.2 h0
  have c1 : (0 : Int) ≤ (X.length : Int) ∧ (X.length : Int) ≤ (X.length : Int) ∧ X.length * 8 ≤ maxBytes := ⟨by omega, by omega, by unfold maxBytes; omega⟩
  have e : List.replicate X.length (AV.v (.int .i64 0)) = cellsI ((dX X).take 1 ++ List.replicate (X.length - 1) 0) := by
    have : (dX X).take 1 = [0] := by
      obtain ⟨n, hn⟩ : ∃ n, X.length = n + 1 := ⟨X.length - 1, by omega⟩
      simp [dX, hn, List.range_succ_eq_map]
    rw [this]
    obtain ⟨n, hn⟩ : ∃ n, X.length = n + 1 := ⟨X.length - 1, by omega⟩
    rw [hn]
    simp [cellsI, List.replicate_succ]
  have r := dif_loop X hl hX (X.length - 1) 1 600 (by omega) (by omega) (by omega)
  rw [← e] at r
  have hd : (List.replicate X.length (AV.v (.int .i64 0))).map dat0 = List.replicate X.length (AV.v (.int .i64 0)) := by rw [List.map_replicate]; rfl
  replace r : (F91_l5 600).L 600 (rowsI X, X.length, 1, List.replicate X.length (AV.v (.int .i64 0))) = _ := r
  have b2 : X.length * 1 ≤ (cellsI (dX X)).length := by rw [cellsI_len, dX_len]; omega
  have e3 : (cellsI (dX X)).take (X.length * 1) = cellsI (dX X) := List.take_of_length_le (by rw [cellsI_len, dX_len]; omega)
  have e4 : chunks (cellsI (dX X)) 1 X.length = rowsI (dX X) := by
    have := chunksI (dX X)
    rw [dX_len] at this
    exact this
  simp only [F91_d, FSpec.d, F91_s, rowsI_len, Int.toNat_natCast, c1, and_self, if_true, hd, F91_d5, r, b2, e3, e4]
/-! Which groups fit. -/
theorem fit_loop (w : Int) (P : Int → Prop) [DecidablePred P] (hP : ∀ x, F96_d 600 (x, w) = some (decide (P x))) (l : List Int) (hl : l.length ≤ 500) : ∀ (k i f : Nat), k < f → i + k = l.length → (F110a_l4 600).L f (rowsI l, (l.length : Int), (i : Int), w) = some (.inr w) ∧ (l.drop i).all (fun x => decide (P x)) = true ∨ ∃ q : Nat, (F110a_l4 600).L f (rowsI l, (l.length : Int), (i : Int), w) = some (.inl ((q : Int), w)) ∧ (l.drop i).all (fun x => decide (P x)) = false
  | 0, i, f, hf, hi => by
    obtain ⟨f, rfl⟩ : ∃ f', f = f' + 1 := ⟨f - 1, by omega⟩
    have c : decide ((i : Int) < (l.length : Int)) = false := by rw [decide_eq_false_iff_not]; omega
    refine .inl ⟨?_, by rw [List.drop_of_length_le (by omega)]; rfl⟩
    show (F110a_l4 600).b _ _ ((F110a_l4 600).L f) some = _
    simp only [F110a_l4, c]
  | k + 1, i, f, hf, hi => by
    obtain ⟨f, rfl⟩ : ∃ f', f = f' + 1 := ⟨f - 1, by omega⟩
    have hlt : i < l.length := by omega
    have c1 : decide ((i : Int) < (l.length : Int)) = true := by rw [decide_eq_true_iff]; omega
    have c2 : (0 : Int) ≤ (i : Int) := by omega
    have c4 : i64 ((i : Int) + 1) = ((i + 1 : Nat) : Int) := by rw [i64_id (by omega)]; omega
    have hd : l.drop i = l[i] :: l.drop (i + 1) := List.drop_eq_getElem_cons hlt
    by_cases h : P l[i]
    · have st : (F110a_l4 600).L (f + 1) (rowsI l, (l.length : Int), (i : Int), w) = (F110a_l4 600).L f (rowsI l, (l.length : Int), ((i + 1 : Nat) : Int), w) := by
        show (F110a_l4 600).b _ _ ((F110a_l4 600).L f) some = _
        obtain ⟨Lf, hL⟩ : ∃ Lf, Lf = (F110a_l4 600).L f := ⟨_, rfl⟩
        rw [← hL]
        simp only [F110a_l4, c1, c2, if_true, Int.toNat_natCast, rowsI_get l i hlt, List.getElem?_cons_zero, F111_d, FSpec.d, F111_s, hP, decide_eq_true h, Bool.not_true, c4]
        exact if_pos trivial
      have r := fit_loop w P hP l hl k (i + 1) f (by omega) (by omega)
      rw [st, hd, List.all_cons, decide_eq_true h, Bool.true_and]
      exact r
    · refine .inr ⟨i, ?_, by rw [hd, List.all_cons, decide_eq_false h]; rfl⟩
      show (F110a_l4 600).b _ _ ((F110a_l4 600).L f) some = _
      simp only [F110a_l4, c1, c2, if_true, Int.toNat_natCast, rowsI_get l i hlt, List.getElem?_cons_zero, F111_d, FSpec.d, F111_s, hP, decide_eq_false h, Bool.not_false]
def fitB (n : Nat) (P : Int → Prop) [DecidablePred P] (D : List Int) : Bool := decide (n ≤ D.length) && (D.take n).all fun x => decide (P x)
theorem fit_any (n : Nat) (w : Int) (P : Int → Prop) [DecidablePred P] (hP : ∀ x, F96_d 600 (x, w) = some (decide (P x))) (hn : n ≤ 4) (D : List Int) : F93_d 600 (rowsI D, (n : Int), w) = some (fitB n P D) := by
  simp only [F93_d, FSpec.d, F93_s, rowsI_len]
  unfold fitB
  by_cases h : n ≤ D.length
  · have c1 : (D.length : Int) ≥ (n : Int) := by omega
    have c2 : (0 : Int) ≤ (n : Int) ∧ (n : Int) ≤ (D.length : Int) := by omega
    have e : (rowsI D).take n = rowsI (D.take n) := by simp [rowsI, List.map_take]
    have hl : (D.take n).length ≤ 4 := by simp; omega
    simp only [c1, decide_true, c2, and_self, if_true, Int.toNat_natCast, e, h, Bool.true_and, F88a_d, F88a_s, FSpec.d, F110a_d, F110a_s, F110a_d4, rowsI_len]
    rcases fit_loop w P hP (D.take n) (by omega) (D.take n).length 0 600 (by omega) (by omega) with ⟨h1, h2⟩ | ⟨q, h1, h2⟩
    · replace h1 : (F110a_l4 600).L 600 (rowsI (D.take n), ((D.take n).length : Int), 0, w) = _ := h1
      replace h2 : (D.take n).all (fun x => decide (P x)) = true := h2
      simp only [h1, h2]; rfl
    · replace h1 : (F110a_l4 600).L 600 (rowsI (D.take n), ((D.take n).length : Int), 0, w) = _ := h1
      replace h2 : (D.take n).all (fun x => decide (P x)) = false := h2
      have c : (q : Int) ≥ 0 := by omega
      simp only [h1, h2, c, decide_true, Bool.not_true]
  · have c1 : ¬ (D.length : Int) ≥ (n : Int) := by omega
    simp only [c1, decide_false, h, Bool.false_and]
/-! Packing. -/
theorem pack_step (l : List Int) (hl : l.length ≤ 4) (w : Nat) (hw : w ≤ 32) (i f : Nat) (hi : i < l.length) (acc y : Int) (hy : F62_d 600 (l[i], (w : Int)) = some (y, 0)) (hy2 : 0 ≤ y ∧ y < 2 ^ w) (ha : 0 ≤ acc) (hb : acc * 2 ^ w + y ≤ 4294967295) : (F94_l5 600).L (f + 1) (rowsI l, (w : Int), acc, (l.length : Int), (i : Int)) = (F94_l5 600).L f (rowsI l, (w : Int), acc * 2 ^ w + y, (l.length : Int), ((i + 1 : Nat) : Int)) := by
  show (F94_l5 600).b _ _ ((F94_l5 600).L f) some = _
  obtain ⟨Lf, hL⟩ : ∃ Lf, Lf = (F94_l5 600).L f := ⟨_, rfl⟩
  rw [← hL]
  have c1 : decide ((i : Int) < (l.length : Int)) = true := by rw [decide_eq_true_iff]; omega
  have c2 : (0 : Int) ≤ (i : Int) := by omega
  have c4 : i64 ((i : Int) + 1) = ((i + 1 : Nat) : Int) := by rw [i64_id (by omega)]; omega
  have c5 : ¬ ((w : Int) < 0) := by omega
  have h0 : 0 ≤ acc * 2 ^ w := Int.mul_nonneg ha (Int.le_of_lt (Int.pow_pos (by omega)))
  have e1 : shL .i64 acc (w : Int) = acc * 2 ^ w := by
    have := shL_ok (x := acc) (y := (w : Int)) (by omega) (by rw [Int.toNat_natCast]; omega)
    rwa [Int.toNat_natCast] at this
  have e2 : bOr .i64 (acc * 2 ^ w) y = acc * 2 ^ w + y := bOr_ok (by omega) ha hy2 (by omega)
  simp only [F94_l5, c1, c2, if_true, Int.toNat_natCast, rowsI_get l i hi, List.getElem?_cons_zero, hy, c5, if_false, e1, e2, c4]
  exact if_neg (fun h => h)
theorem pack_end (l : List Int) (w acc : Int) (f : Nat) : (F94_l5 600).L (f + 1) (rowsI l, w, acc, (l.length : Int), (l.length : Int)) = some acc := by
  show (F94_l5 600).b _ _ ((F94_l5 600).L f) some = _
  have c : decide ((l.length : Int) < (l.length : Int)) = false := by rw [decide_eq_false_iff_not]; omega
  simp only [F94_l5, c]
theorem pack8 (a b c d : Int) (ha : Fit8 a) (hb : Fit8 b) (hc : Fit8 c) (hd : Fit8 d) : F94_d 600 (rowsI [a, b, c, d], 8) = some (((a % 256 * 256 + b % 256) * 256 + c % 256) * 256 + d % 256) := by
  have s1 := pack_step [a, b, c, d] (by simp) 8 (by omega) 0 599 (by simp) 0 (a % 256) (wrap8 ha) (by omega) (by omega) (by omega)
  have s2 := pack_step [a, b, c, d] (by simp) 8 (by omega) 1 598 (by simp) (0 * 2 ^ 8 + a % 256) (b % 256) (wrap8 hb) (by omega) (by omega) (by omega)
  have s3 := pack_step [a, b, c, d] (by simp) 8 (by omega) 2 597 (by simp) ((0 * 2 ^ 8 + a % 256) * 2 ^ 8 + b % 256) (c % 256) (wrap8 hc) (by omega) (by omega) (by omega)
  have s4 := pack_step [a, b, c, d] (by simp) 8 (by omega) 3 596 (by simp) (((0 * 2 ^ 8 + a % 256) * 2 ^ 8 + b % 256) * 2 ^ 8 + c % 256) (d % 256) (wrap8 hd) (by omega) (by omega) (by omega)
  have s5 := pack_end [a, b, c, d] 8 ((((0 * 2 ^ 8 + a % 256) * 2 ^ 8 + b % 256) * 2 ^ 8 + c % 256) * 2 ^ 8 + d % 256) 595
  have r : (F94_l5 600).L 600 (rowsI [a, b, c, d], 8, 0, ([a, b, c, d].length : Int), 0) = _ := s1.trans (s2.trans (s3.trans (s4.trans s5)))
  simp only [F94_d, FSpec.d, F94_s, rowsI_len, F94_d5, r]
  congr 1
  omega
theorem pack16 (a b : Int) (ha : Fit16 a) (hb : Fit16 b) : F94_d 600 (rowsI [a, b], 16) = some (a % 65536 * 65536 + b % 65536) := by
  have s1 := pack_step [a, b] (by simp) 16 (by omega) 0 599 (by simp) 0 (a % 65536) (wrap16 ha) (by omega) (by omega) (by omega)
  have s2 := pack_step [a, b] (by simp) 16 (by omega) 1 598 (by simp) (0 * 2 ^ 16 + a % 65536) (b % 65536) (wrap16 hb) (by omega) (by omega) (by omega)
  have s5 := pack_end [a, b] 16 ((0 * 2 ^ 16 + a % 65536) * 2 ^ 16 + b % 65536) 597
  have r : (F94_l5 600).L 600 (rowsI [a, b], 16, 0, ([a, b].length : Int), 0) = _ := s1.trans (s2.trans s5)
  simp only [F94_d, FSpec.d, F94_s, rowsI_len, F94_d5, r]
  congr 1
  omega
theorem pack32 (a : Int) (ha : Fit32 a) : F94_d 600 (rowsI [a], 32) = some (a % 4294967296) := by
  have s1 := pack_step [a] (by simp) 32 (by omega) 0 599 (by simp) 0 (a % 4294967296) (wrap32 ha) (by omega) (by omega) (by omega)
  have s5 := pack_end [a] 32 (0 * 2 ^ 32 + a % 4294967296) 598
  have r : (F94_l5 600).L 600 (rowsI [a], 32, 0, ([a].length : Int), 0) = _ := s1.trans s5
  simp only [F94_d, FSpec.d, F94_s, rowsI_len, F94_d5, r]
  congr 1
  omega
end Go.Proofs.YtdmedeaknnldcaaGreatDoor
/- Steim, the plain law: words out of differences and back; compress, Words, Frames, unpack. -/
namespace Go.Proofs.YtdmedeaknnldcaaGreatDoor
open Go.RowKit
set_option linter.unusedVariables false
set_option linter.unusedSimpArgs false
set_option linter.unnecessarySimpa false
def rowsW (l : List (Int × Int)) : List (List AV) := l.map fun w => [I w.1, I w.2]
theorem rowsW_len (l : List (Int × Int)) : (rowsW l).length = l.length := by simp [rowsW]
theorem rowsW_snoc (l : List (Int × Int)) (a b : Int) : rowsW l ++ [[AV.v (.int .i64 a), AV.v (.int .i64 b)]] = rowsW (l ++ [(a, b)]) := by simp [rowsW]
def p8 (D : List Int) : Int := ((D.getD 0 0 % 256 * 256 + D.getD 1 0 % 256) * 256 + D.getD 2 0 % 256) * 256 + D.getD 3 0 % 256
def p16 (D : List Int) : Int := D.getD 0 0 % 65536 * 65536 + D.getD 1 0 % 65536
def p32 (D : List Int) : Int := D.getD 0 0 % 4294967296
def wds : Nat → List Int → List (Int × Int)
  | 0, _ => []
  | n + 1, D => if D.isEmpty then [] else if fitB 4 Fit8 D then (1, p8 D) :: wds n (D.drop 4) else if fitB 2 Fit16 D then (2, p16 D) :: wds n (D.drop 2) else (3, p32 D) :: wds n (D.drop 1)
theorem fit4_inv {D : List Int} (h : fitB 4 Fit8 D = true) : ∃ a b c d r, D = a :: b :: c :: d :: r ∧ Fit8 a ∧ Fit8 b ∧ Fit8 c ∧ Fit8 d := by
  unfold fitB at h
  rw [Bool.and_eq_true, decide_eq_true_iff] at h
  obtain ⟨h1, h2⟩ := h
  match D, h1, h2 with
  | a :: b :: c :: d :: r, _, h2 =>
    simp at h2
    exact ⟨a, b, c, d, r, rfl, h2⟩
theorem fit2_inv {D : List Int} (h : fitB 2 Fit16 D = true) : ∃ a b r, D = a :: b :: r ∧ Fit16 a ∧ Fit16 b := by
  unfold fitB at h
  rw [Bool.and_eq_true, decide_eq_true_iff] at h
  obtain ⟨h1, h2⟩ := h
  match D, h1, h2 with
  | a :: b :: r, _, h2 =>
    simp at h2
    exact ⟨a, b, r, rfl, h2⟩
/-! compress. -/
theorem comp_no (out : List (List AV)) (D : List Int) (hD : D.length ≤ 590) (c n w : Int) (f : Nat) (hc : (c = 1 ∧ n = 4 ∧ w = 8) ∨ (c = 2 ∧ n = 2 ∧ w = 16)) (hf : F93_d 600 (rowsI D, n, w) = some false) : (F60_l16 600).L (f + 1) (out, rowsI D, c) = (F60_l16 600).L f (out, rowsI D, c + 1) := by
  show (F60_l16 600).b _ _ ((F60_l16 600).L f) some = _
  obtain ⟨Lf, hL⟩ : ∃ Lf, Lf = (F60_l16 600).L f := ⟨_, rfl⟩
  rw [← hL]
  have hcnt : F92_d 600 () = some (0, 4, 2, 1) := rfl
  rcases hc with ⟨rfl, rfl, rfl⟩ | ⟨rfl, rfl, rfl⟩
  · have c1 : decide ((1 : Int) ≤ 3) = true := rfl
    have c2 : (0 : Int) ≤ 1 ∧ (1 : Int) < 4 := by omega
    have e1 : [AV.v (.int .i64 0), AV.v (.int .i64 4), AV.v (.int .i64 2), AV.v (.int .i64 1)][(1 : Int).toNat * 1]? = some (AV.v (.int .i64 4)) := rfl
    have e2 : i64 ((32 : Int).tdiv 4) = 8 := by kernel_rfl
    have e3 : i64 ((1 : Int) + 1) = 1 + 1 := by kernel_rfl
    have c3 : ¬ ((4 : Int) = 0) := by omega
    simp only [F60_l16, c1, hcnt, c2, and_self, if_true, e1, c3, if_false, e2, hf, Bool.not_false, e3]
    first | exact if_pos trivial | exact if_neg (fun h => h) | rfl
  · have c1 : decide ((2 : Int) ≤ 3) = true := rfl
    have c2 : (0 : Int) ≤ 2 ∧ (2 : Int) < 4 := by omega
    have e1 : [AV.v (.int .i64 0), AV.v (.int .i64 4), AV.v (.int .i64 2), AV.v (.int .i64 1)][(2 : Int).toNat * 1]? = some (AV.v (.int .i64 2)) := rfl
    have e2 : i64 ((32 : Int).tdiv 2) = 16 := by kernel_rfl
    have e3 : i64 ((2 : Int) + 1) = 2 + 1 := by kernel_rfl
    have c3 : ¬ ((2 : Int) = 0) := by omega
    simp only [F60_l16, c1, hcnt, c2, and_self, if_true, e1, c3, if_false, e2, hf, Bool.not_false, e3]
    first | exact if_pos trivial | exact if_neg (fun h => h) | rfl
theorem comp_yes (out : List (Int × Int)) (ho : out.length ≤ 1000) (D : List Int) (hD : D.length ≤ 590) (c w v : Int) (n f : Nat) (hc : (c = 1 ∧ n = 4 ∧ w = 8) ∨ (c = 2 ∧ n = 2 ∧ w = 16) ∨ (c = 3 ∧ n = 1 ∧ w = 32)) (hn : n ≤ D.length) (hf : F93_d 600 (rowsI D, (n : Int), w) = some true) (hp : F94_d 600 (rowsI (D.take n), w) = some v) : (F60_l16 600).L (f + 1) (rowsW out, rowsI D, c) = some (rowsW (out ++ [(c, v)]), rowsI (D.drop n)) := by
  show (F60_l16 600).b _ _ ((F60_l16 600).L f) some = _
  obtain ⟨Lf, hL⟩ : ∃ Lf, Lf = (F60_l16 600).L f := ⟨_, rfl⟩
  rw [← hL]
  have hcnt : F92_d 600 () = some (0, 4, 2, 1) := rfl
  have et : (rowsI D).take n = rowsI (D.take n) := by simp [rowsI, List.map_take]
  have ed : (rowsI D).drop n = rowsI (D.drop n) := by simp [rowsI, List.map_drop]
  have hb : ∀ r : List AV, ((rowsW out).length + [r].length) * 16 ≤ maxBytes := fun r => by
    rw [rowsW_len]; unfold maxBytes; simp; omega
  rcases hc with ⟨rfl, rfl, rfl⟩ | ⟨rfl, rfl, rfl⟩ | ⟨rfl, rfl, rfl⟩
  · have c1 : decide ((1 : Int) ≤ 3) = true := rfl
    have c2 : (0 : Int) ≤ 1 ∧ (1 : Int) < 4 := by omega
    have e1 : [AV.v (.int .i64 0), AV.v (.int .i64 4), AV.v (.int .i64 2), AV.v (.int .i64 1)][(1 : Int).toNat * 1]? = some (AV.v (.int .i64 4)) := rfl
    have e2 : i64 ((32 : Int).tdiv 4) = 8 := by kernel_rfl
    have c3 : ¬ ((4 : Int) = 0) := by omega
    have c4 : (0 : Int) ≤ 4 ∧ (4 : Int) ≤ (D.length : Int) := by omega
    have e4 : (4 : Int).toNat = 4 := rfl
    replace hf : F93_d 600 (rowsI D, 4, 8) = some true := hf
    simp only [F60_l16, c1, hcnt, c2, and_self, if_true, e1, c3, if_false, e2, hf, Bool.not_true, rowsI_len, c4, e4, et, ed, hp, hb, rowsW_snoc]
  · have c1 : decide ((2 : Int) ≤ 3) = true := rfl
    have c2 : (0 : Int) ≤ 2 ∧ (2 : Int) < 4 := by omega
    have e1 : [AV.v (.int .i64 0), AV.v (.int .i64 4), AV.v (.int .i64 2), AV.v (.int .i64 1)][(2 : Int).toNat * 1]? = some (AV.v (.int .i64 2)) := rfl
    have e2 : i64 ((32 : Int).tdiv 2) = 16 := by kernel_rfl
    have e1' : [AV.v (.int .i64 0), AV.v (.int .i64 4), AV.v (.int .i64 2), AV.v (.int .i64 1)][2 * 1]? = some (AV.v (.int .i64 2)) := rfl
    have c3 : ¬ ((2 : Int) = 0) := by omega
    have c4 : (0 : Int) ≤ 2 ∧ (2 : Int) ≤ (D.length : Int) := by omega
    have e4 : (2 : Int).toNat = 2 := rfl
    replace hf : F93_d 600 (rowsI D, 2, 16) = some true := hf
    simp only [F60_l16, c1, hcnt, c2, and_self, if_true, e1, e1', c3, if_false, e2, hf, Bool.not_true, rowsI_len, c4, e4, et, ed, hp, hb, rowsW_snoc]
  · have c1 : decide ((3 : Int) ≤ 3) = true := rfl
    have c2 : (0 : Int) ≤ 3 ∧ (3 : Int) < 4 := by omega
    have e1 : [AV.v (.int .i64 0), AV.v (.int .i64 4), AV.v (.int .i64 2), AV.v (.int .i64 1)][(3 : Int).toNat * 1]? = some (AV.v (.int .i64 1)) := rfl
    have e2 : i64 ((32 : Int).tdiv 1) = 32 := by kernel_rfl
    have c3 : ¬ ((1 : Int) = 0) := by omega
    have c4 : (0 : Int) ≤ 1 ∧ (1 : Int) ≤ (D.length : Int) := by omega
    have e4 : (1 : Int).toNat = 1 := rfl
    replace hf : F93_d 600 (rowsI D, 1, 32) = some true := hf
    simp only [F60_l16, c1, hcnt, c2, and_self, if_true, e1, c3, if_false, e2, hf, Bool.not_true, rowsI_len, c4, e4, et, ed, hp, hb, rowsW_snoc]
theorem comp_one (out : List (Int × Int)) (ho : out.length ≤ 1000) (D : List Int) (hD : D.length ≤ 590) (h0 : D ≠ []) (h32 : ∀ x ∈ D, Fit32 x) : F60_d16 600 (rowsW out, rowsI D, 1) = some (if fitB 4 Fit8 D then (rowsW (out ++ [(1, p8 D)]), rowsI (D.drop 4)) else if fitB 2 Fit16 D then (rowsW (out ++ [(2, p16 D)]), rowsI (D.drop 2)) else (rowsW (out ++ [(3, p32 D)]), rowsI (D.drop 1))) := by
  have f4 := fit_any 4 8 Fit8 fits8 (by omega) D
  have f2 := fit_any 2 16 Fit16 fits16 (by omega) D
  have f1 := fit_any 1 32 Fit32 fits32 (by omega) D
  show (F60_l16 600).L 600 _ = _
  cases h4 : fitB 4 Fit8 D with
  | true =>
    rw [h4] at f4
    obtain ⟨a, b, c, d, r, rfl, ha, hb, hc, hd⟩ := fit4_inv h4
    have := comp_yes out ho _ hD 1 8 _ 4 599 (.inl ⟨rfl, rfl, rfl⟩) (by simp) f4 (pack8 a b c d ha hb hc hd)
    rw [if_pos rfl]
    exact this
  | false =>
    rw [h4] at f4
    have q1 := comp_no (rowsW out) D hD 1 4 8 599 (.inl ⟨rfl, rfl, rfl⟩) f4
    rw [q1]
    cases h2 : fitB 2 Fit16 D with
    | true =>
      rw [h2] at f2
      obtain ⟨a, b, r, rfl, ha, hb⟩ := fit2_inv h2
      have := comp_yes out ho _ hD 2 16 _ 2 598 (.inr (.inl ⟨rfl, rfl, rfl⟩)) (by simp) f2 (pack16 a b ha hb)
      rw [if_neg (by simp), if_pos rfl]
      exact this
    | false =>
      rw [h2] at f2
      have q2 := comp_no (rowsW out) D hD 2 2 16 598 (.inr ⟨rfl, rfl, rfl⟩) f2
      have q2' : (F60_l16 600).L 599 (rowsW out, rowsI D, 1 + 1) = (F60_l16 600).L 598 (rowsW out, rowsI D, 2 + 1) := q2
      rw [q2']
      match D, h0, h32 with
      | a :: r, _, h32 =>
        have ha := h32 a List.mem_cons_self
        have h1 : fitB 1 Fit32 (a :: r) = true := by
          unfold fitB
          simp [ha]
        rw [h1] at f1
        have := comp_yes out ho (a :: r) hD 3 32 _ 1 597 (.inr (.inr ⟨rfl, rfl, rfl⟩)) (by simp) f1 (pack32 a ha)
        rw [if_neg (by simp), if_neg (by simp)]
        exact this
theorem comp_loop : ∀ (n f : Nat) (D : List Int) (out : List (Int × Int)), n < f → D.length ≤ n → n ≤ 590 → out.length + n ≤ 1000 → (∀ x ∈ D, Fit32 x) → (F60_l9 600).L f (rowsW out, rowsI D) = some (rowsW (out ++ wds n D))
  | 0, f, D, out, hf, hl, hn, ho, h32 => by
    obtain ⟨f, rfl⟩ : ∃ f', f = f' + 1 := ⟨f - 1, by omega⟩
    obtain rfl : D = [] := List.length_eq_zero_iff.1 (by omega)
    show (F60_l9 600).b _ _ ((F60_l9 600).L f) some = _
    have c : decide ((([] : List Int).length : Int) > 0) = false := rfl
    simp only [F60_l9, rowsI_len, c, wds, List.append_nil]
  | n + 1, f, D, out, hf, hl, hn, ho, h32 => by
    obtain ⟨f, rfl⟩ : ∃ f', f = f' + 1 := ⟨f - 1, by omega⟩
    by_cases h0 : D = []
    · subst h0
      show (F60_l9 600).b _ _ ((F60_l9 600).L f) some = _
      have c : decide ((([] : List Int).length : Int) > 0) = false := rfl
      have e : wds (n + 1) [] = [] := rfl
      simp only [F60_l9, rowsI_len, c, e, List.append_nil]
    · have hp : 0 < D.length := List.length_pos_iff.2 h0
      have c : decide ((D.length : Int) > 0) = true := by rw [decide_eq_true_iff]; omega
      have hone := comp_one out (by omega) D (by omega) h0 h32
      have he : D.isEmpty = false := by cases D with | nil => exact absurd rfl h0 | cons => rfl
      have nxt : ∀ (m : Nat) (w : Int × Int), 1 ≤ m → F60_d16 600 (rowsW out, rowsI D, 1) = some (rowsW (out ++ [w]), rowsI (D.drop m)) → (F60_l9 600).L (f + 1) (rowsW out, rowsI D) = some (rowsW (out ++ w :: wds n (D.drop m))) := fun m w hm hw => by
        have r1 := comp_loop n f (D.drop m) (out ++ [w]) (by omega) (by rw [List.length_drop]; omega) (by omega) (by simp; omega) (fun x hx => h32 x (List.mem_of_mem_drop hx))
        show (F60_l9 600).b _ _ ((F60_l9 600).L f) some = _
        obtain ⟨Lf, hL⟩ : ∃ Lf, Lf = (F60_l9 600).L f := ⟨_, rfl⟩
        rw [← hL] at r1 ⊢
        simp only [F60_l9, rowsI_len, c, hw]
        rw [List.append_assoc] at r1
        exact r1
      cases h4 : fitB 4 Fit8 D with
      | true =>
        rw [h4, if_pos rfl] at hone
        have e : wds (n + 1) D = (1, p8 D) :: wds n (D.drop 4) := by simp [wds, he, h4]
        rw [e]; exact nxt 4 _ (by omega) hone
      | false =>
        rw [h4, if_neg (by simp)] at hone
        cases h2 : fitB 2 Fit16 D with
        | true =>
          rw [h2, if_pos rfl] at hone
          have e : wds (n + 1) D = (2, p16 D) :: wds n (D.drop 2) := by simp [wds, he, h4, h2]
          rw [e]; exact nxt 2 _ (by omega) hone
        | false =>
          rw [h2, if_neg (by simp)] at hone
          have e : wds (n + 1) D = (3, p32 D) :: wds n (D.drop 1) := by simp [wds, he, h4, h2]
          rw [e]; exact nxt 1 _ (by omega) hone
theorem dX_fit {X : List Int} (hX : ∀ x ∈ X, Smp x) : ∀ x ∈ dX X, Fit32 x := by
  intro x hx
  obtain ⟨i, hi, rfl⟩ := List.getElem_of_mem hx
  rw [dX_len] at hi
  cases i with
  | zero => rw [dX_zero X hi]; unfold Fit32; omega
  | succ i =>
    rw [dX_get X i hi]
    have b1 := hX _ (List.getElem_mem hi)
    have b2 := hX _ (List.getElem_mem (show i < X.length by omega))
    unfold Smp at b1 b2
    unfold Fit32
    omega
/-- The words of samples. -/
def wX (X : List Int) : List (Int × Int) := wds X.length (dX X)
theorem all_iff (X : List Int) : (X.all fun x => decide (Smp x)) = true ↔ ∀ x ∈ X, Smp x := by simp
theorem comp_ok (X : List Int) (hl : X.length ≤ 500) (h0 : X ≠ []) (hX : ∀ x ∈ X, Smp x) : F60_d 600 (rowsI X) = some (rowsW (wX X), true) := by
  have hp : 0 < X.length := List.length_pos_iff.2 h0
  have c : ((X.length : Int) == 0) = false := by rw [beq_eq_false_iff_ne]; omega
  have r := comp_loop X.length 600 (dX X) [] (by omega) (by rw [dX_len]; omega) (by omega) (by simp; omega) (dX_fit hX)
  replace r : (F60_l9 600).L 600 (([] : List (List AV)), rowsI (dX X)) = some (rowsW (wX X)) := r
  simp only [F60_d, FSpec.d, F60_s, rowsI_len, c, out_any X (by omega), (all_iff X).2 hX, Bool.not_true, dif_ok X (by omega) h0 hX, F60_d9, r]
theorem comp_bad (X : List Int) (hl : X.length ≤ 500) (hX : ¬ ∀ x ∈ X, Smp x) : F60_d 600 (rowsI X) = some ([], false) := by
  have h0 : X ≠ [] := fun e => hX (by rw [e]; simp)
  have hp : 0 < X.length := List.length_pos_iff.2 h0
  have c : ((X.length : Int) == 0) = false := by rw [beq_eq_false_iff_ne]; omega
  have ha : (X.all fun x => decide (Smp x)) = false := by
    cases hq : (X.all fun x => decide (Smp x)) with
    | false => rfl
    | true => exact absurd ((all_iff X).1 hq) hX
  simp only [F60_d, FSpec.d, F60_s, rowsI_len, c, out_any X (by omega), ha, Bool.not_false]
theorem wds_len : ∀ (n : Nat) (D : List Int), D.length ≤ n → (wds n D).length ≤ D.length ∧ D.length ≤ 4 * (wds n D).length
  | 0, D, h => by
    obtain rfl : D = [] := List.length_eq_zero_iff.1 (by omega)
    simp [wds]
  | n + 1, D, h => by
    unfold wds
    cases D with
    | nil => simp
    | cons a r =>
      simp only [List.isEmpty_cons, Bool.false_eq_true, if_false]
      cases h4 : fitB 4 Fit8 (a :: r) with
      | true =>
        obtain ⟨a', b, c, d, r', e, -⟩ := fit4_inv h4
        have ih := wds_len n ((a :: r).drop 4) (by simp at h ⊢; omega)
        rw [e] at ih h ⊢
        simp at ih h ⊢
        omega
      | false =>
        simp only [Bool.false_eq_true, if_false]
        cases h2 : fitB 2 Fit16 (a :: r) with
        | true =>
          obtain ⟨a', b, r', e, -⟩ := fit2_inv h2
          have ih := wds_len n ((a :: r).drop 2) (by simp at h ⊢; omega)
          rw [e] at ih h ⊢
          simp at ih h ⊢
          omega
        | false =>
          have ih := wds_len n ((a :: r).drop 1) (by simp at h ⊢; omega)
          simp at ih h ⊢
          omega
theorem wX_len (X : List Int) : (wX X).length ≤ X.length ∧ X.length ≤ 4 * (wX X).length := by
  have := wds_len X.length (dX X) (by rw [dX_len]; omega)
  rwa [dX_len] at this
theorem wX_pos {X : List Int} (h0 : X ≠ []) : 0 < (wX X).length := by
  have hp : 0 < X.length := List.length_pos_iff.2 h0
  have := wX_len X
  omega
theorem words_ok (X : List Int) (hl : X.length ≤ 500) (h0 : X ≠ []) (hX : ∀ x ∈ X, Smp x) : F95_d 600 (rowsI X) = some ((wX X).length : Int) := by
  simp only [F95_d, FSpec.d, F95_s, comp_ok X hl h0 hX, rowsW_len]
def nfr (n : Nat) : Nat := (n + 16) / 15
theorem frames_ok (X : List Int) (hl : X.length ≤ 500) (h0 : X ≠ []) (hX : ∀ x ∈ X, Smp x) : F61_d 600 (rowsI X) = some (nfr (wX X).length : Int) := by
  have hp := wX_pos h0
  have hb := (wX_len X).1
  have c : (((wX X).length : Int) == 0) = false := by rw [beq_eq_false_iff_ne]; omega
  have e1 : i64 (((wX X).length : Int) + 2) = (wX X).length + 2 := i64_id (by omega)
  have e2 : i64 (((wX X).length : Int) + 2 + 16) = (wX X).length + 2 + 16 := i64_id (by omega)
  have e3 : i64 (((wX X).length : Int) + 2 + 16 - 2) = (wX X).length + 16 := by rw [i64_id (by omega)]; omega
  have e4 : i64 ((((wX X).length : Int) + 16).tdiv 15) = (nfr (wX X).length : Int) := by
    rw [Int.tdiv_eq_ediv_of_nonneg (by omega), i64_id (by omega)]
    unfold nfr
    omega
  simp only [F61_d, FSpec.d, F61_s, words_ok X hl h0 hX, c, e1, e2, e3, e4]
/-! Words back into differences. -/
def unp (c v : Int) : List Int := if c = 1 then [sgn8 (v / 16777216 % 256), sgn8 (v / 65536 % 256), sgn8 (v / 256 % 256), sgn8 (v % 256)] else if c = 2 then [sgn16 (v / 65536 % 65536), sgn16 (v % 65536)] else if c = 3 then [sgn32 (v % 4294967296)] else []
theorem wds_ok : ∀ (n : Nat) (D : List Int), D.length ≤ n → (∀ x ∈ D, Fit32 x) → ((wds n D).flatMap fun w => unp w.1 w.2) = D ∧ ∀ w ∈ wds n D, (1 ≤ w.1 ∧ w.1 ≤ 3) ∧ (0 ≤ w.2 ∧ w.2 ≤ 4294967295)
  | 0, D, h, h32 => by
    obtain rfl : D = [] := List.length_eq_zero_iff.1 (by omega)
    simp [wds]
  | n + 1, D, h, h32 => by
    unfold wds
    cases D with
    | nil => simp
    | cons a r =>
      simp only [List.isEmpty_cons, Bool.false_eq_true, if_false]
      cases h4 : fitB 4 Fit8 (a :: r) with
      | true =>
        obtain ⟨a', b, c, d, r', e, ha, hb, hc, hd⟩ := fit4_inv h4
        rw [e] at h h32 ⊢
        obtain ⟨ih1, ih2⟩ := wds_ok n r' (by simp at h; omega) (fun x hx => h32 x (by simp [hx]))
        have s1 := sgn8_mod ha
        have s2 := sgn8_mod hb
        have s3 := sgn8_mod hc
        have s4 := sgn8_mod hd
        have ep : p8 (a' :: b :: c :: d :: r') = ((a' % 256 * 256 + b % 256) * 256 + c % 256) * 256 + d % 256 := rfl
        simp only [if_true, List.drop_succ_cons, List.drop_zero, List.flatMap_cons, ep]
        refine ⟨?_, fun w hw => ?_⟩
        · have u : unp 1 (((a' % 256 * 256 + b % 256) * 256 + c % 256) * 256 + d % 256) = [a', b, c, d] := by
            unfold unp
            rw [if_pos rfl, show (((a' % 256 * 256 + b % 256) * 256 + c % 256) * 256 + d % 256) / 16777216 % 256 = a' % 256 by omega, show (((a' % 256 * 256 + b % 256) * 256 + c % 256) * 256 + d % 256) / 65536 % 256 = b % 256 by omega, show (((a' % 256 * 256 + b % 256) * 256 + c % 256) * 256 + d % 256) / 256 % 256 = c % 256 by omega, show (((a' % 256 * 256 + b % 256) * 256 + c % 256) * 256 + d % 256) % 256 = d % 256 by omega, s1, s2, s3, s4]
          rw [u, ih1]; rfl
        · rcases List.mem_cons.1 hw with rfl | hw
          · dsimp only; omega
          · exact ih2 w hw
      | false =>
        simp only [Bool.false_eq_true, if_false]
        cases h2 : fitB 2 Fit16 (a :: r) with
        | true =>
          obtain ⟨a', b, r', e, ha, hb⟩ := fit2_inv h2
          rw [e] at h h32 ⊢
          obtain ⟨ih1, ih2⟩ := wds_ok n r' (by simp at h; omega) (fun x hx => h32 x (by simp [hx]))
          have s1 := sgn16_mod ha
          have s2 := sgn16_mod hb
          have ep : p16 (a' :: b :: r') = a' % 65536 * 65536 + b % 65536 := rfl
          simp only [if_true, List.drop_succ_cons, List.drop_zero, List.flatMap_cons, ep]
          refine ⟨?_, fun w hw => ?_⟩
          · have u : unp 2 (a' % 65536 * 65536 + b % 65536) = [a', b] := by
              unfold unp
              rw [if_neg (by omega), if_pos rfl, show (a' % 65536 * 65536 + b % 65536) / 65536 % 65536 = a' % 65536 by omega, show (a' % 65536 * 65536 + b % 65536) % 65536 = b % 65536 by omega, s1, s2]
            rw [u, ih1]; rfl
          · rcases List.mem_cons.1 hw with rfl | hw
            · dsimp only; omega
            · exact ih2 w hw
        | false =>
          simp only [Bool.false_eq_true, if_false]
          obtain ⟨ih1, ih2⟩ := wds_ok n r (by simp at h; omega) (fun x hx => h32 x (by simp [hx]))
          have ha := h32 a List.mem_cons_self
          have s1 := sgn32_mod ha
          have ep : p32 (a :: r) = a % 4294967296 := rfl
          simp only [List.drop_succ_cons, List.drop_zero, List.flatMap_cons, ep]
          refine ⟨?_, fun w hw => ?_⟩
          · have u : unp 3 (a % 4294967296) = [a] := by
              unfold unp
              rw [if_neg (by omega), if_neg (by omega), if_pos rfl, show a % 4294967296 % 4294967296 = a % 4294967296 by omega, s1]
            rw [u, ih1]; rfl
          · rcases List.mem_cons.1 hw with rfl | hw
            · dsimp only; omega
            · exact ih2 w hw
theorem unp_step (n W : Nat) (hn : 1 ≤ n ∧ n ≤ 4) (hW : i64 ((32 : Int).tdiv (n : Int)) = (W : Int)) (hW2 : 1 ≤ W ∧ W ≤ 32) (sg : Int → Int) (hs : ∀ u, 0 ≤ u → u < 2 ^ W → F105_d 600 (u, (W : Int)) = some (sg u, 0)) (acc : List Int) (ha : acc.length ≤ 1000) (v : Int) (i f : Nat) (hi : i < n) : (F115_l6 600).L (f + 1) (rowsI acc, v, (n : Int), (i : Int)) = (F115_l6 600).L f (rowsI (acc ++ [sg (v / 2 ^ (i * W) % 2 ^ W)]), v, (n : Int), (i : Int) - 1) := by
  show (F115_l6 600).b _ _ ((F115_l6 600).L f) some = _
  obtain ⟨Lf, hL⟩ : ∃ Lf, Lf = (F115_l6 600).L f := ⟨_, rfl⟩
  rw [← hL]
  have hiW : i * W ≤ 60 := by
    have : i * W ≤ 3 * W := Nat.mul_le_mul_right _ (by omega)
    have h2 : n * W ≤ 32 := by
      have hn' : n = 1 ∨ n = 2 ∨ n = 3 ∨ n = 4 := by omega
      have hw1 : (W : Int) = i64 ((32 : Int).tdiv (n : Int)) := hW.symm
      rcases hn' with rfl | rfl | rfl | rfl
      · have : i64 ((32 : Int).tdiv ((1 : Nat) : Int)) = 32 := by kernel_rfl
        omega
      · have : i64 ((32 : Int).tdiv ((2 : Nat) : Int)) = 16 := by kernel_rfl
        omega
      · have : i64 ((32 : Int).tdiv ((3 : Nat) : Int)) = 10 := by kernel_rfl
        omega
      · have : i64 ((32 : Int).tdiv ((4 : Nat) : Int)) = 8 := by kernel_rfl
        omega
    have h3 : i * W ≤ n * W := Nat.mul_le_mul_right _ (by omega)
    omega
  have c1 : decide ((i : Int) ≥ 0) = true := by rw [decide_eq_true_iff]; omega
  have c2 : ¬ ((n : Int) = 0) := by omega
  have e1 : i64 ((i : Int) * (W : Int)) = ((i * W : Nat) : Int) := by
    rw [← Int.natCast_mul, i64_id (by omega)]
  have c3 : ¬ (((i * W : Nat) : Int) < 0) := by omega
  have c4 : ¬ ((W : Int) < 0) := by omega
  have e2 : shR .i64 v ((i * W : Nat) : Int) = v / 2 ^ (i * W) := by
    rw [shR_ok (by omega), Int.toNat_natCast]
  have hp : (1 : Int) ≤ 2 ^ W := Int.pow_pos (by omega)
  have hp2 : (2 : Int) ^ W ≤ 2 ^ 32 := two_le hW2.2
  have e3 : i64 (shL .i64 1 (W : Int) - 1) = 2 ^ W - 1 := by
    have := shL_ok (x := 1) (y := (W : Int)) (by omega) (by rw [Int.toNat_natCast]; omega)
    rw [this, Int.toNat_natCast, i64_id (by omega)]
    omega
  have e4 : bAnd .i64 (v / 2 ^ (i * W)) (2 ^ W - 1) = v / 2 ^ (i * W) % 2 ^ W := bAnd_ok (by omega)
  have e5 := hs (v / 2 ^ (i * W) % 2 ^ W) (Int.emod_nonneg _ (by omega)) (Int.emod_lt_of_pos _ (by omega))
  have e6 : i64 ((i : Int) - 1) = (i : Int) - 1 := i64_id (by omega)
  have hb : ((rowsI acc).length + 1) * 8 ≤ maxBytes := by rw [rowsI_len]; unfold maxBytes; omega
  simp only [F115_l6, c1, c2, if_false, hW, e1, c3, c4, e2, e3, e4, e5, List.length_cons, List.length_nil, Nat.zero_add, hb, if_true, rowsI_snoc, e6]
  first | exact if_pos trivial | exact if_neg (fun h => h) | rfl
theorem unp_end (acc : List Int) (v n : Int) (f : Nat) : (F115_l6 600).L (f + 1) (rowsI acc, v, n, -1) = some (rowsI acc) := by
  show (F115_l6 600).b _ _ ((F115_l6 600).L f) some = _
  have c : decide ((-1 : Int) ≥ 0) = false := rfl
  simp only [F115_l6, c]
theorem unp_ok {c v : Int} (hc : 0 ≤ c ∧ c ≤ 3) (hv : 0 ≤ v ∧ v ≤ 4294967295) : F115_d 600 (c, v) = some (rowsI (unp c v)) := by
  have hcnt : F92_d 600 () = some (0, 4, 2, 1) := rfl
  have hcs : c = 0 ∨ c = 1 ∨ c = 2 ∨ c = 3 := by omega
  rcases hcs with rfl | rfl | rfl | rfl
  · have c2 : (0 : Int) ≤ 0 ∧ (0 : Int) < 4 := by omega
    have e1 : [AV.v (.int .i64 0), AV.v (.int .i64 4), AV.v (.int .i64 2), AV.v (.int .i64 1)][(0 : Int).toNat * 1]? = some (AV.v (.int .i64 0)) := rfl
    have e2 : i64 ((0 : Int) - 1) = -1 := by kernel_rfl
    have r := unp_end [] v 0 599
    replace r : (F115_l6 600).L 600 (([] : List (List AV)), v, 0, -1) = some (rowsI []) := r
    have u : unp 0 v = [] := rfl
    simp only [F115_d, FSpec.d, F115_s, hcnt, c2, and_self, if_true, e1, e2, F115_d6, r, u]
  · have c2 : (0 : Int) ≤ 1 ∧ (1 : Int) < 4 := by omega
    have e1 : [AV.v (.int .i64 0), AV.v (.int .i64 4), AV.v (.int .i64 2), AV.v (.int .i64 1)][(1 : Int).toNat * 1]? = some (AV.v (.int .i64 4)) := rfl
    have e2 : i64 ((4 : Int) - 1) = 3 := by kernel_rfl
    have hW : i64 ((32 : Int).tdiv ((4 : Nat) : Int)) = ((8 : Nat) : Int) := by kernel_rfl
    have hs : ∀ u, 0 ≤ u → u < 2 ^ 8 → F105_d 600 (u, ((8 : Nat) : Int)) = some (sgn8 u, 0) := fun u h1 h2 => sign8 ⟨h1, by omega⟩
    have s1 := unp_step 4 8 (by omega) hW (by omega) sgn8 hs [] (by simp) v 3 599 (by omega)
    have s2 := unp_step 4 8 (by omega) hW (by omega) sgn8 hs ([] ++ [sgn8 (v / 2 ^ (3 * 8) % 2 ^ 8)]) (by simp) v 2 598 (by omega)
    have s3 := unp_step 4 8 (by omega) hW (by omega) sgn8 hs ([] ++ [sgn8 (v / 2 ^ (3 * 8) % 2 ^ 8)] ++ [sgn8 (v / 2 ^ (2 * 8) % 2 ^ 8)]) (by simp) v 1 597 (by omega)
    have s4 := unp_step 4 8 (by omega) hW (by omega) sgn8 hs ([] ++ [sgn8 (v / 2 ^ (3 * 8) % 2 ^ 8)] ++ [sgn8 (v / 2 ^ (2 * 8) % 2 ^ 8)] ++ [sgn8 (v / 2 ^ (1 * 8) % 2 ^ 8)]) (by simp) v 0 596 (by omega)
    have s5 := unp_end ([] ++ [sgn8 (v / 2 ^ (3 * 8) % 2 ^ 8)] ++ [sgn8 (v / 2 ^ (2 * 8) % 2 ^ 8)] ++ [sgn8 (v / 2 ^ (1 * 8) % 2 ^ 8)] ++ [sgn8 (v / 2 ^ (0 * 8) % 2 ^ 8)]) v 4 595
    have r : (F115_l6 600).L 600 (([] : List (List AV)), v, 4, 3) = _ := s1.trans (s2.trans (s3.trans (s4.trans s5)))
    have u : unp 1 v = [] ++ [sgn8 (v / 2 ^ (3 * 8) % 2 ^ 8)] ++ [sgn8 (v / 2 ^ (2 * 8) % 2 ^ 8)] ++ [sgn8 (v / 2 ^ (1 * 8) % 2 ^ 8)] ++ [sgn8 (v / 2 ^ (0 * 8) % 2 ^ 8)] := by
      show [_, _, _, sgn8 (v % 256)] = [_, _, _, sgn8 (v / 1 % 256)]
      rw [Int.ediv_one]
      rfl
    simp only [F115_d, FSpec.d, F115_s, hcnt, c2, and_self, if_true, e1, e2, F115_d6, r, u]
  · have c2 : (0 : Int) ≤ 2 ∧ (2 : Int) < 4 := by omega
    have e1 : [AV.v (.int .i64 0), AV.v (.int .i64 4), AV.v (.int .i64 2), AV.v (.int .i64 1)][(2 : Int).toNat * 1]? = some (AV.v (.int .i64 2)) := rfl
    have e2 : i64 ((2 : Int) - 1) = 1 := by kernel_rfl
    have hW : i64 ((32 : Int).tdiv ((2 : Nat) : Int)) = ((16 : Nat) : Int) := by kernel_rfl
    have hs : ∀ u, 0 ≤ u → u < 2 ^ 16 → F105_d 600 (u, ((16 : Nat) : Int)) = some (sgn16 u, 0) := fun u h1 h2 => sign16 ⟨h1, by omega⟩
    have s1 := unp_step 2 16 (by omega) hW (by omega) sgn16 hs [] (by simp) v 1 599 (by omega)
    have s2 := unp_step 2 16 (by omega) hW (by omega) sgn16 hs ([] ++ [sgn16 (v / 2 ^ (1 * 16) % 2 ^ 16)]) (by simp) v 0 598 (by omega)
    have s5 := unp_end ([] ++ [sgn16 (v / 2 ^ (1 * 16) % 2 ^ 16)] ++ [sgn16 (v / 2 ^ (0 * 16) % 2 ^ 16)]) v 2 597
    have r : (F115_l6 600).L 600 (([] : List (List AV)), v, 2, 1) = _ := s1.trans (s2.trans s5)
    have u : unp 2 v = [] ++ [sgn16 (v / 2 ^ (1 * 16) % 2 ^ 16)] ++ [sgn16 (v / 2 ^ (0 * 16) % 2 ^ 16)] := by
      show [_, sgn16 (v % 65536)] = [_, sgn16 (v / 1 % 65536)]
      rw [Int.ediv_one]
      rfl
    simp only [F115_d, FSpec.d, F115_s, hcnt, c2, and_self, if_true, e1, e2, F115_d6, r, u]
  · have c2 : (0 : Int) ≤ 3 ∧ (3 : Int) < 4 := by omega
    have e1 : [AV.v (.int .i64 0), AV.v (.int .i64 4), AV.v (.int .i64 2), AV.v (.int .i64 1)][(3 : Int).toNat * 1]? = some (AV.v (.int .i64 1)) := rfl
    have e2 : i64 ((1 : Int) - 1) = 0 := by kernel_rfl
    have hW : i64 ((32 : Int).tdiv ((1 : Nat) : Int)) = ((32 : Nat) : Int) := by kernel_rfl
    have hs : ∀ u, 0 ≤ u → u < 2 ^ 32 → F105_d 600 (u, ((32 : Nat) : Int)) = some (sgn32 u, 0) := fun u h1 h2 => sign32 ⟨h1, by omega⟩
    have s1 := unp_step 1 32 (by omega) hW (by omega) sgn32 hs [] (by simp) v 0 599 (by omega)
    have s5 := unp_end ([] ++ [sgn32 (v / 2 ^ (0 * 32) % 2 ^ 32)]) v 1 598
    have r : (F115_l6 600).L 600 (([] : List (List AV)), v, 1, 0) = _ := s1.trans s5
    have u : unp 3 v = [] ++ [sgn32 (v / 2 ^ (0 * 32) % 2 ^ 32)] := by
      show [sgn32 (v % 4294967296)] = [sgn32 (v / 1 % 4294967296)]
      rw [Int.ediv_one]
    simp only [F115_d, FSpec.d, F115_s, hcnt, c2, and_self, if_true, e1, e2, F115_d6, r, u]
end Go.Proofs.YtdmedeaknnldcaaGreatDoor
/- Steim, the plain law: Codes, decompress, Decode of any string. -/
namespace Go.Proofs.YtdmedeaknnldcaaGreatDoor
open Go.RowKit
set_option linter.unusedVariables false
set_option linter.unusedSimpArgs false
set_option linter.unnecessarySimpa false
theorem nums_ext (s : ByteArray) (a b : Nat) : nums (s.extract a b) = ((nums s).take b).drop a := by
  simp [nums, List.map_take, List.map_drop, List.drop_take]
theorem ext_size (s : ByteArray) (a b : Nat) (h : b ≤ s.size) : (s.extract a b).size = b - a := by
  rw [← nums_len, nums_ext]
  simp [nums_len]
  omega
theorem num_ext (s : ByteArray) (a b m : Nat) (h : a + m < b) : (nums (s.extract a b)).getD m 0 = (nums s).getD (a + m) 0 := by
  rw [nums_ext]
  simp only [List.getD_eq_getElem?_getD, List.getElem?_drop, List.getElem?_take]
  rw [if_pos h]
theorem get4_ext (s : ByteArray) (a b m : Nat) (h : a + m + 4 ≤ b) : get4 (s.extract a b) m = get4 s (a + m) := by
  unfold get4
  rw [num_ext s a b m (by omega), num_ext s a b (m + 1) (by omega), num_ext s a b (m + 2) (by omega), num_ext s a b (m + 3) (by omega)]
  rfl
def codA (s : ByteArray) (k i : Nat) : Int := get4 s (64 * k) / 2 ^ (30 - 2 * i) % 4
def wdA (s : ByteArray) (k i : Nat) : Int := get4 s (64 * k + 4 * i)
theorem codA_rng (s : ByteArray) (k i : Nat) : 0 ≤ codA s k i ∧ codA s k i ≤ 3 := by
  unfold codA
  omega
/-! Codes. -/
theorem cod_loop (w : Int) (hw : 0 ≤ w ∧ w ≤ 4294967295) : ∀ (k i f : Nat), k < f → i + k = 16 → (F114_l10 600).L f (rowsI ((List.range i).map fun j => w / 2 ^ (30 - 2 * j) % 4), w, (i : Int)) = some (rowsI ((List.range 16).map fun j => w / 2 ^ (30 - 2 * j) % 4))
  | 0, i, f, hf, hi => by
    obtain ⟨f, rfl⟩ : ∃ f', f = f' + 1 := ⟨f - 1, by omega⟩
    obtain rfl : i = 16 := by omega
    show (F114_l10 600).b _ _ ((F114_l10 600).L f) some = _
    have c : decide (((16 : Nat) : Int) < 16) = false := rfl
    simp only [F114_l10, c]
  | k + 1, i, f, hf, hi => by
    obtain ⟨f, rfl⟩ : ∃ f', f = f' + 1 := ⟨f - 1, by omega⟩
    have r1 := cod_loop w hw k (i + 1) f (by omega) (by omega)
    show (F114_l10 600).b _ _ ((F114_l10 600).L f) some = _
    obtain ⟨Lf, hL⟩ : ∃ Lf, Lf = (F114_l10 600).L f := ⟨_, rfl⟩
    rw [← hL] at r1 ⊢
    have c1 : decide ((i : Int) < 16) = true := by rw [decide_eq_true_iff]; omega
    have c4 : i64 ((i : Int) + 1) = ((i + 1 : Nat) : Int) := by rw [i64_id (by omega)]; omega
    have hb : ((rowsI ((List.range i).map fun j => w / 2 ^ (30 - 2 * j) % 4)).length + 1) * 8 ≤ maxBytes := by
      rw [rowsI_len]; simp; unfold maxBytes; omega
    have e : (List.range (i + 1)).map (fun j => w / 2 ^ (30 - 2 * j) % 4) = (List.range i).map (fun j => w / 2 ^ (30 - 2 * j) % 4) ++ [w / 2 ^ (30 - 2 * i) % 4] := by
      rw [List.range_succ, List.map_append]; rfl
    rw [e] at r1
    simp only [F114_l10, c1, pair_ok hw (show i ≤ 15 by omega), List.length_cons, List.length_nil, Nat.zero_add, hb, if_true, rowsI_snoc, c4]
    exact r1
theorem codes_ok (f : ByteArray) (h : f.size = 64) : F114_d 600 f = some (rowsI ((List.range 16).map fun j => get4 f 0 / 2 ^ (30 - 2 * j) % 4), 0) := by
  have c : ((f.size : Int) != 64) = false := by rw [h]; rfl
  have g := get4_ok f 0 (by omega) (by omega) (by omega)
  have r := cod_loop (get4 f 0) (get4_rng f 0) 16 0 600 (by omega) rfl
  replace r : (F114_l10 600).L 600 (([] : List (List AV)), get4 f 0, 0) = _ := r
  replace g : F100_d 600 (f, 0, 4) = some (get4 f 0, 0) := g
  simp only [F114_d, FSpec.d, F114_s, c, g, F114_d10, r]
/-! A frame's differences. -/
def frm (s : ByteArray) (k n : Nat) : List Int := (List.range n).flatMap fun j => unp (codA s k (j + 1)) (wdA s k (j + 1))
theorem unp_len (c v : Int) : (unp c v).length ≤ 4 := by
  unfold unp
  split
  · simp
  · split
    · simp
    · split <;> simp
theorem frm_succ (s : ByteArray) (k n : Nat) : frm s k (n + 1) = frm s k n ++ unp (codA s k (n + 1)) (wdA s k (n + 1)) := by
  unfold frm
  rw [List.range_succ, List.flatMap_append]
  simp
theorem frm_len (s : ByteArray) (k : Nat) : ∀ n, (frm s k n).length ≤ 4 * n
  | 0 => by simp [frm]
  | n + 1 => by
    have h1 := frm_len s k n
    have h2 := unp_len (codA s k (n + 1)) (wdA s k (n + 1))
    rw [frm_succ, List.length_append]
    omega
theorem frm_loop (s : ByteArray) (hs : s.size ≤ 900000) (k : Nat) (hk : 64 * k + 64 ≤ s.size) (acc : List Int) (ha : acc.length ≤ 100000) (x6 : Int) : ∀ (m n f : Nat), m < f → n + m = 15 →
    (F103_l25 600).L f (rowsI (acc ++ frm s k n), rowsI ((List.range 16).map fun j => get4 s (64 * k) / 2 ^ (30 - 2 * j) % 4), s, s.extract (64 * k) (64 * k + 64), ((n + 1 : Nat) : Int), x6, (k : Int)) = some (rowsI (acc ++ frm s k 15), s, x6, (k : Int))
  | 0, n, f, hf, hi => by
    obtain ⟨f, rfl⟩ : ∃ f', f = f' + 1 := ⟨f - 1, by omega⟩
    obtain rfl : n = 15 := by omega
    show (F103_l25 600).b _ _ ((F103_l25 600).L f) some = _
    have c : decide (((15 + 1 : Nat) : Int) < 16) = false := rfl
    simp only [F103_l25, c]
  | m + 1, n, f, hf, hi => by
    obtain ⟨f, rfl⟩ : ∃ f', f = f' + 1 := ⟨f - 1, by omega⟩
    have r1 := frm_loop s hs k hk acc ha x6 m (n + 1) f (by omega) (by omega)
    show (F103_l25 600).b _ _ ((F103_l25 600).L f) some = _
    obtain ⟨Lf, hL⟩ : ∃ Lf, Lf = (F103_l25 600).L f := ⟨_, rfl⟩
    rw [← hL] at r1 ⊢
    have c1 : decide (((n + 1 : Nat) : Int) < 16) = true := by rw [decide_eq_true_iff]; omega
    have c2 : (0 : Int) ≤ ((n + 1 : Nat) : Int) := by omega
    have e1 : i64 (((n + 1 : Nat) : Int) * 4) = ((4 * (n + 1) : Nat) : Int) := by rw [i64_id (by omega)]; omega
    have hsz := ext_size s (64 * k) (64 * k + 64) hk
    have g := get4_ok (s.extract (64 * k) (64 * k + 64)) (4 * (n + 1)) (by omega) (by omega) (by omega)
    rw [get4_ext s (64 * k) (64 * k + 64) (4 * (n + 1)) (by omega)] at g
    have e2 : (rowsI ((List.range 16).map fun j => get4 s (64 * k) / 2 ^ (30 - 2 * j) % 4))[n + 1]? = some [I (codA s k (n + 1))] := by
      rw [rowsI_get _ _ (by simp; omega)]
      simp [codA]
    unfold I at e2
    have e3 := unp_ok (codA_rng s k (n + 1)) (get4_rng s (64 * k + 4 * (n + 1)))
    have l1 := unp_len (codA s k (n + 1)) (wdA s k (n + 1))
    have l2 := frm_len s k n
    have hb : ((rowsI (acc ++ frm s k n)).length + (rowsI (unp (codA s k (n + 1)) (get4 s (64 * k + 4 * (n + 1))))).length) * 8 ≤ maxBytes := by
      rw [rowsI_len, rowsI_len, List.length_append]
      unfold wdA at l1
      unfold maxBytes
      omega
    have c4 : i64 (((n + 1 : Nat) : Int) + 1) = ((n + 1 + 1 : Nat) : Int) := by rw [i64_id (by omega)]; omega
    rw [frm_succ, ← List.append_assoc, ← rowsI_app] at r1
    simp only [F103_l25, c1, e1, g, c2, if_true, Int.toNat_natCast, e2, List.getElem?_cons_zero, e3, hb, c4]
    exact r1
def badf (s : ByteArray) (k : Nat) : Bool := codA s k 0 != 0 || (decide (k = 0) && (codA s k 1 != 0 || codA s k 2 != 0))
def frms (s : ByteArray) : Nat → Nat → List Int
  | _, 0 => []
  | k, j + 1 => frm s k 15 ++ frms s (k + 1) j
def bads (s : ByteArray) : Nat → Nat → Bool
  | _, 0 => false
  | k, j + 1 => badf s k || bads s (k + 1) j
theorem cod_at (s : ByteArray) (k i : Nat) (hi : i < 16) : (rowsI ((List.range 16).map fun j => get4 s (64 * k) / 2 ^ (30 - 2 * j) % 4))[i]? = some [AV.v (.int .i64 (codA s k i))] := by
  rw [rowsI_get _ _ (by simp; omega)]
  simp [codA]
theorem dcm_loop (s : ByteArray) (hs : s.size ≤ 900000) (n : Nat) (hn : n ≤ 8) (hns : 64 * n ≤ s.size) : ∀ (j k f : Nat) (acc : List Int), j < f → k + j = n → acc.length ≤ 60 * k →
    ((bads s k j = false ∧ (F103_l10 600).L f (rowsI acc, s, (n : Int), (k : Int)) = some (.inr (rowsI (acc ++ frms s k j)))) ∨ (bads s k j = true ∧ ∃ z, (F103_l10 600).L f (rowsI acc, s, (n : Int), (k : Int)) = some (.inl (z, [], false))))
  | 0, k, f, acc, hf, hk, ha => by
    obtain ⟨f, rfl⟩ : ∃ f', f = f' + 1 := ⟨f - 1, by omega⟩
    refine .inl ⟨rfl, ?_⟩
    show (F103_l10 600).b _ _ ((F103_l10 600).L f) some = _
    have c : decide ((k : Int) < (n : Int)) = false := by rw [decide_eq_false_iff_not]; omega
    simp only [F103_l10, c, frms, List.append_nil]
  | j + 1, k, f, acc, hf, hk, ha => by
    obtain ⟨f, rfl⟩ : ∃ f', f = f' + 1 := ⟨f - 1, by omega⟩
    have hks : 64 * k + 64 ≤ s.size := by omega
    have c1 : decide ((k : Int) < (n : Int)) = true := by rw [decide_eq_true_iff]; omega
    have e1 : i64 ((k : Int) * 64) = ((64 * k : Nat) : Int) := by rw [i64_id (by omega)]; omega
    have e2 : i64 ((k : Int) + 1) = ((k + 1 : Nat) : Int) := by rw [i64_id (by omega)]; omega
    have e3 : i64 (((k + 1 : Nat) : Int) * 64) = ((64 * k + 64 : Nat) : Int) := by rw [i64_id (by omega)]; omega
    have c2 : (0 : Int) ≤ ((64 * k : Nat) : Int) ∧ ((64 * k : Nat) : Int) ≤ ((64 * k + 64 : Nat) : Int) ∧ ((64 * k + 64 : Nat) : Int) ≤ (s.size : Int) := by omega
    have hsz := ext_size s (64 * k) (64 * k + 64) hks
    have g := codes_ok (s.extract (64 * k) (64 * k + 64)) (by omega)
    rw [get4_ext s (64 * k) (64 * k + 64) 0 (by omega)] at g
    simp only [Nat.add_zero] at g
    have z0 : (0 : Int) ≤ 0 := by omega
    have z1 : (0 : Int) ≤ 1 := by omega
    have z2 : (0 : Int) ≤ 2 := by omega
    have t0 : (0 : Int).toNat = 0 := rfl
    have t1 : (1 : Int).toNat = 1 := rfl
    have t2 : (2 : Int).toNat = 2 := rfl
    have a0 := cod_at s k 0 (by omega)
    have a1 := cod_at s k 1 (by omega)
    have a2 := cod_at s k 2 (by omega)
    have hfr := frm_loop s hs k hks acc (by omega) (n : Int) 15 0 600 (by omega) rfl
    have e4 : frm s k 0 = [] := rfl
    rw [e4, List.append_nil] at hfr
    replace hfr : (F103_l25 600).L 600 (rowsI acc, rowsI ((List.range 16).map fun j => get4 s (64 * k) / 2 ^ (30 - 2 * j) % 4), s, s.extract (64 * k) (64 * k + 64), 1, (n : Int), (k : Int)) = _ := hfr
    have l2 := frm_len s k 15
    by_cases b0 : codA s k 0 = 0
    · have n0 : (codA s k 0 != 0) = false := by simp [b0]
      have go : (bads s (k + 1) j = false ∧ (F103_l10 600).L f (rowsI (acc ++ frm s k 15), s, (n : Int), ((k + 1 : Nat) : Int)) = some (.inr (rowsI (acc ++ frm s k 15 ++ frms s (k + 1) j)))) ∨ (bads s (k + 1) j = true ∧ ∃ z, (F103_l10 600).L f (rowsI (acc ++ frm s k 15), s, (n : Int), ((k + 1 : Nat) : Int)) = some (.inl (z, [], false))) :=
        dcm_loop s hs n hn hns j (k + 1) f (acc ++ frm s k 15) (by omega) (by omega) (by rw [List.length_append]; omega)
      have fin : badf s k = false → (F103_l10 600).L (f + 1) (rowsI acc, s, (n : Int), (k : Int)) = (F103_l10 600).L f (rowsI (acc ++ frm s k 15), s, (n : Int), ((k + 1 : Nat) : Int)) → ((bads s k (j + 1) = false ∧ (F103_l10 600).L (f + 1) (rowsI acc, s, (n : Int), (k : Int)) = some (.inr (rowsI (acc ++ frms s k (j + 1))))) ∨ (bads s k (j + 1) = true ∧ ∃ z, (F103_l10 600).L (f + 1) (rowsI acc, s, (n : Int), (k : Int)) = some (.inl (z, [], false)))) := fun hb hst => by
        rw [hst]
        have e5 : bads s k (j + 1) = bads s (k + 1) j := by show (badf s k || bads s (k + 1) j) = _; rw [hb]; rfl
        have e6 : acc ++ frms s k (j + 1) = acc ++ frm s k 15 ++ frms s (k + 1) j := by rw [List.append_assoc]; rfl
        rw [e5, e6]
        exact go
      by_cases k0 : k = 0
      · subst k0
        have m0 : (((0 : Nat) : Int) == 0) = true := rfl
        by_cases b1 : codA s 0 1 = 0
        · have n1 : (codA s 0 1 != 0) = false := by simp [b1]
          by_cases b2 : codA s 0 2 = 0
          · have n2 : (codA s 0 2 != 0) = false := by simp [b2]
            refine fin (by simp [badf, b0, b1, b2]) ?_
            show (F103_l10 600).b _ _ ((F103_l10 600).L f) some = _
            obtain ⟨Lf, hL⟩ : ∃ Lf, Lf = (F103_l10 600).L f := ⟨_, rfl⟩
            rw [← hL]
            simp only [F103_l10, c1, e1, e2, e3, c2, and_self, if_true, Int.toNat_natCast, g, z0, z1, z2, t0, t1, t2, a0, a1, a2, List.getElem?_cons_zero, n0, n1, n2, m0, F103_d25, hfr]
            first | exact if_pos trivial | rfl
          · have n2 : (codA s 0 2 != 0) = true := by simp [b2]
            refine .inr ⟨by simp [bads, badf, b2], rowsI acc, ?_⟩
            show (F103_l10 600).b _ _ ((F103_l10 600).L f) some = _
            simp only [F103_l10, c1, e1, e2, e3, c2, and_self, if_true, Int.toNat_natCast, g, z0, z1, z2, t0, t1, t2, a0, a1, a2, List.getElem?_cons_zero, n0, n1, n2, m0]
        · have n1 : (codA s 0 1 != 0) = true := by simp [b1]
          refine .inr ⟨by simp [bads, badf, b1], rowsI acc, ?_⟩
          show (F103_l10 600).b _ _ ((F103_l10 600).L f) some = _
          simp only [F103_l10, c1, e1, e2, e3, c2, and_self, if_true, Int.toNat_natCast, g, z0, z1, z2, t0, t1, t2, a0, a1, a2, List.getElem?_cons_zero, n0, n1, m0]
      · have m0 : ((k : Int) == 0) = false := by rw [beq_eq_false_iff_ne]; omega
        refine fin (by simp [badf, b0, k0]) ?_
        show (F103_l10 600).b _ _ ((F103_l10 600).L f) some = _
        obtain ⟨Lf, hL⟩ : ∃ Lf, Lf = (F103_l10 600).L f := ⟨_, rfl⟩
        rw [← hL]
        simp only [F103_l10, c1, e1, e2, e3, c2, and_self, if_true, Int.toNat_natCast, g, z0, t0, a0, List.getElem?_cons_zero, n0, m0, F103_d25, hfr]
        first | exact if_pos trivial | rfl
    · have n0 : (codA s k 0 != 0) = true := by simp [b0]
      refine .inr ⟨by simp [bads, badf, b0], rowsI acc, ?_⟩
      show (F103_l10 600).b _ _ ((F103_l10 600).L f) some = _
      simp only [F103_l10, c1, e1, e2, e3, c2, and_self, if_true, Int.toNat_natCast, g, z0, t0, a0, List.getElem?_cons_zero, n0]
def dcm (s : ByteArray) : Option (List Int) := if s.size % 64 = 0 ∧ 1 ≤ s.size / 64 ∧ s.size / 64 ≤ 8 ∧ bads s 0 (s.size / 64) = false then some (frms s 0 (s.size / 64)) else none
theorem dcm_ok (s : ByteArray) (hs : s.size ≤ 900000) : F103_d 600 s = some (match dcm s with | some D => (rowsI D, true) | none => ([], false)) := by
  have t1 : (s.size : Int).tmod 64 = ((s.size % 64 : Nat) : Int) := by rw [Int.tmod_eq_emod_of_nonneg (by omega)]; omega
  have t2 : i64 ((s.size : Int).tdiv 64) = ((s.size / 64 : Nat) : Int) := by rw [Int.tdiv_eq_ediv_of_nonneg (by omega), i64_id (by omega)]; omega
  simp only [F103_d, FSpec.d, F103_s, t1, t2]
  by_cases h1 : s.size % 64 = 0
  · have c1 : (((s.size % 64 : Nat) : Int) != 0) = false := by simp [h1]
    simp only [c1]
    by_cases h2 : 1 ≤ s.size / 64 ∧ s.size / 64 ≤ 8
    · have c2 : F102_d 600 (((s.size / 64 : Nat) : Int), 1, 8) = some true := sin_yes (by omega)
      simp only [c2, Bool.not_true, F103_d10]
      rcases dcm_loop s hs (s.size / 64) h2.2 (by omega) (s.size / 64) 0 600 [] (by omega) (by omega) (by simp) with ⟨q1, q2⟩ | ⟨q1, z, q2⟩
      · replace q2 : (F103_l10 600).L 600 (([] : List (List AV)), s, ((s.size / 64 : Nat) : Int), 0) = some (.inr (rowsI (frms s 0 (s.size / 64)))) := q2
        have e : dcm s = some (frms s 0 (s.size / 64)) := if_pos ⟨h1, h2.1, h2.2, q1⟩
        simp only [q2, e]
      · replace q2 : (F103_l10 600).L 600 (([] : List (List AV)), s, ((s.size / 64 : Nat) : Int), 0) = some (.inl (z, [], false)) := q2
        have e : dcm s = none := if_neg (fun h => by rw [q1] at h; exact absurd h.2.2.2 (by simp))
        simp only [q2, e]
    · have c2 : F102_d 600 (((s.size / 64 : Nat) : Int), 1, 8) = some false := sin_no (by omega)
      have e : dcm s = none := if_neg (fun h => h2 ⟨h.2.1, h.2.2.1⟩)
      simp only [c2, Bool.not_false, e]
  · have c1 : (((s.size % 64 : Nat) : Int) != 0) = true := by rw [bne_iff_ne]; omega
    have e : dcm s = none := if_neg (fun h => h1 h.1)
    simp only [c1, e]
end Go.Proofs.YtdmedeaknnldcaaGreatDoor
/- Steim, the plain law: Decode of any string and count. -/
namespace Go.Proofs.YtdmedeaknnldcaaGreatDoor
open Go.RowKit
set_option linter.unusedVariables false
set_option linter.unusedSimpArgs false
set_option linter.unnecessarySimpa false
theorem unp_fit {c v : Int} : ∀ x ∈ unp c v, Fit32 x := by
  intro x hx
  have f8 : ∀ u, 0 ≤ u ∧ u < 256 → Fit32 (sgn8 u) := fun u h => by
    have := sgn8_fit h
    unfold Fit8 at this
    unfold Fit32
    omega
  have f16 : ∀ u, 0 ≤ u ∧ u < 65536 → Fit32 (sgn16 u) := fun u h => by
    have := sgn16_fit h
    unfold Fit16 at this
    unfold Fit32
    omega
  have f32 : ∀ u, 0 ≤ u ∧ u < 4294967296 → Fit32 (sgn32 u) := fun u h => sgn32_fit h
  unfold unp at hx
  split at hx
  · simp only [List.mem_cons, List.not_mem_nil, or_false] at hx
    rcases hx with rfl | rfl | rfl | rfl <;> exact f8 _ (by omega)
  · split at hx
    · simp only [List.mem_cons, List.not_mem_nil, or_false] at hx
      rcases hx with rfl | rfl <;> exact f16 _ (by omega)
    · split at hx
      · simp only [List.mem_cons, List.not_mem_nil, or_false] at hx
        subst hx
        exact f32 _ (by omega)
      · cases hx
theorem frms_fit (s : ByteArray) : ∀ (j k : Nat), ∀ x ∈ frms s k j, Fit32 x
  | 0, k, x, h => by cases h
  | j + 1, k, x, h => by
    rcases List.mem_append.1 h with h | h
    · unfold frm at h
      obtain ⟨i, -, hi⟩ := List.mem_flatMap.1 h
      exact unp_fit x hi
    · exact frms_fit s j (k + 1) x h
theorem frms_len (s : ByteArray) : ∀ (j k : Nat), (frms s k j).length ≤ 60 * j
  | 0, k => by simp [frms]
  | j + 1, k => by
    have h1 := frm_len s k 15
    have h2 := frms_len s j (k + 1)
    show (frm s k 15 ++ frms s (k + 1) j).length ≤ _
    rw [List.length_append]
    omega
/-- The samples from the first one and the differences. -/
def sm (e : Int) (D : List Int) : Nat → Int
  | 0 => e
  | i + 1 => sm e D i + D.getD (i + 1) 0
def sms (e : Int) (D : List Int) (n : Nat) : List Int := (List.range n).map (sm e D)
theorem sms_len (e : Int) (D : List Int) (n : Nat) : (sms e D n).length = n := by simp [sms]
theorem sms_get (e : Int) (D : List Int) (n i : Nat) (h : i < n) : (sms e D n)[i]'(by rw [sms_len]; exact h) = sm e D i := by simp [sms]
theorem sm_rng {e : Int} {D : List Int} (he : Fit32 e) (hD : ∀ x ∈ D, Fit32 x) : ∀ i : Nat, -2147483648 * ((i : Int) + 1) ≤ sm e D i ∧ sm e D i ≤ 2147483648 * ((i : Int) + 1)
  | 0 => by
    unfold Fit32 at he
    show _ ≤ e ∧ e ≤ _
    omega
  | i + 1 => by
    have ih := sm_rng he hD i
    have hd : Fit32 (D.getD (i + 1) 0) := by
      by_cases h : i + 1 < D.length
      · rw [List.getD_eq_getElem?_getD, List.getElem?_eq_getElem h]
        exact hD _ (List.getElem_mem h)
      · rw [List.getD_eq_getElem?_getD, List.getElem?_eq_none (by omega)]
        unfold Fit32
        simp
    unfold Fit32 at hd
    show _ ≤ sm e D i + D.getD (i + 1) 0 ∧ sm e D i + D.getD (i + 1) 0 ≤ _
    omega
theorem end_ok (s : ByteArray) (hs : s.size ≤ 900000) (i : Nat) (hi : i ≤ 2) (h : 64 ≤ s.size) : F104_d 600 ((i : Int), s) = some (sgn32 (get4 s (4 * i)), s) := by
  have e1 : i64 ((i : Int) * 4) = ((4 * i : Nat) : Int) := by rw [i64_id (by omega)]; omega
  have g := get4_ok s (4 * i) (by omega) (by omega) (by omega)
  have r := get4_rng s (4 * i)
  have q := sign32 (v := get4 s (4 * i)) ⟨r.1, by omega⟩
  simp only [F104_d, FSpec.d, F104_s, e1, g, q]
theorem cellsI_get (l : List Int) (i : Nat) (h : i < l.length) : (cellsI l)[i]? = some (AV.v (.int .i64 l[i])) := by
  simp [cellsI, h]
theorem sum_loop (s : ByteArray) {e : Int} {D : List Int} (he : Fit32 e) (hD : ∀ x ∈ D, Fit32 x) (n : Nat) (hn : n ≤ 420) (hnD : n ≤ D.length) : ∀ (k i f : Nat), k < f → i + k = n → 1 ≤ i →
    (F75_l20 600).L f (rowsI D, (n : Int), n, (i : Int), s, cellsI ((sms e D n).take i ++ List.replicate (n - i) 0)) = some ((n : Int), n, s, cellsI (sms e D n))
  | 0, i, f, hf, hi, h1 => by
    obtain ⟨f, rfl⟩ : ∃ f', f = f' + 1 := ⟨f - 1, by omega⟩
    show (F75_l20 600).b _ _ ((F75_l20 600).L f) some = _
    have c : decide ((i : Int) < (n : Int)) = false := by rw [decide_eq_false_iff_not]; omega
    have e0 : (sms e D n).take i ++ List.replicate (n - i) 0 = sms e D n := by
      rw [List.take_of_length_le (by rw [sms_len]; omega), show n - i = 0 by omega]
      simp
    simp only [F75_l20, c, e0, cellsI_dat]
  | k + 1, i, f, hf, hi, h1 => by
    obtain ⟨f, rfl⟩ : ∃ f', f = f' + 1 := ⟨f - 1, by omega⟩
    obtain ⟨j, rfl⟩ : ∃ j, i = j + 1 := ⟨i - 1, by omega⟩
    have r1 := sum_loop s he hD n hn hnD k (j + 1 + 1) f (by omega) (by omega) (by omega)
    show (F75_l20 600).b _ _ ((F75_l20 600).L f) some = _
    obtain ⟨Lf, hL⟩ : ∃ Lf, Lf = (F75_l20 600).L f := ⟨_, rfl⟩
    rw [← hL] at r1 ⊢
    have hlt : j + 1 < n := by omega
    have hltD : j + 1 < D.length := by omega
    have c1 : decide (((j + 1 : Nat) : Int) < (n : Int)) = true := by rw [decide_eq_true_iff]; omega
    have c2 : (0 : Int) ≤ ((j + 1 : Nat) : Int) := by omega
    have c3 : i64 (((j + 1 : Nat) : Int) - 1) = (j : Int) := by rw [i64_id (by omega)]; omega
    have c4 : i64 (((j + 1 : Nat) : Int) + 1) = ((j + 1 + 1 : Nat) : Int) := by rw [i64_id (by omega)]; omega
    have c5 : (0 : Int) ≤ (j : Int) ∧ (j : Int) < (n : Int) := by omega
    have c6 : (0 : Int) ≤ ((j + 1 : Nat) : Int) ∧ ((j + 1 : Nat) : Int) < (n : Int) := by omega
    have b1 := sm_rng he hD (j + 1)
    have eD : D.getD (j + 1) 0 = D[j + 1] := by simp [List.getD, hltD]
    have es : sm e D (j + 1) = sm e D j + D[j + 1] := by rw [← eD]; rfl
    have e1 : i64 (sm e D j + D[j + 1]) = (sms e D n)[j + 1]'(by rw [sms_len]; exact hlt) := by
      rw [← es, sms_get e D n (j + 1) hlt]
      exact i64_id (by omega)
    have e2 : (0 + (j + 1)) * 1 = j + 1 := by omega
    have e3 : (0 + j) * 1 = j := by omega
    have hlen : j + 1 + 1 ≤ (cellsI ((sms e D n).take (j + 1) ++ List.replicate (n - (j + 1)) 0)).length := by
      rw [cellsI_len]; simp [sms_len]; omega
    have hget : (cellsI ((sms e D n).take (j + 1) ++ List.replicate (n - (j + 1)) 0))[j]? = some (AV.v (.int .i64 (sm e D j))) := by
      have hl : j < ((sms e D n).take (j + 1) ++ List.replicate (n - (j + 1)) 0).length := by simp [sms_len]; omega
      rw [cellsI_get _ j hl]
      have hl2 : j < ((sms e D n).take (j + 1)).length := by simp [sms_len]; omega
      rw [List.getElem_append_left hl2, List.getElem_take, sms_get e D n j (by omega)]
    have st := set_step2 (sms e D n) (j + 1) n (sms_len e D n) (by rw [sms_len]; exact hlt)
    simp only [F75_l20, c1, c2, c3, c4, c5, c6, and_self, if_true, Int.toNat_natCast, e3, hget, rowsI_get D _ hltD, List.getElem?_cons_zero, e1, e2, hlen, cellsI_set, st, cellsI_dat]
    exact r1
/-- What Decode returns. -/
def decR (s : ByteArray) (n : Int) : List Int × Int :=
  if 1 ≤ n ∧ n ≤ 420 then
    match dcm s with
    | none => ([], 3)
    | some D =>
      if (D.length : Int) < n then ([], 4) else
      if (sms (sgn32 (get4 s 4)) D n.toNat).all (fun x => decide (Smp x)) then
        (if sm (sgn32 (get4 s 4)) D (n.toNat - 1) = sgn32 (get4 s 8) then (sms (sgn32 (get4 s 4)) D n.toNat, 0) else ([], 11))
      else ([], 2)
  else ([], 2)
theorem outb_loop (l : List Int) (hl : l.length ≤ 1000) : ∀ (k i f : Nat), k < f → i + k = l.length → (F110b_l4 600).L f (rowsI l, (l.length : Int), (i : Int)) = some (.inr ()) ∧ (l.drop i).all (fun x => decide (Smp x)) = true ∨ ∃ q : Nat, (F110b_l4 600).L f (rowsI l, (l.length : Int), (i : Int)) = some (.inl (q : Int)) ∧ (l.drop i).all (fun x => decide (Smp x)) = false
  | 0, i, f, hf, hi => by
    obtain ⟨f, rfl⟩ : ∃ f', f = f' + 1 := ⟨f - 1, by omega⟩
    have c : decide ((i : Int) < (l.length : Int)) = false := by rw [decide_eq_false_iff_not]; omega
    refine .inl ⟨?_, by rw [List.drop_of_length_le (by omega)]; rfl⟩
    show (F110b_l4 600).b _ _ ((F110b_l4 600).L f) some = _
    simp only [F110b_l4, c]
  | k + 1, i, f, hf, hi => by
    obtain ⟨f, rfl⟩ : ∃ f', f = f' + 1 := ⟨f - 1, by omega⟩
    have hlt : i < l.length := by omega
    have c1 : decide ((i : Int) < (l.length : Int)) = true := by rw [decide_eq_true_iff]; omega
    have c2 : (0 : Int) ≤ (i : Int) := by omega
    have c4 : i64 ((i : Int) + 1) = ((i + 1 : Nat) : Int) := by rw [i64_id (by omega)]; omega
    have hd : l.drop i = l[i] :: l.drop (i + 1) := List.drop_eq_getElem_cons hlt
    by_cases h : Smp l[i]
    · have st : (F110b_l4 600).L (f + 1) (rowsI l, (l.length : Int), (i : Int)) = (F110b_l4 600).L f (rowsI l, (l.length : Int), ((i + 1 : Nat) : Int)) := by
        show (F110b_l4 600).b _ _ ((F110b_l4 600).L f) some = _
        obtain ⟨Lf, hL⟩ : ∃ Lf, Lf = (F110b_l4 600).L f := ⟨_, rfl⟩
        rw [← hL]
        simp only [F110b_l4, c1, c2, if_true, Int.toNat_natCast, rowsI_get l i hlt, List.getElem?_cons_zero, F106_d, FSpec.d, F106_s, smp_any, decide_eq_true h, Bool.not_true, c4]
        exact if_pos trivial
      have r := outb_loop l hl k (i + 1) f (by omega) (by omega)
      rw [st, hd, List.all_cons, decide_eq_true h, Bool.true_and]
      exact r
    · refine .inr ⟨i, ?_, by rw [hd, List.all_cons, decide_eq_false h]; rfl⟩
      show (F110b_l4 600).b _ _ ((F110b_l4 600).L f) some = _
      simp only [F110b_l4, c1, c2, if_true, Int.toNat_natCast, rowsI_get l i hlt, List.getElem?_cons_zero, F106_d, FSpec.d, F106_s, smp_any, decide_eq_false h, Bool.not_false]
theorem outb_any (l : List Int) (hl : l.length ≤ 590) : F88b_d 600 (rowsI l) = some (!l.all fun x => decide (Smp x)) := by
  simp only [F88b_d, FSpec.d, F88b_s, F110b_d, F110b_s, F110b_d4, rowsI_len]
  rcases outb_loop l (by omega) l.length 0 600 (by omega) (by omega) with ⟨h1, h2⟩ | ⟨q, h1, h2⟩
  · replace h1 : (F110b_l4 600).L 600 (rowsI l, (l.length : Int), 0) = _ := h1
    replace h2 : l.all (fun x => decide (Smp x)) = true := h2
    simp only [h1, h2]; rfl
  · replace h1 : (F110b_l4 600).L 600 (rowsI l, (l.length : Int), 0) = _ := h1
    replace h2 : l.all (fun x => decide (Smp x)) = false := h2
    have c : (q : Int) ≥ 0 := by omega
    simp only [h1, h2, c, decide_true, Bool.not_false]
theorem dec_any (s : ByteArray) (hs : s.size ≤ 900000) (n : Int) : F75_d 600 (s, n) = some (rowsI (decR s n).1, (decR s n).2) := by
  simp only [F75_d, FSpec.d, F75_s, sin_any, dcm_ok s hs]
  unfold decR
  by_cases h1 : 1 ≤ n ∧ n ≤ 420
  · simp only [decide_eq_true h1, Bool.not_true, if_pos h1]
    cases hD : dcm s with
    | none => simp only [Bool.not_false]; rfl
    | some D =>
      have hd : 1 ≤ s.size / 64 ∧ s.size / 64 ≤ 8 ∧ D = frms s 0 (s.size / 64) := by
        unfold dcm at hD
        split at hD
        · rename_i h
          cases hD
          exact ⟨h.2.1, h.2.2.1, rfl⟩
        · cases hD
      have hDf : ∀ x ∈ D, Fit32 x := by rw [hd.2.2]; exact frms_fit s _ _
      have hDl : D.length ≤ 480 := by
        have := frms_len s (s.size / 64) 0
        rw [hd.2.2]
        omega
      simp only [Bool.not_true, rowsI_len]
      by_cases h2 : (D.length : Int) < n
      · simp only [h2, decide_true, if_true]; rfl
      · obtain ⟨m, rfl⟩ : ∃ m : Nat, n = (m : Int) := ⟨n.toNat, by omega⟩
        obtain ⟨m', rfl⟩ : ∃ m', m = m' + 1 := ⟨m - 1, by omega⟩
        have hsz : 64 ≤ s.size := by omega
        have ne1 := end_ok s hs 1 (by omega) hsz
        have ne2 := end_ok s hs 2 (by omega) hsz
        replace ne1 : F104_d 600 (1, s) = some (sgn32 (get4 s 4), s) := ne1
        replace ne2 : F104_d 600 (2, s) = some (sgn32 (get4 s 8), s) := ne2
        obtain ⟨E, hE⟩ : ∃ E, E = sgn32 (get4 s 4) := ⟨_, rfl⟩
        have hEf : Fit32 E := by
          have := get4_rng s 4
          rw [hE]
          exact sgn32_fit ⟨this.1, by omega⟩
        rw [← hE] at ne1 ⊢
        have c1 : (0 : Int) ≤ ((m' + 1 : Nat) : Int) ∧ ((m' + 1 : Nat) : Int) ≤ ((m' + 1 : Nat) : Int) ∧ (m' + 1) * 8 ≤ maxBytes := ⟨by omega, by omega, by unfold maxBytes; omega⟩
        have c2 : (0 : Int) ≤ 0 ∧ (0 : Int) < ((m' + 1 : Nat) : Int) := by omega
        have c3 : (0 + (0 : Int).toNat) * 1 + 1 ≤ (List.replicate (m' + 1) (AV.v (.int .i64 0))).length := by simp
        have e0 : (List.replicate (m' + 1) (AV.v (.int .i64 0))).set ((0 + (0 : Int).toNat) * 1) (AV.v (.int .i64 E)) = cellsI ((sms E D (m' + 1)).take 1 ++ List.replicate (m' + 1 - 1) 0) := by
          have : (sms E D (m' + 1)).take 1 = [E] := by
            simp [sms, List.range_succ_eq_map]
            rfl
          rw [this]
          simp [cellsI, List.replicate_succ]
        have hl := sum_loop s hEf hDf (m' + 1) (by omega) (by omega) m' 1 600 (by omega) (by omega) (by omega)
        replace hl : (F75_l20 600).L 600 (rowsI D, ((m' + 1 : Nat) : Int), m' + 1, 1, s, cellsI ((sms E D (m' + 1)).take 1 ++ List.replicate (m' + 1 - 1) 0)) = _ := hl
        have c4 : (m' + 1) * 1 ≤ (cellsI (sms E D (m' + 1))).length := by rw [cellsI_len, sms_len]; omega
        have e3 : (cellsI (sms E D (m' + 1))).take ((m' + 1) * 1) = cellsI (sms E D (m' + 1)) := List.take_of_length_le (by rw [cellsI_len, sms_len]; omega)
        have e4 : chunks (cellsI (sms E D (m' + 1))) 1 (m' + 1) = rowsI (sms E D (m' + 1)) := by
          have := chunksI (sms E D (m' + 1))
          rw [sms_len] at this
          exact this
        have e5 := outb_any (sms E D (m' + 1)) (by rw [sms_len]; omega)
        have e6 : i64 (((m' + 1 : Nat) : Int) - 1) = (m' : Int) := by rw [i64_id (by omega)]; omega
        have c5 : (0 : Int) ≤ (m' : Int) := by omega
        have e7 := rowsI_get (sms E D (m' + 1)) m' (by rw [sms_len]; omega)
        rw [sms_get E D (m' + 1) m' (by omega)] at e7
        unfold I at e7
        simp only [h2, decide_false, if_false, Int.toNat_natCast, c1, and_self, if_true, ne1, c2, c3, e0, cellsI_dat, F75_d20, hl, c4, e3, e4, e5]
        cases hall : (sms E D (m' + 1)).all (fun x => decide (Smp x)) with
        | false => simp only [Bool.not_false, Bool.false_eq_true, if_false]; rfl
        | true =>
          simp only [Bool.not_true, if_true, e6, c5, Int.toNat_natCast, e7, List.getElem?_cons_zero, ne2, Nat.add_sub_cancel]
          by_cases h3 : sm E D m' = sgn32 (get4 s 8)
          · have b : (sm E D m' != sgn32 (get4 s 8)) = false := by simp [h3]
            simp only [b, if_pos h3]
          · have b : (sm E D m' != sgn32 (get4 s 8)) = true := by simp [h3]
            simp only [b, if_neg h3]
            rfl
  · simp only [decide_eq_false h1, Bool.not_false, if_neg h1]
    rfl
end Go.Proofs.YtdmedeaknnldcaaGreatDoor
/- Steim, the plain law: Encode's frames. -/
namespace Go.Proofs.YtdmedeaknnldcaaGreatDoor
open Go.RowKit
set_option linter.unusedVariables false
set_option linter.unusedSimpArgs false
set_option linter.unnecessarySimpa false
abbrev Wo := Int × Int
def WOk (w : Wo) : Prop := (0 ≤ w.1 ∧ w.1 ≤ 3) ∧ (0 ≤ w.2 ∧ w.2 ≤ 4294967295)
def pad : Nat → List Wo → List Wo
  | 0, _ => []
  | m + 1, L => L.headD (0, 0) :: pad m L.tail
def hor (a : Int) (ws : List Wo) : Int := ws.foldl (fun a w => 4 * a + w.1) a
theorem pad_len : ∀ (m : Nat) (L : List Wo), (pad m L).length = m
  | 0, _ => rfl
  | m + 1, L => by simp [pad, pad_len m]
theorem head_ok {L : List Wo} (h : ∀ w ∈ L, WOk w) : WOk (L.headD (0, 0)) := by
  cases L with
  | nil => exact ⟨⟨by decide, by decide⟩, by decide, by decide⟩
  | cons a r => exact h a List.mem_cons_self
theorem tail_ok {L : List Wo} (h : ∀ w ∈ L, WOk w) : ∀ w ∈ L.tail, WOk w := fun w hw => h w (List.mem_of_mem_tail hw)
theorem pad_ok : ∀ (m : Nat) (L : List Wo), (∀ w ∈ L, WOk w) → ∀ w ∈ pad m L, WOk w
  | 0, _, _, w, hw => by cases hw
  | m + 1, L, h, w, hw => by
    rcases List.mem_cons.1 hw with rfl | hw
    · exact head_ok h
    · exact pad_ok m L.tail (tail_ok h) w hw
theorem drop_tail : ∀ (m : Nat) (L : List Wo), L.tail.drop m = L.drop (m + 1)
  | m, [] => by simp
  | m, a :: r => rfl
theorem strOf_size (l : List Int) : (strOfNums l).size = l.length := strOfNums_size l
/-! One frame. -/
theorem enc_step (L : List Wo) (hL : ∀ w ∈ L, WOk w) (hl : L.length ≤ 1000) (out : ByteArray) (a : Int) (d : List Int) (hd : d.length ≤ 1000) (i : Nat) (hi : 1 ≤ i ∧ i ≤ 15) (ha : 0 ≤ a ∧ a < 2 ^ (2 * i - 2)) (x6 x7 : Int) (f : Nat) :
    (F34_l32 600).L (f + 1) (rowsW L, out, a * 2 ^ (32 - 2 * i), strOfNums d, (i : Int), x6, x7) = (F34_l32 600).L f (rowsW L.tail, out, (4 * a + (L.headD (0, 0)).1) * 2 ^ (30 - 2 * i), strOfNums (d ++ be4 (L.headD (0, 0)).2), ((i + 1 : Nat) : Int), x6, x7) := by
  show (F34_l32 600).b _ _ ((F34_l32 600).L f) some = _
  obtain ⟨Lf, hLf⟩ : ∃ Lf, Lf = (F34_l32 600).L f := ⟨_, rfl⟩
  rw [← hLf]
  have c1 : decide ((i : Int) < 16) = true := by rw [decide_eq_true_iff]; omega
  have e1 : i64 ((i : Int) + 1) = ((i + 1 : Nat) : Int) := by rw [i64_id (by omega)]; omega
  have hpp : (2 : Int) ^ (2 * i - 2) * 2 ^ (32 - 2 * i) = 1073741824 := by
    rw [← Int.pow_add, show 2 * i - 2 + (32 - 2 * i) = 30 by omega]
    rfl
  have hp : (1 : Int) ≤ 2 ^ (32 - 2 * i) := Int.pow_pos (by omega)
  have b0 : (a + 1) * 2 ^ (32 - 2 * i) ≤ 1073741824 := by
    rw [← hpp]
    exact Int.mul_le_mul_of_nonneg_right (by omega) (by omega)
  have b1 : a * 2 ^ (32 - 2 * i) + 2 ^ (32 - 2 * i) ≤ 1073741824 := by
    rwa [Int.add_mul, Int.one_mul] at b0
  have hq : (2 : Int) ^ (32 - 2 * i) = 4 * 2 ^ (30 - 2 * i) := by
    rw [show 32 - 2 * i = (30 - 2 * i) + 2 by omega, Int.pow_add]
    omega
  have hp2 : (1 : Int) ≤ 2 ^ (30 - 2 * i) := Int.pow_pos (by omega)
  have b2 : ∀ v : Int, 0 ≤ v ∧ v ≤ 3 → (4 * a + v) * 2 ^ (30 - 2 * i) ≤ 4294967295 := fun v hv => by
    have h1 : (4 * a + v) * 2 ^ (30 - 2 * i) ≤ (4 * a + 3) * 2 ^ (30 - 2 * i) := Int.mul_le_mul_of_nonneg_right (by omega) (by omega)
    have h2 : (4 * a + 3) * 2 ^ (30 - 2 * i) = a * (4 * 2 ^ (30 - 2 * i)) + 3 * 2 ^ (30 - 2 * i) := by
      rw [Int.add_mul, Int.mul_comm 4 a, Int.mul_assoc]
    have h3 : (2 : Int) ^ (30 - 2 * i) ≤ 1073741824 := two_le (b := 30) (by omega)
    rw [← hq] at h2
    rw [hq] at b1
    rw [hq] at h2
    generalize (4 * a + v) * 2 ^ (30 - 2 * i) = g1 at h1 ⊢
    generalize (4 * a + 3) * 2 ^ (30 - 2 * i) = g2 at h1 h2
    generalize a * (4 * 2 ^ (30 - 2 * i)) = g3 at h2 b1
    generalize (2 : Int) ^ (30 - 2 * i) = g4 at h2 h3
    omega
  have hok := head_ok hL
  have sp := setp_ok (a := a) (v := (L.headD (0, 0)).1) (i := i) (by omega) ha.1 (by omega) hok.1 (b2 _ hok.1)
  have pu := put4 (strOfNums d) (by rw [strOf_size]; omega) (n := (L.headD (0, 0)).2) hok.2
  rw [← strOf_app] at pu
  cases L with
  | nil =>
    have c2 : decide ((([] : List Wo).length : Int) > 0) = false := rfl
    simp only [List.headD_nil] at sp pu
    simp only [F34_l32, c1, rowsW_len, c2, sp, pu, e1]
    first | rfl | exact if_pos trivial
  | cons w r =>
    have c2 : decide (((w :: r).length : Int) > 0) = true := by rw [decide_eq_true_iff]; simp
    have z0 : (0 : Int) ≤ 0 := by omega
    have t0 : (0 : Int).toNat = 0 := rfl
    have t1 : (1 : Int).toNat = 1 := rfl
    have c3 : (0 : Int) ≤ 1 ∧ (1 : Int) ≤ ((w :: r).length : Int) := by rw [List.length_cons]; omega
    have g0 : (rowsW (w :: r))[0]? = some [AV.v (.int .i64 w.1), AV.v (.int .i64 w.2)] := rfl
    have g1 : (rowsW (w :: r)).drop 1 = rowsW r := rfl
    simp only [List.headD_cons] at sp pu
    simp only [F34_l32, c1, rowsW_len, c2, z0, t0, t1, c3, and_self, if_true, g0, List.getElem?_cons_zero, List.getElem?_cons_succ, g1, sp, pu, e1]
    first | rfl | exact if_pos trivial
theorem enc_loop (out : ByteArray) (x6 x7 : Int) : ∀ (m i f : Nat) (L : List Wo) (a : Int) (d : List Int), m < f → i + m = 16 → 1 ≤ i → (∀ w ∈ L, WOk w) → L.length ≤ 1000 → (0 ≤ a ∧ a < 2 ^ (2 * i - 2)) → d.length + 4 * m ≤ 100 →
    (F34_l32 600).L f (rowsW L, out, a * 2 ^ (32 - 2 * i), strOfNums d, (i : Int), x6, x7) = some (rowsW (L.drop m), out, hor a (pad m L), strOfNums (d ++ (pad m L).flatMap fun w => be4 w.2), x6, x7) ∧ (0 ≤ hor a (pad m L) ∧ hor a (pad m L) < 1073741824)
  | 0, i, f, L, a, d, hf, hi, h1, hL, hl, ha, hd => by
    obtain ⟨f, rfl⟩ : ∃ f', f = f' + 1 := ⟨f - 1, by omega⟩
    obtain rfl : i = 16 := by omega
    refine ⟨?_, ha.1, ha.2⟩
    show (F34_l32 600).b _ _ ((F34_l32 600).L f) some = _
    have c : decide (((16 : Nat) : Int) < 16) = false := rfl
    have e : a * 2 ^ (32 - 2 * 16) = a := Int.mul_one a
    have e2 : hor a [] = a := rfl
    simp only [F34_l32, c, e, e2, List.drop_zero, pad, List.flatMap_nil, List.append_nil]
  | m + 1, i, f, L, a, d, hf, hi, h1, hL, hl, ha, hd => by
    obtain ⟨f, rfl⟩ : ∃ f', f = f' + 1 := ⟨f - 1, by omega⟩
    rw [enc_step L hL hl out a d (by omega) i (by omega) ha x6 x7 f]
    have hok := head_ok hL
    have ha2 : 0 ≤ 4 * a + (L.headD (0, 0)).1 ∧ 4 * a + (L.headD (0, 0)).1 < 2 ^ (2 * (i + 1) - 2) := by
      have hq : (2 : Int) ^ (2 * (i + 1) - 2) = 4 * 2 ^ (2 * i - 2) := by
        rw [show 2 * (i + 1) - 2 = (2 * i - 2) + 2 by omega, Int.pow_add]
        omega
      have := hok.1
      rw [hq]
      omega
    have r := enc_loop out x6 x7 m (i + 1) f L.tail (4 * a + (L.headD (0, 0)).1) (d ++ be4 (L.headD (0, 0)).2) (by omega) (by omega) (by omega) (tail_ok hL) (by simp; omega) ha2 (by simp [be4]; omega)
    have e : 32 - 2 * (i + 1) = 30 - 2 * i := by omega
    rw [e] at r
    have e2 : hor a (pad (m + 1) L) = hor (4 * a + (L.headD (0, 0)).1) (pad m L.tail) := rfl
    rw [e2, ← drop_tail]
    simp only [pad, List.flatMap_cons, ← List.append_assoc]
    exact r
/-- The words of frames. -/
def allw : Nat → List Wo → List Int
  | 0, _ => []
  | n + 1, L => hor 0 (pad 15 L) :: ((pad 15 L).map (·.2) ++ allw n (L.drop 15))
def FS (n : Nat) (L : List Wo) : ByteArray := strOfNums ((allw n L).flatMap be4)
theorem be4_all (l : List Int) : ∀ x ∈ l.flatMap be4, 0 ≤ x ∧ x ≤ 255 := by
  intro x hx
  obtain ⟨n, -, h⟩ := List.mem_flatMap.1 hx
  exact be4_rng n x h
theorem allw_len : ∀ (n : Nat) (L : List Wo), (allw n L).length = 16 * n
  | 0, _ => rfl
  | n + 1, L => by
    simp only [allw, List.length_cons, List.length_append, List.length_map, pad_len, allw_len n]
    omega
theorem fm4_len (l : List Int) : (l.flatMap be4).length = 4 * l.length := by
  induction l with
  | nil => rfl
  | cons a r ih => rw [List.flatMap_cons, List.length_append, ih]; simp [be4]; omega
theorem FS_size (n : Nat) (L : List Wo) : (FS n L).size = 64 * n := by
  unfold FS
  rw [strOf_size, fm4_len, allw_len]
  omega
theorem out_frames (n : Nat) (hn : n ≤ 8) : ∀ (j k f : Nat) (L : List Wo) (bs : List Int), j < f → k + j = n → (∀ w ∈ L, WOk w) → L.length ≤ 1000 → bs.length ≤ 64 * k →
    (F34_l22 600).L f (rowsW L, strOfNums bs, (n : Int), (k : Int)) = some (strOfNums (bs ++ (allw j L).flatMap be4))
  | 0, k, f, L, bs, hf, hk, hL, hl, hb => by
    obtain ⟨f, rfl⟩ : ∃ f', f = f' + 1 := ⟨f - 1, by omega⟩
    show (F34_l22 600).b _ _ ((F34_l22 600).L f) some = _
    have c : decide ((k : Int) < (n : Int)) = false := by rw [decide_eq_false_iff_not]; omega
    simp only [F34_l22, c, allw, List.flatMap_nil, List.append_nil]
  | j + 1, k, f, L, bs, hf, hk, hL, hl, hb => by
    obtain ⟨f, rfl⟩ : ∃ f', f = f' + 1 := ⟨f - 1, by omega⟩
    obtain ⟨q, hq⟩ := enc_loop (strOfNums bs) (n : Int) (k : Int) 15 1 600 L 0 [] (by omega) (by omega) (by omega) hL hl (by simp) (by simp)
    rw [Int.zero_mul] at q
    replace q : (F34_l32 600).L 600 (rowsW L, strOfNums bs, 0, (⟨#[]⟩ : ByteArray), 1, (n : Int), (k : Int)) = _ := q
    rw [List.nil_append] at q
    have pu := put4 (strOfNums bs) (by rw [strOf_size]; omega) (n := hor 0 (pad 15 L)) (by omega)
    rw [← strOf_app] at pu
    have e1 : i64 ((k : Int) + 1) = ((k + 1 : Nat) : Int) := by rw [i64_id (by omega)]; omega
    have hlen : ((pad 15 L).flatMap fun w => be4 w.2).length ≤ 60 := by
      have : ((pad 15 L).flatMap fun w => be4 w.2) = ((pad 15 L).map (·.2)).flatMap be4 := by rw [List.flatMap_map]
      rw [this, fm4_len, List.length_map, pad_len]
      omega
    have c2 : (strOfNums (bs ++ be4 (hor 0 (pad 15 L)))).size + (strOfNums ((pad 15 L).flatMap fun w => be4 w.2)).size ≤ 9223372036854775807 := by
      have e4 : (be4 (hor 0 (pad 15 L))).length = 4 := rfl
      rw [strOf_size, strOf_size, List.length_append]
      omega
    have e5 : bs ++ be4 (hor 0 (pad 15 L)) ++ ((pad 15 L).flatMap fun w => be4 w.2) ++ (allw j (L.drop 15)).flatMap be4 = bs ++ (allw (j + 1) L).flatMap be4 := by
      simp only [allw, List.flatMap_cons, List.flatMap_append, List.append_assoc, List.flatMap_map]
    have r1 := out_frames n hn j (k + 1) f (L.drop 15) (bs ++ be4 (hor 0 (pad 15 L)) ++ ((pad 15 L).flatMap fun w => be4 w.2)) (by omega) (by omega) (fun w hw => hL w (List.mem_of_mem_drop hw)) (by simp; omega) (by
      rw [List.length_append, List.length_append]
      have e4 : (be4 (hor 0 (pad 15 L))).length = 4 := rfl
      omega)
    rw [e5] at r1
    show (F34_l22 600).b _ _ ((F34_l22 600).L f) some = _
    obtain ⟨Lf, hLf⟩ : ∃ Lf, Lf = (F34_l22 600).L f := ⟨_, rfl⟩
    rw [← hLf] at r1 ⊢
    have c1 : decide ((k : Int) < (n : Int)) = true := by rw [decide_eq_true_iff]; omega
    simp only [F34_l22, c1, F34_d32, q, pu, c2, if_true, ← strOf_app, e1]
    exact r1
/-- The words that are laid down. -/
def lX (X : List Int) : List Wo := (0, X.headD 0 % 4294967296) :: (0, X.getLastD 0 % 4294967296) :: wX X
theorem lX_ok {X : List Int} (hX : ∀ x ∈ X, Smp x) : ∀ w ∈ lX X, WOk w := by
  intro w hw
  rcases List.mem_cons.1 hw with rfl | hw
  · unfold WOk; dsimp only; omega
  rcases List.mem_cons.1 hw with rfl | hw
  · unfold WOk; dsimp only; omega
  have := (wds_ok X.length (dX X) (by rw [dX_len]; omega) (dX_fit hX)).2 w hw
  unfold WOk
  omega
theorem enc_ok (X : List Int) (hl : X.length ≤ 500) (h0 : X ≠ []) (hX : ∀ x ∈ X, Smp x) (hn : nfr (wX X).length ≤ 8) : F34_d 600 (rowsI X) = some (FS (nfr (wX X).length) (lX X), 0) := by
  have hp : 0 < X.length := List.length_pos_iff.2 h0
  have c : ((X.length : Int) == 0) = false := by rw [beq_eq_false_iff_ne]; omega
  have c2 : decide (((nfr (wX X).length : Nat) : Int) > 8) = false := by rw [decide_eq_false_iff_not]; omega
  have z0 : (0 : Int) ≤ 0 := by omega
  have t0 : (0 : Int).toNat = 0 := rfl
  have g0 := rowsI_get X 0 hp
  have e1 : i64 ((X.length : Int) - 1) = ((X.length - 1 : Nat) : Int) := by rw [i64_id (by omega)]; omega
  have z1 : (0 : Int) ≤ ((X.length - 1 : Nat) : Int) := by omega
  have hl1 : X.length - 1 < X.length := by omega
  have g1 := rowsI_get X (X.length - 1) hl1
  have f0 : ∀ x, Smp x → Fit32 x := fun x h => by unfold Smp at h; unfold Fit32; omega
  have w0 := wrap32 (f0 _ (hX _ (List.getElem_mem hp)))
  have w1 := wrap32 (f0 _ (hX _ (List.getElem_mem hl1)))
  have eh : X.headD 0 = X[0] := by cases X with | nil => exact absurd rfl h0 | cons a r => rfl
  have el : X.getLastD 0 = X[X.length - 1] := by
    rw [List.getLastD_eq_getLast?, List.getLast?_eq_getElem?, List.getElem?_eq_getElem hl1]; rfl
  have eL : [[AV.v (.int .i64 0), AV.v (.int .i64 (X[0] % 4294967296))], [AV.v (.int .i64 0), AV.v (.int .i64 (X[X.length - 1] % 4294967296))]] ++ rowsW (wX X) = rowsW (lX X) := by
    unfold lX
    rw [eh, el]
    rfl
  have hwl := (wX_len X).1
  have hb : (2 + (wX X).length) * 16 ≤ maxBytes := by unfold maxBytes; omega
  have r := out_frames (nfr (wX X).length) hn (nfr (wX X).length) 0 600 (lX X) [] (by omega) (by omega) (lX_ok hX) (by simp [lX]; omega) (by simp)
  replace r : (F34_l22 600).L 600 (rowsW (lX X), (⟨#[]⟩ : ByteArray), (nfr (wX X).length : Int), 0) = some (FS (nfr (wX X).length) (lX X)) := r
  simp only [F34_d, FSpec.d, F34_s, rowsI_len, c, comp_ok X hl h0 hX, Bool.not_true, frames_ok X hl h0 hX, c2, z0, t0, if_true, g0, List.getElem?_cons_zero, w0, e1, z1, Int.toNat_natCast, g1, w1, List.length_cons, List.length_nil, Nat.zero_add, Nat.reduceAdd, rowsW_len, hb, eL, F34_d22, r]
end Go.Proofs.YtdmedeaknnldcaaGreatDoor
/- Steim, the plain law: decoding what was encoded. -/
namespace Go.Proofs.YtdmedeaknnldcaaGreatDoor
open Go.RowKit
set_option linter.unusedVariables false
set_option linter.unusedSimpArgs false
set_option linter.unnecessarySimpa false
theorem fm4_get : ∀ (W : List Int) (m j : Nat), m < W.length → j < 4 → (W.flatMap be4).getD (4 * m + j) 0 = (be4 (W.getD m 0)).getD j 0
  | [], m, j, h, _ => by cases h
  | a :: r, 0, j, h, hj => by
    rw [List.flatMap_cons, List.getD_eq_getElem?_getD, List.getElem?_append_left (by show 4 * 0 + j < 4; omega), Nat.mul_zero, Nat.zero_add, List.getD_cons_zero, List.getD_eq_getElem?_getD]
  | a :: r, m + 1, j, h, hj => by
    have ih := fm4_get r m j (by simpa using h) hj
    have e4 : (be4 a).length = 4 := rfl
    rw [List.flatMap_cons, List.getD_eq_getElem?_getD, List.getElem?_append_right (by omega), e4, show 4 * (m + 1) + j - 4 = 4 * m + j by omega, List.getD_cons_succ, ← List.getD_eq_getElem?_getD]
    exact ih
theorem get4_str (W : List Int) (m : Nat) (h : m < W.length) (hr : 0 ≤ W.getD m 0 ∧ W.getD m 0 ≤ 4294967295) : get4 (strOfNums (W.flatMap be4)) (4 * m) = W.getD m 0 := by
  unfold get4
  rw [nums_strOf (be4_all W)]
  have e0 := fm4_get W m 0 h (by omega)
  have e1 := fm4_get W m 1 h (by omega)
  have e2 := fm4_get W m 2 h (by omega)
  have e3 := fm4_get W m 3 h (by omega)
  rw [Nat.add_zero] at e0
  rw [e0, e1, e2, e3]
  generalize W.getD m 0 = n at hr ⊢
  simp only [be4, List.getD_cons_zero, List.getD_cons_succ]
  omega
theorem allw_get : ∀ (k n : Nat) (L : List Wo) (i : Nat), k < n → i < 16 → (allw n L).getD (16 * k + i) 0 = (hor 0 (pad 15 (L.drop (15 * k))) :: (pad 15 (L.drop (15 * k))).map (·.2)).getD i 0
  | 0, n, L, i, hk, hi => by
    obtain ⟨n, rfl⟩ : ∃ n', n = n' + 1 := ⟨n - 1, by omega⟩
    simp only [Nat.mul_zero, Nat.zero_add, List.drop_zero]
    show ((hor 0 (pad 15 L) :: (pad 15 L).map (·.2)) ++ allw n (L.drop 15)).getD i 0 = _
    rw [List.getD_eq_getElem?_getD, List.getElem?_append_left (by simp [pad_len]; omega), ← List.getD_eq_getElem?_getD]
  | k + 1, n, L, i, hk, hi => by
    obtain ⟨n, rfl⟩ : ∃ n', n = n' + 1 := ⟨n - 1, by omega⟩
    have ih := allw_get k n (L.drop 15) i (by omega) hi
    have hl : (hor 0 (pad 15 L) :: (pad 15 L).map (·.2)).length = 16 := by simp [pad_len]
    show ((hor 0 (pad 15 L) :: (pad 15 L).map (·.2)) ++ allw n (L.drop 15)).getD (16 * (k + 1) + i) 0 = _
    rw [List.getD_eq_getElem?_getD, List.getElem?_append_right (by omega), hl, show 16 * (k + 1) + i - 16 = 16 * k + i by omega, ← List.getD_eq_getElem?_getD, ih, List.drop_drop, show 15 + 15 * k = 15 * (k + 1) by omega]
theorem hor_snoc (a : Int) (ws : List Wo) (w : Wo) : hor a (ws ++ [w]) = 4 * hor a ws + w.1 := by
  unfold hor
  rw [List.foldl_append]
  rfl
theorem hor_rng : ∀ (n : Nat) (ws : List Wo), ws.length = n → (∀ w ∈ ws, WOk w) → 0 ≤ hor 0 ws ∧ hor 0 ws < 4 ^ n
  | 0, ws, h, _ => by
    obtain rfl := List.length_eq_zero_iff.1 h
    show (0 : Int) ≤ 0 ∧ (0 : Int) < 1
    omega
  | n + 1, ws, h, hw => by
    rcases List.eq_nil_or_concat ws with rfl | ⟨ws', w, rfl⟩
    · simp at h
    · rw [List.concat_eq_append] at h hw ⊢
      have ih := hor_rng n ws' (by simpa using h) (fun x hx => hw x (List.mem_append_left _ hx))
      have h1 := (hw w (by simp)).1
      rw [hor_snoc, Int.pow_succ]
      omega
/-- The codes come back. -/
theorem hor_digit : ∀ (j : Nat) (ws : List Wo), j < ws.length → (∀ w ∈ ws, WOk w) → hor 0 ws / 4 ^ j % 4 = (ws.getD (ws.length - 1 - j) (0, 0)).1
  | 0, ws, hj, hw => by
    rcases List.eq_nil_or_concat ws with rfl | ⟨ws', w, rfl⟩
    · simp at hj
    · rw [List.concat_eq_append] at hj hw ⊢
      have h1 := (hw w (by simp)).1
      have e : (ws' ++ [w]).getD ((ws' ++ [w]).length - 1 - 0) (0, 0) = w := by
        rw [List.length_append, List.length_singleton, show ws'.length + 1 - 1 - 0 = ws'.length by omega, List.getD_eq_getElem?_getD, List.getElem?_append_right (by omega), Nat.sub_self]
        rfl
      rw [hor_snoc, e, Int.pow_zero, Int.ediv_one]
      omega
  | j + 1, ws, hj, hw => by
    rcases List.eq_nil_or_concat ws with rfl | ⟨ws', w, rfl⟩
    · simp at hj
    · rw [List.concat_eq_append] at hj hw ⊢
      rw [List.length_append, List.length_singleton] at hj
      have h1 := (hw w (by simp)).1
      have ih := hor_digit j ws' (by omega) (fun x hx => hw x (List.mem_append_left _ hx))
      have e : (ws' ++ [w]).getD ((ws' ++ [w]).length - 1 - (j + 1)) (0, 0) = ws'.getD (ws'.length - 1 - j) (0, 0) := by
        rw [List.length_append, List.length_singleton, show ws'.length + 1 - 1 - (j + 1) = ws'.length - 1 - j by omega, List.getD_eq_getElem?_getD, List.getElem?_append_left (by omega), ← List.getD_eq_getElem?_getD]
      have e2 : (4 * hor 0 ws' + w.1) / 4 ^ (j + 1) = hor 0 ws' / 4 ^ j := by
        rw [Int.pow_succ, Int.mul_comm (4 ^ j) 4, ← Int.ediv_ediv_of_nonneg (by omega)]
        congr 1
        omega
      rw [hor_snoc, e, e2, ih]
theorem pow24 (n : Nat) : (2 : Int) ^ (2 * n) = 4 ^ n := by
  rw [Int.pow_mul]
  rfl
section
variable {n : Nat} {L : List Wo}
theorem fs_word (k i : Nat) (hk : k < n) (hi : i < 16) (hL : ∀ w ∈ L, WOk w) : get4 (FS n L) (64 * k + 4 * i) = (hor 0 (pad 15 (L.drop (15 * k))) :: (pad 15 (L.drop (15 * k))).map (·.2)).getD i 0 := by
  have hp := pad_ok 15 (L.drop (15 * k)) (fun w hw => hL w (List.mem_of_mem_drop hw))
  have hg := allw_get k n L i hk hi
  have hh := hor_rng 15 (pad 15 (L.drop (15 * k))) (pad_len _ _) hp
  have hr : 0 ≤ (allw n L).getD (16 * k + i) 0 ∧ (allw n L).getD (16 * k + i) 0 ≤ 4294967295 := by
    rw [hg]
    cases i with
    | zero => rw [List.getD_cons_zero]; omega
    | succ i =>
      rw [List.getD_cons_succ, List.getD_eq_getElem?_getD, List.getElem?_map]
      have hi2 : i < (pad 15 (L.drop (15 * k))).length := by rw [pad_len]; omega
      rw [List.getElem?_eq_getElem hi2]
      exact (hp _ (List.getElem_mem hi2)).2
  have := get4_str (allw n L) (16 * k + i) (by rw [allw_len]; omega) hr
  rw [hg] at this
  rw [show 64 * k + 4 * i = 4 * (16 * k + i) by omega]
  exact this
theorem fs_head (k : Nat) (hk : k < n) (hL : ∀ w ∈ L, WOk w) : get4 (FS n L) (64 * k) = hor 0 (pad 15 (L.drop (15 * k))) := fs_word k 0 hk (by omega) hL
theorem fs_cod0 (k : Nat) (hk : k < n) (hL : ∀ w ∈ L, WOk w) : codA (FS n L) k 0 = 0 := by
  have hp := pad_ok 15 (L.drop (15 * k)) (fun w hw => hL w (List.mem_of_mem_drop hw))
  have hh := hor_rng 15 (pad 15 (L.drop (15 * k))) (pad_len _ _) hp
  unfold codA
  rw [fs_head k hk hL]
  have e : (2 : Int) ^ (30 - 2 * 0) = 1073741824 := rfl
  rw [e]
  omega
theorem fs_cod (k j : Nat) (hk : k < n) (hj : j < 15) (hL : ∀ w ∈ L, WOk w) : codA (FS n L) k (j + 1) = ((pad 15 (L.drop (15 * k))).getD j (0, 0)).1 := by
  have hp := pad_ok 15 (L.drop (15 * k)) (fun w hw => hL w (List.mem_of_mem_drop hw))
  unfold codA
  rw [fs_head k hk hL, show 30 - 2 * (j + 1) = 2 * (14 - j) by omega, pow24]
  have := hor_digit (14 - j) (pad 15 (L.drop (15 * k))) (by rw [pad_len]; omega) hp
  rw [pad_len, show 15 - 1 - (14 - j) = j by omega] at this
  exact this
theorem fs_wd (k j : Nat) (hk : k < n) (hj : j < 15) (hL : ∀ w ∈ L, WOk w) : wdA (FS n L) k (j + 1) = ((pad 15 (L.drop (15 * k))).getD j (0, 0)).2 := by
  unfold wdA
  rw [fs_word k (j + 1) hk (by omega) hL, List.getD_cons_succ]
  have hj2 : j < (pad 15 (L.drop (15 * k))).length := by rw [pad_len]; omega
  simp only [List.getD_eq_getElem?_getD, List.getElem?_map, List.getElem?_eq_getElem hj2]
  rfl
theorem range_fm {α β : Type} (f : α → List β) (d : α) : ∀ l : List α, ((List.range l.length).flatMap fun j => f (l.getD j d)) = l.flatMap f := by
  intro l
  have : l = (List.range l.length).map fun j => l.getD j d := by
    apply List.ext_getElem
    · simp
    · intro i h1 h2
      simp [List.getD, h1]
  conv => rhs; rw [this]
  rw [List.flatMap_map]
theorem fs_frm (k : Nat) (hk : k < n) (hL : ∀ w ∈ L, WOk w) : frm (FS n L) k 15 = (pad 15 (L.drop (15 * k))).flatMap fun w => unp w.1 w.2 := by
  have h := range_fm (fun w : Wo => unp w.1 w.2) (0, 0) (pad 15 (L.drop (15 * k)))
  rw [pad_len] at h
  rw [← h]
  unfold frm
  rw [List.flatMap_def, List.flatMap_def]
  congr 1
  apply List.map_congr_left
  intro j hj
  rw [List.mem_range] at hj
  rw [fs_cod k j hk hj hL, fs_wd k j hk hj hL]
theorem pad_unp : ∀ (m : Nat) (L : List Wo), ((pad m L).flatMap fun w => unp w.1 w.2) = (L.take m).flatMap fun w => unp w.1 w.2
  | 0, L => by simp [pad]
  | m + 1, [] => by
    have := pad_unp m []
    simp only [pad, List.headD_nil, List.tail_nil, List.flatMap_cons, this, List.take_nil, List.flatMap_nil, List.append_nil]
    rfl
  | m + 1, a :: r => by
    have := pad_unp m r
    simp only [pad, List.headD_cons, List.tail_cons, List.flatMap_cons, this, List.take_succ_cons]
theorem fs_frms (hL : ∀ w ∈ L, WOk w) : ∀ (j k : Nat), k + j = n → (L.drop (15 * k)).length ≤ 15 * j → frms (FS n L) k j = (L.drop (15 * k)).flatMap fun w => unp w.1 w.2
  | 0, k, hk, hl => by
    rw [List.length_eq_zero_iff.1 (by omega : (L.drop (15 * k)).length = 0)]
    rfl
  | j + 1, k, hk, hl => by
    have ih := fs_frms hL j (k + 1) (by omega) (by rw [List.length_drop] at hl ⊢; omega)
    show frm (FS n L) k 15 ++ frms (FS n L) (k + 1) j = _
    rw [fs_frm k (by omega) hL, pad_unp, ih, ← List.flatMap_append]
    congr 1
    rw [show 15 * (k + 1) = 15 * k + 15 by omega, ← List.drop_drop, List.take_append_drop]
theorem fs_bads (hL : ∀ w ∈ L, WOk w) (h1 : (L.getD 0 (0, 0)).1 = 0) (h2 : (L.getD 1 (0, 0)).1 = 0) : ∀ (j k : Nat), k + j = n → bads (FS n L) k j = false
  | 0, k, hk => rfl
  | j + 1, k, hk => by
    have ih := fs_bads hL h1 h2 j (k + 1) (by omega)
    have e0 := fs_cod0 (n := n) k (by omega) hL
    have hb : badf (FS n L) k = false := by
      by_cases k0 : k = 0
      · subst k0
        have e1 := fs_cod (n := n) 0 0 (by omega) (by omega) hL
        have e2 := fs_cod (n := n) 0 1 (by omega) (by omega) hL
        have q1 : ((pad 15 (L.drop (15 * 0))).getD 0 (0, 0)).1 = 0 := by
          rw [← h1]
          cases L <;> rfl
        have q2 : ((pad 15 (L.drop (15 * 0))).getD 1 (0, 0)).1 = 0 := by
          rw [← h2]
          match L with
          | [] => rfl
          | [a] => rfl
          | a :: b :: r => rfl
        rw [q1] at e1
        rw [q2] at e2
        simp [badf, e0, e1, e2]
      · simp [badf, e0, k0]
    show (badf (FS n L) k || bads (FS n L) (k + 1) j) = false
    rw [hb, ih]; rfl
theorem fs_dcm (hn : 1 ≤ n ∧ n ≤ 8) (hl : L.length ≤ 15 * n) (hL : ∀ w ∈ L, WOk w) (h1 : (L.getD 0 (0, 0)).1 = 0) (h2 : (L.getD 1 (0, 0)).1 = 0) : dcm (FS n L) = some (L.flatMap fun w => unp w.1 w.2) := by
  have e : (FS n L).size / 64 = n := by rw [FS_size]; omega
  unfold dcm
  rw [e, if_pos ⟨by rw [FS_size]; omega, hn.1, hn.2, fs_bads hL h1 h2 n 0 (by omega)⟩, fs_frms hL n 0 (by omega) (by simpa using hl)]
  rfl
theorem fs_first (hn : 1 ≤ n) (hL : ∀ w ∈ L, WOk w) : get4 (FS n L) 4 = (L.getD 0 (0, 0)).2 ∧ get4 (FS n L) 8 = (L.getD 1 (0, 0)).2 := by
  have e1 := fs_wd (n := n) 0 0 (by omega) (by omega) hL
  have e2 := fs_wd (n := n) 0 1 (by omega) (by omega) hL
  refine ⟨e1.trans ?_, e2.trans ?_⟩
  · cases L <;> rfl
  · match L with
    | [] => rfl
    | [a] => rfl
    | a :: b :: r => rfl
end
theorem sm_dX (X : List Int) : ∀ i, (h : i < X.length) → sm X[0] (dX X) i = X[i]
  | 0, h => rfl
  | i + 1, h => by
    have ih := sm_dX X i (by omega)
    have h2 : i + 1 < (dX X).length := by rw [dX_len]; exact h
    show sm X[0] (dX X) i + (dX X).getD (i + 1) 0 = _
    rw [ih, List.getD_eq_getElem?_getD, List.getElem?_eq_getElem h2, Option.getD_some, dX_get X i h]
    omega
theorem sms_dX (X : List Int) (m : Nat) (hm : m ≤ X.length) (h0 : 0 < X.length) : sms X[0] (dX X) m = X.take m := by
  apply List.ext_getElem
  · rw [sms_len, List.length_take]; omega
  · intro i h1 h2
    rw [sms_len] at h1
    rw [sms_get _ _ m i h1, sm_dX X i (by omega), List.getElem_take]
/-- Decoding frames of samples, with whatever last sample they bear. -/
theorem dec_frames (X : List Int) (hX : ∀ x ∈ X, Smp x) (h0 : X ≠ []) (hl : X.length ≤ 500) (n : Nat) (hn : 1 ≤ n ∧ n ≤ 8) (hw : (wX X).length + 2 ≤ 15 * n) (last : Int) (hla : 0 ≤ last ∧ last ≤ 4294967295) (m : Nat) (hm : 1 ≤ m ∧ m ≤ X.length) (hm2 : m ≤ 420) :
    decR (FS n ((0, X.headD 0 % 4294967296) :: (0, last) :: wX X)) (m : Int) = if X.getD (m - 1) 0 = sgn32 last then (X.take m, 0) else ([], 11) := by
  have hp : 0 < X.length := List.length_pos_iff.2 h0
  have eh : X.headD 0 = X[0] := by cases X with | nil => exact absurd rfl h0 | cons a r => rfl
  obtain ⟨w1, w2⟩ := wds_ok X.length (dX X) (by rw [dX_len]; omega) (dX_fit hX)
  have hL : ∀ w ∈ ((0, X.headD 0 % 4294967296) :: (0, last) :: wX X : List Wo), WOk w := by
    intro w hw
    rcases List.mem_cons.1 hw with rfl | hw
    · unfold WOk; dsimp only; omega
    rcases List.mem_cons.1 hw with rfl | hw
    · unfold WOk; dsimp only; omega
    have := w2 w hw
    unfold WOk
    omega
  have hd := fs_dcm (n := n) hn (by simp; omega) hL rfl rfl
  have hD : (((0, X.headD 0 % 4294967296) :: (0, last) :: wX X : List Wo).flatMap fun w => unp w.1 w.2) = dX X := by
    rw [List.flatMap_cons, List.flatMap_cons]
    show [] ++ ([] ++ (wX X).flatMap fun w => unp w.1 w.2) = _
    rw [List.nil_append, List.nil_append]
    exact w1
  rw [hD] at hd
  obtain ⟨f1, f2⟩ := fs_first (n := n) hn.1 hL
  have f1' : get4 (FS n ((0, X.headD 0 % 4294967296) :: (0, last) :: wX X)) 4 = X.headD 0 % 4294967296 := f1
  have f2' : get4 (FS n ((0, X.headD 0 % 4294967296) :: (0, last) :: wX X)) 8 = last := f2
  have s0 := hX _ (List.getElem_mem hp)
  have e0 : sgn32 (X.headD 0 % 4294967296) = X[0] := by
    rw [eh]
    refine sgn32_mod ?_
    unfold Smp at s0
    unfold Fit32
    omega
  have hlen := dX_len X
  unfold decR
  rw [if_pos (by omega), hd, f1', f2', e0]
  simp only
  rw [if_neg (by omega), Int.toNat_natCast, sms_dX X m hm.2 hp, sm_dX X (m - 1) (by omega)]
  have hall : ((X.take m).all fun x => decide (Smp x)) = true := by
    rw [List.all_eq_true]
    exact fun x hx => decide_eq_true (hX x (List.mem_of_mem_take hx))
  have eg : X.getD (m - 1) 0 = X[m - 1] := by
    rw [List.getD_eq_getElem?_getD, List.getElem?_eq_getElem (by omega)]; rfl
  rw [if_pos hall, eg]
end Go.Proofs.YtdmedeaknnldcaaGreatDoor
/- Packets: numbers of 1 to 7 bytes (package bits: Put, Get). -/
namespace Go.Proofs.YtdmedeaknnldcaaGreatDoor
open Go.RowKit
set_option linter.unusedVariables false
set_option linter.unusedSimpArgs false
set_option linter.unnecessarySimpa false
/-- The bytes of a number, the highest one first. -/
def beP : Nat → Int → List Int
  | 0, _ => []
  | i + 1, n => (n / 2 ^ (8 * i) % 256) :: beP i n
theorem beP_len : ∀ (w : Nat) (n : Int), (beP w n).length = w
  | 0, _ => rfl
  | w + 1, n => by simp [beP, beP_len w n]
theorem putg_step (l : List Int) (hl : l.length ≤ 1000000) (n : Int) (i f : Nat) (hi : i ≤ 7) : (F35_l9 600).L (f + 1) (rows8 l, n, (i : Int)) = (F35_l9 600).L f (rows8 (l ++ [n / 2 ^ (8 * i) % 256]), n, (i : Int) - 1) := put_step l hl n i f hi
theorem putg_loop (n : Int) : ∀ (w f : Nat) (l : List Int), w < f → w ≤ 7 → l.length + w ≤ 900100 → (F35_l9 600).L f (rows8 l, n, (w : Int) - 1) = some (rows8 (l ++ beP w n))
  | 0, f, l, hf, hw, hl => by
    obtain ⟨g, rfl⟩ : ∃ g, f = g + 1 := ⟨f - 1, by omega⟩
    show (F35_l9 600).b _ _ ((F35_l9 600).L g) some = _
    have c0 : decide ((((0 : Nat) : Int) - 1) ≥ 0) = false := by rw [decide_eq_false_iff_not]; omega
    simp only [F35_l9, c0, beP, List.append_nil]
  | w + 1, f, l, hf, hw, hl => by
    obtain ⟨g, rfl⟩ : ∃ g, f = g + 1 := ⟨f - 1, by omega⟩
    have e : (((w + 1 : Nat) : Int) - 1) = ((w : Nat) : Int) := by omega
    rw [e, putg_step l (by omega) n w g (by omega), putg_loop n w g _ (by omega) (by omega) (by simp; omega), List.append_assoc]
    rfl
theorem put_lim : ∀ w : Nat, w < 8 → 1 ≤ w → i64 (8 * (w : Int)) = 8 * (w : Int) ∧ i64 (shL .i64 1 (8 * (w : Int)) - 1) = 2 ^ (8 * w) - 1 ∧ i64 ((w : Int) - 1) = (w : Int) - 1 := by
  intro w h1 h2
  rcases (show w = 1 ∨ w = 2 ∨ w = 3 ∨ w = 4 ∨ w = 5 ∨ w = 6 ∨ w = 7 by omega) with rfl | rfl | rfl | rfl | rfl | rfl | rfl <;> exact ⟨by kernel_rfl, by kernel_rfl, by kernel_rfl⟩
theorem put_ok (s : ByteArray) (hs : s.size ≤ 900000) {n : Int} (w : Nat) (hw : 1 ≤ w ∧ w ≤ 7) (hn : 0 ≤ n ∧ n < 2 ^ (8 * w)) : F35_d 600 (s, n, (w : Int)) = some (s ++ strOfNums (beP w n), 0) := by
  obtain ⟨e1, e2, e3⟩ := put_lim w (by omega) hw.1
  have c : ¬ ((8 * (w : Int)) < 0) := by omega
  have i1 : F64_d 600 ((w : Int), 1, 7) = some true := in_yes (by omega)
  have i2 : F64_d 600 (n, 0, 2 ^ (8 * w) - 1) = some true := in_yes (by omega)
  have hl := nums_len s
  have r := putg_loop n w 600 (nums s) (by omega) hw.2 (by omega)
  simp only [F35_d, FSpec.d, F35_s, i1, Bool.not_true, e1, c, if_false, e2, i2, e3, bytesL_eq, F35_d9, r, numsOf_rows8, strOf_app, strOf_nums]
/-- The number of some bytes. -/
def gw (l : List Int) (m : Nat) : Nat → Int
  | 0 => 0
  | i + 1 => gw l m i * 256 + l.getD (m + i) 0
theorem gw_rng (l : List Int) (hl : ∀ x ∈ l, 0 ≤ x ∧ x ≤ 255) (m : Nat) : ∀ i : Nat, 0 ≤ gw l m i ∧ gw l m i < 2 ^ (8 * i)
  | 0 => ⟨Int.le_refl _, by show (0 : Int) < 1; decide⟩
  | i + 1 => by
    have h := gw_rng l hl m i
    have hd : 0 ≤ l.getD (m + i) 0 ∧ l.getD (m + i) 0 ≤ 255 := by
      rw [List.getD_eq_getElem?_getD]
      by_cases hlt : m + i < l.length
      · rw [List.getElem?_eq_getElem hlt]; exact hl _ (List.getElem_mem hlt)
      · rw [List.getElem?_eq_none (by omega)]; simp
    have e : (2 : Int) ^ (8 * (i + 1)) = 2 ^ (8 * i) * 256 := by rw [show 8 * (i + 1) = 8 * i + 8 by omega, Int.pow_add]; rfl
    show 0 ≤ gw l m i * 256 + l.getD (m + i) 0 ∧ gw l m i * 256 + l.getD (m + i) 0 < 2 ^ (8 * (i + 1))
    rw [e]
    generalize (2 : Int) ^ (8 * i) = P at h ⊢
    omega
theorem pow56 {i : Nat} (h : i ≤ 7) : (2 : Int) ^ (8 * i) ≤ 72057594037927936 := by
  have := two_le (a := 8 * i) (b := 56) (by omega)
  have e : (2 : Int) ^ 56 = 72057594037927936 := by decide
  omega
theorem getg_step (s : ByteArray) (m w i f : Nat) (hm : m ≤ 1000000) (hi : i < w) (hw : w ≤ 7) (hs : m + i < s.size) : (F100_l13 600).L (f + 1) (s, (m : Int), gw (nums s) m i, (w : Int), (i : Int)) = (F100_l13 600).L f (s, (m : Int), gw (nums s) m (i + 1), (w : Int), ((i + 1 : Nat) : Int)) := by
  show (F100_l13 600).b _ _ ((F100_l13 600).L f) some = _
  obtain ⟨Lf, hL⟩ : ∃ Lf, Lf = (F100_l13 600).L f := ⟨_, rfl⟩
  rw [← hL]
  have ha := gw_rng (nums s) (nums_rng s) m i
  have hp := pow56 (i := i) (by omega)
  have hp2 := two_le (a := 8 * i) (b := 48) (by omega)
  have e48 : (2 : Int) ^ 48 = 281474976710656 := by decide
  have c1 : decide ((i : Int) < (w : Int)) = true := by rw [decide_eq_true_iff]; omega
  have e1 : i64 ((m : Int) + (i : Int)) = ((m + i : Nat) : Int) := by rw [i64_id (by omega)]; omega
  have c2 : (0 : Int) ≤ ((m + i : Nat) : Int) := by omega
  have e3 : i64 ((i : Int) + 1) = ((i + 1 : Nat) : Int) := by rw [i64_id (by omega)]; omega
  obtain ⟨u, hu, hv⟩ := byte_get s (m + i) hs
  have hr := num_rng s (m + i)
  have e8 : ((8 : Int)).toNat = 8 := rfl
  have e4 : shL .i64 (gw (nums s) m i) 8 = gw (nums s) m i * 2 ^ 8 := shL_ok (by omega) (by rw [e8]; omega)
  have e5 : IntKind.i64.wrap ((nums s).getD (m + i) 0) = (nums s).getD (m + i) 0 := i64_id (by omega)
  have e6 : bOr .i64 (gw (nums s) m i * 2 ^ 8) ((nums s).getD (m + i) 0) = gw (nums s) m i * 2 ^ 8 + (nums s).getD (m + i) 0 := bOr_ok (by omega) ha.1 (by omega) (by omega)
  simp only [F100_l13, c1, e1, c2, if_true, Int.toNat_natCast, hu, hv, e4, e5, e6, e3]
  exact if_pos trivial
theorem getg_loop (s : ByteArray) (m w : Nat) (hm : m ≤ 1000000) (hw : w ≤ 7) (hs : m + w ≤ s.size) : ∀ (k i f : Nat), k < f → i + k = w → (F100_l13 600).L f (s, (m : Int), gw (nums s) m i, (w : Int), (i : Int)) = some (gw (nums s) m w)
  | 0, i, f, hf, hk => by
    obtain ⟨g, rfl⟩ : ∃ g, f = g + 1 := ⟨f - 1, by omega⟩
    obtain rfl : i = w := by omega
    show (F100_l13 600).b _ _ ((F100_l13 600).L g) some = _
    have c0 : decide ((i : Int) < (i : Int)) = false := by rw [decide_eq_false_iff_not]; omega
    simp only [F100_l13, c0]
  | k + 1, i, f, hf, hk => by
    obtain ⟨g, rfl⟩ : ∃ g, f = g + 1 := ⟨f - 1, by omega⟩
    rw [getg_step s m w i g hm (by omega) hw (by omega)]
    exact getg_loop s m w hm hw hs k (i + 1) g (by omega) (by omega)
theorem get_ok (s : ByteArray) (m w : Nat) (hm : m ≤ 1000000) (hw : 1 ≤ w ∧ w ≤ 7) (h : m + w ≤ s.size) (hs : s.size ≤ 1000000) : F100_d 600 (s, (m : Int), (w : Int)) = some (gw (nums s) m w, 0) := by
  have i1 : F64_d 600 ((w : Int), 1, 7) = some true := in_yes (by omega)
  have c1 : decide ((m : Int) < 0) = false := by rw [decide_eq_false_iff_not]; omega
  have e1 : i64 ((s.size : Int) - (w : Int)) = (s.size : Int) - (w : Int) := i64_id (by omega)
  have c2 : decide ((m : Int) > (s.size : Int) - (w : Int)) = false := by rw [decide_eq_false_iff_not]; omega
  have r := getg_loop s m w hm hw.2 h w 0 600 (by omega) (by omega)
  have r' : (F100_l13 600).L 600 (s, (m : Int), 0, (w : Int), 0) = some (gw (nums s) m w) := r
  simp only [F100_d, FSpec.d, F100_s, i1, Bool.not_true, c1, e1, c2, F100_d13, r']
/-! What was put is got. -/
end Go.Proofs.YtdmedeaknnldcaaGreatDoor
