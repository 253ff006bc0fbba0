/- Steim, the plain law: numbers in bits and bytes; the functions of bits without memory. -/
import Derived.Test.YtdmedeaknnldcaaDoorPkT
namespace Go.Proofs.YtdmedeaknnldcaaDoor
open Go.RowKit
set_option linter.unusedVariables false
set_option linter.unusedSimpArgs false
set_option linter.unnecessarySimpa false
def rowsI (xs : List Int) : List (List AV) := xs.map fun x => [I x]
theorem i64_id {x : Int} (h : -9223372036854775808 ≤ x ∧ x ≤ 9223372036854775807) : i64 x = x := IntWalk.i64_in _ (by omega)
theorem rowsI_len (xs : List Int) : (rowsI xs).length = xs.length := by simp [rowsI]
theorem rowsI_get (xs : List Int) (k : Nat) (h : k < xs.length) : (rowsI xs)[k]? = some [I xs[k]] := by simp [rowsI, h]
theorem rowsI_app (xs ys : List Int) : rowsI xs ++ rowsI ys = rowsI (xs ++ ys) := by simp [rowsI]
theorem rowsI_snoc (xs : List Int) (y : Int) : rowsI xs ++ [[AV.v (.int .i64 y)]] = rowsI (xs ++ [y]) := by simp [rowsI]
theorem LSpec.one (l : LSpec) (x : l.X) : l.L 600 x = l.b x l.Y (l.L 599) some := rfl
/-! Shifts and masks. -/
theorem two_le {a b : Nat} (h : a ≤ b) : (2 : Int) ^ a ≤ 2 ^ b := by
  have := Nat.pow_le_pow_right (n := 2) (by omega) h
  exact_mod_cast this
theorem shL_ok {x y : Int} (hy : 0 ≤ y ∧ y ≤ 63) (h : -9223372036854775808 ≤ x * 2 ^ y.toNat ∧ x * 2 ^ y.toNat ≤ 9223372036854775807) : shL .i64 x y = x * 2 ^ y.toNat := by
  unfold shL
  have : min y.toNat (IntKind.bits .i64) = y.toNat := Nat.min_eq_left (by show y.toNat ≤ 64; omega)
  rw [this]
  exact i64_id h
theorem shR_ok {x y : Int} (hy : 0 ≤ y ∧ y ≤ 63) : shR .i64 x y = x / 2 ^ y.toNat := by
  unfold shR
  have : min y.toNat (IntKind.bits .i64) = y.toNat := Nat.min_eq_left (by show y.toNat ≤ 64; omega)
  rw [this]
  exact Int.fdiv_eq_ediv_of_nonneg _ (Int.le_of_lt (Int.pow_pos (by omega)))
theorem ofInt_nat (x : Int) : ((BitVec.ofInt 64 x).toNat : Int) = x % 18446744073709551616 := by
  rw [BitVec.toNat_ofInt]
  have : (0 : Int) ≤ x % ((2 ^ 64 : Nat) : Int) := Int.emod_nonneg _ (by decide)
  rw [Int.toNat_of_nonneg this]
  rfl
theorem bAnd_ok {x : Int} {w : Nat} (hw : w ≤ 62) : bAnd .i64 x (2 ^ w - 1) = x % 2 ^ w := by
  unfold bAnd
  show IntKind.i64.wrap (((BitVec.ofInt 64 x &&& BitVec.ofInt 64 (2 ^ w - 1)).toNat : Nat) : Int) = _
  have hp : (1 : Int) ≤ 2 ^ w := Int.pow_pos (by omega)
  have hp2 : ((2 : Int) ^ w) ≤ 2 ^ 62 := two_le hw
  have h2 : (BitVec.ofInt 64 ((2 : Int) ^ w - 1)).toNat = 2 ^ w - 1 := by
    have e := ofInt_nat ((2 : Int) ^ w - 1)
    rw [Int.emod_eq_of_lt (by omega) (by omega)] at e
    have : (((2 ^ w - 1 : Nat)) : Int) = 2 ^ w - 1 := by
      rw [Int.ofNat_sub (Nat.pos_of_ne_zero (by simp))]; simp
    omega
  rw [BitVec.toNat_and, h2, Nat.and_two_pow_sub_one_eq_mod]
  have e1 : (((BitVec.ofInt 64 x).toNat % 2 ^ w : Nat) : Int) = x % 2 ^ w := by
    rw [Int.natCast_emod, ofInt_nat]
    have hd : ((2 ^ w : Nat) : Int) ∣ 18446744073709551616 := by
      refine ⟨((2 ^ (64 - w) : Nat) : Int), ?_⟩
      rw [← Int.natCast_mul, ← Nat.pow_add, show w + (64 - w) = 64 by omega]
      rfl
    rw [Int.emod_emod_of_dvd _ hd]
    simp
  rw [e1]
  have q1 : 0 ≤ x % 2 ^ w := Int.emod_nonneg _ (by omega)
  have q2 : x % 2 ^ w < 2 ^ w := Int.emod_lt_of_pos _ (by omega)
  exact i64_id (by omega)
theorem bOr_ok {a b : Int} {w : Nat} (hw : w ≤ 62) (ha : 0 ≤ a) (hb : 0 ≤ b ∧ b < 2 ^ w) (hs : a * 2 ^ w + b ≤ 9223372036854775807) : bOr .i64 (a * 2 ^ w) b = a * 2 ^ w + b := by
  unfold bOr
  show IntKind.i64.wrap (((BitVec.ofInt 64 (a * 2 ^ w) ||| BitVec.ofInt 64 b).toNat : Nat) : Int) = _
  have hp : (1 : Int) ≤ 2 ^ w := Int.pow_pos (by omega)
  have h0 : 0 ≤ a * 2 ^ w := Int.mul_nonneg ha (by omega)
  obtain ⟨A, rfl⟩ : ∃ A : Nat, a = (A : Int) := ⟨a.toNat, by omega⟩
  obtain ⟨B, rfl⟩ : ∃ B : Nat, b = (B : Int) := ⟨b.toNat, by omega⟩
  have eB : B < 2 ^ w := by
    have := hb.2
    have e : ((2 ^ w : Nat) : Int) = 2 ^ w := by simp
    omega
  have e1 : (BitVec.ofInt 64 ((A : Int) * 2 ^ w)).toNat = A * 2 ^ w := by
    have e := ofInt_nat ((A : Int) * 2 ^ w)
    rw [Int.emod_eq_of_lt (by omega) (by omega)] at e
    have : ((A * 2 ^ w : Nat) : Int) = (A : Int) * 2 ^ w := by simp
    omega
  have e2 : (BitVec.ofInt 64 (B : Int)).toNat = B := by
    have e := ofInt_nat (B : Int)
    rw [Int.emod_eq_of_lt (by omega) (by omega)] at e
    omega
  rw [BitVec.toNat_or, e1, e2, Nat.mul_comm A, ← Nat.two_pow_add_eq_or_of_lt eB]
  have e3 : ((2 ^ w * A + B : Nat) : Int) = (A : Int) * 2 ^ w + B := by simp [Int.mul_comm]
  rw [e3]
  exact i64_id (by omega)
/-- A pair that is empty is not cleared. -/
theorem bNot_ok {x : Int} {n : Nat} (hn : n ≤ 30) (hx : 0 ≤ x ∧ x ≤ 4294967295) (h0 : x / 2 ^ n % 4 = 0) : bNot .i64 x (3 * 2 ^ n) = x := by
  unfold bNot
  show IntKind.i64.wrap (((BitVec.ofInt 64 x &&& ~~~BitVec.ofInt 64 (3 * 2 ^ n)).toNat : Nat) : Int) = _
  obtain ⟨X, rfl⟩ : ∃ X : Nat, x = (X : Int) := ⟨x.toNat, by omega⟩
  have hp2 : ((2 : Int) ^ n) ≤ 2 ^ 30 := two_le hn
  have hp : (1 : Int) ≤ 2 ^ n := Int.pow_pos (by omega)
  have e1 : (BitVec.ofInt 64 (X : Int)).toNat = X := by
    have e := ofInt_nat (X : Int)
    rw [Int.emod_eq_of_lt (by omega) (by omega)] at e
    omega
  have e2 : (BitVec.ofInt 64 ((3 : Int) * 2 ^ n)).toNat = 3 * 2 ^ n := by
    have e := ofInt_nat ((3 : Int) * 2 ^ n)
    rw [Int.emod_eq_of_lt (by omega) (by omega)] at e
    have : ((3 * 2 ^ n : Nat) : Int) = (3 : Int) * 2 ^ n := by simp
    omega
  have hq : X / 2 ^ n % 4 = 0 := by
    have : ((X / 2 ^ n % 4 : Nat) : Int) = 0 := by simpa using h0
    omega
  have hz : (BitVec.ofInt 64 (X : Int) &&& ~~~BitVec.ofInt 64 ((3 : Int) * 2 ^ n)) = BitVec.ofInt 64 (X : Int) := by
    apply BitVec.eq_of_getLsbD_eq
    intro j hj
    rw [BitVec.getLsbD_and, BitVec.getLsbD_not, ← BitVec.testBit_toNat, ← BitVec.testBit_toNat, e1, e2, Nat.testBit_mul_two_pow]
    by_cases hjn : n ≤ j
    · obtain ⟨i, rfl⟩ : ∃ i, j = n + i := ⟨j - n, by omega⟩
      rw [Nat.add_sub_cancel_left]
      have et : X.testBit (n + i) = (X / 2 ^ n).testBit i := by rw [Nat.testBit_div_two_pow, Nat.add_comm]
      rw [et]
      have h4 : ∀ k < 2, (X / 2 ^ n).testBit k = false := fun k hk => by
        have : ((X / 2 ^ n) % 2 ^ 2).testBit k = false := by
          show ((X / 2 ^ n) % 4).testBit k = false
          rw [hq]; simp
        rw [Nat.testBit_mod_two_pow] at this
        simpa [hk] using this
      by_cases hi : i < 2
      · rw [h4 i hi]; simp
      · have h3 : (3 : Nat).testBit i = false := Nat.testBit_lt_two_pow (by
          have : 2 ^ 2 ≤ 2 ^ i := Nat.pow_le_pow_right (by omega) (by omega)
          omega)
        simp [h3, hj]
    · simp [hjn, hj]
  rw [hz, e1]
  exact i64_id (by omega)
/-! Bytes. -/
def rows8 (l : List Int) : List (List AV) := l.map fun n => [AV.v (.int .u8 n)]
def nums (b : ByteArray) : List Int := b.data.toList.map fun x => (x.toNat : Int)
theorem bytesL_eq (b : ByteArray) : bytesL b = rows8 (nums b) := by simp [bytesL, rows8, nums]
theorem numsOf_rows8 : ∀ l : List Int, numsOf (rows8 l) = some l
  | [] => rfl
  | x :: r => by
    have := numsOf_rows8 r
    simp only [rows8, List.map_cons, numsOf] at this ⊢
    rw [this]
theorem nums_len (b : ByteArray) : (nums b).length = b.size := by simp [nums]
theorem strOf_nums (b : ByteArray) : strOfNums (nums b) = b := by
  have h : (nums b).map (fun n => UInt8.ofNat n.toNat) = b.data.toList := by
    simp only [nums, List.map_map]
    conv => rhs; rw [← List.map_id b.data.toList]
    apply List.map_congr_left
    intro x _
    simp
  unfold strOfNums
  rw [h]
theorem strOf_app (l m : List Int) : strOfNums (l ++ m) = strOfNums l ++ strOfNums m := by
  apply ByteArray.ext
  simp [strOfNums]
theorem nums_strOf {l : List Int} (h : ∀ x ∈ l, 0 ≤ x ∧ x ≤ 255) : nums (strOfNums l) = l := by
  unfold nums strOfNums
  simp only [List.map_map]
  conv => rhs; rw [← List.map_id l]
  apply List.map_congr_left
  intro x hx
  have := h x hx
  simp
  omega
theorem nums_rng (b : ByteArray) : ∀ x ∈ nums b, 0 ≤ x ∧ x ≤ 255 := by
  intro x hx
  simp only [nums, List.mem_map] at hx
  obtain ⟨u, -, rfl⟩ := hx
  have := u.toNat_lt
  omega
theorem byte_get (b : ByteArray) (i : Nat) (h : i < b.size) : ∃ u : UInt8, b[i]? = some u ∧ (u.toNat : Int) = (nums b).getD i 0 := by
  refine ⟨b[i], by simp [h], ?_⟩
  have : i < (nums b).length := by rw [nums_len]; exact h
  simp [List.getD, nums, h]
  rfl
end Go.Proofs.YtdmedeaknnldcaaDoor
