/- Numbers in bytes and bits, in plain numbers. No program. -/
namespace Go.Proofs.Ytlmpeehjcjbfpaa.Bits

/-! ### Pairs of bits -/
def pairN (w n : Nat) : Nat := w / 2 ^ n % 4
def setN (w n v : Nat) : Nat := 2 ^ n * (4 * (w / 2 ^ (n + 2)) + v) + w % 2 ^ n
theorem setN_lt {w n v : Nat} (hn : n ≤ 30) (hw : w < 2 ^ 32) (hv : v < 4) : setN w n v < 2 ^ 32 := by
  unfold setN
  have h1 : w % 2 ^ n < 2 ^ n := Nat.mod_lt _ (Nat.two_pow_pos n)
  have h2 : w / 2 ^ (n + 2) < 2 ^ (30 - n) := by
    apply Nat.div_lt_of_lt_mul
    rw [← Nat.pow_add]
    have : n + 2 + (30 - n) = 32 := by omega
    rw [this]; exact hw
  have h3 : 4 * (w / 2 ^ (n + 2)) + v + 1 ≤ 4 * 2 ^ (30 - n) := by omega
  have h4 : 2 ^ n * (4 * (w / 2 ^ (n + 2)) + v + 1) ≤ 2 ^ n * (4 * 2 ^ (30 - n)) := Nat.mul_le_mul_left _ h3
  have h5 : 2 ^ n * (4 * 2 ^ (30 - n)) = 2 ^ 32 := by
    rw [show (4 : Nat) = 2 ^ 2 from rfl, ← Nat.pow_add, ← Nat.pow_add]
    congr 1; omega
  rw [Nat.mul_add, Nat.mul_one] at h4
  omega
theorem testBit_setN (w n v j : Nat) (hv : v < 4) : (setN w n v).testBit j = if n ≤ j ∧ j < n + 2 then v.testBit (j - n) else w.testBit j := by
  unfold setN
  rw [Nat.testBit_two_pow_mul_add _ (Nat.mod_lt _ (Nat.two_pow_pos n))]
  by_cases h1 : j < n
  · rw [if_pos h1, if_neg (by omega), Nat.testBit_mod_two_pow]
    simp [h1]
  · rw [if_neg h1]
    have e : 4 * (w / 2 ^ (n + 2)) + v = 2 ^ 2 * (w / 2 ^ (n + 2)) + v := rfl
    rw [e, Nat.testBit_two_pow_mul_add _ (show v < 2 ^ 2 from hv)]
    by_cases h2 : j - n < 2
    · rw [if_pos h2, if_pos (by omega)]
    · rw [if_neg h2, if_neg (by omega), Nat.testBit_div_two_pow]
      congr 1; omega
/-- The bit operations of the code: the pair is cleared, then set. -/
theorem setN_bits (w n v : Nat) (hv : v < 4) : (w ^^^ (w &&& (3 * 2 ^ n))) ||| (v * 2 ^ n) = setN w n v := by
  apply Nat.eq_of_testBit_eq
  intro j
  rw [testBit_setN _ _ _ _ hv, Nat.testBit_or, Nat.testBit_xor, Nat.testBit_and, Nat.testBit_mul_two_pow, Nat.testBit_mul_two_pow]
  by_cases h1 : n ≤ j
  · by_cases h2 : j < n + 2
    · rw [if_pos ⟨h1, h2⟩]
      have h3 : (3 : Nat).testBit (j - n) = true := by
        have : j - n = 0 ∨ j - n = 1 := by omega
        rcases this with e | e <;> rw [e] <;> decide
      simp [h1, h3]
    · rw [if_neg (by omega)]
      have h3 : (3 : Nat).testBit (j - n) = false := Nat.testBit_lt_two_pow (show 3 < 2 ^ (j - n) from Nat.lt_of_lt_of_le (by decide : 3 < 2 ^ 2) (Nat.pow_le_pow_right (by decide) (by omega)))
      have h4 : v.testBit (j - n) = false := Nat.testBit_lt_two_pow (Nat.lt_of_lt_of_le (show v < 2 ^ 2 from hv) (Nat.pow_le_pow_right (by decide) (by omega)))
      simp [h3, h4]
  · rw [if_neg (by omega)]
    simp [h1]
theorem testBit_pairN (w n j : Nat) : (pairN w n).testBit j = (decide (j < 2) && w.testBit (n + j)) := by
  unfold pairN
  rw [show (4 : Nat) = 2 ^ 2 from rfl, Nat.testBit_mod_two_pow, Nat.testBit_div_two_pow, Nat.add_comm n j]
theorem pairN_lt (w n : Nat) : pairN w n < 4 := Nat.mod_lt _ (by decide)
/-- The bits from m on. -/
def hiN (w m : Nat) : Nat := w / 2 ^ m * 2 ^ m
theorem testBit_hiN (w m j : Nat) : (hiN w m).testBit j = (decide (m ≤ j) && w.testBit j) := by
  unfold hiN
  rw [Nat.testBit_mul_two_pow, Nat.testBit_div_two_pow]
  by_cases h : m ≤ j
  · rw [Nat.sub_add_cancel h]
  · simp [h]
def mixN (a b m : Nat) : Nat := 2 ^ m * (a / 2 ^ m) + b % 2 ^ m
theorem testBit_mixN (a b m j : Nat) : (mixN a b m).testBit j = if j < m then b.testBit j else a.testBit j := by
  unfold mixN
  rw [Nat.testBit_two_pow_mul_add _ (Nat.mod_lt _ (Nat.two_pow_pos m))]
  by_cases h : j < m
  · rw [if_pos h, if_pos h, Nat.testBit_mod_two_pow]; simp [h]
  · rw [if_neg h, if_neg h, Nat.testBit_div_two_pow]; congr 1; omega
theorem hiN_step (w n : Nat) : setN (hiN w (n + 2)) n (pairN w n) = hiN w n := by
  apply Nat.eq_of_testBit_eq
  intro j
  rw [testBit_setN _ _ _ _ (pairN_lt w n), testBit_hiN, testBit_hiN, testBit_pairN]
  by_cases h1 : n ≤ j
  · by_cases h2 : j < n + 2
    · rw [if_pos ⟨h1, h2⟩]
      have : n + (j - n) = j := by omega
      rw [this]
      have h3 : j - n < 2 := by omega
      simp [h1, h3]
    · rw [if_neg (by omega)]
      have h3 : n + 2 ≤ j := by omega
      simp [h1, h3]
  · rw [if_neg (by omega)]
    have h3 : ¬ n + 2 ≤ j := by omega
    simp [h1, h3]
theorem mixN_step (a b n : Nat) : setN (mixN a b n) n (pairN b n) = mixN a b (n + 2) := by
  apply Nat.eq_of_testBit_eq
  intro j
  rw [testBit_setN _ _ _ _ (pairN_lt b n), testBit_mixN, testBit_mixN, testBit_pairN]
  by_cases h1 : n ≤ j
  · by_cases h2 : j < n + 2
    · rw [if_pos ⟨h1, h2⟩, if_pos h2]
      have : n + (j - n) = j := by omega
      rw [this]
      have h3 : j - n < 2 := by omega
      simp [h3]
    · rw [if_neg (by omega), if_neg (by omega), if_neg h2]
  · rw [if_neg (by omega), if_pos (by omega), if_pos (by omega)]
theorem hiN_zero (w : Nat) : hiN w 0 = w := by simp [hiN]
theorem hiN_top {w : Nat} (h : w < 2 ^ 32) : hiN w 32 = 0 := by unfold hiN; rw [Nat.div_eq_of_lt h, Nat.zero_mul]
theorem mixN_zero (a b : Nat) : mixN a b 0 = a := by simp [mixN, Nat.mod_one]
theorem mixN_top {a b : Nat} (ha : a < 2 ^ 32) (hb : b < 2 ^ 32) : mixN a b 32 = b := by unfold mixN; rw [Nat.div_eq_of_lt ha, Nat.mod_eq_of_lt hb]; simp
theorem hiN_le (w m : Nat) : hiN w m ≤ w := by unfold hiN; exact Nat.div_mul_le_self w (2 ^ m)
theorem mixN_lt {a b m : Nat} (hm : m ≤ 32) (ha : a < 2 ^ 32) : mixN a b m < 2 ^ 32 := by
  unfold mixN
  have h1 : b % 2 ^ m < 2 ^ m := Nat.mod_lt _ (Nat.two_pow_pos m)
  have h2 : a / 2 ^ m < 2 ^ (32 - m) := by
    apply Nat.div_lt_of_lt_mul
    rw [← Nat.pow_add]
    have : m + (32 - m) = 32 := by omega
    rw [this]; exact ha
  have h4 : 2 ^ m * (a / 2 ^ m + 1) ≤ 2 ^ m * 2 ^ (32 - m) := Nat.mul_le_mul_left _ h2
  rw [← Nat.pow_add, show m + (32 - m) = 32 by omega, Nat.mul_add, Nat.mul_one] at h4
  omega
theorem pairN_setN (w n v : Nat) (hv : v < 4) : pairN (setN w n v) n = v := by
  apply Nat.eq_of_testBit_eq
  intro j
  rw [testBit_pairN, testBit_setN _ _ _ _ hv]
  by_cases h : j < 2
  · rw [if_pos (by omega), Nat.add_sub_cancel_left]; simp [h]
  · have : v.testBit j = false := Nat.testBit_lt_two_pow (Nat.lt_of_lt_of_le (show v < 2 ^ 2 from hv) (Nat.pow_le_pow_right (by decide) (by omega)))
    simp [h, this]
theorem pairN_other (w n m v : Nat) (hv : v < 4) (h : n + 2 ≤ m ∨ m + 2 ≤ n) : pairN (setN w n v) m = pairN w m := by
  apply Nat.eq_of_testBit_eq
  intro j
  rw [testBit_pairN, testBit_pairN, testBit_setN _ _ _ _ hv]
  by_cases hj : j < 2
  · rw [if_neg (by omega)]
  · simp [hj]

/-! ### Bytes -/
/-- The w bytes of n, the highest one first. -/
def putB (n w : Nat) : List UInt8 := (List.range w).map fun i => UInt8.ofNat (n / 2 ^ (8 * (w - 1 - i)))
def getB (l : List UInt8) : Nat := l.foldl (fun n c => n * 256 + c.toNat) 0
end Go.Proofs.Ytlmpeehjcjbfpaa.Bits
