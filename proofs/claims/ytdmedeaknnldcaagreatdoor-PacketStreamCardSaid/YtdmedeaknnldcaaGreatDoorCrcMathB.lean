/- More on the checksum in plain numbers: a string is one word; injectivity; what a check asks; flips. No program. -/
import Derived.Test.YtdmedeaknnldcaaGreatDoorCrcMath
namespace Go.Proofs.YtdmedeaknnldcaaGreatDoor.Crc

/-- The bytes of a string as one number, the first one lowest. -/
def word : List UInt8 → Nat
  | [] => 0
  | c :: t => c.toNat + 256 * word t
theorem add_xor (c t : Nat) (hc : c < 256) : c + 256 * t = c ^^^ (t * 256) := by
  have h := byte_parts (c + 256 * t)
  have e1 : (c + 256 * t) / 256 = t := by omega
  have e2 : (c + 256 * t) % 256 = c := by omega
  rw [e1, e2] at h
  rw [← h, Nat.xor_comm]
theorem run_word (r : Nat) (l : List UInt8) : run r l = bsteps (8 * l.length) (r ^^^ word l) := by
  induction l generalizing r with
  | nil => rw [run_nil]; simp [word, bsteps]
  | cons c t ih =>
    rw [run_cons, ih, List.length_cons, Nat.mul_add, Nat.mul_one, bsteps_add]
    congr 1
    have hm := bsteps_mul 8 (word t)
    have e : word t * 2 ^ 8 = word t * 256 := by omega
    rw [e] at hm
    simp only [word]
    rw [add_xor _ _ c.toNat_lt, ← Nat.xor_assoc, bsteps_xor 8 (r ^^^ c.toNat), hm]
theorem bstep_eq_zero {z : Nat} (hz : z < 2 ^ 32) (h : bstep z = 0) : z = 0 := by
  unfold bstep at h
  split at h
  · exfalso
    have h2 : z / 2 = 3988292384 := by
      have := congrArg (· ^^^ 3988292384) h
      simpa [Nat.xor_assoc] using this
    omega
  · omega
theorem bsteps_eq_zero {z : Nat} (n : Nat) (hz : z < 2 ^ 32) (h : bsteps n z = 0) : z = 0 := by
  induction n with
  | zero => exact h
  | succ n ih => exact ih (bstep_eq_zero (bsteps_lt n hz) h)
theorem xor_eq_zero {a b : Nat} (h : a ^^^ b = 0) : a = b := by
  have := congrArg (· ^^^ b) h
  simpa [Nat.xor_assoc] using this
theorem bsteps_inj {a b : Nat} (n : Nat) (ha : a < 2 ^ 32) (hb : b < 2 ^ 32) (h : bsteps n a = bsteps n b) : a = b := by
  refine xor_eq_zero (bsteps_eq_zero n (xor_lt 32 ha hb) ?_)
  rw [bsteps_xor, h, Nat.xor_self]
theorem word_lt (l : List UInt8) : word l < 256 ^ l.length := by
  induction l with
  | nil => simp [word]
  | cons c t ih =>
    have := c.toNat_lt
    simp only [word, List.length_cons, Nat.pow_succ]
    omega
theorem word_inj {a b : List UInt8} (hl : a.length = b.length) (h : word a = word b) : a = b := by
  induction a generalizing b with
  | nil => cases b with
    | nil => rfl
    | cons c t => simp at hl
  | cons c t ih => cases b with
    | nil => simp at hl
    | cons d u =>
      simp only [word] at h
      have hc := c.toNat_lt
      have hd := d.toNat_lt
      have e1 : c.toNat = d.toNat := by omega
      have e2 : word t = word u := by omega
      rw [ih (by simpa using hl) e2, UInt8.toNat_inj.1 e1]
theorem xor_cancel {a b c : Nat} (h : a ^^^ c = b ^^^ c) : a = b := by
  have := congrArg (· ^^^ c) h
  simpa [Nat.xor_assoc] using this
theorem xor_cancel_left {a b c : Nat} (h : c ^^^ a = c ^^^ b) : a = b := by
  rw [Nat.xor_comm c a, Nat.xor_comm c b] at h
  exact xor_cancel h
theorem sum_eq (l : List UInt8) : sum l = bsteps (8 * l.length) (all ^^^ word l) ^^^ all := by
  unfold sum upd
  rw [Nat.zero_xor, run_word]
theorem word_lt4 {l : List UInt8} (h : l.length ≤ 4) : word l < 2 ^ 32 := by
  have h1 := word_lt l
  have h2 : 256 ^ l.length ≤ 256 ^ 4 := Nat.pow_le_pow_right (by decide) h
  omega
/-- Different strings of the same length, of at most four bytes, have different sums. -/
theorem sum_inj {a b : List UInt8} (hl : a.length = b.length) (h4 : a.length ≤ 4) (h : sum a = sum b) : a = b := by
  rw [sum_eq, sum_eq, hl] at h
  have h1 := bsteps_inj _ (xor_lt 32 all_lt (word_lt4 h4)) (xor_lt 32 all_lt (word_lt4 (by omega))) (xor_cancel h)
  exact word_inj hl (xor_cancel_left h1)
/-- Linearity over strings of one length. -/
theorem sum_linear {s a b c : List UInt8} (ha : a.length = s.length) (hb : b.length = s.length) (hc : c.length = s.length) (h : word c = word s ^^^ word a ^^^ word b) : sum s ^^^ sum a ^^^ sum b = sum c := by
  rw [sum_eq, sum_eq, sum_eq, sum_eq, ha, hb, hc]
  generalize 8 * s.length = n
  have e : all ^^^ word c = (all ^^^ word s) ^^^ ((all ^^^ word a) ^^^ (all ^^^ word b)) := by
    rw [h]
    apply Nat.eq_of_testBit_eq
    intro i
    simp only [Nat.testBit_xor]
    cases all.testBit i <;> cases (word s).testBit i <;> cases (word a).testBit i <;> cases (word b).testBit i <;> rfl
  have e2 : bsteps n (all ^^^ word c) = bsteps n (all ^^^ word s) ^^^ (bsteps n (all ^^^ word a) ^^^ bsteps n (all ^^^ word b)) := by
    rw [e, bsteps_xor n (all ^^^ word s), bsteps_xor n (all ^^^ word a)]
  rw [e2]
  generalize bsteps n (all ^^^ word s) = x
  generalize bsteps n (all ^^^ word a) = y
  generalize bsteps n (all ^^^ word b) = z
  apply Nat.eq_of_testBit_eq
  intro i
  simp only [Nat.testBit_xor]
  cases all.testBit i <;> cases x.testBit i <;> cases y.testBit i <;> cases z.testBit i <;> rfl
theorem word_append (a b : List UInt8) : word (a ++ b) = word a + 256 ^ a.length * word b := by
  induction a with
  | nil => simp [word]
  | cons c t ih =>
    simp only [List.cons_append, word, List.length_cons]
    rw [ih, Nat.pow_succ, Nat.mul_add, Nat.mul_comm (256 ^ t.length) 256, Nat.mul_assoc]
    omega

theorem word_testBit (l : List UInt8) (i : Nat) : (word l).testBit i = (l.getD (i / 8) 0).toNat.testBit (i % 8) := by
  induction l generalizing i with
  | nil => simp [word]
  | cons c t ih =>
    simp only [word]
    rw [add_xor _ _ c.toNat_lt, Nat.testBit_xor]
    have hm := Nat.testBit_mul_two_pow (word t) i 8
    have e : word t * 2 ^ 8 = word t * 256 := by omega
    rw [e] at hm
    rw [hm]
    by_cases hi : i < 8
    · have e1 : i / 8 = 0 := by omega
      have e2 : i % 8 = i := by omega
      have e3 : decide (8 ≤ i) = false := by simp; omega
      rw [e1, e2, e3]; simp
    · have e1 : i / 8 = (i - 8) / 8 + 1 := by omega
      have e2 : i % 8 = (i - 8) % 8 := by omega
      have e3 : decide (8 ≤ i) = true := by simp; omega
      have e4 : c.toNat.testBit i = false := Nat.testBit_lt_two_pow (Nat.lt_of_lt_of_le c.toNat_lt (Nat.pow_le_pow_right (n := 2) (i := 8) (j := i) (by decide) (by omega)))
      rw [e3, e4, ih, e1, e2]; simp
/-- One bit of a string changed. -/
theorem word_set (l : List UInt8) (k v : Nat) (hk : k / 8 < l.length) (hv : v ≤ 1) :
    word (l.set (k / 8) (l.getD (k / 8) 0 ^^^ UInt8.ofNat (v * 2 ^ (k % 8)))) = word l ^^^ (v * 2 ^ k) := by
  apply Nat.eq_of_testBit_eq
  intro i
  rw [Nat.testBit_xor, word_testBit, word_testBit]
  have hs : v * 2 ^ (k % 8) < 256 := by
    have h1 : 2 ^ (k % 8) ≤ 2 ^ 7 := Nat.pow_le_pow_right (by decide) (by omega)
    have h2 : v * 2 ^ (k % 8) ≤ 1 * 2 ^ (k % 8) := Nat.mul_le_mul_right _ hv
    omega
  have hbit : ∀ j m : Nat, (v * 2 ^ m).testBit j = (decide (v = 1) && decide (m = j)) := by
    intro j m
    rcases Nat.lt_or_ge v 1 with h0 | h1
    · have : v = 0 := by omega
      subst this; simp
    · have : v = 1 := by omega
      subst this; rw [Nat.one_mul, Nat.testBit_two_pow]; simp
  simp only [List.getD_eq_getElem?_getD, List.getElem?_set]
  by_cases he : k / 8 = i / 8
  · rw [if_pos he, if_pos hk, ← he]
    simp only [Option.getD_some, UInt8.toNat_xor, Nat.testBit_xor]
    rw [UInt8.toNat_ofNat', Nat.mod_eq_of_lt hs, hbit, hbit]
    congr 2
    have : (k % 8 = i % 8) ↔ (k = i) := by omega
    simp [this]
  · rw [if_neg he, hbit]
    have : ¬ k = i := by rintro rfl; exact he rfl
    simp [this]
theorem mod_pow_succ (m i : Nat) : m % 2 ^ (i + 1) = (m % 2 ^ i) + (m / 2 ^ i % 2) * 2 ^ i := by
  rw [Nat.pow_succ, Nat.mod_mul, Nat.mul_comm]
theorem low_xor (m i v : Nat) (hm : m < 2 ^ i) : m + v * 2 ^ i = m ^^^ (v * 2 ^ i) := by
  have h1 := Nat.xor_div_two_pow (a := m) (b := v * 2 ^ i) (n := i)
  have h2 := Nat.xor_mod_two_pow (a := m) (b := v * 2 ^ i) (n := i)
  have hp : 0 < 2 ^ i := Nat.two_pow_pos i
  rw [Nat.mul_div_cancel _ hp, Nat.div_eq_of_lt hm, Nat.zero_xor] at h1
  rw [Nat.mul_mod_left, Nat.xor_zero, Nat.mod_eq_of_lt hm] at h2
  have h3 := Nat.div_add_mod (m ^^^ v * 2 ^ i) (2 ^ i)
  rw [h1, h2, Nat.mul_comm] at h3
  omega
theorem word_flipTo (l : List UInt8) (k m i : Nat) (hk : k + i ≤ 8 * l.length) : word (flipTo l k m i) = word l ^^^ (m % 2 ^ i * 2 ^ k) := by
  induction i with
  | zero => simp [flipTo, Nat.mod_one]
  | succ i ih =>
    simp only [flipTo]
    rw [word_set _ _ _ (by rw [flipTo_length]; omega) (by omega), ih (by omega), Nat.xor_assoc]
    congr 1
    rw [mod_pow_succ, low_xor _ _ _ (Nat.mod_lt _ (Nat.two_pow_pos i))]
    have h := Nat.shiftLeft_xor_distrib (a := m % 2 ^ i) (b := m / 2 ^ i % 2 * 2 ^ i) (i := k)
    simp only [Nat.shiftLeft_eq] at h
    rw [h, Nat.mul_assoc, ← Nat.pow_add, Nat.add_comm i k]
/-- Flipping twice changes nothing. -/
theorem flipTo_twice (l : List UInt8) (k m i : Nat) (hk : k + i ≤ 8 * l.length) : flipTo (flipTo l k m i) k m i = l := by
  refine word_inj (by rw [flipTo_length, flipTo_length]) ?_
  rw [word_flipTo _ _ _ _ (by rw [flipTo_length]; omega), word_flipTo _ _ _ _ hk, Nat.xor_assoc, Nat.xor_self, Nat.xor_zero]
theorem mul_lt_pow {m n k : Nat} (hm : m < 2 ^ n) : m * 2 ^ k < 2 ^ (n + k) := by
  rw [Nat.pow_add]
  exact Nat.mul_lt_mul_of_pos_right hm (Nat.two_pow_pos k)
theorem bsteps_shift (n k m : Nat) : bsteps (n + k) (m * 2 ^ k) = bsteps n m := by
  rw [bsteps_add, bsteps_mul]
/-- The register over a flipped string. -/
theorem run_flipTo (r : Nat) (l : List UInt8) (k m n : Nat) (hm : m < 2 ^ n) (hk : k + n ≤ 8 * l.length) : run r (flipTo l k m n) = run r l ^^^ bsteps (8 * l.length - k) m := by
  rw [run_word, run_word, flipTo_length, word_flipTo _ _ _ _ hk, Nat.mod_eq_of_lt hm, ← Nat.xor_assoc, bsteps_xor]
  congr 1
  have := bsteps_shift (8 * l.length - k) k m
  rw [Nat.sub_add_cancel (by omega)] at this
  exact this
end Go.Proofs.YtdmedeaknnldcaaGreatDoor.Crc
