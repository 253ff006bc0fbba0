/- The checksum in plain numbers: the register's step, strings, linearity, injectivity. No program. -/
namespace Go.Proofs.YtdmedeaknnldcaaGreatDoor.Crc

def bstep (r : Nat) : Nat := if r % 2 = 1 then (r / 2) ^^^ 3988292384 else r / 2
def bsteps : Nat → Nat → Nat
  | 0, r => r
  | n + 1, r => bstep (bsteps n r)
/-- The register over bytes. -/
def run (r : Nat) (l : List UInt8) : Nat := l.foldl (fun r c => bsteps 8 (r ^^^ c.toNat)) r
def all : Nat := 4294967295
def upd (s : Nat) (l : List UInt8) : Nat := run (s ^^^ all) l ^^^ all
def sum (l : List UInt8) : Nat := upd 0 l

theorem xor_lt {a b : Nat} (n : Nat) (ha : a < 2 ^ n) (hb : b < 2 ^ n) : a ^^^ b < 2 ^ n := Nat.xor_lt_two_pow ha hb
theorem bstep_lt {r : Nat} (h : r < 2 ^ 32) : bstep r < 2 ^ 32 := by
  unfold bstep; split
  · exact xor_lt 32 (by omega) (by decide)
  · omega
theorem bsteps_lt {r : Nat} (n : Nat) (h : r < 2 ^ 32) : bsteps n r < 2 ^ 32 := by
  induction n with
  | zero => exact h
  | succ n ih => exact bstep_lt ih
theorem xor_mod2 (a b : Nat) : (a ^^^ b) % 2 = (a % 2 + b % 2) % 2 := by
  have h := Nat.xor_mod_two_pow (a := a) (b := b) (n := 1)
  simp at h
  rw [h]
  rcases Nat.mod_two_eq_zero_or_one a with ha | ha <;> rcases Nat.mod_two_eq_zero_or_one b with hb | hb <;> simp [ha, hb]
theorem xor_div2 (a b : Nat) : (a ^^^ b) / 2 = (a / 2) ^^^ (b / 2) := by
  have h := Nat.xor_div_two_pow (a := a) (b := b) (n := 1)
  simpa using h
/-- The step is linear. -/
theorem bstep_xor (a b : Nat) : bstep (a ^^^ b) = bstep a ^^^ bstep b := by
  unfold bstep
  rw [xor_mod2, xor_div2]
  rcases Nat.mod_two_eq_zero_or_one a with ha | ha <;> rcases Nat.mod_two_eq_zero_or_one b with hb | hb <;> simp [ha, hb]
  · rw [Nat.xor_assoc]
  · rw [Nat.xor_assoc, Nat.xor_assoc]; congr 1; rw [Nat.xor_comm]
  · rw [Nat.xor_assoc, Nat.xor_comm 3988292384, Nat.xor_assoc (b / 2), Nat.xor_self, Nat.xor_zero]
theorem bsteps_xor (n a b : Nat) : bsteps n (a ^^^ b) = bsteps n a ^^^ bsteps n b := by
  induction n with
  | zero => rfl
  | succ n ih => simp only [bsteps]; rw [ih, bstep_xor]
theorem bsteps_mul (n k : Nat) : bsteps n (k * 2 ^ n) = k := by
  induction n generalizing k with
  | zero => simp [bsteps]
  | succ n ih =>
    have e : k * 2 ^ (n + 1) = (k * 2) * 2 ^ n := by rw [Nat.pow_succ, Nat.mul_assoc, Nat.mul_comm 2]
    simp only [bsteps]
    rw [e, ih]
    unfold bstep
    rw [if_neg (by omega)]
    omega
/-- A byte at once: the rows of the table. -/
theorem byte_parts (x : Nat) : (x / 256 * 256) ^^^ (x % 256) = x := by
  have h1 : ((x / 256 * 256) ^^^ (x % 256)) / 256 = x / 256 := by
    have h := Nat.xor_div_two_pow (a := x / 256 * 256) (b := x % 256) (n := 8)
    have e1 : x / 256 * 256 / 2 ^ 8 = x / 256 := by omega
    have e2 : x % 256 / 2 ^ 8 = 0 := by omega
    rw [e1, e2, Nat.xor_zero] at h
    exact h
  have h2 : ((x / 256 * 256) ^^^ (x % 256)) % 256 = x % 256 := by
    have h := Nat.xor_mod_two_pow (a := x / 256 * 256) (b := x % 256) (n := 8)
    have e1 : x / 256 * 256 % 2 ^ 8 = 0 := by omega
    have e2 : x % 256 % 2 ^ 8 = x % 256 := by omega
    rw [e1, e2, Nat.zero_xor] at h
    exact h
  omega
/-- A byte at once: the rows of the table. -/
theorem byte_step (x : Nat) : bsteps 8 x = (x / 256) ^^^ bsteps 8 (x % 256) := by
  have h := bsteps_mul 8 (x / 256)
  have e : x / 256 * 2 ^ 8 = x / 256 * 256 := by omega
  rw [e] at h
  conv => lhs; rw [← byte_parts x, bsteps_xor, h]

theorem xor_div256 (q c : Nat) (h : c < 256) : (q ^^^ c) / 256 = q / 256 := by
  have h1 := Nat.xor_div_two_pow (a := q) (b := c) (n := 8)
  have e : c / 2 ^ 8 = 0 := by omega
  rw [e, Nat.xor_zero] at h1
  exact h1
theorem run_lt {r : Nat} (l : List UInt8) (h : r < 2 ^ 32) : run r l < 2 ^ 32 := by
  unfold run
  induction l generalizing r with
  | nil => exact h
  | cons c l ih => exact ih (bsteps_lt 8 (xor_lt 32 h (by have := c.toNat_lt; omega)))
theorem run_nil (r : Nat) : run r [] = r := by simp only [run, List.foldl_nil]
theorem run_cons (r : Nat) (c : UInt8) (l : List UInt8) : run r (c :: l) = run (bsteps 8 (r ^^^ c.toNat)) l := by simp only [run, List.foldl_cons]
theorem run_append (r : Nat) (a b : List UInt8) : run r (a ++ b) = run (run r a) b := by simp [run, List.foldl_append]
theorem run_snoc (r : Nat) (a : List UInt8) (c : UInt8) : run r (a ++ [c]) = bsteps 8 (run r a ^^^ c.toNat) := by rw [run_append, run_cons, run_nil]
theorem all_lt : all < 2 ^ 32 := by unfold all; omega
theorem upd_lt {s : Nat} (l : List UInt8) (h : s < 2 ^ 32) : upd s l < 2 ^ 32 := by
  unfold upd
  exact xor_lt 32 (run_lt l (xor_lt 32 h all_lt)) all_lt
theorem sum_lt (l : List UInt8) : sum l < 2 ^ 32 := by
  unfold sum
  exact upd_lt l (by omega)
/-- Bits of a string changed, the first i of a mask. -/
def flipTo (l : List UInt8) (at_ mask : Nat) : Nat → List UInt8
  | 0 => l
  | i + 1 => (flipTo l at_ mask i).set ((at_ + i) / 8) ((flipTo l at_ mask i).getD ((at_ + i) / 8) 0 ^^^ UInt8.ofNat (mask / 2 ^ i % 2 * 2 ^ ((at_ + i) % 8)))
end Go.Proofs.YtdmedeaknnldcaaGreatDoor.Crc
