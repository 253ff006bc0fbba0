/- The plain numbers of a series: times and indices. -/
import Derived.Test.YtmhbncpiloffgaaRateE
namespace Go.Proofs.Ytmhbncpiloffgaa
set_option linter.unusedVariables false
/-- A long region's list is given in two parts; the walk wants it in one. -/
theorem app_mark {P : Program} {ops : Array Oper} {Q : Exit → Act → World → Prop} {a : Act} {w : World} {xs ys : List Oper} (h : wpList P ops Q (List.append xs ys) a w) : wpList P ops Q (List.append xs ys) a w := h

theorem ceil_div_le (p m f : Nat) (hp : 1 ≤ p) : (f + p - 1) / p ≤ m ↔ f ≤ m * p := by
  rw [Nat.div_le_iff_le_mul_add_pred (by omega), Nat.mul_comm m p]
  omega
theorem ceilN_le (n d x j : Nat) (hd : 1 ≤ d) : ceilN n d x ≤ j ↔ x * n ≤ j * (d * 1000000) := by
  unfold ceilN
  obtain ⟨p, hp⟩ : ∃ p : Nat, d * 1000000 = p := ⟨_, rfl⟩
  rw [hp]
  have hx : x * n = (x / p * n) * p + x % p * n := by
    have h1 := Nat.div_add_mod x p
    calc x * n = (p * (x / p) + x % p) * n := by rw [h1]
      _ = (x / p * n) * p + x % p * n := by rw [Nat.add_mul, Nat.mul_comm p (x / p), Nat.mul_right_comm]
  rw [hx]
  generalize x / p * n = b
  generalize x % p * n = f
  by_cases hbj : b ≤ j
  · obtain ⟨m, rfl⟩ : ∃ m, j = b + m := ⟨j - b, by omega⟩
    have := ceil_div_le p m f (by omega)
    rw [Nat.add_mul]
    omega
  · have h1 : (j + 1) * p ≤ b * p := Nat.mul_le_mul_right _ (by omega)
    rw [Nat.add_mul] at h1
    constructor
    · intro h
      have : b ≤ j := Nat.le_trans (Nat.le_add_right _ _) h
      omega
    · intro h; omega
theorem ceil_after (n d x j : Nat) (hn : 1 ≤ n) (hd : 1 ≤ d) : ceilN n d x ≤ j ↔ x ≤ afterN n d j := by
  rw [ceilN_le n d x j hd]
  unfold afterN
  rw [Nat.le_div_iff_mul_le (by omega)]
theorem after_succ (n d k : Nat) (hn : 1 ≤ n) (hn2 : n ≤ 4096) (hd : 1 ≤ d) : afterN n d k + 1 ≤ afterN n d (k + 1) := by
  unfold afterN
  rw [Nat.add_mul, Nat.le_div_iff_mul_le (by omega), Nat.add_mul]
  have := Nat.div_mul_le_self (k * (d * 1000000)) n
  omega
theorem after_mono (n d : Nat) {j k : Nat} (h : j ≤ k) : afterN n d j ≤ afterN n d k := by
  unfold afterN
  exact Nat.div_le_div_right (Nat.mul_le_mul_right _ h)
theorem after_period (n d k : Nat) (hn : 1 ≤ n) : afterN n d (k + 1) = afterN n d k + d * 1000000 / n ∨ afterN n d (k + 1) = afterN n d k + d * 1000000 / n + 1 := by
  unfold afterN
  rw [Nat.add_mul, Nat.one_mul]
  generalize k * (d * 1000000) = a
  generalize d * 1000000 = b
  have h1 := Nat.div_add_mod a n
  have h2 := Nat.div_add_mod b n
  have h3 := Nat.mod_lt a (show n > 0 by omega)
  have h4 := Nat.mod_lt b (show n > 0 by omega)
  by_cases c : a % n + b % n < n
  · left
    have e : a + b = n * (a / n + b / n) + (a % n + b % n) := by rw [Nat.mul_add]; omega
    have : (a + b) / n = a / n + b / n := by
      rw [e, Nat.mul_add_div (by omega), Nat.div_eq_of_lt c]; omega
    exact this
  · right
    have e : a + b = n * (a / n + b / n + 1) + (a % n + b % n - n) := by rw [Nat.mul_add, Nat.mul_add]; omega
    have hr : a % n + b % n - n < n := by omega
    rw [e, Nat.mul_add_div (by omega), Nat.div_eq_of_lt hr, Nat.add_zero]
theorem after_add (n d k : Nat) (hn : 1 ≤ n) : afterN n d (k + n) = afterN n d k + d * 1000000 := by
  unfold afterN
  rw [Nat.add_mul, Nat.add_mul_div_left _ _ (by omega)]
theorem ceil_of_after (n d k : Nat) (hn : 1 ≤ n) (hn2 : n ≤ 4096) (hd : 1 ≤ d) : ceilN n d (afterN n d k) = k := by
  apply Nat.le_antisymm
  · exact (ceil_after n d _ _ hn hd).2 (Nat.le_refl _)
  · cases k with
    | zero => exact Nat.zero_le _
    | succ k =>
      have h : ¬ ceilN n d (afterN n d (k + 1)) ≤ k := by
        rw [ceil_after n d _ _ hn hd]
        have := after_succ n d k hn hn2 hd
        omega
      omega
theorem ceil_of_after1 (n d k : Nat) (hn : 1 ≤ n) (hn2 : n ≤ 4096) (hd : 1 ≤ d) : ceilN n d (afterN n d k + 1) = k + 1 := by
  apply Nat.le_antisymm
  · exact (ceil_after n d _ _ hn hd).2 (after_succ n d k hn hn2 hd)
  · have h : ¬ ceilN n d (afterN n d k + 1) ≤ k := by
      rw [ceil_after n d _ _ hn hd]
      omega
    omega
end Go.Proofs.Ytmhbncpiloffgaa
