/- Utc, the plain law: the order of digits. -/
import Derived.Test.YtaanjciokdpkmaaDoorUtM
namespace Go.Proofs.YtaanjciokdpkmaaDoor
set_option linter.unusedVariables false
set_option linter.unusedSimpArgs false
set_option linter.unnecessarySimpa false
open Go.Op (bytesLess)
theorem bl_app : ∀ {a b : List UInt8} (x y : List UInt8), a.length = b.length → bytesLess a b = true → bytesLess (a ++ x) (b ++ y) = true
  | [], [], x, y, _, h => by cases h
  | p :: a, q :: b, x, y, hl, h => by
    simp only [List.cons_append, bytesLess, Bool.or_eq_true, Bool.and_eq_true] at h ⊢
    rcases h with h | ⟨h1, h2⟩
    · exact .inl h
    · exact .inr ⟨h1, bl_app x y (by simpa using hl) h2⟩
theorem bl_same : ∀ (a : List UInt8) {x y : List UInt8}, bytesLess x y = true → bytesLess (a ++ x) (a ++ y) = true
  | [], x, y, h => h
  | p :: a, x, y, h => by
    simp only [List.cons_append, bytesLess, Bool.or_eq_true, Bool.and_eq_true]
    exact .inr ⟨by simp, bl_same a h⟩
theorem dg_mod (n j w : Nat) (h : j < w) : Lib.dg (n % 10 ^ w) j = Lib.dg n j := by
  unfold Lib.dg
  congr 2
  obtain ⟨k, rfl⟩ : ∃ k, w = j + 1 + k := ⟨w - (j + 1), by omega⟩
  rw [Nat.pow_add, Nat.pow_succ, Nat.mul_assoc, Nat.mod_mul_right_div_self, Nat.mod_mul_right_mod]
theorem pad_mod (w n : Nat) : pad w (n % 10 ^ w) = pad w n := by
  unfold pad
  apply List.map_congr_left
  intro t ht
  have : t < w := by simpa using ht
  exact dg_mod n _ w (by omega)
theorem pad_less : ∀ (w : Nat) {n m : Nat}, n < m → m < 10 ^ w → bytesLess (pad w n) (pad w m) = true
  | 0, n, m, h, hm => by simp at hm; omega
  | w + 1, n, m, h, hm => by
    rw [pad_succ, pad_succ]
    have hw : 0 < 10 ^ w := Nat.pos_of_ne_zero (by simp)
    have h1 : n / 10 ^ w ≤ m / 10 ^ w := Nat.div_le_div_right (by omega)
    have h2 : m / 10 ^ w < 10 := Nat.div_lt_of_lt_mul (by rw [Nat.pow_succ] at hm; exact hm)
    simp only [bytesLess, Bool.or_eq_true, Bool.and_eq_true]
    have e1 : n / 10 ^ w % 10 = n / 10 ^ w := Nat.mod_eq_of_lt (by omega)
    have e2 : m / 10 ^ w % 10 = m / 10 ^ w := Nat.mod_eq_of_lt h2
    by_cases he : n / 10 ^ w = m / 10 ^ w
    · refine .inr ⟨by unfold Lib.dg; rw [he]; simp, ?_⟩
      rw [← pad_mod w n, ← pad_mod w m]
      refine pad_less w ?_ (Nat.mod_lt _ hw)
      have a1 := Nat.div_add_mod n (10 ^ w)
      have a2 := Nat.div_add_mod m (10 ^ w)
      rw [he] at a1
      omega
    · refine .inl ?_
      unfold Lib.dg
      rw [e1, e2]
      simp only [decide_eq_true_eq, UInt8.lt_iff_toNat_lt, UInt8.toNat_ofNat']
      omega
end Go.Proofs.YtaanjciokdpkmaaDoor
