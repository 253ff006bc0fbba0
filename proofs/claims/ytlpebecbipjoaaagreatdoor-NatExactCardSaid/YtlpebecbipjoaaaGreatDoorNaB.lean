/- Natural numbers, the plain law: decimal texts. -/
import Derived.Test.YtlpebecbipjoaaaGreatDoorNaA
import Derived.Lib.ItoaNum
import Derived.Laws.Strings
namespace Go.Proofs.YtlpebecbipjoaaaGreatDoor
set_option linter.unusedVariables false
set_option linter.unusedSimpArgs false
set_option linter.unnecessarySimpa false
open Go.Op (bytesLess)
/-- A number's last digits. -/
def pad (w n : Nat) : List UInt8 := (List.range w).map fun t => Lib.dg n (w - 1 - t)
theorem pad_len (w n : Nat) : (pad w n).length = w := by simp [pad]
theorem pad_succ (w n : Nat) : pad (w + 1) n = Lib.dg n w :: pad w n := by
  unfold pad
  rw [List.range_succ_eq_map, List.map_cons, List.map_map]
  congr 1
  apply List.map_congr_left
  intro t ht
  show Lib.dg n (w + 1 - 1 - (t + 1)) = _
  rw [show w + 1 - 1 - (t + 1) = w - 1 - t by omega]
theorem dec_pad (n : Nat) : Lib.decDigits n = pad (Lib.nDigits n) n := Lib.decDigits_eq n
theorem dg_mod (n j w : Nat) (h : j < w) : Lib.dg (n % 10 ^ w) j = Lib.dg n j := by
  unfold Lib.dg
  congr 2
  obtain ⟨k, rfl⟩ : ∃ k, w = j + 1 + k := ⟨w - (j + 1), by omega⟩
  rw [Nat.pow_add, Nat.pow_succ, Nat.mul_assoc, Nat.mod_mul_right_div_self, Nat.mod_mul_right_mod]
theorem pad_mod (w n : Nat) : pad w (n % 10 ^ w) = pad w n := by
  unfold pad
  apply List.map_congr_left
  intro t ht
  have : t < w := by simpa using ht
  exact dg_mod n _ w (by omega)
theorem dg_high (q r k j : Nat) (hr : r < 10 ^ k) : Lib.dg (q * 10 ^ k + r) (k + j) = Lib.dg q j := by
  unfold Lib.dg
  congr 2
  rw [Nat.pow_add, ← Nat.div_div_eq_div_mul, Nat.add_comm, Nat.add_mul_div_right _ _ (Nat.pow_pos (by omega)), Nat.div_eq_of_lt hr, Nat.zero_add]
theorem pad_split (q r k : Nat) (hr : r < 10 ^ k) : ∀ w, pad (w + k) (q * 10 ^ k + r) = pad w q ++ pad k r
  | 0 => by
    rw [Nat.zero_add, ← pad_mod k (q * 10 ^ k + r), Nat.mul_add_mod_self_right, Nat.mod_eq_of_lt hr]
    rfl
  | w + 1 => by
    rw [show w + 1 + k = (w + k) + 1 by omega, pad_succ, pad_succ, pad_split q r k hr w]
    rw [show w + k = k + w by omega, dg_high q r k w hr]
    rfl
theorem nDig_add (q r k : Nat) (hq : 0 < q) (hr : r < 10 ^ k) : Lib.nDigits (q * 10 ^ k + r) = Lib.nDigits q + k := by
  have h1 := Lib.nDigits_pos q
  have hlo : 10 ^ (Lib.nDigits q - 1) ≤ q := by
    have : ∀ n : Nat, 0 < n → 10 ^ (Lib.nDigits n - 1) ≤ n := by
      intro n
      induction n using Nat.strongRecOn with
      | ind n ih =>
        intro hn
        by_cases h : n < 10
        · rw [Lib.nDigits_small h]; exact hn
        · rw [Lib.nDigits_big h]
          have h2 := ih (n / 10) (Nat.div_lt_self hn (by omega)) (by omega)
          have h3 := Lib.nDigits_pos (n / 10)
          rw [show Lib.nDigits (n / 10) + 1 - 1 = (Lib.nDigits (n / 10) - 1) + 1 by omega, Nat.pow_succ]
          omega
    exact this q hq
  have hhi := Lib.lt_pow_nDigits q
  have e := Lib.nDigits_unique (Lib.nDigits q + k - 1) (q * 10 ^ k + r) (by
    rw [show Lib.nDigits q + k - 1 = (Lib.nDigits q - 1) + k by omega, Nat.pow_add]
    have := Nat.mul_le_mul_right (10 ^ k) hlo
    omega) (by
    rw [show Lib.nDigits q + k - 1 + 1 = Lib.nDigits q + k by omega, Nat.pow_add]
    have : (q + 1) * 10 ^ k ≤ 10 ^ Lib.nDigits q * 10 ^ k := Nat.mul_le_mul_right _ hhi
    rw [Nat.add_mul] at this
    omega)
  omega
theorem dec_split (q r k : Nat) (hq : 0 < q) (hr : r < 10 ^ k) : Lib.decDigits (q * 10 ^ k + r) = Lib.decDigits q ++ pad k r := by
  rw [dec_pad, nDig_add q r k hq hr, pad_split q r k hr, ← dec_pad]
theorem dec_lo (n : Nat) (hn : 0 < n) : 10 ^ (Lib.nDigits n - 1) ≤ n := by
  induction n using Nat.strongRecOn with
  | ind n ih =>
    by_cases h : n < 10
    · rw [Lib.nDigits_small h]; exact hn
    · rw [Lib.nDigits_big h]
      have h2 := ih (n / 10) (Nat.div_lt_self hn (by omega)) (by omega)
      have h3 := Lib.nDigits_pos (n / 10)
      rw [show Lib.nDigits (n / 10) + 1 - 1 = (Lib.nDigits (n / 10) - 1) + 1 by omega, Nat.pow_succ]
      omega
/-- The number of digits. -/
def pv (l : List UInt8) : Nat := l.foldl (fun a c => 10 * a + (c.toNat - 48)) 0
theorem pv_snoc (l : List UInt8) (c : UInt8) : pv (l ++ [c]) = 10 * pv l + (c.toNat - 48) := by simp [pv]
theorem dg_nat (n j : Nat) : (Lib.dg n j).toNat = 48 + n / 10 ^ j % 10 := by
  unfold Lib.dg
  rw [UInt8.toNat_ofNat']
  have := Nat.mod_lt (n / 10 ^ j) (show 0 < 10 by omega)
  omega
theorem pad_snoc (w n : Nat) : pad (w + 1) n = pad w (n / 10) ++ [Lib.dg n 0] := by
  have h := pad_split (n / 10) (n % 10) 1 (by have := Nat.mod_lt n (show 0 < 10 by omega); omega) w
  rw [Nat.pow_one, Nat.mul_comm, Nat.div_add_mod] at h
  rw [h]
  congr 1
  rw [pad_succ]
  show Lib.dg (n % 10) 0 :: [] = _
  have := dg_mod n 0 1 (by omega)
  rw [Nat.pow_one] at this
  rw [this]
theorem pv_pad : ∀ (w n : Nat), n < 10 ^ w → pv (pad w n) = n
  | 0, n, h => by
    have : n = 0 := by simpa using h
    subst this; rfl
  | w + 1, n, h => by
    rw [pad_snoc, pv_snoc, pv_pad w (n / 10) (by rw [Nat.pow_succ] at h; omega), dg_nat]
    simp; omega
theorem pv_dec (n : Nat) : pv (Lib.decDigits n) = n := by rw [dec_pad, pv_pad _ _ (Lib.lt_pow_nDigits n)]
theorem pad_less : ∀ (w : Nat) {n m : Nat}, n < m → m < 10 ^ w → bytesLess (pad w n) (pad w m) = true
  | 0, n, m, h, hm => by simp at hm; omega
  | w + 1, n, m, h, hm => by
    rw [pad_succ, pad_succ]
    have hw : 0 < 10 ^ w := Nat.pos_of_ne_zero (by simp)
    have h1 : n / 10 ^ w ≤ m / 10 ^ w := Nat.div_le_div_right (by omega)
    have h2 : m / 10 ^ w < 10 := Nat.div_lt_of_lt_mul (by rw [Nat.pow_succ] at hm; exact hm)
    simp only [bytesLess, Bool.or_eq_true, Bool.and_eq_true]
    have e1 : n / 10 ^ w % 10 = n / 10 ^ w := Nat.mod_eq_of_lt (by omega)
    have e2 : m / 10 ^ w % 10 = m / 10 ^ w := Nat.mod_eq_of_lt h2
    by_cases he : n / 10 ^ w = m / 10 ^ w
    · refine .inr ⟨by unfold Lib.dg; rw [he]; simp, ?_⟩
      rw [← pad_mod w n, ← pad_mod w m]
      refine pad_less w ?_ (Nat.mod_lt _ hw)
      have a1 := Nat.div_add_mod n (10 ^ w)
      have a2 := Nat.div_add_mod m (10 ^ w)
      rw [he] at a1
      omega
    · refine .inl ?_
      unfold Lib.dg
      rw [e1, e2]
      simp only [decide_eq_true_eq, UInt8.lt_iff_toNat_lt, UInt8.toNat_ofNat']
      omega
/-- A digit. -/
def isD (c : UInt8) : Bool := decide (48 ≤ c.toNat ∧ c.toNat ≤ 57)
theorem pad_isD (w n : Nat) : ∀ c ∈ pad w n, isD c = true := fun c hc => by
  unfold pad at hc
  obtain ⟨t, -, rfl⟩ := List.mem_map.1 hc
  have := dg_nat n (w - 1 - t)
  have := Nat.mod_lt (n / 10 ^ (w - 1 - t)) (show 0 < 10 by omega)
  simp only [isD, decide_eq_true_eq]
  omega
theorem dec_isD (n : Nat) : ∀ c ∈ Lib.decDigits n, isD c = true := by rw [dec_pad]; exact pad_isD _ _
/-- The first digit of a number that is not 0. -/
theorem dec_head {n : Nat} (hn : 0 < n) : ∃ c r, Lib.decDigits n = c :: r ∧ c ≠ 48 := by
  have h1 := Lib.nDigits_pos n
  have h2 := dec_lo n hn
  have h3 := Lib.lt_pow_nDigits n
  obtain ⟨k, hk⟩ : ∃ k, Lib.nDigits n = k + 1 := ⟨Lib.nDigits n - 1, by omega⟩
  refine ⟨Lib.dg n k, pad k n, by rw [dec_pad, hk, pad_succ], fun e => ?_⟩
  have h4 := dg_nat n k
  rw [e] at h4
  rw [hk] at h2 h3
  simp at h2
  have h5 : n / 10 ^ k < 10 := Nat.div_lt_of_lt_mul (by rw [Nat.pow_succ] at h3; exact h3)
  have h6 : 1 ≤ n / 10 ^ k := (Nat.one_le_div_iff (Nat.pow_pos (by omega))).2 h2
  rw [Nat.mod_eq_of_lt h5] at h4
  have : (48 : UInt8).toNat = 48 := rfl
  omega
end Go.Proofs.YtlpebecbipjoaaaGreatDoor
