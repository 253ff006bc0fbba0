/- The statements BitsRanges and BitsBack. -/
import Derived.Test.YtlmpeehjcjbfpaaBitsLaw
namespace Go.Proofs.Ytlmpeehjcjbfpaa
open Go.RowKit Bits
set_option linter.unusedVariables false

theorem fit_nat {x : Int} {j : Nat} (hj : j ≤ 55) : Fit x ((j : Int) + 1) ↔ -(2 ^ j) ≤ x ∧ x < 2 ^ j := by
  unfold Fit
  have e2 : ((j : Int) + 1 - 1).toNat = j := by omega
  rw [e2]; omega
theorem wrapV_at {x : Int} {k : Int} {j : Nat} (hk : k = (j : Int) + 1) (hj : j ≤ 55) (h : -(2 ^ j) ≤ x ∧ x < 2 ^ j) : wrapV x k = (if x < 0 then x + 2 * 2 ^ j else x) ∧ wrapE x k = 0 := by
  subst hk
  have hf := fitB_yes ((fit_nat hj).2 h)
  unfold wrapV wrapE
  rw [if_pos hf, if_pos hf]
  have e1 : ((j : Int) + 1).toNat = j + 1 := by omega
  have e3 : (2 : Int) ^ (j + 1) = 2 * 2 ^ j := by rw [Int.pow_succ]; omega
  have hp : (0 : Int) < 2 ^ j := Int.pow_pos (by decide)
  rw [e1, e3]
  refine ⟨?_, rfl⟩
  split
  · have : x % (2 * 2 ^ j) = (x + 2 * 2 ^ j) % (2 * 2 ^ j) := by simp
    rw [this, Int.emod_eq_of_lt (by omega) (by omega)]
  · exact Int.emod_eq_of_lt (by omega) (by omega)
set_option maxRecDepth 100000 in
theorem bits_ranges (n k : Int) (hn : 0 ≤ n ∧ n ≤ 65535) (hk : 0 ≤ k ∧ k ≤ 255) (w : World) :
    Calls Try.prog 4 #[.int .u16 n, .int .u8 k] w fun e w' => e = .returned (.bool true) ∧ Below w.heap.size w w' := by
  have hb := Below.refl w.heap.size w
  obtain ⟨n1, n2⟩ := hn
  obtain ⟨k1, k2⟩ := hk
  obtain ⟨j, hj⟩ : ∃ j : Nat, 1 + k % 17 = (j : Int) + 1 := ⟨(k % 17).toNat, by omega⟩
  have hj16 : j ≤ 16 := by omega
  obtain ⟨x, hx⟩ : ∃ x : Int, n - 32768 = x := ⟨_, rfl⟩
  have hxb : -32768 ≤ x ∧ x ≤ 32767 := by omega
  obtain ⟨p, hp, hP, hp1, hp2⟩ := pow_at j (by omega)
  have hp3 : p ≤ 65536 := by
    have h1 : (2 : Int) ^ j ≤ 2 ^ 16 := by have := Nat.pow_le_pow_right (n := 2) (by decide) hj16; exact_mod_cast this
    rw [hP.out]; exact h1
  have qf := fun w => bits_fits x ((j : Int) + 1) w
  have hiff := fit_nat (x := x) (j := j) (by omega)
  rw [← hP.out] at hiff
  have hxj : wrap64 (2 ^ (j + 1)) = 2 * p := by
    have e3 : (2 : Int) ^ (j + 1) = 2 * 2 ^ j := by rw [Int.pow_succ]; omega
    rw [e3, ← hP.out]; exact IntWalk.wrap64_in _ (by omega)
  by_cases hf : -p ≤ x ∧ x < p
  · have hfb : fitB x ((j : Int) + 1) = true := fitB_yes (hiff.2 hf)
    have hf2 := hf
    rw [hP.out] at hf2
    obtain ⟨wv, we⟩ := wrapV_at rfl (by omega) hf2
    have hf3 : -(2 ^ (j + 1)) ≤ x ∧ x < 2 ^ (j + 1) := by
      have e3 : (2 : Int) ^ (j + 1) = 2 * 2 ^ j := by rw [Int.pow_succ]; omega
      have hp : (0 : Int) < 2 ^ j := Int.pow_pos (by decide)
      omega
    obtain ⟨wv2, we2⟩ := wrapV_at (k := (j : Int) + 1 + 1) (j := j + 1) (by omega) (by omega) hf3
    rw [show (2 : Int) ^ (j + 1) = 2 * p from by rw [hP.out, Int.pow_succ]; omega] at wv2
    rw [← hP.out] at wv
    have qw := fun w => bits_wrap x ((j : Int) + 1) w
    have qv := fun w => bits_wrap x ((j : Int) + 1 + 1) w
    rw [hfb] at qf
    rw [wv, we] at qw
    rw [wv2, we2] at qv
    obtain ⟨f1, f2⟩ := hf
    by_cases hneg : x < 0
    · rw [if_pos hneg] at qw qv
      obtain ⟨sv, se⟩ := signV_hi (n := x + 2 * p) (j := j) (by omega) (by rw [← hP.out]; omega) (by rw [Int.pow_succ, ← hP.out]; omega)
      rw [show (2 : Int) ^ (j + 1) = 2 * p from by rw [hP.out, Int.pow_succ]; omega] at sv
      rw [show x + 2 * p - 2 * p = x by omega] at sv
      have qs := fun w => bits_sign (x + 2 * p) ((j : Int) + 1) w
      rw [sv, se] at qs
      have QF := hide qf
      have QW := hide qw
      have QV := hide qv
      have QS := hide qs
      have d0 : decide (-p ≤ x) = true := by simp; omega
      have d1 : decide (x < p) = true := by simp; omega
      have d2 : decide (x < 0) = true := by simp; omega
      have d3 : (x + 2 * (2 * p) == x + 2 * p + 2 * p) = true := by rw [beq_iff_eq]; omega
      clear qf qw qv qs wv we wv2 we2 hf2 hf3 sv se hiff hfb
      go_enter Try.func4, Try.ntmps4
      go_wp2_with (first
        | (go_at_call 9; (refine (acc hb (bits_sane _)).mono ?_); clear hb; rintro e w1 ⟨rfl, hb⟩)
        | (go_at_call 11; (with_reducible refine (acc hb (QF.out _)).mono ?_); clear hb; rintro e w1 ⟨rfl, hb⟩)
        | (go_at_call 10; (with_reducible refine (acc hb (QW.out _)).mono ?_); clear hb; rintro e w1 ⟨rfl, hb⟩)
        | (go_at_call 10; (with_reducible refine (acc hb (QV.out _)).mono ?_); clear hb; rintro e w1 ⟨rfl, hb⟩)
        | (go_at_call 12; (with_reducible refine (QS.out _).mono ?_); rintro e w1 ⟨rfl, rfl⟩))
      go_ret
      exact ⟨rfl, hb⟩
    · rw [if_neg hneg] at qw qv
      obtain ⟨sv, se⟩ := signV_lo (n := x) (j := j) (by omega) (by omega) (by rw [← hP.out]; omega)
      have qs := fun w => bits_sign x ((j : Int) + 1) w
      rw [sv, se] at qs
      have QF := hide qf
      have QW := hide qw
      have QV := hide qv
      have QS := hide qs
      have d0 : decide (-p ≤ x) = true := by simp; omega
      have d1 : decide (x < p) = true := by simp; omega
      have d2 : decide (x < 0) = false := by simp; omega
      have d3 : decide (0 ≤ x) = true := by simp; omega
      clear qf qw qv qs wv we wv2 we2 hf2 hf3 sv se hiff hfb
      go_enter Try.func4, Try.ntmps4
      go_wp2_with (first
        | (go_at_call 9; (refine (acc hb (bits_sane _)).mono ?_); clear hb; rintro e w1 ⟨rfl, hb⟩)
        | (go_at_call 11; (with_reducible refine (acc hb (QF.out _)).mono ?_); clear hb; rintro e w1 ⟨rfl, hb⟩)
        | (go_at_call 10; (with_reducible refine (acc hb (QW.out _)).mono ?_); clear hb; rintro e w1 ⟨rfl, hb⟩)
        | (go_at_call 10; (with_reducible refine (acc hb (QV.out _)).mono ?_); clear hb; rintro e w1 ⟨rfl, hb⟩)
        | (go_at_call 12; (with_reducible refine (QS.out _).mono ?_); rintro e w1 ⟨rfl, rfl⟩))
      go_ret
      exact ⟨rfl, hb⟩
  · have hfb : fitB x ((j : Int) + 1) = false := fitB_no (fun h => hf (hiff.1 h))
    have hfb2 : fitB x (j : Int) = false := fitB_no (fun h => by
      obtain ⟨i, hi, hi2, h1, h2⟩ := h.bits
      have hij : j = i + 1 := by omega
      have hP2 := hP.out
      rw [hij, Int.pow_succ] at hP2
      have hp : (0 : Int) < 2 ^ i := Int.pow_pos (by decide)
      exact hf (by omega))
    have wv : wrapV x ((j : Int) + 1) = 0 := by unfold wrapV; rw [hfb]; rfl
    have we : wrapE x ((j : Int) + 1) = 2 := by unfold wrapE; rw [hfb]; rfl
    have qw := fun w => bits_wrap x ((j : Int) + 1) w
    have qg := fun w => bits_fits x (j : Int) w
    rw [hfb] at qf
    rw [hfb2] at qg
    rw [wv, we] at qw
    have QF := hide qf
    have QW := hide qw
    have QG := hide qg
    by_cases c1 : -p ≤ x
    · have d0 : decide (-p ≤ x) = true := by simp; omega
      have d1 : decide (x < p) = false := by simp; omega
      clear qf qw qg wv we hiff hfb hfb2 hf
      go_enter Try.func4, Try.ntmps4
      go_wp2_with (first
        | (go_at_call 9; (refine (acc hb (bits_sane _)).mono ?_); clear hb; rintro e w1 ⟨rfl, hb⟩)
        | (go_at_call 11; (with_reducible refine (acc hb (QF.out _)).mono ?_); clear hb; rintro e w1 ⟨rfl, hb⟩)
        | (go_at_call 11; (with_reducible refine (acc hb (QG.out _)).mono ?_); clear hb; rintro e w1 ⟨rfl, hb⟩)
        | (go_at_call 10; (with_reducible refine (acc hb (QW.out _)).mono ?_); clear hb; rintro e w1 ⟨rfl, hb⟩))
      go_ret
      exact ⟨rfl, hb⟩
    · have d0 : decide (-p ≤ x) = false := by simp; omega
      clear qf qw qg wv we hiff hfb hfb2 hf
      go_enter Try.func4, Try.ntmps4
      go_wp2_with (first
        | (go_at_call 9; (refine (acc hb (bits_sane _)).mono ?_); clear hb; rintro e w1 ⟨rfl, hb⟩)
        | (go_at_call 11; (with_reducible refine (acc hb (QF.out _)).mono ?_); clear hb; rintro e w1 ⟨rfl, hb⟩)
        | (go_at_call 11; (with_reducible refine (acc hb (QG.out _)).mono ?_); clear hb; rintro e w1 ⟨rfl, hb⟩)
        | (go_at_call 10; (with_reducible refine (acc hb (QW.out _)).mono ?_); clear hb; rintro e w1 ⟨rfl, hb⟩))
      go_ret
      exact ⟨rfl, hb⟩
end Go.Proofs.Ytlmpeehjcjbfpaa
