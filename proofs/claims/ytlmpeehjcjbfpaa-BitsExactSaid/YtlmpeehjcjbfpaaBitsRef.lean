/- The walks of the reference of the numbers in bytes and bits. -/
import Derived.Test.YtlmpeehjcjbfpaaBitsWalkC
import Derived.Test.YtlmpeehjcjbfpaaIn
namespace Go.Proofs.Ytlmpeehjcjbfpaa
open Go.RowKit Bits
set_option linter.unusedVariables false

/-- 'uint(i)' of a number that is not negative. -/
theorem u64_in' (n : Int) (h : 0 ≤ n ∧ n ≤ 18446744073709551615) : IntKind.u64.wrap n = n := IntWalk.u64_in n h

theorem ref_fits (n k : Int) (w : World) :
    Calls Try.prog 19 #[.int .i64 n, .int .i64 k] w fun e w' => e = .returned (.bool (fitB n k)) ∧ w = w' := by
  by_cases hk : 1 ≤ k ∧ k ≤ 56
  · obtain ⟨k1, k2⟩ := hk
    obtain ⟨j, hj⟩ : ∃ j : Nat, k - 1 = (j : Int) := ⟨(k - 1).toNat, by omega⟩
    obtain ⟨p, hp, hP, hp1, hp2⟩ := pow_at j (by omega)
    have ej : (k - 1).toNat = j := by omega
    have hf : fitB n k = decide (-p ≤ n ∧ n < p) := by
      unfold fitB
      rw [decide_eq_decide]; unfold Fit; rw [ej, ← hP.out]; omega
    have hj' : k = (j : Int) + 1 := by omega
    have HF := hide hf
    subst hj'
    have ej2 : (j : Int) + 1 - 1 = (j : Int) := by omega
    clear hf hP ej hj
    by_cases c1 : -p ≤ n
    · by_cases c2 : n < p
      · have r : fitB n ((j : Int) + 1) = true := by rw [HF.out, decide_eq_true ⟨c1, c2⟩]
        have R := hide r
        have d1 : decide (-p ≤ n) = true := by simp; omega
        have d2 : decide (n < p) = true := by simp; omega
        clear r HF
        go_enter Try.func19, Try.ntmps19
        go_wp2_with (first | (go_at_call 24; (with_reducible refine (utc_in_yes _ 1 56 ?_ _).mono ?_); (focus omega); rintro e w1 ⟨rfl, rfl⟩))
        go_ret
        exact ⟨by rw [R.out]; rfl, rfl⟩
      · have r : fitB n ((j : Int) + 1) = false := by rw [HF.out, decide_eq_false (fun h => c2 h.2)]
        have R := hide r
        have d1 : decide (-p ≤ n) = true := by simp; omega
        have d2 : decide (n < p) = false := by simp; omega
        clear r HF
        go_enter Try.func19, Try.ntmps19
        go_wp2_with (first | (go_at_call 24; (with_reducible refine (utc_in_yes _ 1 56 ?_ _).mono ?_); (focus omega); rintro e w1 ⟨rfl, rfl⟩))
        go_ret
        exact ⟨by rw [R.out]; rfl, rfl⟩
    · have r : fitB n ((j : Int) + 1) = false := by rw [HF.out, decide_eq_false (fun h => c1 h.1)]
      have R := hide r
      have d1 : decide (-p ≤ n) = false := by simp; omega
      clear r HF
      go_enter Try.func19, Try.ntmps19
      go_wp2_with (first | (go_at_call 24; (with_reducible refine (utc_in_yes _ 1 56 ?_ _).mono ?_); (focus omega); rintro e w1 ⟨rfl, rfl⟩))
      go_ret
      exact ⟨by rw [R.out]; rfl, rfl⟩
  · have hk' : k < 1 ∨ 56 < k := by omega
    have r : fitB n k = false := fitB_no (by rintro ⟨a, b, _⟩; exact hk ⟨a, b⟩)
    have R := hide r
    clear r hk
    go_enter Try.func19, Try.ntmps19
    go_wp2_with (first | (go_at_call 24; (with_reducible refine (utc_in_no _ 1 56 ?_ _).mono ?_); (focus omega); rintro e w1 ⟨rfl, rfl⟩))
    go_ret
    exact ⟨by rw [R.out]; rfl, rfl⟩

theorem ref_wrap (n k : Int) (w : World) :
    Calls Try.prog 17 #[.int .i64 n, .int .i64 k] w fun e w' => e = .returned (.tuple #[.int .i64 (wrapV n k), .int .i64 (wrapE n k)]) ∧ w = w' := by
  by_cases h : Fit n k
  · have hf := fitB_yes h
    obtain ⟨j, rfl, hj, n1, n2⟩ := h.bits
    obtain ⟨p, hp, hP, hp1, hp2⟩ := pow_at (j + 1) (by omega)
    have hpj : (0 : Int) < 2 ^ j := Int.pow_pos (by decide)
    have e3 : (2 : Int) ^ (j + 1) = 2 * 2 ^ j := by rw [Int.pow_succ]; omega
    have hV : wrapV n ((j : Int) + 1) = if n < 0 then n + p else n := by
      unfold wrapV
      rw [if_pos hf]
      have e1 : ((j : Int) + 1).toNat = j + 1 := by omega
      rw [e1, ← hP.out]
      have hp3 := hP.out
      split
      · have : n % p = (n + p) % p := by simp
        rw [this, Int.emod_eq_of_lt (by omega) (by omega)]
      · exact Int.emod_eq_of_lt (by omega) (by omega)
    have hE : wrapE n ((j : Int) + 1) = 0 := by unfold wrapE; rw [if_pos hf]
    have n3 : -4611686018427387904 ≤ n ∧ n ≤ 4611686018427387904 := by have hp3 := hP.out; omega
    rw [hV, hE]
    have q := fun w => ref_fits n ((j : Int) + 1) w
    rw [hf] at q
    have Q := hide q
    clear q hf h hV hE n1 n2 hpj e3
    by_cases c : n < 0
    · rw [if_pos c]
      go_enter Try.func17, Try.ntmps17
      go_wp2_with (first | (go_at_call 19; refine (Q.out _).mono ?_; rintro e w1 ⟨rfl, rfl⟩))
      go_ret2
      exact ⟨rfl, rfl⟩
    · rw [if_neg c]
      go_enter Try.func17, Try.ntmps17
      go_wp2_with (first | (go_at_call 19; refine (Q.out _).mono ?_; rintro e w1 ⟨rfl, rfl⟩))
      go_ret2
      exact ⟨rfl, rfl⟩
  · have hf := fitB_no h
    have hV : wrapV n k = 0 := by unfold wrapV; rw [hf]; rfl
    have hE : wrapE n k = 2 := by unfold wrapE; rw [hf]; rfl
    rw [hV, hE]
    have q := fun w => ref_fits n k w
    rw [hf] at q
    have Q := hide q
    clear q hf h hV hE
    go_enter Try.func17, Try.ntmps17
    go_wp2_with (first | (go_at_call 19; refine (Q.out _).mono ?_; rintro e w1 ⟨rfl, rfl⟩))
    go_ret2
    exact ⟨rfl, rfl⟩
end Go.Proofs.Ytlmpeehjcjbfpaa
