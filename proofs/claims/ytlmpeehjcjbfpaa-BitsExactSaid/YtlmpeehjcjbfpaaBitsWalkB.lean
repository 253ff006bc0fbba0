/- The walks of bits.Fits, Wrap, Sign. -/
import Derived.Test.YtlmpeehjcjbfpaaBitsWalk
namespace Go.Proofs.Ytlmpeehjcjbfpaa
open Go.RowKit Bits
set_option linter.unusedVariables false

/-- n fits into k bits with a sign. -/
def Fit (n k : Int) : Prop := 1 ≤ k ∧ k ≤ 56 ∧ -(2 ^ (k - 1).toNat) ≤ n ∧ n < 2 ^ (k - 1).toNat
instance (n k : Int) : Decidable (Fit n k) := by unfold Fit; exact inferInstance
def fitB (n k : Int) : Bool := decide (Fit n k)
theorem fitB_yes {n k : Int} (h : Fit n k) : fitB n k = true := decide_eq_true h
theorem fitB_no {n k : Int} (h : ¬ Fit n k) : fitB n k = false := decide_eq_false h

theorem bits_fits (n k : Int) (w : World) :
    Calls Try.prog 11 #[.int .i64 n, .int .i64 k] w fun e w' => e = .returned (.bool (fitB n k)) ∧ Below w.heap.size w w' := by
  by_cases hk : 1 ≤ k ∧ k ≤ 56
  · obtain ⟨k1, k2⟩ := hk
    obtain ⟨j, hj⟩ : ∃ j : Nat, k - 1 = (j : Int) := ⟨(k - 1).toNat, by omega⟩
    obtain ⟨p, hp, hP, hp1, hp2⟩ := pow_at j (by omega)
    have ej : (k - 1).toNat = j := by omega
    have e1 : IntKind.i64.wrap (2 ^ j) = p := (IntWalk.i64_left _).trans hp
    have e2 : IntKind.i64.wrap (-2 ^ j) = -p := by rw [← hP.out]; exact IntWalk.i64_in _ (by omega)
    have e0 : IntKind.i64.wrap (k - 1) = (j : Int) := by rw [hj]; exact IntWalk.i64_in _ (by omega)
    have e3 : IntKind.i64.wrap (p - 1) = p - 1 := IntWalk.i64_in _ (by omega)
    have em : min j 64 = j := by omega
    have hf : fitB n k = decide (-p ≤ n ∧ n ≤ p - 1) := by
      unfold fitB
      rw [decide_eq_decide]; unfold Fit; rw [ej, ← hP.out]; omega
    have HF := hide hf
    have HP := hP
    clear hf hP ej
    by_cases hn : -p ≤ n ∧ n ≤ p - 1
    · have r : fitB n k = true := by rw [HF.out, decide_eq_true hn]
      have R := hide r
      clear r HF
      go_enter Try.func11, Try.ntmps11
      go_wp2
      refine wp_region_grown (by kernel_rfl) (by kernel_rfl) ?_
      repeat (go_big_quiet_step ((first
        | (go_at_call 23; (with_reducible refine more_of_same (bits_in_yes _ _ _ ?_ _)); (focus omega)))))
      refine wpQuiet_nil ?_
      intro w2 hb2
      go_wp2
      go_ret
      exact ⟨by rw [R.out]; rfl, hb2⟩
    · have r : fitB n k = false := by rw [HF.out, decide_eq_false hn]
      have R := hide r
      have hn' : n < -p ∨ p - 1 < n := by omega
      clear r HF hn
      go_enter Try.func11, Try.ntmps11
      go_wp2
      refine wp_region_grown (by kernel_rfl) (by kernel_rfl) ?_
      repeat (go_big_quiet_step ((first
        | (go_at_call 23; (with_reducible refine more_of_same (bits_in_yes k _ _ ?_ _)); (focus omega))
        | (go_at_call 23; (with_reducible refine more_of_same (bits_in_no n _ _ ?_ _)); (focus omega)))))
      refine wpQuiet_nil ?_
      intro w2 hb2
      go_wp2
      go_ret
      exact ⟨by rw [R.out]; rfl, hb2⟩
  · have hk' : k < 1 ∨ 56 < k := by omega
    have r : fitB n k = false := fitB_no (by rintro ⟨a, b, _⟩; exact hk ⟨a, b⟩)
    have R := hide r
    clear r hk
    go_enter Try.func11, Try.ntmps11
    go_wp2
    refine wp_region_grown (by kernel_rfl) (by kernel_rfl) ?_
    repeat (go_big_quiet_step ((first
      | (go_at_call 23; (with_reducible refine more_of_same (bits_in_no k _ _ ?_ _)); (focus omega)))))
    refine wpQuiet_nil ?_
    intro w2 hb2
    go_wp2
    go_ret
    exact ⟨by rw [R.out]; rfl, hb2⟩

theorem Fit.bits {n k : Int} (h : Fit n k) : ∃ j : Nat, k = (j : Int) + 1 ∧ j ≤ 55 ∧ -(2 ^ j) ≤ n ∧ n < 2 ^ j := by
  obtain ⟨h1, h2, h3, h4⟩ := h
  refine ⟨(k - 1).toNat, by omega, by omega, h3, h4⟩
/-- The number with the same lowest bits. -/
def wrapV (n k : Int) : Int := if fitB n k = true then n % 2 ^ k.toNat else 0
def wrapE (n k : Int) : Int := if fitB n k = true then 0 else 2
theorem bits_wrap (n k : Int) (w : World) :
    Calls Try.prog 10 #[.int .i64 n, .int .i64 k] w fun e w' => e = .returned (.tuple #[.int .i64 (wrapV n k), .int .i64 (wrapE n k)]) ∧ Below w.heap.size w w' := by
  by_cases h : Fit n k
  · have hf := fitB_yes h
    obtain ⟨j, rfl, hj, _, _⟩ := h.bits
    have hV : wrapV n ((j : Int) + 1) = n % 2 ^ (j + 1) := by unfold wrapV; rw [if_pos hf]; rfl
    have hE : wrapE n ((j : Int) + 1) = 0 := by unfold wrapE; rw [if_pos hf]
    rw [hV, hE]
    obtain ⟨p, hp, hP, hp1, hp2⟩ := pow_at (j + 1) (by omega)
    have em : bits .and .i64 n (p - 1) = n % 2 ^ (j + 1) := by rw [hP.out]; exact i64_mask n (j + 1) (by omega)
    have q := fun w => bits_fits n ((j : Int) + 1) w
    rw [hf] at q
    have Q := hide q
    clear q hf h hV hE
    go_enter Try.func10, Try.ntmps10
    go_wp2_with (first | (go_at_call 11; refine (Q.out _).mono ?_; rintro e w1 ⟨rfl, hb⟩))
    go_ret2
    exact ⟨rfl, hb⟩
  · have hf := fitB_no h
    have hV : wrapV n k = 0 := by unfold wrapV; rw [hf]; rfl
    have hE : wrapE n k = 2 := by unfold wrapE; rw [hf]; rfl
    rw [hV, hE]
    have q := fun w => bits_fits n k w
    rw [hf] at q
    have Q := hide q
    clear q hf h hV hE
    go_enter Try.func10, Try.ntmps10
    go_wp2_with (first | (go_at_call 11; refine (Q.out _).mono ?_; rintro e w1 ⟨rfl, hb⟩))
    go_ret2
    exact ⟨rfl, hb⟩

/-- A number of k bits, taken with a sign. -/
def Sgn (n k : Int) : Prop := 1 ≤ k ∧ k ≤ 56 ∧ 0 ≤ n ∧ n < 2 ^ k.toNat
instance (n k : Int) : Decidable (Sgn n k) := by unfold Sgn; exact inferInstance
def signV (n k : Int) : Int := if Sgn n k then (if 2 ^ (k - 1).toNat ≤ n then n - 2 ^ k.toNat else n) else 0
def signE (n k : Int) : Int := if Sgn n k then 0 else 2
theorem signV_lo {n : Int} {j : Nat} (hj : j ≤ 55) (h0 : 0 ≤ n) (h1 : n < 2 ^ j) : signV n ((j : Int) + 1) = n ∧ signE n ((j : Int) + 1) = 0 := by
  have e1 : ((j : Int) + 1).toNat = j + 1 := by omega
  have e2 : ((j : Int) + 1 - 1).toNat = j := by omega
  have e3 : (2 : Int) ^ (j + 1) = 2 * 2 ^ j := by rw [Int.pow_succ]; omega
  have hs : Sgn n ((j : Int) + 1) := ⟨by omega, by omega, h0, by rw [e1, e3]; omega⟩
  unfold signV signE
  rw [if_pos hs, if_pos hs, e2, if_neg (by omega)]
  exact ⟨rfl, rfl⟩
theorem signV_hi {n : Int} {j : Nat} (hj : j ≤ 55) (h0 : 2 ^ j ≤ n) (h1 : n < 2 ^ (j + 1)) : signV n ((j : Int) + 1) = n - 2 ^ (j + 1) ∧ signE n ((j : Int) + 1) = 0 := by
  have e1 : ((j : Int) + 1).toNat = j + 1 := by omega
  have e2 : ((j : Int) + 1 - 1).toNat = j := by omega
  have hp : (0 : Int) < 2 ^ j := Int.pow_pos (by decide)
  have hs : Sgn n ((j : Int) + 1) := ⟨by omega, by omega, by omega, by rw [e1]; omega⟩
  unfold signV signE
  rw [if_pos hs, if_pos hs, e2, e1, if_pos h0]
  exact ⟨rfl, rfl⟩
theorem signV_no {n k : Int} (h : ¬ Sgn n k) : signV n k = 0 ∧ signE n k = 2 := by
  unfold signV signE
  rw [if_neg h, if_neg h]
  exact ⟨rfl, rfl⟩
theorem bits_sign_ok (n : Int) (j : Nat) (hj : j ≤ 55) (h0 : 0 ≤ n) (h1 : n < 2 ^ (j + 1)) (w : World) :
    Calls Try.prog 12 #[.int .i64 n, .int .i64 ((j : Int) + 1)] w fun e w' => e = .returned (.tuple #[.int .i64 (signV n ((j : Int) + 1)), .int .i64 (signE n ((j : Int) + 1))]) ∧ w = w' := by
  obtain ⟨p, hp, hP, hp1, hp2⟩ := pow_at (j + 1) (by omega)
  have hn : n ≤ p - 1 := by rw [hP.out]; omega
  have hk1 : (1 : Int) ≤ (j : Int) + 1 := by omega
  by_cases hlo : n < 2 ^ j
  · obtain ⟨hV, hE⟩ := signV_lo hj h0 hlo
    rw [hV, hE]
    have eb : (n / 2 ^ j == 1) = false := by
      rw [beq_eq_false_iff_ne, Int.ediv_eq_zero_of_lt h0 hlo]; decide
    clear hlo hV hE h1
    go_enter Try.func12, Try.ntmps12
    go_wp2_with (first
      | (go_at_call 23; (with_reducible refine (bits_in_yes _ 1 56 ?_ _).mono ?_); (focus omega); rintro e w1 ⟨rfl, rfl⟩)
      | (go_at_call 23; (with_reducible refine (bits_in_yes n 0 _ ?_ _).mono ?_); (focus omega); rintro e w1 ⟨rfl, rfl⟩))
    go_ret2
    exact ⟨rfl, rfl⟩
  · obtain ⟨hV, hE⟩ := signV_hi hj (by omega) h1
    rw [hV, hE]
    have hpj : (0 : Int) < 2 ^ j := Int.pow_pos (by decide)
    have e3 : (2 : Int) ^ (j + 1) = 2 * 2 ^ j := by rw [Int.pow_succ]; omega
    have eb : (n / 2 ^ j == 1) = true := by
      rw [beq_iff_eq]
      have : n = 1 * 2 ^ j + (n - 2 ^ j) := by omega
      rw [this, Int.add_comm, Int.add_mul_ediv_right _ _ (by omega), Int.ediv_eq_zero_of_lt (by omega) (by omega)]; rfl
    clear hlo hV hE h1 e3 hpj
    rw [← hP.out]
    go_enter Try.func12, Try.ntmps12
    go_wp2_with (first
      | (go_at_call 23; (with_reducible refine (bits_in_yes _ 1 56 ?_ _).mono ?_); (focus omega); rintro e w1 ⟨rfl, rfl⟩)
      | (go_at_call 23; (with_reducible refine (bits_in_yes n 0 _ ?_ _).mono ?_); (focus omega); rintro e w1 ⟨rfl, rfl⟩))
    go_ret2
    exact ⟨rfl, rfl⟩
theorem bits_sign_no (n k : Int) (h : ¬ Sgn n k) (w : World) :
    Calls Try.prog 12 #[.int .i64 n, .int .i64 k] w fun e w' => e = .returned (.tuple #[.int .i64 (signV n k), .int .i64 (signE n k)]) ∧ w = w' := by
  obtain ⟨hV, hE⟩ := signV_no h
  rw [hV, hE]
  by_cases hk : 1 ≤ k ∧ k ≤ 56
  · obtain ⟨k1, k2⟩ := hk
    obtain ⟨j, rfl⟩ := Int.eq_ofNat_of_zero_le (show 0 ≤ k by omega)
    obtain ⟨p, hp, hP, hp1, hp2⟩ := pow_at j (by omega)
    have hn : n < 0 ∨ p - 1 < n := by
      unfold Sgn at h
      rw [Int.toNat_natCast, ← hP.out] at h; omega
    clear h hV hE
    go_enter Try.func12, Try.ntmps12
    go_wp2_with (first
      | (go_at_call 23; (with_reducible refine (bits_in_yes _ 1 56 ?_ _).mono ?_); (focus omega); rintro e w1 ⟨rfl, rfl⟩)
      | (go_at_call 23; (with_reducible refine (bits_in_no n 0 _ ?_ _).mono ?_); (focus omega); rintro e w1 ⟨rfl, rfl⟩))
    go_ret2
    exact ⟨rfl, rfl⟩
  · have hk' : k < 1 ∨ 56 < k := by omega
    clear h hV hE hk
    go_enter Try.func12, Try.ntmps12
    go_wp2_with (first
      | (go_at_call 23; (with_reducible refine (bits_in_no _ 1 56 ?_ _).mono ?_); (focus omega); rintro e w1 ⟨rfl, rfl⟩))
    go_ret2
    exact ⟨rfl, rfl⟩
theorem bits_sign (n k : Int) (w : World) :
    Calls Try.prog 12 #[.int .i64 n, .int .i64 k] w fun e w' => e = .returned (.tuple #[.int .i64 (signV n k), .int .i64 (signE n k)]) ∧ w = w' := by
  by_cases h : Sgn n k
  · obtain ⟨h1, h2, h3, h4⟩ := id h
    obtain ⟨j, hj⟩ : ∃ j : Nat, k = (j : Int) + 1 := ⟨(k - 1).toNat, by omega⟩
    subst hj
    have e1 : ((j : Int) + 1).toNat = j + 1 := by omega
    rw [e1] at h4
    exact bits_sign_ok n j (by omega) h3 h4 w
  · exact bits_sign_no n k h w
end Go.Proofs.Ytlmpeehjcjbfpaa
