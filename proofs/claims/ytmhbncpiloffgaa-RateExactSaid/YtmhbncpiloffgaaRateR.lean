/- For any numbers both packages return the same. (written by gen_rateR.py) -/
import Derived.Test.YtmhbncpiloffgaaRateQ
import Derived.Test.YtmhbncpiloffgaaRateSlow
namespace Go.Proofs.Ytmhbncpiloffgaa
open Go.RowKit
set_option linter.unusedVariables false
theorem same_valid (n d : Int) : ∃ b : Bool, Hid (∀ w, Calls Try.prog 20 #[.agg #[.int .i64 n, .int .i64 d]] w fun e w' => e = .returned (.bool b) ∧ Below w.heap.size w w') ∧ Hid (∀ w, Calls Try.prog 21 #[.agg #[.int .i64 n, .int .i64 d]] w fun e w' => e = .returned (.bool b) ∧ Below w.heap.size w w') :=
  ⟨decide (RateOk n d), fun w => rate_valid n d w, fun w => ref_valid n d w⟩
theorem same_time (s n d k : Int) : ∃ a e2 : Int, Hid (∀ w, Calls Try.prog 13 #[.int .i64 s, .agg #[.int .i64 n, .int .i64 d], .int .i64 k] w fun e w' => e = .returned (.tuple #[.int .i64 a, .int .i64 e2]) ∧ Below w.heap.size w w') ∧ Hid (∀ w, Calls Try.prog 22 #[.int .i64 s, .agg #[.int .i64 n, .int .i64 d], .int .i64 k] w fun e w' => e = .returned (.tuple #[.int .i64 a, .int .i64 e2]) ∧ Below w.heap.size w w') := ⟨_, _, fun w => rate_time s n d k w, fun w => ref_time s n d k w⟩
theorem same_index (s n d k : Int) : ∃ a e2 : Int, Hid (∀ w, Calls Try.prog 14 #[.int .i64 s, .agg #[.int .i64 n, .int .i64 d], .int .i64 k] w fun e w' => e = .returned (.tuple #[.int .i64 a, .int .i64 e2]) ∧ Below w.heap.size w w') ∧ Hid (∀ w, Calls Try.prog 23 #[.int .i64 s, .agg #[.int .i64 n, .int .i64 d], .int .i64 k] w fun e w' => e = .returned (.tuple #[.int .i64 a, .int .i64 e2]) ∧ Below w.heap.size w w') := ⟨_, _, fun w => rate_index s n d k w, fun w => ref_index s n d k w⟩
theorem same_numb (n d k : Int) : ∃ a e2 : Int, Hid (∀ w, Calls Try.prog 16 #[.agg #[.int .i64 n, .int .i64 d], .int .i64 k] w fun e w' => e = .returned (.tuple #[.int .i64 a, .int .i64 e2]) ∧ Below w.heap.size w w') ∧ Hid (∀ w, Calls Try.prog 26 #[.agg #[.int .i64 n, .int .i64 d], .int .i64 k] w fun e w' => e = .returned (.tuple #[.int .i64 a, .int .i64 e2]) ∧ Below w.heap.size w w') := ⟨_, _, fun w => rate_numb n d k w, fun w => ref_numb n d k w⟩
/-- In order, or one error of both packages. -/
theorem check_two (s n d k : Int) : (∃ n' d' s' k' : Nat, n = n' ∧ d = d' ∧ s = s' ∧ k = k' ∧ RateOk n' d' ∧ s' ≤ 9007199254740992 ∧ k' ≤ 18014398509481984) ∨ ∃ er : Int, (er = 1 ∨ er = 2) ∧ (∀ w, Calls Try.prog 34 #[.int .i64 s, .agg #[.int .i64 n, .int .i64 d], .int .i64 k] w fun e w' => e = .returned (.int .i64 er) ∧ Below w.heap.size w w') ∧ (∀ w, Calls Try.prog 41 #[.int .i64 s, .agg #[.int .i64 n, .int .i64 d], .int .i64 k] w fun e w' => e = .returned (.int .i64 er) ∧ Below w.heap.size w w') := by
  by_cases hr : RateOk n d
  · by_cases hi : idxIn s k
    · left
      obtain ⟨⟨s1, s2⟩, k1, k2⟩ := hi
      have := hr.1; have := hr.2.2.1
      obtain ⟨s, rfl⟩ : ∃ x : Nat, s = x := ⟨s.toNat, by omega⟩
      obtain ⟨k, rfl⟩ : ∃ x : Nat, k = x := ⟨k.toNat, by omega⟩
      obtain ⟨n, rfl⟩ : ∃ x : Nat, n = x := ⟨n.toNat, by omega⟩
      obtain ⟨d, rfl⟩ : ∃ x : Nat, d = x := ⟨d.toNat, by omega⟩
      exact ⟨n, d, s, k, rfl, rfl, rfl, rfl, hr, by omega, by omega⟩
    · right
      by_cases hs : 0 ≤ s ∧ s ≤ 9007199254740992
      · exact ⟨2, .inr rfl, fun w => rate_check_far2 s n d k hr hs (by unfold idxIn at hi; omega) w, fun w => ref_check_far2 s n d k hr hs (by unfold idxIn at hi; omega) w⟩
      · exact ⟨2, .inr rfl, fun w => rate_check_far1 s n d k hr (by omega) w, fun w => ref_check_far1 s n d k hr (by omega) w⟩
  · exact .inr ⟨1, .inl rfl, fun w => rate_check_bad s n d k hr w, fun w => ref_check_bad s n d k hr w⟩
theorem same_next (s n d k : Int) : ∃ a e2 : Int, Hid (∀ w, Calls Try.prog 15 #[.int .i64 s, .agg #[.int .i64 n, .int .i64 d], .int .i64 k] w fun e w' => e = .returned (.tuple #[.int .i64 a, .int .i64 e2]) ∧ Below w.heap.size w w') ∧ Hid (∀ w, Calls Try.prog 24 #[.int .i64 s, .agg #[.int .i64 n, .int .i64 d], .int .i64 k] w fun e w' => e = .returned (.tuple #[.int .i64 a, .int .i64 e2]) ∧ Below w.heap.size w w') := by
  rcases check_two s n d k with ⟨n, d, s, k, rfl, rfl, rfl, rfl, hr, hs, hk⟩ | ⟨er, her, q1, q2⟩
  · by_cases h : k < s
    · exact ⟨0, 0, fun w => rate_next_ahead n d s k hr hs hk h w, fun w => ref_next_ahead n d s k hr hs hk h w⟩
    · refine ⟨nextV n d (k - s), nextE n d (k - s), fun w => ?_, fun w => ref_next_in n d s k hr hs hk (by omega) w⟩
      by_cases hm : ceilN n d (k - s) ≤ 16777216
      · have e1 : nextV n d (k - s) = ceilN n d (k - s) := by unfold nextV; rw [if_pos hm]
        have e2 : nextE n d (k - s) = 0 := by unfold nextE; rw [if_pos hm]
        rw [e1, e2]
        exact rate_next_ok n d s k hr hs hk (by omega) hm w
      · have e1 : nextV n d (k - s) = 0 := by unfold nextV; rw [if_neg hm]
        have e2 : nextE n d (k - s) = 6 := by unfold nextE; rw [if_neg hm]
        rw [e1, e2]
        exact rate_next_none n d s k hr hs hk (by omega) (by omega) w
  · exact ⟨0, er, fun w => rate_next_err s n d k er her q1 w, fun w => ref_next_err s n d k er her (fun w => ref_index_err s n d k er her q2 w) w⟩
theorem same_near (s n d k : Int) : ∃ a b e2 : Int, Hid (∀ w, Calls Try.prog 12 #[.int .i64 s, .agg #[.int .i64 n, .int .i64 d], .int .i64 k] w fun e w' => e = .returned (.tuple #[.int .i64 a, .int .i64 b, .int .i64 e2]) ∧ Below w.heap.size w w') ∧ Hid (∀ w, Calls Try.prog 25 #[.int .i64 s, .agg #[.int .i64 n, .int .i64 d], .int .i64 k] w fun e w' => e = .returned (.tuple #[.int .i64 a, .int .i64 b, .int .i64 e2]) ∧ Below w.heap.size w w') := by
  rcases check_two s n d k with ⟨n, d, s, k, rfl, rfl, rfl, rfl, hr, hs, hk⟩ | ⟨er, her, q1, q2⟩
  · by_cases h : k < s
    · exact ⟨0, _, 0, fun w => rate_near_ahead n d s k hr hs hk h w, fun w => ref_near_ahead n d s k hr hs hk h w⟩
    · obtain ⟨j, hj⟩ : ∃ j : Nat, idxN n d (k - s) = j := ⟨_, rfl⟩
      by_cases hm : j < 16777216
      · by_cases hup : (afterN n d (j + 1) : Int) - ((k : Int) - s) < (k : Int) - s - afterN n d j
        · exact ⟨_, _, 0, fun w => rate_near_up n d s k j hr hs hk (by omega) hj hm hup w, fun w => ref_near_up n d s k j hr hs hk (by omega) hj hm hup w⟩
        · exact ⟨_, _, 0, fun w => rate_near_here n d s k j hr hs hk (by omega) hj hm hup w, fun w => ref_near_here n d s k j hr hs hk (by omega) hj hm hup w⟩
      · have hj2 : j ≤ 16777216 := by rw [← hj]; unfold idxN; exact Nat.min_le_right _ _
        have hj3 : idxN n d (k - s) = 16777216 := by omega
        exact ⟨_, _, 0, fun w => rate_near_end n d s k hr hs hk (by omega) hj3 w, fun w => ref_near_end n d s k 16777216 hr hs hk (by omega) hj3 rfl w⟩
  · exact ⟨0, 0, er, fun w => rate_nearest_err s n d k er her (fun w => rate_index_err s n d k er her q1 w) w, fun w => ref_nearest_err s n d k er her (fun w => ref_index_err s n d k er her q2 w) w⟩
theorem same_samples (n d k : Int) : ∃ a e2 : Int, Hid (∀ w, Calls Try.prog 28 #[.agg #[.int .i64 n, .int .i64 d], .int .i64 k] w fun e w' => e = .returned (.tuple #[.int .i64 a, .int .i64 e2]) ∧ Below w.heap.size w w') ∧ Hid (∀ w, Calls Try.prog 29 #[.agg #[.int .i64 n, .int .i64 d], .int .i64 k] w fun e w' => e = .returned (.tuple #[.int .i64 a, .int .i64 e2]) ∧ Below w.heap.size w w') := by
  by_cases hr : RateOk n d
  · by_cases hi : 0 ≤ k ∧ k ≤ 9007199254740992
    · obtain ⟨k1, k2⟩ := hi
      have := hr.1; have := hr.2.2.1
      obtain ⟨k, rfl⟩ : ∃ x : Nat, k = x := ⟨k.toNat, by omega⟩
      obtain ⟨n, rfl⟩ : ∃ x : Nat, n = x := ⟨n.toNat, by omega⟩
      obtain ⟨d, rfl⟩ : ∃ x : Nat, d = x := ⟨d.toNat, by omega⟩
      by_cases hm : ceilN n d k ≤ 16777216
      · exact ⟨_, 0, fun w => rate_samples_ok n d k hr (by omega) hm w, fun w => ref_samples_ok n d k hr (by omega) hm w⟩
      · exact ⟨0, 8, fun w => rate_samples_many n d k hr (by omega) (by omega) w, fun w => ref_samples_many n d k hr (by omega) (by omega) w⟩
    · exact ⟨0, 2, fun w => rate_samples_far1 0 n d k hr (by omega) w, fun w => ref_samples_far1 0 n d k hr (by omega) w⟩
  · exact ⟨0, 1, fun w => rate_samples_bad 0 n d k hr w, fun w => ref_samples_bad 0 n d k hr w⟩
theorem same_slower (n d k : Int) : ∃ a b e2 : Int, Hid (∀ w, Calls Try.prog 18 #[.agg #[.int .i64 n, .int .i64 d], .int .i64 k] w fun e w' => e = .returned (.tuple #[.agg #[.int .i64 a, .int .i64 b], .int .i64 e2]) ∧ Below w.heap.size w w') ∧ Hid (∀ w, Calls Try.prog 27 #[.agg #[.int .i64 n, .int .i64 d], .int .i64 k] w fun e w' => e = .returned (.tuple #[.agg #[.int .i64 a, .int .i64 b], .int .i64 e2]) ∧ Below w.heap.size w w') := by
  by_cases hr : RateOk n d
  · by_cases hi : 1 ≤ k ∧ k ≤ 64
    · obtain ⟨k1, k2⟩ := hi
      have := hr.1; have := hr.2.2.1
      obtain ⟨k, rfl⟩ : ∃ x : Nat, k = x := ⟨k.toNat, by omega⟩
      obtain ⟨n, rfl⟩ : ∃ x : Nat, n = x := ⟨n.toNat, by omega⟩
      obtain ⟨d, rfl⟩ : ∃ x : Nat, d = x := ⟨d.toNat, by omega⟩
      by_cases hm : RateOk (n / Nat.gcd n k : Nat) (d * (k / Nat.gcd n k) : Nat)
      · exact ⟨_, _, 0, fun w => rate_slower_ok n d k hr (by omega) hm w, fun w => ref_slower_ok n d k hr (by omega) hm w⟩
      · exact ⟨0, 0, 8, fun w => rate_slower_no n d k hr (by omega) hm w, fun w => ref_slower_no n d k hr (by omega) hm w⟩
    · exact ⟨0, 0, 2, fun w => rate_slower_far n d k hr (by omega) w, fun w => ref_slower_far n d k hr (by omega) w⟩
  · exact ⟨0, 0, 1, fun w => rate_slower_bad n d k hr w, fun w => ref_slower_bad n d k hr w⟩
theorem same_new (n d : Int) : ∃ a b e2 : Int, Hid (∀ w, Calls Try.prog 30 #[.int .i64 n, .int .i64 d] w fun e w' => e = .returned (.tuple #[.agg #[.int .i64 a, .int .i64 b], .int .i64 e2]) ∧ Below w.heap.size w w') ∧ Hid (∀ w, Calls Try.prog 31 #[.int .i64 n, .int .i64 d] w fun e w' => e = .returned (.tuple #[.agg #[.int .i64 a, .int .i64 b], .int .i64 e2]) ∧ Below w.heap.size w w') := by
  by_cases hn : 1 ≤ n ∧ n ≤ 4096
  · by_cases hd : 1 ≤ d ∧ d ≤ 4096
    · obtain ⟨n, rfl⟩ : ∃ x : Nat, n = x := ⟨n.toNat, by omega⟩
      obtain ⟨d, rfl⟩ : ∃ x : Nat, d = x := ⟨d.toNat, by omega⟩
      exact ⟨_, _, 0, fun w => rate_new_ok n d (by omega) (by omega) w, fun w => ref_new_ok n d (by omega) (by omega) w⟩
    · exact ⟨0, 0, 2, fun w => rate_new_far2 n d hn (by omega) w, fun w => ref_new_far2 n d hn (by omega) w⟩
  · exact ⟨0, 0, 2, fun w => rate_new_far1 n d (by omega) w, fun w => ref_new_far1 n d (by omega) w⟩
end Go.Proofs.Ytmhbncpiloffgaa
