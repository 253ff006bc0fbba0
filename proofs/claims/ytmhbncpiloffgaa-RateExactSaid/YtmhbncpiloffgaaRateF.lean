/- The walks of the errors of package rate and of its reference, for any numbers. -/
import Derived.Test.YtmhbncpiloffgaaRateE
namespace Go.Proofs.Ytmhbncpiloffgaa
open Go.RowKit
set_option linter.unusedVariables false
set_option linter.unusedSimpArgs false

theorem rate_time_bad (s n d k : Int) (hr : ¬ RateOk n d) (w : World) :
    Calls Try.prog 13 #[.int .i64 s, .agg #[.int .i64 n, .int .i64 d], .int .i64 k] w fun e w' => e = .returned (.tuple #[.int .i64 0, .int .i64 1]) ∧ Below w.heap.size w w' := by
  have q := fun w => rate_valid n d w
  rw [decide_eq_false hr] at q
  have Q := hide q
  clear q hr
  go_enter Try.func13, Try.ntmps13
  go_wp2_with (first
    | (go_at_call 20; (with_reducible refine (acc (below1 _) (Q.out _)).mono ?_); rintro e w1 ⟨rfl, hb⟩))
  go_ret2
  exact ⟨rfl, hb⟩

theorem rate_time_far1 (s n d k : Int) (hr : RateOk n d) (h1 : s < 0 ∨ 9007199254740992 < s) (w : World) :
    Calls Try.prog 13 #[.int .i64 s, .agg #[.int .i64 n, .int .i64 d], .int .i64 k] w fun e w' => e = .returned (.tuple #[.int .i64 0, .int .i64 2]) ∧ Below w.heap.size w w' := by
  have q := fun w => rate_valid n d w
  rw [decide_eq_true hr] at q
  have Q := hide q
  clear q hr
  go_enter Try.func13, Try.ntmps13
  go_wp2_with (first
    | (go_at_call 20; (with_reducible refine (acc (below1 _) (Q.out _)).mono ?_); rintro e w1 ⟨rfl, hb⟩)
    | (go_at_call 33; (with_reducible refine (rate_in_no s 0 9007199254740992 ?_ _).mono ?_); (focus omega); rintro e w1 ⟨rfl, rfl⟩))
  go_ret2
  exact ⟨rfl, hb⟩

theorem rate_time_far2 (s n d k : Int) (hr : RateOk n d) (h1 : 0 ≤ s ∧ s ≤ 9007199254740992) (h2 : k < 0 ∨ 16777216 < k) (w : World) :
    Calls Try.prog 13 #[.int .i64 s, .agg #[.int .i64 n, .int .i64 d], .int .i64 k] w fun e w' => e = .returned (.tuple #[.int .i64 0, .int .i64 2]) ∧ Below w.heap.size w w' := by
  have q := fun w => rate_valid n d w
  rw [decide_eq_true hr] at q
  have Q := hide q
  clear q hr
  go_enter Try.func13, Try.ntmps13
  go_wp2_with (first
    | (go_at_call 20; (with_reducible refine (acc (below1 _) (Q.out _)).mono ?_); rintro e w1 ⟨rfl, hb⟩)
    | (go_at_call 33; (with_reducible refine (rate_in_yes s 0 9007199254740992 ?_ _).mono ?_); (focus omega); rintro e w1 ⟨rfl, rfl⟩)
    | (go_at_call 33; (with_reducible refine (rate_in_no k 0 16777216 ?_ _).mono ?_); (focus omega); rintro e w1 ⟨rfl, rfl⟩))
  go_ret2
  exact ⟨rfl, hb⟩

theorem rate_check_bad (s n d k : Int) (hr : ¬ RateOk n d) (w : World) :
    Calls Try.prog 34 #[.int .i64 s, .agg #[.int .i64 n, .int .i64 d], .int .i64 k] w fun e w' => e = .returned (.int .i64 1) ∧ Below w.heap.size w w' := by
  have q := fun w => rate_valid n d w
  rw [decide_eq_false hr] at q
  have Q := hide q
  clear q hr
  go_enter Try.func34, Try.ntmps34
  go_wp2_with (first
    | (go_at_call 20; (with_reducible refine (acc (below1 _) (Q.out _)).mono ?_); rintro e w1 ⟨rfl, hb⟩))
  go_ret
  exact ⟨rfl, hb⟩

theorem rate_check_far1 (s n d k : Int) (hr : RateOk n d) (h1 : s < 0 ∨ 9007199254740992 < s) (w : World) :
    Calls Try.prog 34 #[.int .i64 s, .agg #[.int .i64 n, .int .i64 d], .int .i64 k] w fun e w' => e = .returned (.int .i64 2) ∧ Below w.heap.size w w' := by
  have q := fun w => rate_valid n d w
  rw [decide_eq_true hr] at q
  have Q := hide q
  clear q hr
  go_enter Try.func34, Try.ntmps34
  go_wp2_with (first
    | (go_at_call 20; (with_reducible refine (acc (below1 _) (Q.out _)).mono ?_); rintro e w1 ⟨rfl, hb⟩)
    | (go_at_call 33; (with_reducible refine (rate_in_no s 0 9007199254740992 ?_ _).mono ?_); (focus omega); rintro e w1 ⟨rfl, rfl⟩))
  go_ret
  exact ⟨rfl, hb⟩

theorem rate_check_far2 (s n d k : Int) (hr : RateOk n d) (h1 : 0 ≤ s ∧ s ≤ 9007199254740992) (h2 : k < 0 ∨ 18014398509481984 < k) (w : World) :
    Calls Try.prog 34 #[.int .i64 s, .agg #[.int .i64 n, .int .i64 d], .int .i64 k] w fun e w' => e = .returned (.int .i64 2) ∧ Below w.heap.size w w' := by
  have q := fun w => rate_valid n d w
  rw [decide_eq_true hr] at q
  have Q := hide q
  clear q hr
  go_enter Try.func34, Try.ntmps34
  go_wp2_with (first
    | (go_at_call 20; (with_reducible refine (acc (below1 _) (Q.out _)).mono ?_); rintro e w1 ⟨rfl, hb⟩)
    | (go_at_call 33; (with_reducible refine (rate_in_yes s 0 9007199254740992 ?_ _).mono ?_); (focus omega); rintro e w1 ⟨rfl, rfl⟩)
    | (go_at_call 33; (with_reducible refine (rate_in_no k 0 18014398509481984 ?_ _).mono ?_); (focus omega); rintro e w1 ⟨rfl, rfl⟩))
  go_ret
  exact ⟨rfl, hb⟩

theorem rate_number_bad (s n d k : Int) (hr : ¬ RateOk n d) (w : World) :
    Calls Try.prog 16 #[.agg #[.int .i64 n, .int .i64 d], .int .i64 k] w fun e w' => e = .returned (.tuple #[.int .i64 0, .int .i64 1]) ∧ Below w.heap.size w w' := by
  have q := fun w => rate_valid n d w
  rw [decide_eq_false hr] at q
  have Q := hide q
  clear q hr
  go_enter Try.func16, Try.ntmps16
  go_wp2_with (first
    | (go_at_call 20; (with_reducible refine (acc (below1 _) (Q.out _)).mono ?_); rintro e w1 ⟨rfl, hb⟩))
  go_ret2
  exact ⟨rfl, hb⟩

theorem rate_number_far1 (s n d k : Int) (hr : RateOk n d) (h1 : k < 0 ∨ 18014398509481984 < k) (w : World) :
    Calls Try.prog 16 #[.agg #[.int .i64 n, .int .i64 d], .int .i64 k] w fun e w' => e = .returned (.tuple #[.int .i64 0, .int .i64 2]) ∧ Below w.heap.size w w' := by
  have q := fun w => rate_valid n d w
  rw [decide_eq_true hr] at q
  have Q := hide q
  clear q hr
  go_enter Try.func16, Try.ntmps16
  go_wp2_with (first
    | (go_at_call 20; (with_reducible refine (acc (below1 _) (Q.out _)).mono ?_); rintro e w1 ⟨rfl, hb⟩)
    | (go_at_call 33; (with_reducible refine (rate_in_no k 0 18014398509481984 ?_ _).mono ?_); (focus omega); rintro e w1 ⟨rfl, rfl⟩))
  go_ret2
  exact ⟨rfl, hb⟩

theorem rate_samples_bad (s n d k : Int) (hr : ¬ RateOk n d) (w : World) :
    Calls Try.prog 28 #[.agg #[.int .i64 n, .int .i64 d], .int .i64 k] w fun e w' => e = .returned (.tuple #[.int .i64 0, .int .i64 1]) ∧ Below w.heap.size w w' := by
  have q := fun w => rate_valid n d w
  rw [decide_eq_false hr] at q
  have Q := hide q
  clear q hr
  go_enter Try.func28, Try.ntmps28
  go_wp2_with (first
    | (go_at_call 20; (with_reducible refine (acc (below1 _) (Q.out _)).mono ?_); rintro e w1 ⟨rfl, hb⟩))
  go_ret2
  exact ⟨rfl, hb⟩

theorem rate_samples_far1 (s n d k : Int) (hr : RateOk n d) (h1 : k < 0 ∨ 9007199254740992 < k) (w : World) :
    Calls Try.prog 28 #[.agg #[.int .i64 n, .int .i64 d], .int .i64 k] w fun e w' => e = .returned (.tuple #[.int .i64 0, .int .i64 2]) ∧ Below w.heap.size w w' := by
  have q := fun w => rate_valid n d w
  rw [decide_eq_true hr] at q
  have Q := hide q
  clear q hr
  go_enter Try.func28, Try.ntmps28
  go_wp2_with (first
    | (go_at_call 20; (with_reducible refine (acc (below1 _) (Q.out _)).mono ?_); rintro e w1 ⟨rfl, hb⟩)
    | (go_at_call 33; (with_reducible refine (rate_in_no k 0 9007199254740992 ?_ _).mono ?_); (focus omega); rintro e w1 ⟨rfl, rfl⟩))
  go_ret2
  exact ⟨rfl, hb⟩

theorem ref_time_bad (s n d k : Int) (hr : ¬ RateOk n d) (w : World) :
    Calls Try.prog 22 #[.int .i64 s, .agg #[.int .i64 n, .int .i64 d], .int .i64 k] w fun e w' => e = .returned (.tuple #[.int .i64 0, .int .i64 1]) ∧ Below w.heap.size w w' := by
  have q := fun w => ref_valid n d w
  rw [decide_eq_false hr] at q
  have Q := hide q
  clear q hr
  go_enter Try.func22, Try.ntmps22
  go_wp2_with (first
    | (go_at_call 21; (with_reducible refine (acc (below1 _) (Q.out _)).mono ?_); rintro e w1 ⟨rfl, hb⟩))
  go_ret2
  exact ⟨rfl, hb⟩

theorem ref_time_far1 (s n d k : Int) (hr : RateOk n d) (h1 : s < 0 ∨ 9007199254740992 < s) (w : World) :
    Calls Try.prog 22 #[.int .i64 s, .agg #[.int .i64 n, .int .i64 d], .int .i64 k] w fun e w' => e = .returned (.tuple #[.int .i64 0, .int .i64 2]) ∧ Below w.heap.size w w' := by
  have q := fun w => ref_valid n d w
  rw [decide_eq_true hr] at q
  have Q := hide q
  clear q hr
  go_enter Try.func22, Try.ntmps22
  go_wp2_with (first
    | (go_at_call 21; (with_reducible refine (acc (below1 _) (Q.out _)).mono ?_); rintro e w1 ⟨rfl, hb⟩)
    | (go_at_call 39; (with_reducible refine (utc_in_no s 0 9007199254740992 ?_ _).mono ?_); (focus omega); rintro e w1 ⟨rfl, rfl⟩))
  go_ret2
  exact ⟨rfl, hb⟩

theorem ref_time_far2 (s n d k : Int) (hr : RateOk n d) (h1 : 0 ≤ s ∧ s ≤ 9007199254740992) (h2 : k < 0 ∨ 16777216 < k) (w : World) :
    Calls Try.prog 22 #[.int .i64 s, .agg #[.int .i64 n, .int .i64 d], .int .i64 k] w fun e w' => e = .returned (.tuple #[.int .i64 0, .int .i64 2]) ∧ Below w.heap.size w w' := by
  have q := fun w => ref_valid n d w
  rw [decide_eq_true hr] at q
  have Q := hide q
  clear q hr
  go_enter Try.func22, Try.ntmps22
  go_wp2_with (first
    | (go_at_call 21; (with_reducible refine (acc (below1 _) (Q.out _)).mono ?_); rintro e w1 ⟨rfl, hb⟩)
    | (go_at_call 39; (with_reducible refine (utc_in_yes s 0 9007199254740992 ?_ _).mono ?_); (focus omega); rintro e w1 ⟨rfl, rfl⟩)
    | (go_at_call 39; (with_reducible refine (utc_in_no k 0 16777216 ?_ _).mono ?_); (focus omega); rintro e w1 ⟨rfl, rfl⟩))
  go_ret2
  exact ⟨rfl, hb⟩

theorem ref_check_bad (s n d k : Int) (hr : ¬ RateOk n d) (w : World) :
    Calls Try.prog 41 #[.int .i64 s, .agg #[.int .i64 n, .int .i64 d], .int .i64 k] w fun e w' => e = .returned (.int .i64 1) ∧ Below w.heap.size w w' := by
  have q := fun w => ref_valid n d w
  rw [decide_eq_false hr] at q
  have Q := hide q
  clear q hr
  go_enter Try.func41, Try.ntmps41
  go_wp2_with (first
    | (go_at_call 21; (with_reducible refine (acc (below1 _) (Q.out _)).mono ?_); rintro e w1 ⟨rfl, hb⟩))
  go_ret
  exact ⟨rfl, hb⟩

theorem ref_check_far1 (s n d k : Int) (hr : RateOk n d) (h1 : s < 0 ∨ 9007199254740992 < s) (w : World) :
    Calls Try.prog 41 #[.int .i64 s, .agg #[.int .i64 n, .int .i64 d], .int .i64 k] w fun e w' => e = .returned (.int .i64 2) ∧ Below w.heap.size w w' := by
  have q := fun w => ref_valid n d w
  rw [decide_eq_true hr] at q
  have Q := hide q
  clear q hr
  go_enter Try.func41, Try.ntmps41
  go_wp2_with (first
    | (go_at_call 21; (with_reducible refine (acc (below1 _) (Q.out _)).mono ?_); rintro e w1 ⟨rfl, hb⟩)
    | (go_at_call 39; (with_reducible refine (utc_in_no s 0 9007199254740992 ?_ _).mono ?_); (focus omega); rintro e w1 ⟨rfl, rfl⟩))
  go_ret
  exact ⟨rfl, hb⟩

theorem ref_check_far2 (s n d k : Int) (hr : RateOk n d) (h1 : 0 ≤ s ∧ s ≤ 9007199254740992) (h2 : k < 0 ∨ 18014398509481984 < k) (w : World) :
    Calls Try.prog 41 #[.int .i64 s, .agg #[.int .i64 n, .int .i64 d], .int .i64 k] w fun e w' => e = .returned (.int .i64 2) ∧ Below w.heap.size w w' := by
  have q := fun w => ref_valid n d w
  rw [decide_eq_true hr] at q
  have Q := hide q
  clear q hr
  go_enter Try.func41, Try.ntmps41
  go_wp2_with (first
    | (go_at_call 21; (with_reducible refine (acc (below1 _) (Q.out _)).mono ?_); rintro e w1 ⟨rfl, hb⟩)
    | (go_at_call 39; (with_reducible refine (utc_in_yes s 0 9007199254740992 ?_ _).mono ?_); (focus omega); rintro e w1 ⟨rfl, rfl⟩)
    | (go_at_call 39; (with_reducible refine (utc_in_no k 0 18014398509481984 ?_ _).mono ?_); (focus omega); rintro e w1 ⟨rfl, rfl⟩))
  go_ret
  exact ⟨rfl, hb⟩

theorem ref_number_bad (s n d k : Int) (hr : ¬ RateOk n d) (w : World) :
    Calls Try.prog 26 #[.agg #[.int .i64 n, .int .i64 d], .int .i64 k] w fun e w' => e = .returned (.tuple #[.int .i64 0, .int .i64 1]) ∧ Below w.heap.size w w' := by
  have q := fun w => ref_valid n d w
  rw [decide_eq_false hr] at q
  have Q := hide q
  clear q hr
  go_enter Try.func26, Try.ntmps26
  go_wp2_with (first
    | (go_at_call 21; (with_reducible refine (acc (below1 _) (Q.out _)).mono ?_); rintro e w1 ⟨rfl, hb⟩))
  go_ret2
  exact ⟨rfl, hb⟩

theorem ref_number_far1 (s n d k : Int) (hr : RateOk n d) (h1 : k < 0 ∨ 18014398509481984 < k) (w : World) :
    Calls Try.prog 26 #[.agg #[.int .i64 n, .int .i64 d], .int .i64 k] w fun e w' => e = .returned (.tuple #[.int .i64 0, .int .i64 2]) ∧ Below w.heap.size w w' := by
  have q := fun w => ref_valid n d w
  rw [decide_eq_true hr] at q
  have Q := hide q
  clear q hr
  go_enter Try.func26, Try.ntmps26
  go_wp2_with (first
    | (go_at_call 21; (with_reducible refine (acc (below1 _) (Q.out _)).mono ?_); rintro e w1 ⟨rfl, hb⟩)
    | (go_at_call 39; (with_reducible refine (utc_in_no k 0 18014398509481984 ?_ _).mono ?_); (focus omega); rintro e w1 ⟨rfl, rfl⟩))
  go_ret2
  exact ⟨rfl, hb⟩

theorem ref_samples_bad (s n d k : Int) (hr : ¬ RateOk n d) (w : World) :
    Calls Try.prog 29 #[.agg #[.int .i64 n, .int .i64 d], .int .i64 k] w fun e w' => e = .returned (.tuple #[.int .i64 0, .int .i64 1]) ∧ Below w.heap.size w w' := by
  have q := fun w => ref_valid n d w
  rw [decide_eq_false hr] at q
  have Q := hide q
  clear q hr
  go_enter Try.func29, Try.ntmps29
  go_wp2_with (first
    | (go_at_call 21; (with_reducible refine (acc (below1 _) (Q.out _)).mono ?_); rintro e w1 ⟨rfl, hb⟩))
  go_ret2
  exact ⟨rfl, hb⟩

theorem ref_samples_far1 (s n d k : Int) (hr : RateOk n d) (h1 : k < 0 ∨ 9007199254740992 < k) (w : World) :
    Calls Try.prog 29 #[.agg #[.int .i64 n, .int .i64 d], .int .i64 k] w fun e w' => e = .returned (.tuple #[.int .i64 0, .int .i64 2]) ∧ Below w.heap.size w w' := by
  have q := fun w => ref_valid n d w
  rw [decide_eq_true hr] at q
  have Q := hide q
  clear q hr
  go_enter Try.func29, Try.ntmps29
  go_wp2_with (first
    | (go_at_call 21; (with_reducible refine (acc (below1 _) (Q.out _)).mono ?_); rintro e w1 ⟨rfl, hb⟩)
    | (go_at_call 39; (with_reducible refine (utc_in_no k 0 9007199254740992 ?_ _).mono ?_); (focus omega); rintro e w1 ⟨rfl, rfl⟩))
  go_ret2
  exact ⟨rfl, hb⟩

end Go.Proofs.Ytmhbncpiloffgaa
