/- The walk of the statements' examples. -/
import Derived.Test.YtmhbncpiloffgaaRateE
namespace Go.Proofs.Ytmhbncpiloffgaa
open Go.RowKit
set_option linter.unusedVariables false
theorem rate_sane (w : World) : Calls Try.prog 9 #[] w fun e w' => e = .returned (.bool true) ∧ Below w.heap.size w w' := by
  have q1 : ∀ w, Calls Try.prog 30 #[.int .i64 6, .int .i64 2] w fun e w' => e = .returned (.tuple #[.agg #[.int .i64 3, .int .i64 1], .int .i64 0]) ∧ Below w.heap.size w w' := fun w => rate_new_ok 6 2 (by omega) (by omega) w
  have hr : RateOk 3 1 := by decide
  have q2 : ∀ w, Calls Try.prog 13 #[.int .i64 0, .agg #[.int .i64 3, .int .i64 1], .int .i64 2] w fun e w' => e = .returned (.tuple #[.int .i64 666666, .int .i64 0]) ∧ Below w.heap.size w w' := fun w => rate_time_ok 3 1 0 2 hr (by omega) (by omega) w
  have q3 : ∀ w, Calls Try.prog 12 #[.int .i64 0, .agg #[.int .i64 3, .int .i64 1], .int .i64 500000] w fun e w' => e = .returned (.tuple #[.int .i64 2, .int .i64 (-166666), .int .i64 0]) ∧ Below w.heap.size w w' := fun w => rate_near_up 3 1 0 500000 1 hr (by omega) (by omega) (by omega) (by decide +kernel) (by omega) (by decide +kernel) w
  have Q1 := hide q1
  have Q2 := hide q2
  have Q3 := hide q3
  clear q1 q2 q3 hr
  go_enter Try.func9, Try.ntmps9
  go_wp2_with (first
    | (go_at_call 30; (with_reducible refine (Q1.out _).mono ?_); rintro e w1 ⟨rfl, hb1⟩; (have hb := (Below.refl w.heap.size w).trans hb1);
       (have hb0 := hb.alloc hb.size (.cells #[.int .i64 3, .int .i64 1] 27)); (have hc := heap_alloc_new w1 (.cells #[.int .i64 3, .int .i64 1] 27)))
    | (go_at_call 13; (with_reducible refine (accB hb0 hc (Q2.out _)).mono ?_); clear hb hb0 hc; rintro e w2 ⟨rfl, hb, hc⟩; (obtain ⟨c0, c1, f0, f1⟩ := pair_cells hc))
    | (go_at_call 12; (with_reducible refine (accB hb hc (Q3.out _)).mono ?_); clear hb hc c0 c1 f0 f1; rintro e w3 ⟨rfl, hb, hc⟩; (obtain ⟨c0, c1, f0, f1⟩ := pair_cells hc)))
  go_ret
  exact ⟨rfl, hb⟩
end Go.Proofs.Ytmhbncpiloffgaa
