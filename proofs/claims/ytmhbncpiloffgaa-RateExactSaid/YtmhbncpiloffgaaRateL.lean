/- The walks of the errors of Slower and New, in both packages, for any numbers. -/
import Derived.Test.YtmhbncpiloffgaaRateK
import Derived.Test.YtmhbncpiloffgaaRateSlow
namespace Go.Proofs.Ytmhbncpiloffgaa
open Go.RowKit
set_option linter.unusedVariables false
set_option linter.unusedSimpArgs false

theorem rate_slower_bad (n d f : Int) (hr : ¬ RateOk n d) (w : World) :
    Calls Try.prog 18 #[.agg #[.int .i64 n, .int .i64 d], .int .i64 f] w fun e w' => e = .returned (.tuple #[.agg #[.int .i64 0, .int .i64 0], .int .i64 1]) ∧ Below w.heap.size w w' := by
  have q := fun w => rate_valid n d w
  rw [decide_eq_false hr] at q
  have Q := hide q
  clear q hr
  go_enter Try.func18, Try.ntmps18
  go_wp2_with (first
    | (go_at_call 20; (with_reducible refine (Q.out _).mono ?_); rintro e w1 ⟨rfl, hb1⟩; (have hb := (below2 (w := w) (.cells #[.int .i64 n, .int .i64 d] 27) (.cells #[.int .i64 0, .int .i64 0] 27)).trans (hb1.mono (by simp; omega)));
       (have hR := keepC hb1 (heap_alloc2_new _ _ _)); (obtain ⟨y0, y1, f0, f1⟩ := pair_cells hR); clear hb1))
  (try simp only [Exit.inBlock, Exit.then])
  obtain ⟨z0, z1⟩ := pair_set_cells hR (.int .i64 0) (.int .i64 0)
  refine bodyPost_ret (v := .tuple #[.agg #[.int .i64 0, .int .i64 0], .int .i64 1]) (by simp [results, Try.results18, go_sem, z0, z1]) rfl ⟨rfl, ?_⟩
  exact (hb.setCell (by simp) _).setCell (by simp) _

theorem rate_slower_far (n d f : Int) (hr : RateOk n d) (hf : f < 1 ∨ 64 < f) (w : World) :
    Calls Try.prog 18 #[.agg #[.int .i64 n, .int .i64 d], .int .i64 f] w fun e w' => e = .returned (.tuple #[.agg #[.int .i64 0, .int .i64 0], .int .i64 2]) ∧ Below w.heap.size w w' := by
  have q := fun w => rate_valid n d w
  rw [decide_eq_true hr] at q
  have Q := hide q
  clear q hr
  go_enter Try.func18, Try.ntmps18
  go_wp2_with (first
    | (go_at_call 20; (with_reducible refine (Q.out _).mono ?_); rintro e w1 ⟨rfl, hb1⟩; (have hb := (below2 (w := w) (.cells #[.int .i64 n, .int .i64 d] 27) (.cells #[.int .i64 0, .int .i64 0] 27)).trans (hb1.mono (by simp; omega)));
       (have hR := keepC hb1 (heap_alloc2_new _ _ _)); (obtain ⟨y0, y1, f0, f1⟩ := pair_cells hR); clear hb1)
    | (go_at_call 33; (with_reducible refine (rate_in_no _ _ _ ?_ _).mono ?_); (focus omega); rintro e w1 ⟨rfl, rfl⟩))
  (try simp only [Exit.inBlock, Exit.then])
  obtain ⟨z0, z1⟩ := pair_set_cells hR (.int .i64 0) (.int .i64 0)
  refine bodyPost_ret (v := .tuple #[.agg #[.int .i64 0, .int .i64 0], .int .i64 2]) (by simp [results, Try.results18, go_sem, z0, z1]) rfl ⟨rfl, ?_⟩
  exact (hb.setCell (by simp) _).setCell (by simp) _

theorem ref_slower_bad (n d f : Int) (hr : ¬ RateOk n d) (w : World) :
    Calls Try.prog 27 #[.agg #[.int .i64 n, .int .i64 d], .int .i64 f] w fun e w' => e = .returned (.tuple #[.agg #[.int .i64 0, .int .i64 0], .int .i64 1]) ∧ Below w.heap.size w w' := by
  have q := fun w => ref_valid n d w
  rw [decide_eq_false hr] at q
  have Q := hide q
  clear q hr
  go_enter Try.func27, Try.ntmps27
  go_wp2_with (first
    | (go_at_call 21; (with_reducible refine (Q.out _).mono ?_); rintro e w1 ⟨rfl, hb1⟩; (have hb := (below2 (w := w) (.cells #[.int .i64 n, .int .i64 d] 27) (.cells #[.int .i64 0, .int .i64 0] 27)).trans (hb1.mono (by simp; omega)));
       (have hR := keepC hb1 (heap_alloc2_new _ _ _)); (obtain ⟨y0, y1, f0, f1⟩ := pair_cells hR); clear hb1))
  (try simp only [Exit.inBlock, Exit.then])
  obtain ⟨z0, z1⟩ := pair_set_cells hR (.int .i64 0) (.int .i64 0)
  refine bodyPost_ret (v := .tuple #[.agg #[.int .i64 0, .int .i64 0], .int .i64 1]) (by simp [results, Try.results27, go_sem, z0, z1]) rfl ⟨rfl, ?_⟩
  exact (hb.setCell (by simp) _).setCell (by simp) _

theorem ref_slower_far (n d f : Int) (hr : RateOk n d) (hf : f < 1 ∨ 64 < f) (w : World) :
    Calls Try.prog 27 #[.agg #[.int .i64 n, .int .i64 d], .int .i64 f] w fun e w' => e = .returned (.tuple #[.agg #[.int .i64 0, .int .i64 0], .int .i64 2]) ∧ Below w.heap.size w w' := by
  have q := fun w => ref_valid n d w
  rw [decide_eq_true hr] at q
  have Q := hide q
  clear q hr
  go_enter Try.func27, Try.ntmps27
  go_wp2_with (first
    | (go_at_call 21; (with_reducible refine (Q.out _).mono ?_); rintro e w1 ⟨rfl, hb1⟩; (have hb := (below2 (w := w) (.cells #[.int .i64 n, .int .i64 d] 27) (.cells #[.int .i64 0, .int .i64 0] 27)).trans (hb1.mono (by simp; omega)));
       (have hR := keepC hb1 (heap_alloc2_new _ _ _)); (obtain ⟨y0, y1, f0, f1⟩ := pair_cells hR); clear hb1)
    | (go_at_call 39; (with_reducible refine (utc_in_no _ _ _ ?_ _).mono ?_); (focus omega); rintro e w1 ⟨rfl, rfl⟩))
  (try simp only [Exit.inBlock, Exit.then])
  obtain ⟨z0, z1⟩ := pair_set_cells hR (.int .i64 0) (.int .i64 0)
  refine bodyPost_ret (v := .tuple #[.agg #[.int .i64 0, .int .i64 0], .int .i64 2]) (by simp [results, Try.results27, go_sem, z0, z1]) rfl ⟨rfl, ?_⟩
  exact (hb.setCell (by simp) _).setCell (by simp) _

end Go.Proofs.Ytmhbncpiloffgaa
