/- The walks of the errors of New, in both packages, for any numbers. -/
import Derived.Test.YtmhbncpiloffgaaRateL
namespace Go.Proofs.Ytmhbncpiloffgaa
open Go.RowKit
set_option linter.unusedVariables false
set_option linter.unusedSimpArgs false

theorem rate_new_far1 (a b : Int) (ha : a < 1 ∨ 4096 < a) (w : World) :
    Calls Try.prog 30 #[.int .i64 a, .int .i64 b] w fun e w' => e = .returned (.tuple #[.agg #[.int .i64 0, .int .i64 0], .int .i64 2]) ∧ Below w.heap.size w w' := by
  go_enter Try.func30, Try.ntmps30
  go_wp2_with (first
    | (go_at_call 33; (with_reducible refine (rate_in_no a _ _ ?_ _).mono ?_); (focus omega); rintro e w1 ⟨rfl, rfl⟩))
  (try simp only [Exit.inBlock, Exit.then])
  obtain ⟨z0, z1⟩ := pair_set_cells (heap_alloc_new w (.cells #[.int .i64 0, .int .i64 0] 27)) (.int .i64 0) (.int .i64 0)
  refine bodyPost_ret (v := .tuple #[.agg #[.int .i64 0, .int .i64 0], .int .i64 2]) (by simp [results, Try.results30, go_sem, z0, z1]) rfl ⟨rfl, ?_⟩
  first | exact below1 _ | exact ((below1 _).setCell (Nat.le_refl _) _).setCell (Nat.le_refl _) _

theorem rate_new_far2 (a b : Int) (ha : 1 ≤ a ∧ a ≤ 4096) (hb : b < 1 ∨ 4096 < b) (w : World) :
    Calls Try.prog 30 #[.int .i64 a, .int .i64 b] w fun e w' => e = .returned (.tuple #[.agg #[.int .i64 0, .int .i64 0], .int .i64 2]) ∧ Below w.heap.size w w' := by
  go_enter Try.func30, Try.ntmps30
  go_wp2_with (first
    | (go_at_call 33; (with_reducible refine (rate_in_yes a _ _ ?_ _).mono ?_); (focus omega); rintro e w1 ⟨rfl, rfl⟩)
    | (go_at_call 33; (with_reducible refine (rate_in_no b _ _ ?_ _).mono ?_); (focus omega); rintro e w1 ⟨rfl, rfl⟩))
  (try simp only [Exit.inBlock, Exit.then])
  obtain ⟨z0, z1⟩ := pair_set_cells (heap_alloc_new w (.cells #[.int .i64 0, .int .i64 0] 27)) (.int .i64 0) (.int .i64 0)
  refine bodyPost_ret (v := .tuple #[.agg #[.int .i64 0, .int .i64 0], .int .i64 2]) (by simp [results, Try.results30, go_sem, z0, z1]) rfl ⟨rfl, ?_⟩
  first | exact below1 _ | exact ((below1 _).setCell (Nat.le_refl _) _).setCell (Nat.le_refl _) _

theorem ref_new_far1 (a b : Int) (ha : a < 1 ∨ 4096 < a) (w : World) :
    Calls Try.prog 31 #[.int .i64 a, .int .i64 b] w fun e w' => e = .returned (.tuple #[.agg #[.int .i64 0, .int .i64 0], .int .i64 2]) ∧ Below w.heap.size w w' := by
  go_enter Try.func31, Try.ntmps31
  go_wp2_with (first
    | (go_at_call 39; (with_reducible refine (utc_in_no a _ _ ?_ _).mono ?_); (focus omega); rintro e w1 ⟨rfl, rfl⟩))
  (try simp only [Exit.inBlock, Exit.then])
  obtain ⟨z0, z1⟩ := pair_set_cells (heap_alloc_new w (.cells #[.int .i64 0, .int .i64 0] 27)) (.int .i64 0) (.int .i64 0)
  refine bodyPost_ret (v := .tuple #[.agg #[.int .i64 0, .int .i64 0], .int .i64 2]) (by simp [results, Try.results31, go_sem, z0, z1]) rfl ⟨rfl, ?_⟩
  first | exact below1 _ | exact ((below1 _).setCell (Nat.le_refl _) _).setCell (Nat.le_refl _) _

theorem ref_new_far2 (a b : Int) (ha : 1 ≤ a ∧ a ≤ 4096) (hb : b < 1 ∨ 4096 < b) (w : World) :
    Calls Try.prog 31 #[.int .i64 a, .int .i64 b] w fun e w' => e = .returned (.tuple #[.agg #[.int .i64 0, .int .i64 0], .int .i64 2]) ∧ Below w.heap.size w w' := by
  go_enter Try.func31, Try.ntmps31
  go_wp2_with (first
    | (go_at_call 39; (with_reducible refine (utc_in_yes a _ _ ?_ _).mono ?_); (focus omega); rintro e w1 ⟨rfl, rfl⟩)
    | (go_at_call 39; (with_reducible refine (utc_in_no b _ _ ?_ _).mono ?_); (focus omega); rintro e w1 ⟨rfl, rfl⟩))
  (try simp only [Exit.inBlock, Exit.then])
  obtain ⟨z0, z1⟩ := pair_set_cells (heap_alloc_new w (.cells #[.int .i64 0, .int .i64 0] 27)) (.int .i64 0) (.int .i64 0)
  refine bodyPost_ret (v := .tuple #[.agg #[.int .i64 0, .int .i64 0], .int .i64 2]) (by simp [results, Try.results31, go_sem, z0, z1]) rfl ⟨rfl, ?_⟩
  first | exact below1 _ | exact ((below1 _).setCell (Nat.le_refl _) _).setCell (Nat.le_refl _) _

end Go.Proofs.Ytmhbncpiloffgaa
