/- The walks of the errors that Index, Next and Nearest hand on, in both packages. -/
import Derived.Test.YtmhbncpiloffgaaRateF
namespace Go.Proofs.Ytmhbncpiloffgaa
open Go.RowKit
set_option linter.unusedVariables false
set_option linter.unusedSimpArgs false

theorem rate_index_err (s n d k er : Int) (her : er = 1 ∨ er = 2)
    (q : ∀ w, Calls Try.prog 34 #[.int .i64 s, .agg #[.int .i64 n, .int .i64 d], .int .i64 k] w fun e w' => e = .returned (.int .i64 er) ∧ Below w.heap.size w w') (w : World) :
    Calls Try.prog 14 #[.int .i64 s, .agg #[.int .i64 n, .int .i64 d], .int .i64 k] w fun e w' => e = .returned (.tuple #[.int .i64 0, .int .i64 er]) ∧ Below w.heap.size w w' := by
  have Q := hide q
  clear q
  rcases her with rfl | rfl
  all_goals
    go_enter Try.func14, Try.ntmps14
    go_wp2_with (first
      | (go_at_call 34; (with_reducible refine (acc (below1 _) (Q.out _)).mono ?_); rintro e w1 ⟨rfl, hb⟩))
    go_ret2
    exact ⟨rfl, hb⟩

theorem rate_next_err (s n d k er : Int) (her : er = 1 ∨ er = 2)
    (q : ∀ w, Calls Try.prog 34 #[.int .i64 s, .agg #[.int .i64 n, .int .i64 d], .int .i64 k] w fun e w' => e = .returned (.int .i64 er) ∧ Below w.heap.size w w') (w : World) :
    Calls Try.prog 15 #[.int .i64 s, .agg #[.int .i64 n, .int .i64 d], .int .i64 k] w fun e w' => e = .returned (.tuple #[.int .i64 0, .int .i64 er]) ∧ Below w.heap.size w w' := by
  have Q := hide q
  clear q
  rcases her with rfl | rfl
  all_goals
    go_enter Try.func15, Try.ntmps15
    go_wp2_with (first
      | (go_at_call 34; (with_reducible refine (acc (below1 _) (Q.out _)).mono ?_); rintro e w1 ⟨rfl, hb⟩))
    go_ret2
    exact ⟨rfl, hb⟩

theorem rate_nearest_err (s n d k er : Int) (her : er = 1 ∨ er = 2)
    (q : ∀ w, Calls Try.prog 14 #[.int .i64 s, .agg #[.int .i64 n, .int .i64 d], .int .i64 k] w fun e w' => e = .returned (.tuple #[.int .i64 0, .int .i64 er]) ∧ Below w.heap.size w w') (w : World) :
    Calls Try.prog 12 #[.int .i64 s, .agg #[.int .i64 n, .int .i64 d], .int .i64 k] w fun e w' => e = .returned (.tuple #[.int .i64 0, .int .i64 0, .int .i64 er]) ∧ Below w.heap.size w w' := by
  have Q := hide q
  clear q
  rcases her with rfl | rfl
  all_goals
    go_enter Try.func12, Try.ntmps12
    go_wp2_with (first
      | (go_at_call 14; (with_reducible refine (acc (below1 _) (Q.out _)).mono ?_); rintro e w1 ⟨rfl, hb⟩))
    go_ret3
    exact ⟨rfl, hb⟩

theorem ref_index_err (s n d k er : Int) (her : er = 1 ∨ er = 2)
    (q : ∀ w, Calls Try.prog 41 #[.int .i64 s, .agg #[.int .i64 n, .int .i64 d], .int .i64 k] w fun e w' => e = .returned (.int .i64 er) ∧ Below w.heap.size w w') (w : World) :
    Calls Try.prog 23 #[.int .i64 s, .agg #[.int .i64 n, .int .i64 d], .int .i64 k] w fun e w' => e = .returned (.tuple #[.int .i64 0, .int .i64 er]) ∧ Below w.heap.size w w' := by
  have Q := hide q
  clear q
  rcases her with rfl | rfl
  all_goals
    go_enter Try.func23, Try.ntmps23
    go_wp2_with (first
      | (go_at_call 41; (with_reducible refine (acc (below1 _) (Q.out _)).mono ?_); rintro e w1 ⟨rfl, hb⟩))
    go_ret2
    exact ⟨rfl, hb⟩

theorem ref_next_err (s n d k er : Int) (her : er = 1 ∨ er = 2)
    (q : ∀ w, Calls Try.prog 23 #[.int .i64 s, .agg #[.int .i64 n, .int .i64 d], .int .i64 k] w fun e w' => e = .returned (.tuple #[.int .i64 0, .int .i64 er]) ∧ Below w.heap.size w w') (w : World) :
    Calls Try.prog 24 #[.int .i64 s, .agg #[.int .i64 n, .int .i64 d], .int .i64 k] w fun e w' => e = .returned (.tuple #[.int .i64 0, .int .i64 er]) ∧ Below w.heap.size w w' := by
  have Q := hide q
  clear q
  rcases her with rfl | rfl
  all_goals
    go_enter Try.func24, Try.ntmps24
    go_wp2_with (first
      | (go_at_call 23; (with_reducible refine (acc (below1 _) (Q.out _)).mono ?_); rintro e w1 ⟨rfl, hb⟩))
    go_ret2
    exact ⟨rfl, hb⟩

theorem ref_nearest_err (s n d k er : Int) (her : er = 1 ∨ er = 2)
    (q : ∀ w, Calls Try.prog 23 #[.int .i64 s, .agg #[.int .i64 n, .int .i64 d], .int .i64 k] w fun e w' => e = .returned (.tuple #[.int .i64 0, .int .i64 er]) ∧ Below w.heap.size w w') (w : World) :
    Calls Try.prog 25 #[.int .i64 s, .agg #[.int .i64 n, .int .i64 d], .int .i64 k] w fun e w' => e = .returned (.tuple #[.int .i64 0, .int .i64 0, .int .i64 er]) ∧ Below w.heap.size w w' := by
  have Q := hide q
  clear q
  rcases her with rfl | rfl
  all_goals
    go_enter Try.func25, Try.ntmps25
    go_wp2_with (first
      | (go_at_call 23; (with_reducible refine (acc (below1 _) (Q.out _)).mono ?_); rintro e w1 ⟨rfl, hb⟩))
    go_ret3
    exact ⟨rfl, hb⟩

theorem rate_next_none (n d s t : Nat) (hr : RateOk n d) (hs : s ≤ 9007199254740992) (ht : t ≤ 18014398509481984) (h : s ≤ t) (hm : 16777216 < ceilN n d (t - s)) (w : World) :
    Calls Try.prog 15 #[.int .i64 s, .agg #[.int .i64 n, .int .i64 d], .int .i64 t] w fun e w' => e = .returned (.tuple #[.int .i64 0, .int .i64 6]) ∧ Below w.heap.size w w' := by
  obtain ⟨x, hx⟩ : ∃ x : Nat, t - s = x := ⟨_, rfl⟩
  have q := fun w => rate_check_ok n d s t hr hs ht w
  obtain ⟨r1, r2, r3, r4, r5⟩ := hr
  rw [hx] at hm
  have q2 := fun w => rate_ceil n d x (by omega) (by omega) (by omega) (by omega) (by omega) w
  generalize ceilN n d x = c at *
  have e1 : (t : Int) - (s : Int) = (x : Int) := by omega
  have Q := hide q
  have Q2 := hide q2
  have d1 : decide ((16777216 : Int) < (c : Int)) = true := by simp; omega
  clear q q2 r5 hx
  go_enter Try.func15, Try.ntmps15
  go_wp2_with (first
    | (go_at_call 34; (with_reducible refine (accB (below1 _) (heap_alloc_new _ _) (Q.out _)).mono ?_); rintro e w1 ⟨rfl, hb, hc⟩; (obtain ⟨c0, c1, f0, f1⟩ := pair_cells hc))
    | (go_at_call 36; (with_reducible refine (acc hb (Q2.out _)).mono ?_); clear hb; rintro e w2 ⟨rfl, hb⟩))
  go_ret2
  exact ⟨rfl, hb⟩
theorem rate_next_ahead (n d s t : Nat) (hr : RateOk n d) (hs : s ≤ 9007199254740992) (ht : t ≤ 18014398509481984) (h : t < s) (w : World) :
    Calls Try.prog 15 #[.int .i64 s, .agg #[.int .i64 n, .int .i64 d], .int .i64 t] w fun e w' => e = .returned (.tuple #[.int .i64 0, .int .i64 0]) ∧ Below w.heap.size w w' := by
  have q := fun w => rate_check_ok n d s t hr hs ht w
  obtain ⟨r1, r2, r3, r4, r5⟩ := hr
  have q2 := fun w => rate_ceil n d 0 (by omega) (by omega) (by omega) (by omega) (by omega) w
  have z : ceilN n d 0 = 0 := by
    have : ceilN n d 0 ≤ 0 := by
      unfold ceilN
      rw [Nat.zero_div, Nat.zero_mod, Nat.zero_mul, Nat.zero_add, Nat.zero_add, Nat.div_eq_of_lt (by omega)]
      exact Nat.le_refl _
    omega
  rw [z, show ((0 : Nat) : Int) = 0 from rfl] at q2
  clear z
  obtain ⟨x, hx⟩ : ∃ x : Int, (t : Int) - (s : Int) = x := ⟨_, rfl⟩
  have hx1 : x < 0 ∧ -9007199254740992 ≤ x := by omega
  obtain ⟨hx1, hx2⟩ := hx1
  have Q := hide q
  have Q2 := hide q2
  clear q q2 r5
  go_enter Try.func15, Try.ntmps15
  go_wp2_with (first
    | (go_at_call 34; (with_reducible refine (accB (below1 _) (heap_alloc_new _ _) (Q.out _)).mono ?_); rintro e w1 ⟨rfl, hb, hc⟩; (obtain ⟨c0, c1, f0, f1⟩ := pair_cells hc))
    | (go_at_call 36; (with_reducible refine (acc hb (Q2.out _)).mono ?_); clear hb; rintro e w2 ⟨rfl, hb⟩))
  go_ret2
  exact ⟨rfl, hb⟩
theorem rate_samples_ok (n d x : Nat) (hr : RateOk n d) (hx : x ≤ 9007199254740992) (hm : ceilN n d x ≤ 16777216) (w : World) :
    Calls Try.prog 28 #[.agg #[.int .i64 n, .int .i64 d], .int .i64 x] w fun e w' => e = .returned (.tuple #[.int .i64 (ceilN n d x), .int .i64 0]) ∧ Below w.heap.size w w' := by
  have q := fun w => rate_valid n d w
  rw [decide_eq_true hr] at q
  obtain ⟨r1, r2, r3, r4, r5⟩ := hr
  have q2 := fun w => rate_ceil n d x (by omega) (by omega) (by omega) (by omega) (by omega) w
  generalize ceilN n d x = c at *
  have Q := hide q
  have Q2 := hide q2
  have d1 : decide ((16777216 : Int) < (c : Int)) = false := by simp; omega
  clear q q2 r5
  go_enter Try.func28, Try.ntmps28
  go_wp2_with (first
    | (go_at_call 20; (with_reducible refine (accB (below1 _) (heap_alloc_new _ _) (Q.out _)).mono ?_); rintro e w1 ⟨rfl, hb, hc⟩; (obtain ⟨c0, c1, f0, f1⟩ := pair_cells hc))
    | (go_at_call 33; (with_reducible refine (rate_in_yes _ _ _ ?_ _).mono ?_); (focus omega); rintro e w1 ⟨rfl, rfl⟩)
    | (go_at_call 36; (with_reducible refine (acc hb (Q2.out _)).mono ?_); clear hb; rintro e w2 ⟨rfl, hb⟩))
  go_ret2
  exact ⟨rfl, hb⟩
theorem rate_samples_many (n d x : Nat) (hr : RateOk n d) (hx : x ≤ 9007199254740992) (hm : 16777216 < ceilN n d x) (w : World) :
    Calls Try.prog 28 #[.agg #[.int .i64 n, .int .i64 d], .int .i64 x] w fun e w' => e = .returned (.tuple #[.int .i64 0, .int .i64 8]) ∧ Below w.heap.size w w' := by
  have q := fun w => rate_valid n d w
  rw [decide_eq_true hr] at q
  obtain ⟨r1, r2, r3, r4, r5⟩ := hr
  have q2 := fun w => rate_ceil n d x (by omega) (by omega) (by omega) (by omega) (by omega) w
  generalize ceilN n d x = c at *
  have Q := hide q
  have Q2 := hide q2
  have d1 : decide ((16777216 : Int) < (c : Int)) = true := by simp; omega
  clear q q2 r5
  go_enter Try.func28, Try.ntmps28
  go_wp2_with (first
    | (go_at_call 20; (with_reducible refine (accB (below1 _) (heap_alloc_new _ _) (Q.out _)).mono ?_); rintro e w1 ⟨rfl, hb, hc⟩; (obtain ⟨c0, c1, f0, f1⟩ := pair_cells hc))
    | (go_at_call 33; (with_reducible refine (rate_in_yes _ _ _ ?_ _).mono ?_); (focus omega); rintro e w1 ⟨rfl, rfl⟩)
    | (go_at_call 36; (with_reducible refine (acc hb (Q2.out _)).mono ?_); clear hb; rintro e w2 ⟨rfl, hb⟩))
  go_ret2
  exact ⟨rfl, hb⟩
end Go.Proofs.Ytmhbncpiloffgaa
