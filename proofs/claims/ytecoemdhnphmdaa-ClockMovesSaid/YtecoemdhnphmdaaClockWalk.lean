/- The walks of the clock: range tests, Elapsed, from, common, hull, agrees. -/
import Derived.Test.YtecoemdhnphmdaaProg
import Derived.Test.YtecoemdhnphmdaaLib
import Derived.Test.YtecoemdhnphmdaaLibQ
import Derived.Test.YtecoemdhnphmdaaClockMath
import Derived.BigQuiet
import Derived.Deep.QuietTactic
namespace Go.Proofs.Ytecoemdhnphmdaa
open Go.RowKit
set_option linter.unusedVariables false
set_option linter.unusedSimpArgs false

theorem clk_in_yes (n low high : Int) (h : low ≤ n ∧ n ≤ high) (w : World) :
    Calls Try.prog 39 #[.int .i64 n, .int .i64 low, .int .i64 high] w fun e w' => e = .returned (.bool true) ∧ w = w' := by
  obtain ⟨h1, h2⟩ := h
  go_enter Try.func39, Try.ntmps39
  go_wp2
  go_ret
  exact ⟨rfl, rfl⟩
theorem clk_time_yes (n : Int) (h : 0 ≤ n ∧ n ≤ 9007199254740992) (w : World) :
    Calls Try.prog 35 #[.int .i64 n] w fun e w' => e = .returned (.bool true) ∧ w = w' := by
  have q := hide (clk_in_yes n 0 9007199254740992 h)
  clear h
  go_enter Try.func35, Try.ntmps35
  go_wp2_with (go_at_call 39; (with_reducible refine (q.out _).mono ?_); rintro e w1 ⟨rfl, rfl⟩)
  go_ret
  exact ⟨rfl, rfl⟩
set_option maxHeartbeats 1000000 in
theorem clk_elapsed (x d : Int) (hx : 0 ≤ x ∧ x ≤ 500000) (hd : 0 ≤ d ∧ d ≤ 9007199254740992) (w : World) :
    Calls Try.prog 17 #[.int .i64 x, .int .i64 d] w fun e w' => e = .returned (.tuple #[.int .i64 (eLow x d), .int .i64 (eHigh x d)]) ∧ Below w.heap.size w w' := by
  have q1 := hide (clk_in_yes x 0 500000 hx)
  have q2 := hide (clk_time_yes d hd)
  have e1 := hide (eLow_eq x d hx.1)
  have e2 := hide (eHigh_eq x d hx.2)
  obtain ⟨x0, x1⟩ := hx
  obtain ⟨d0, d1⟩ := hd
  obtain ⟨s, hs⟩ : ∃ s : Int, 1000000 + x = s := ⟨_, rfl⟩
  obtain ⟨f, hf⟩ : ∃ f : Int, 1000000 - x = f := ⟨_, rfl⟩
  have s0 : 1000000 ≤ s := by omega
  have s1 : s ≤ 1500000 := by omega
  have f0 : 500000 ≤ f := by omega
  have f1 : f ≤ 1000000 := by omega
  obtain ⟨a, ha⟩ : ∃ a : Int, d / s = a := ⟨_, rfl⟩
  obtain ⟨b, hb⟩ : ∃ b : Int, d % s = b := ⟨_, rfl⟩
  obtain ⟨c, hc⟩ : ∃ c : Int, d / f = c := ⟨_, rfl⟩
  obtain ⟨g, hg⟩ : ∃ g : Int, d % f = g := ⟨_, rfl⟩
  have a0 : 0 ≤ a := by rw [← ha]; exact Int.ediv_nonneg (by omega) (by omega)
  have c0 : 0 ≤ c := by rw [← hc]; exact Int.ediv_nonneg (by omega) (by omega)
  have b0 : 0 ≤ b := by rw [← hb]; exact Int.emod_nonneg _ (by omega)
  have g0 : 0 ≤ g := by rw [← hg]; exact Int.emod_nonneg _ (by omega)
  have b1 : b < s := by rw [← hb]; exact Int.emod_lt_of_pos _ (by omega)
  have g1 : g < f := by rw [← hg]; exact Int.emod_lt_of_pos _ (by omega)
  have a1 : a ≤ 9007199255 := by
    rw [← ha]
    refine Int.le_trans (Int.le_trans (Int.ediv_le_ediv (by omega) d1) (?_ : (9007199254740992 : Int) / s ≤ 9007199254740992 / 1000000)) (by decide)
    exact Int.le_of_lt_add_one (Int.ediv_lt_of_lt_mul (by omega) (by have : (9007199254740992 / 1000000 + 1 : Int) * 1000000 ≤ (9007199254740992 / 1000000 + 1) * s := Int.mul_le_mul_of_nonneg_left (by omega) (by decide)
                                                                     omega))
  have c1 : c ≤ 18014398510 := by
    rw [← hc]
    refine Int.le_trans (Int.le_trans (Int.ediv_le_ediv (by omega) d1) (?_ : (9007199254740992 : Int) / f ≤ 9007199254740992 / 500000)) (by decide)
    exact Int.le_of_lt_add_one (Int.ediv_lt_of_lt_mul (by omega) (by have : (9007199254740992 / 500000 + 1 : Int) * 500000 ≤ (9007199254740992 / 500000 + 1) * f := Int.mul_le_mul_of_nonneg_left (by omega) (by decide)
                                                                     omega))
  obtain ⟨m, hm⟩ : ∃ m : Int, b * 1000000 / s = m := ⟨_, rfl⟩
  obtain ⟨k, hk⟩ : ∃ k : Int, (g * 1000000 + f - 1) / f = k := ⟨_, rfl⟩
  have m0 : 0 ≤ m := by rw [← hm]; exact Int.ediv_nonneg (by omega) (by omega)
  have m1 : m ≤ 1000000 := by
    rw [← hm]
    refine Int.le_of_lt_add_one (Int.ediv_lt_of_lt_mul (by omega) ?_)
    omega
  have k0 : 0 ≤ k := by rw [← hk]; exact Int.ediv_nonneg (by omega) (by omega)
  have k1 : k ≤ 1000001 := by
    rw [← hk]
    refine Int.le_of_lt_add_one (Int.ediv_lt_of_lt_mul (by omega) ?_)
    omega
  have r : a * 1000000 + m = eLow x d ∧ c * 1000000 + k = eHigh x d := by
    rw [← e1.out, ← e2.out, hs, hf, ha, hb, hc, hg, hm, hk]
    exact ⟨rfl, rfl⟩
  have R := hide r
  clear r
  have sn : s ≠ 0 := by omega
  have fn : f ≠ 0 := by omega
  go_enter Try.func17, Try.ntmps17
  go_wp2_with (first
    | (go_at_call 39; (with_reducible refine (q1.out _).mono ?_); rintro e w1 ⟨rfl, rfl⟩)
    | (go_at_call 35; (with_reducible refine (q2.out _).mono ?_); rintro e w1 ⟨rfl, rfl⟩))
  refine wp_region_grown (by kernel_rfl) (by kernel_rfl) ?_
  repeat (go_big_quiet_step (fail))
  refine wpQuiet_nil ?_
  intro w2 hb2
  go_wp2
  go_ret2
  exact ⟨by first | rfl | (simp [R.out.1, R.out.2]) | (simp), hb2⟩

/-- An interval as the program has it, and an anchor. -/
def itv (lo hi : Int) : Value := .agg #[.int .i64 lo, .int .i64 hi]
def ancV (a : Anc) : Value := .agg #[.int .i64 a.tag, .int .i64 a.low, .int .i64 a.high]
theorem pair_cells {w : World} {g : Nat} {x y : Value} {t : TypeId} (h : w.heap[g]? = some (.cells #[x, y] t (0, 0))) :
    w.cell? ⟨g, 0, none⟩ = some x ∧ w.cell? ⟨g, 1, none⟩ = some y ∧ w.frozen? ⟨g, 0, none⟩ = false ∧ w.frozen? ⟨g, 1, none⟩ = false :=
  ⟨by rw [cell_of_row _ _ _ _ _ _ h]; rfl, by rw [cell_of_row _ _ _ _ _ _ h]; rfl, frozen_of_row _ _ _ _ _ h, frozen_of_row _ _ _ _ _ h⟩
theorem below3 {w : World} (a b c : Obj) : Below w.heap.size w (((w.alloc a).alloc b).alloc c) := (below2 a b).alloc (by simp; omega) _
theorem common_ok (a b c d : Int) (w : World) :
    Calls Try.prog 37 #[.agg #[.int .i64 a, .int .i64 b], .agg #[.int .i64 c, .int .i64 d]] w fun e w' => e = .returned (.agg #[.int .i64 (max a c), .int .i64 (min b d)]) ∧ Below w.heap.size w w' := by
  have H : ∀ p q : Int, ((a < c ∧ p = c) ∨ (c ≤ a ∧ p = a)) → ((d < b ∧ q = d) ∨ (b ≤ d ∧ q = b)) → Calls Try.prog 37 #[.agg #[.int .i64 a, .int .i64 b], .agg #[.int .i64 c, .int .i64 d]] w fun e w' => e = .returned (.agg #[.int .i64 p, .int .i64 q]) ∧ Below w.heap.size w w' := by
    intro p q hp hq
    rcases hp with ⟨h1, rfl⟩ | ⟨h1, rfl⟩ <;> rcases hq with ⟨h2, rfl⟩ | ⟨h2, rfl⟩
    all_goals
      go_enter Try.func37, Try.ntmps37
      go_wp2
      (try simp only [Exit.inBlock, Exit.then])
      refine bodyPost_ret (v := .agg #[.int .i64 _, .int .i64 _]) (by simp [results, Try.results37, go_sem]) rfl ⟨rfl, ?_⟩
      exact below3 _ _ _
  exact H _ _ (by omega) (by omega)
theorem hull_ok (a b c d : Int) (w : World) :
    Calls Try.prog 51 #[.agg #[.int .i64 a, .int .i64 b], .agg #[.int .i64 c, .int .i64 d]] w fun e w' => e = .returned (.agg #[.int .i64 (min a c), .int .i64 (max b d)]) ∧ Below w.heap.size w w' := by
  have H : ∀ p q : Int, ((c < a ∧ p = c) ∨ (a ≤ c ∧ p = a)) → ((b < d ∧ q = d) ∨ (d ≤ b ∧ q = b)) → Calls Try.prog 51 #[.agg #[.int .i64 a, .int .i64 b], .agg #[.int .i64 c, .int .i64 d]] w fun e w' => e = .returned (.agg #[.int .i64 p, .int .i64 q]) ∧ Below w.heap.size w w' := by
    intro p q hp hq
    rcases hp with ⟨h1, rfl⟩ | ⟨h1, rfl⟩ <;> rcases hq with ⟨h2, rfl⟩ | ⟨h2, rfl⟩
    all_goals
      go_enter Try.func51, Try.ntmps51
      go_wp2
      (try simp only [Exit.inBlock, Exit.then])
      refine bodyPost_ret (v := .agg #[.int .i64 _, .int .i64 _]) (by simp [results, Try.results51, go_sem]) rfl ⟨rfl, ?_⟩
      exact below3 _ _ _
  exact H _ _ (by omega) (by omega)

theorem pair_set {w : World} {g : Nat} {x y : Value} {t : TypeId} (h : w.heap[g]? = some (.cells #[x, y] t (0, 0))) (x' y' : Value) :
    ((w.setCell ⟨g, 0, none⟩ x').setCell ⟨g, 1, none⟩ y').heap[g]? = some (.cells #[x', y'] t (0, 0)) := by
  rw [setCell_row (setCell_row h _)]; rfl
theorem pair_set_cells {w : World} {g : Nat} {x y : Value} {t : TypeId} (h : w.heap[g]? = some (.cells #[x, y] t (0, 0))) (x' y' : Value) :
    (w.setCell ⟨g, 0, none⟩ x').cell? ⟨g, 0, none⟩ = some x' ∧ ((w.setCell ⟨g, 0, none⟩ x').setCell ⟨g, 1, none⟩ y').cell? ⟨g, 1, none⟩ = some y' := by
  constructor
  · rw [cell_of_row _ _ _ _ _ _ (setCell_row h _)]; rfl
  · rw [cell_of_row _ _ _ _ _ _ (pair_set h _ _)]; rfl
theorem tri_cells {w : World} {g : Nat} {x y z : Value} {t : TypeId} (h : w.heap[g]? = some (.cells #[x, y, z] t (0, 0))) :
    w.cell? ⟨g, 0, none⟩ = some x ∧ w.cell? ⟨g, 1, none⟩ = some y ∧ w.cell? ⟨g, 2, none⟩ = some z :=
  ⟨by rw [cell_of_row _ _ _ _ _ _ h]; rfl, by rw [cell_of_row _ _ _ _ _ _ h]; rfl, by rw [cell_of_row _ _ _ _ _ _ h]; rfl⟩
theorem pair_alloc {w : World} {g : Nat} {c : Obj} (h : w.heap[g]? = some c) (o : Obj) : (w.alloc o).heap[g]? = some c := by
  rw [Below.heap_alloc _ _ _ (Array.getElem?_eq_some_iff.1 h).1]; exact h
theorem new_at {w : World} {g : Nat} (o : Obj) (hg : w.heap.size = g) : (w.alloc o).heap[g]? = some o := by subst hg; exact heap_alloc_new w o
/-- Contracts in a row, beside one or two blocks that stay. -/
theorem accB {P : Program} {f : FuncId} {args : Array Value} {w0 w : World} {g : Nat} {o : Obj} {R : Ending → Prop} (hb : Below w0.heap.size w0 w) (hc : w.heap[g]? = some o) (h : Calls P f args w fun e w' => R e ∧ Below w.heap.size w w') :
    Calls P f args w fun e w' => R e ∧ Below w0.heap.size w0 w' ∧ w'.heap[g]? = some o := h.mono fun _ _ ⟨h1, h2⟩ => ⟨h1, hb.trans (h2.mono hb.size), (h2.block _ (Array.getElem?_eq_some_iff.1 hc).1).trans hc⟩
theorem accB2 {P : Program} {f : FuncId} {args : Array Value} {w0 w : World} {g g' : Nat} {o o' : Obj} {R : Ending → Prop} (hb : Below w0.heap.size w0 w) (hc : w.heap[g]? = some o) (hd : w.heap[g']? = some o') (h : Calls P f args w fun e w' => R e ∧ Below w.heap.size w w') :
    Calls P f args w fun e w' => R e ∧ Below w0.heap.size w0 w' ∧ w'.heap[g]? = some o ∧ w'.heap[g']? = some o' := h.mono fun _ _ ⟨h1, h2⟩ => ⟨h1, hb.trans (h2.mono hb.size), (h2.block _ (Array.getElem?_eq_some_iff.1 hc).1).trans hc, (h2.block _ (Array.getElem?_eq_some_iff.1 hd).1).trans hd⟩
/-- An anchor whose numbers are times. -/
def AncT (a : Anc) : Prop := 0 ≤ a.tag ∧ a.tag ≤ 9007199254740992 ∧ 0 ≤ a.low ∧ a.low ≤ 9007199254740992 ∧ 0 ≤ a.high ∧ a.high ≤ 9007199254740992
set_option maxHeartbeats 1000000 in
theorem from_ok (a : Anc) (x t : Int) (ha : AncT a) (hx : 0 ≤ x ∧ x ≤ 500000) (ht : 0 ≤ t ∧ t ≤ 9007199254740992) (w : World) :
    Calls Try.prog 47 #[.agg #[.int .i64 a.tag, .int .i64 a.low, .int .i64 a.high], .int .i64 x, .int .i64 t] w fun e w' => e = .returned (.agg #[.int .i64 (frLo a x t), .int .i64 (frHi a x t)]) ∧ Below w.heap.size w w' := by
  obtain ⟨g, l, h⟩ := a
  obtain ⟨g0, g1, l0, l1, h0, h1⟩ := ha
  simp only at g0 g1 l0 l1 h0 h1
  obtain ⟨t0, t1⟩ := ht
  by_cases hgt : g ≤ t
  · have e1 : frLo ⟨g, l, h⟩ x t = l + eLow x (t - g) := if_pos hgt
    have e2 : frHi ⟨g, l, h⟩ x t = h + eHigh x (t - g) := if_pos hgt
    rw [e1, e2]
    have b1 := eLow_bounds x (t - g) hx.1 (by omega)
    have b2 := eHigh_bounds x (t - g) hx.1 hx.2 (by omega)
    have q := clk_elapsed x (t - g) hx (by omega)
    generalize eLow x (t - g) = p at *
    generalize eHigh x (t - g) = s at *
    obtain ⟨p0, p1⟩ := b1
    obtain ⟨s0, s1⟩ := b2
    have Q := hide q
    clear q e1 e2 hx
    go_enter Try.func47, Try.ntmps47
    go_wp2_with (first
      | (go_at_call 17; (with_reducible refine (accB2 (below2 _ _) (g := w.heap.size) (g' := w.heap.size + 1) (pair_alloc (heap_alloc_new _ _) _) (new_at _ (by simp)) (Q.out _)).mono ?_); rintro e w1 ⟨rfl, hb, hc, hd⟩; (obtain ⟨c0, c1, c2⟩ := tri_cells hc); (obtain ⟨d0, d1, f0, f1⟩ := pair_cells hd)))
    (try simp only [Exit.inBlock, Exit.then])
    obtain ⟨z0, z1⟩ := pair_set_cells hd (.int .i64 (l + p)) (.int .i64 (h + s))
    refine bodyPost_ret (v := .agg #[.int .i64 _, .int .i64 _]) (by simp [results, Try.results47, go_sem, z0, z1]) rfl ⟨rfl, ?_⟩
    exact ((hb.setCell (by simp) _).setCell (by simp) _)
  · have e1 : frLo ⟨g, l, h⟩ x t = l - eHigh x (g - t) := if_neg hgt
    have e2 : frHi ⟨g, l, h⟩ x t = h - eLow x (g - t) := if_neg hgt
    rw [e1, e2]
    have b1 := eLow_bounds x (g - t) hx.1 (by omega)
    have b2 := eHigh_bounds x (g - t) hx.1 hx.2 (by omega)
    have q := clk_elapsed x (g - t) hx (by omega)
    generalize eLow x (g - t) = p at *
    generalize eHigh x (g - t) = s at *
    obtain ⟨p0, p1⟩ := b1
    obtain ⟨s0, s1⟩ := b2
    have Q := hide q
    clear q e1 e2 hx
    go_enter Try.func47, Try.ntmps47
    go_wp2_with (first
      | (go_at_call 17; (with_reducible refine (accB2 (below2 _ _) (g := w.heap.size) (g' := w.heap.size + 1) (pair_alloc (heap_alloc_new _ _) _) (new_at _ (by simp)) (Q.out _)).mono ?_); rintro e w1 ⟨rfl, hb, hc, hd⟩; (obtain ⟨c0, c1, c2⟩ := tri_cells hc); (obtain ⟨d0, d1, f0, f1⟩ := pair_cells hd)))
    (try simp only [Exit.inBlock, Exit.then])
    obtain ⟨z0, z1⟩ := pair_set_cells hd (.int .i64 (l - s)) (.int .i64 (h - p))
    refine bodyPost_ret (v := .agg #[.int .i64 _, .int .i64 _]) (by simp [results, Try.results47, go_sem, z0, z1]) rfl ⟨rfl, ?_⟩
    exact ((hb.setCell (by simp) _).setCell (by simp) _)
end Go.Proofs.Ytecoemdhnphmdaa
