/- The walk of the reference's Slower, for rates that are valid. -/
import Derived.Test.YtmhbncpiloffgaaRateN
namespace Go.Proofs.Ytmhbncpiloffgaa
open Go.RowKit
set_option linter.unusedVariables false
set_option linter.unusedSimpArgs false

theorem ref_slower_ok (n d f : Nat) (hok : RateOk n d) (hf : 1 ≤ f ∧ f ≤ 64) (hout : RateOk (n / Nat.gcd n f : Nat) (d * (f / Nat.gcd n f) : Nat)) (w : World) :
    Calls Try.prog 27 #[.agg #[.int .i64 n, .int .i64 d], .int .i64 f] w fun e w' => e = .returned (.tuple #[.agg #[.int .i64 (n / Nat.gcd n f : Nat), .int .i64 (d * (f / Nat.gcd n f) : Nat)], .int .i64 0]) ∧ Below w.heap.size w w' := by
  have q1 := fun w => ref_valid n d w
  rw [decide_eq_true hok] at q1
  have q2 := fun w => ref_valid (n / Nat.gcd n f : Nat) (d * (f / Nat.gcd n f) : Nat) w
  rw [decide_eq_true hout] at q2
  obtain ⟨r1, r2, r3, r4, r5⟩ := hok
  rw [Int.toNat_natCast, Int.toNat_natCast] at r5
  have hg := gcd_slow n d f r5
  have hs := slow_den n d f
  obtain ⟨f1, f2⟩ := hf
  have hdf : d * f ≤ 4096 * 64 := Nat.mul_le_mul (by omega) f2
  have q := fun w => ref_gcd n (d * f) (by omega) (by omega) w
  rw [hg] at q
  clear hg r5
  have gp : 0 < Nat.gcd n f := Nat.gcd_pos_of_pos_left _ (by omega)
  generalize Nat.gcd n f = g at *
  obtain ⟨x, hx⟩ : ∃ x : Nat, n / g = x := ⟨_, rfl⟩
  obtain ⟨df, hdf0⟩ : ∃ df : Nat, d * f = df := ⟨_, rfl⟩
  rw [hdf0] at q hs hdf
  obtain ⟨y, hy⟩ : ∃ y : Nat, df / g = y := ⟨_, rfl⟩
  rw [hy] at hs
  have e1 : (n : Int) / (g : Int) = (x : Int) := by rw [← hx]; rfl
  have e2 : (d : Int) * (f : Int) = (df : Int) := by rw [← hdf0]; exact (Int.natCast_mul d f).symm
  have e3 : (df : Int) / (g : Int) = (y : Int) := by rw [← hy]; rfl
  have hx2 : x ≤ n := by rw [← hx]; exact Nat.div_le_self _ _
  have hy2 : y ≤ df := by rw [← hy]; exact Nat.div_le_self _ _
  have g0 : (g : Int) ≠ 0 := by omega
  rw [hx, ← hs] at q2 ⊢
  have Q := hide q
  have Q1 := hide q1
  have Q2 := hide q2
  clear q q1 q2 hx hy hs hdf0 hout
  go_enter Try.func27, Try.ntmps27
  go_wp2_with (first
    | (go_at_call 21; (with_reducible refine (Q1.out _).mono ?_); rintro e w1 ⟨rfl, hb1⟩; (have hb := (below2 (w := w) (.cells #[.int .i64 n, .int .i64 d] 27) (.cells #[.int .i64 0, .int .i64 0] 27)).trans (hb1.mono (by simp; omega)));
       (have hc := keepC hb1 (heap_alloc2_old _ _ _)); (have hR := keepC hb1 (heap_alloc2_new _ _ _)); (obtain ⟨c0, c1, -, -⟩ := pair_cells hc); clear hb1)
    | (go_at_call 39; (with_reducible refine (utc_in_yes _ _ _ ?_ _).mono ?_); (focus omega); rintro e w1 ⟨rfl, rfl⟩)
    | (go_at_call 40; (with_reducible refine (Q.out _).mono ?_); rintro e w2 ⟨rfl, hb2⟩; (have hb' := hb.trans (hb2.mono hb.size)); (have hc' := keepC hb2 hc); (have hR' := keepC hb2 hR); clear c0 c1 hb; (obtain ⟨c0, c1, -, -⟩ := pair_cells hc'); (have k0 := fun o => (pair_cells (keepC (below1 o) hc')).1); (have k1 := fun o => (pair_cells (keepC (below1 o) hc')).2.1)))
  go_region
  have hb3 : Below w.heap.size w (w2.alloc (.cells #[.int .i64 x, .int .i64 y] 27)).drew := (hb'.alloc hb'.size _).drew
  have h7 : (w2.alloc (.cells #[.int .i64 x, .int .i64 y] 27)).drew.heap[w2.heap.size]? = some (.cells #[.int .i64 x, .int .i64 y] 27 (0, 0)) := heap_alloc_new _ _
  have h4 : (w2.alloc (.cells #[.int .i64 x, .int .i64 y] 27)).drew.heap[w.heap.size + 1]? = some (.cells #[.int .i64 0, .int .i64 0] 27 (0, 0)) := keepC (below1 _).drew hR'
  clear k0 k1 c0 c1 hc' hR' hb' hb2 hc hR
  generalize (w2.alloc (.cells #[.int .i64 x, .int .i64 y] 27)).drew = w3 at *
  generalize w2.heap.size = B at *
  obtain ⟨x0, x1, -, -⟩ := pair_cells h7
  go_wp2_with (first
    | (go_at_call 21; (with_reducible refine (Q2.out _).mono ?_); rintro e w4 ⟨rfl, hb4⟩; (have hb := hb3.trans (hb4.mono hb3.size)); (have g7 := keepC hb4 h7); (have g4 := keepC hb4 h4); clear x0 x1;
       (obtain ⟨x0, x1, -, -⟩ := pair_cells g7); (obtain ⟨y0, y1, f0, f1⟩ := pair_cells g4)))
  (try simp only [Exit.inBlock, Exit.then])
  obtain ⟨z0, z1⟩ := pair_set_cells g4 (.int .i64 x) (.int .i64 y)
  refine bodyPost_ret (v := .tuple #[.agg #[.int .i64 x, .int .i64 y], .int .i64 0]) (by simp [results, Try.results27, go_sem, z0, z1]) rfl ⟨rfl, ?_⟩
  exact (hb.setCell (by simp) _).setCell (by simp) _
theorem ref_slower_no (n d f : Nat) (hok : RateOk n d) (hf : 1 ≤ f ∧ f ≤ 64) (hout : ¬ RateOk (n / Nat.gcd n f : Nat) (d * (f / Nat.gcd n f) : Nat)) (w : World) :
    Calls Try.prog 27 #[.agg #[.int .i64 n, .int .i64 d], .int .i64 f] w fun e w' => e = .returned (.tuple #[.agg #[.int .i64 0, .int .i64 0], .int .i64 8]) ∧ Below w.heap.size w w' := by
  have q1 := fun w => ref_valid n d w
  rw [decide_eq_true hok] at q1
  have q2 := fun w => ref_valid (n / Nat.gcd n f : Nat) (d * (f / Nat.gcd n f) : Nat) w
  rw [decide_eq_false hout] at q2
  obtain ⟨r1, r2, r3, r4, r5⟩ := hok
  rw [Int.toNat_natCast, Int.toNat_natCast] at r5
  have hg := gcd_slow n d f r5
  have hs := slow_den n d f
  obtain ⟨f1, f2⟩ := hf
  have hdf : d * f ≤ 4096 * 64 := Nat.mul_le_mul (by omega) f2
  have q := fun w => ref_gcd n (d * f) (by omega) (by omega) w
  rw [hg] at q
  clear hg r5
  have gp : 0 < Nat.gcd n f := Nat.gcd_pos_of_pos_left _ (by omega)
  generalize Nat.gcd n f = g at *
  obtain ⟨x, hx⟩ : ∃ x : Nat, n / g = x := ⟨_, rfl⟩
  obtain ⟨df, hdf0⟩ : ∃ df : Nat, d * f = df := ⟨_, rfl⟩
  rw [hdf0] at q hs hdf
  obtain ⟨y, hy⟩ : ∃ y : Nat, df / g = y := ⟨_, rfl⟩
  rw [hy] at hs
  have e1 : (n : Int) / (g : Int) = (x : Int) := by rw [← hx]; rfl
  have e2 : (d : Int) * (f : Int) = (df : Int) := by rw [← hdf0]; exact (Int.natCast_mul d f).symm
  have e3 : (df : Int) / (g : Int) = (y : Int) := by rw [← hy]; rfl
  have hx2 : x ≤ n := by rw [← hx]; exact Nat.div_le_self _ _
  have hy2 : y ≤ df := by rw [← hy]; exact Nat.div_le_self _ _
  have g0 : (g : Int) ≠ 0 := by omega
  rw [hx, ← hs] at q2
  have Q := hide q
  have Q1 := hide q1
  have Q2 := hide q2
  clear q q1 q2 hx hy hs hdf0 hout
  go_enter Try.func27, Try.ntmps27
  go_wp2_with (first
    | (go_at_call 21; (with_reducible refine (Q1.out _).mono ?_); rintro e w1 ⟨rfl, hb1⟩; (have hb := (below2 (w := w) (.cells #[.int .i64 n, .int .i64 d] 27) (.cells #[.int .i64 0, .int .i64 0] 27)).trans (hb1.mono (by simp; omega)));
       (have hc := keepC hb1 (heap_alloc2_old _ _ _)); (have hR := keepC hb1 (heap_alloc2_new _ _ _)); (obtain ⟨c0, c1, -, -⟩ := pair_cells hc); clear hb1)
    | (go_at_call 39; (with_reducible refine (utc_in_yes _ _ _ ?_ _).mono ?_); (focus omega); rintro e w1 ⟨rfl, rfl⟩)
    | (go_at_call 40; (with_reducible refine (Q.out _).mono ?_); rintro e w2 ⟨rfl, hb2⟩; (have hb' := hb.trans (hb2.mono hb.size)); (have hc' := keepC hb2 hc); (have hR' := keepC hb2 hR); clear c0 c1 hb; (obtain ⟨c0, c1, -, -⟩ := pair_cells hc'); (have k0 := fun o => (pair_cells (keepC (below1 o) hc')).1); (have k1 := fun o => (pair_cells (keepC (below1 o) hc')).2.1)))
  go_region
  have hb3 : Below w.heap.size w (w2.alloc (.cells #[.int .i64 x, .int .i64 y] 27)).drew := (hb'.alloc hb'.size _).drew
  have h7 : (w2.alloc (.cells #[.int .i64 x, .int .i64 y] 27)).drew.heap[w2.heap.size]? = some (.cells #[.int .i64 x, .int .i64 y] 27 (0, 0)) := heap_alloc_new _ _
  have h4 : (w2.alloc (.cells #[.int .i64 x, .int .i64 y] 27)).drew.heap[w.heap.size + 1]? = some (.cells #[.int .i64 0, .int .i64 0] 27 (0, 0)) := keepC (below1 _).drew hR'
  clear k0 k1 c0 c1 hc' hR' hb' hb2 hc hR
  generalize (w2.alloc (.cells #[.int .i64 x, .int .i64 y] 27)).drew = w3 at *
  generalize w2.heap.size = B at *
  obtain ⟨x0, x1, -, -⟩ := pair_cells h7
  go_wp2_with (first
    | (go_at_call 21; (with_reducible refine (Q2.out _).mono ?_); rintro e w4 ⟨rfl, hb4⟩; (have hb := hb3.trans (hb4.mono hb3.size)); (have g7 := keepC hb4 h7); (have g4 := keepC hb4 h4); clear x0 x1;
       (obtain ⟨x0, x1, -, -⟩ := pair_cells g7); (obtain ⟨y0, y1, f0, f1⟩ := pair_cells g4)))
  (try simp only [Exit.inBlock, Exit.then])
  obtain ⟨z0, z1⟩ := pair_set_cells g4 (.int .i64 0) (.int .i64 0)
  refine bodyPost_ret (v := .tuple #[.agg #[.int .i64 0, .int .i64 0], .int .i64 8]) (by simp [results, Try.results27, go_sem, z0, z1]) rfl ⟨rfl, ?_⟩
  exact (hb.setCell (by simp) _).setCell (by simp) _
end Go.Proofs.Ytmhbncpiloffgaa
