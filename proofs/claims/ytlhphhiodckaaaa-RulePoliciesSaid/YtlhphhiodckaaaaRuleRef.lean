/- The reference of layer 35 and of layer 24. (written by gen_rref.py) -/
import Derived.Test.YtlhphhiodckaaaaMovedC
namespace Go.Proofs.Ytlhphhiodckaaaa
open Go.RowKit
set_option linter.unusedVariables false
set_option linter.unusedSimpArgs false
def inT (n : Int) : Bool := decide (0 ≤ n ∧ n ≤ 9007199254740992)

theorem rr_within (n : Int) (w : World) :
    Calls Try.prog 30 #[.int .i64 n] w fun e w' => e = .returned (.bool (inT n)) ∧ w = w' := by
  have HT := hide (fun (h : 0 ≤ n ∧ n ≤ 9007199254740992) => (show Ending.returned (.bool true) = .returned (.bool (inT n)) from by unfold inT; rw [decide_eq_true h]))
  have HF := hide (fun (h : ¬ (0 ≤ n ∧ n ≤ 9007199254740992)) => (show Ending.returned (.bool false) = .returned (.bool (inT n)) from by unfold inT; rw [decide_eq_false h]))
  by_cases h0 : 0 ≤ n
  · have d0 : decide (0 ≤ n) = true := decide_eq_true h0
    by_cases h1 : n ≤ 9007199254740992
    · have d1 : decide (n ≤ 9007199254740992) = true := decide_eq_true h1
      have HT := hide (HT.out ⟨h0, h1⟩)
      clear h0 h1 HF
      go_enter Try.func30, Try.ntmps30
      go_wp2_with fail
      go_ret
      exact ⟨HT.out, rfl⟩
    · have d1 : decide (n ≤ 9007199254740992) = false := decide_eq_false h1
      have HF := hide (HF.out (fun h => h1 h.2))
      clear h0 h1 HT
      go_enter Try.func30, Try.ntmps30
      go_wp2_with fail
      go_ret
      exact ⟨HF.out, rfl⟩
  · have d0 : decide (0 ≤ n) = false := decide_eq_false h0
    have HF := hide (HF.out (fun h => h0 h.1))
    clear h0 HT
    go_enter Try.func30, Try.ntmps30
    go_wp2_with fail
    go_ret
    exact ⟨HF.out, rfl⟩

set_option maxHeartbeats 4000000 in
theorem rr_pos (x y z : Int) (w : World) :
    Calls Try.prog 41 #[.agg #[.int .i64 x, .int .i64 y, .int .i64 z]] w fun e w' => e = .returned (.bool (posB x y z)) ∧ Below w.heap.size w w' := by
  have HF := hide (fun (h : ¬ ((-1048576 ≤ x ∧ x ≤ 1048576) ∧ (-1048576 ≤ y ∧ y ≤ 1048576) ∧ (-16384 ≤ z ∧ z ≤ 1048576))) => (show Ending.returned (.bool false) = .returned (.bool (posB x y z)) from by unfold posB; rw [decide_eq_false h]))
  have HT := hide (fun (h : ((-1048576 ≤ x ∧ x ≤ 1048576) ∧ (-1048576 ≤ y ∧ y ≤ 1048576) ∧ (-16384 ≤ z ∧ z ≤ 1048576))) => (show Ending.returned (.bool true) = .returned (.bool (posB x y z)) from by unfold posB; rw [decide_eq_true h]))
  have HB := hide (below1 (w := w) (.cells #[.int .i64 x, .int .i64 y, .int .i64 z] 33))
  have G0 := hide (heap_alloc_new w (.cells #[.int .i64 x, .int .i64 y, .int .i64 z] 33))
  go_enter Try.func41, Try.ntmps41
  go_upto_region 1 with fail
  generalize w.alloc (.cells #[.int .i64 x, .int .i64 y, .int .i64 z] 33) = V at HB G0 ⊢
  obtain ⟨c0, c1, c2, -, -, -⟩ := tri_cells G0.out
  by_cases h0 : -1048576 ≤ x
  · have d0 : decide (-1048576 ≤ x) = true := decide_eq_true h0
    by_cases h1 : x ≤ 1048576
    · have d1 : decide (x ≤ 1048576) = true := decide_eq_true h1
      by_cases h2 : -1048576 ≤ y
      · have d2 : decide (-1048576 ≤ y) = true := decide_eq_true h2
        by_cases h3 : y ≤ 1048576
        · have d3 : decide (y ≤ 1048576) = true := decide_eq_true h3
          by_cases h4 : -16384 ≤ z
          · have d4 : decide (-16384 ≤ z) = true := decide_eq_true h4
            by_cases h5 : z ≤ 1048576
            · have d5 : decide (z ≤ 1048576) = true := decide_eq_true h5
              have HT := hide (HT.out ⟨⟨h0, h1⟩, ⟨h2, h3⟩, ⟨h4, h5⟩⟩)
              clear h0 h1 h2 h3 h4 h5 HF
              go_wp2_with fail
              go_ret
              exact ⟨HT.out, HB.out⟩
            · have d5 : decide (z ≤ 1048576) = false := decide_eq_false h5
              have HF := hide (HF.out (fun h => h5 h.2.2.2))
              clear h0 h1 h2 h3 h4 h5 HT
              go_wp2_with fail
              go_ret
              exact ⟨HF.out, HB.out⟩
          · have d4 : decide (-16384 ≤ z) = false := decide_eq_false h4
            have HF := hide (HF.out (fun h => h4 h.2.2.1))
            clear h0 h1 h2 h3 h4 HT
            go_wp2_with fail
            go_ret
            exact ⟨HF.out, HB.out⟩
        · have d3 : decide (y ≤ 1048576) = false := decide_eq_false h3
          have HF := hide (HF.out (fun h => h3 h.2.1.2))
          clear h0 h1 h2 h3 HT
          go_wp2_with fail
          go_ret
          exact ⟨HF.out, HB.out⟩
      · have d2 : decide (-1048576 ≤ y) = false := decide_eq_false h2
        have HF := hide (HF.out (fun h => h2 h.2.1.1))
        clear h0 h1 h2 HT
        go_wp2_with fail
        go_ret
        exact ⟨HF.out, HB.out⟩
    · have d1 : decide (x ≤ 1048576) = false := decide_eq_false h1
      have HF := hide (HF.out (fun h => h1 h.1.2))
      clear h0 h1 HT
      go_wp2_with fail
      go_ret
      exact ⟨HF.out, HB.out⟩
  · have d0 : decide (-1048576 ≤ x) = false := decide_eq_false h0
    have HF := hide (HF.out (fun h => h0 h.1.1))
    clear h0 HT
    go_wp2_with fail
    go_ret
    exact ⟨HF.out, HB.out⟩

theorem rr_sq (n : Int) (h : -2097152 ≤ n ∧ n ≤ 2097152) (w : World) :
    Calls Try.prog 42 #[.int .i64 n] w fun e w' => e = .returned (.int .i64 (n * n)) ∧ w = w' := by
  have hb := sq_bd n h.1 h.2
  obtain ⟨s, hs⟩ : ∃ s, n * n = s := ⟨_, rfl⟩
  rw [hs] at hb ⊢
  have hw : IntKind.i64.wrap (n * n) = s := by rw [hs, IntKind.wrap_i64]; omega
  have hw' : wrap64 (n * n) = s := by rw [hs]; exact IntWalk.wrap64_in _ (by omega)
  have HS := hide hs
  clear hs hb
  go_enter Try.func42, Try.ntmps42
  go_wp2_with fail
  go_ret
  exact ⟨rfl, rfl⟩

set_option maxHeartbeats 4000000 in
theorem rr_square (x y z a b c : Int) (w : World) :
    Calls Try.prog 37 #[.agg #[.int .i64 x, .int .i64 y, .int .i64 z], .agg #[.int .i64 a, .int .i64 b, .int .i64 c]] w fun e w' => e = .returned (.int .i64 (sqV x y z a b c)) ∧ Below w.heap.size w w' := by
  have HZ := hide (fun (h : ¬ (posB x y z = true ∧ posB a b c = true)) => (show Ending.returned (.int .i64 0) = .returned (.int .i64 (sqV x y z a b c)) from by unfold sqV; rw [if_neg h]))
  have HY := hide (fun (h : posB x y z = true ∧ posB a b c = true) => (show sqV x y z a b c = (x - a) * (x - a) + (y - b) * (y - b) + (z - c) * (z - c) from by unfold sqV; rw [if_pos h]))
  have HB := hide (below2 (w := w) (.cells #[.int .i64 x, .int .i64 y, .int .i64 z] 33) (.cells #[.int .i64 a, .int .i64 b, .int .i64 c] 33))
  have G0 := hide (pair_alloc (heap_alloc_new w (.cells #[.int .i64 x, .int .i64 y, .int .i64 z] 33)) (.cells #[.int .i64 a, .int .i64 b, .int .i64 c] 33))
  have G1 := hide (new_at (w := w.alloc (.cells #[.int .i64 x, .int .i64 y, .int .i64 z] 33)) (.cells #[.int .i64 a, .int .i64 b, .int .i64 c] 33) (g := w.heap.size + 1) (by simp))
  have Q1 := hide (fun W => rr_pos x y z W)
  have Q2 := hide (fun W => rr_pos a b c W)
  go_enter Try.func37, Try.ntmps37
  go_upto_region 1 with fail
  generalize (w.alloc (.cells #[.int .i64 x, .int .i64 y, .int .i64 z] 33)).alloc (.cells #[.int .i64 a, .int .i64 b, .int .i64 c] 33) = V at HB G0 G1 ⊢
  obtain ⟨c0, c1, c2, -, -, -⟩ := tri_cells G0.out
  cases h1 : posB x y z
  · rw [h1] at Q1
    have H1 := hide h1
    clear h1
    go_wp2_with (first
      | (go_at_call 41; (with_reducible refine (Q1.out _).mono ?_); rintro e w1 ⟨rfl, hb⟩))
    go_ret
    exact ⟨HZ.out (fun h => by have := h.1; rw [H1.out] at this; cases this), HB.out.trans (hb.mono HB.out.size)⟩
  · rw [h1] at Q1
    have H1 := hide h1
    have hp := posB_of h1
    clear h1
    cases h2 : posB a b c
    · rw [h2] at Q2
      have H2 := hide h2
      clear h2 hp
      go_wp2_with (first
        | (go_at_call 41; (with_reducible refine (Q1.out _).mono ?_); rintro e w1 ⟨rfl, hb⟩; (have G1 := hide ((hb.block _ (Array.getElem?_eq_some_iff.1 G1.out).1).trans G1.out)); (obtain ⟨e0, e1, e2, -, -, -⟩ := tri_cells G1.out); (have HL := hide (HB.out.trans (hb.mono HB.out.size))); clear hb)
        | (go_at_call 41; (with_reducible refine (Q2.out _).mono ?_); rintro e w2 ⟨rfl, hb⟩; (have HL2 := hide (HL.out.trans (hb.mono HL.out.size))); clear hb))
      go_ret
      exact ⟨HZ.out (fun h => by have := h.2; rw [H2.out] at this; cases this), HL2.out⟩
    · rw [h2] at Q2
      have H2 := hide h2
      have hq := posB_of h2
      clear h2
      have HY := hide (HY.out ⟨H1.out, H2.out⟩)
      obtain ⟨⟨x0, x1⟩, ⟨y0, y1⟩, ⟨z0, z1⟩⟩ := hp
      obtain ⟨⟨a0, a1⟩, ⟨b0, b1⟩, ⟨p0, p1⟩⟩ := hq
      have hw1 : IntKind.i64.wrap (x - a) = x - a := by rw [IntKind.wrap_i64]; omega
      have hw2 : IntKind.i64.wrap (y - b) = y - b := by rw [IntKind.wrap_i64]; omega
      have hw3 : IntKind.i64.wrap (z - c) = z - c := by rw [IntKind.wrap_i64]; omega
      have S1 := hide (fun W => rr_sq (x - a) (by omega) W)
      have S2 := hide (fun W => rr_sq (y - b) (by omega) W)
      have S3 := hide (fun W => rr_sq (z - c) (by omega) W)
      have b1' := sq_bd (x - a) (by omega) (by omega)
      have b2' := sq_bd (y - b) (by omega) (by omega)
      have b3' := sq_bd (z - c) (by omega) (by omega)
      generalize (x - a) * (x - a) = s1 at HY S1 b1'
      generalize (y - b) * (y - b) = s2 at HY S2 b2'
      generalize (z - c) * (z - c) = s3 at HY S3 b3'
      obtain ⟨s10, s11⟩ := b1'
      obtain ⟨s20, s21⟩ := b2'
      obtain ⟨s30, s31⟩ := b3'
      have hw4 : IntKind.i64.wrap (s1 + s2) = s1 + s2 := by rw [IntKind.wrap_i64]; omega
      have hw5 : IntKind.i64.wrap (s1 + s2 + s3) = s1 + s2 + s3 := by rw [IntKind.wrap_i64]; omega
      go_upto_region 3 with (first
        | (go_at_call 41; (with_reducible refine (Q1.out _).mono ?_); rintro e w1 ⟨rfl, hb⟩; (have G0 := hide ((hb.block _ (Array.getElem?_eq_some_iff.1 G0.out).1).trans G0.out)); (have G1 := hide ((hb.block _ (Array.getElem?_eq_some_iff.1 G1.out).1).trans G1.out)); (obtain ⟨e0, e1, e2, -, -, -⟩ := tri_cells G1.out); (have HL := hide (HB.out.trans (hb.mono HB.out.size))); clear hb)
        | (go_at_call 41; (with_reducible refine (Q2.out _).mono ?_); rintro e w2 ⟨rfl, hb⟩; (have G0 := hide ((hb.block _ (Array.getElem?_eq_some_iff.1 G0.out).1).trans G0.out)); (have G1 := hide ((hb.block _ (Array.getElem?_eq_some_iff.1 G1.out).1).trans G1.out)); (have HL2 := hide (HL.out.trans (hb.mono HL.out.size))); clear hb))
      clear c0 c1 c2 e0 e1 e2
      obtain ⟨e0, e1, e2, -, -, -⟩ := tri_cells G1.out
      obtain ⟨c0, c1, c2, -, -, -⟩ := tri_cells G0.out
      have k0 := fun p : More => cell_more c0 p
      have k1 := fun p : More => cell_more c1 p
      have k2 := fun p : More => cell_more c2 p
      have l0 := fun p : More => cell_more e0 p
      have l1 := fun p : More => cell_more e1 p
      have l2 := fun p : More => cell_more e2 p
      refine wp_region_grown (by kernel_rfl) (by kernel_rfl) ?_
      repeat (go_big_quiet_step ((first
        | (go_at_call 42; with_reducible exact more_of_same (S1.out _))
        | (go_at_call 42; with_reducible exact more_of_same (S2.out _))
        | (go_at_call 42; with_reducible exact more_of_same (S3.out _)))))
      refine wpQuiet_nil ?_
      intro w3 hb3
      go_wp2_with fail
      go_ret
      exact ⟨ret_int (by rw [HY.out]), HL2.out.trans (hb3.mono HL2.out.size)⟩

end Go.Proofs.Ytlhphhiodckaaaa
