/- The walks of the reference's Nearest, for rates that are valid. -/
import Derived.Test.YtmhbncpiloffgaaRateJ
namespace Go.Proofs.Ytmhbncpiloffgaa
open Go.RowKit
set_option linter.unusedVariables false
set_option linter.unusedSimpArgs false

theorem ref_near_ahead (n d s t : Nat) (hr : RateOk n d) (hs : s ≤ 9007199254740992) (ht : t ≤ 18014398509481984) (h : t < s) (w : World) :
    Calls Try.prog 25 #[.int .i64 s, .agg #[.int .i64 n, .int .i64 d], .int .i64 t] w fun e w' => e = .returned (.tuple #[.int .i64 0, .int .i64 ((t : Int) - s), .int .i64 0]) ∧ Below w.heap.size w w' := by
  have Q := hide (fun w => ref_index_ahead n d s t hr hs ht h w)
  obtain ⟨x, hx⟩ : ∃ x : Int, (t : Int) - (s : Int) = x := ⟨_, rfl⟩
  rw [hx]
  have hx1 : x < 0 ∧ -9007199254740992 ≤ x := by omega
  obtain ⟨hx1, hx2⟩ := hx1
  clear hr
  go_enter Try.func25, Try.ntmps25
  go_wp2_with (first
    | (go_at_call 23; (with_reducible refine (acc (below1 _) (Q.out _)).mono ?_); rintro e w1 ⟨rfl, hb⟩))
  go_ret3
  exact ⟨rfl, hb⟩
set_option maxRecDepth 20000 in
theorem ref_near_up (n d s t k : Nat) (hr : RateOk n d) (hs : s ≤ 9007199254740992) (ht : t ≤ 18014398509481984) (h : s ≤ t) (hk : idxN n d (t - s) = k) (hk2 : k < 16777216) (hup : (afterN n d (k + 1) : Int) - ((t : Int) - s) < (t : Int) - s - afterN n d k) (w : World) :
    Calls Try.prog 25 #[.int .i64 s, .agg #[.int .i64 n, .int .i64 d], .int .i64 t] w fun e w' => e = .returned (.tuple #[.int .i64 ((k : Int) + 1), .int .i64 ((t : Int) - s - afterN n d (k + 1)), .int .i64 0]) ∧ Below w.heap.size w w' := by
  have hm : k ≤ 16777216 := by rw [← hk]; unfold idxN; exact Nat.min_le_right _ _
  have q := fun w => ref_index_in n d s t hr hs ht h w
  rw [hk] at q
  have Q := hide q
  have hd : d ≤ 4096 := by have := hr.2.2.2.1; omega
  have q1 := fun w => ref_time_ok n d s k hr hs hm w
  have B1 := afterN_bound n d k hd (by omega)
  have q2 := fun w => ref_time_ok n d s (k + 1) hr hs (by omega) w
  have B2 := afterN_bound n d (k + 1) hd (by omega)
  obtain ⟨k1, hk1⟩ : ∃ k1 : Nat, k + 1 = k1 := ⟨_, rfl⟩
  rw [hk1] at q2 hup B2 ⊢
  have e0 : (k : Int) + 1 = (k1 : Int) := by omega
  rw [e0]
  obtain ⟨b, hb0⟩ : ∃ b : Nat, s + afterN n d k1 = b := ⟨_, rfl⟩
  rw [hb0] at q2
  obtain ⟨v, hv⟩ : ∃ v : Int, (b : Int) - (t : Int) = v := ⟨_, rfl⟩
  obtain ⟨vv, hvv⟩ : ∃ vv : Int, (t : Int) - (b : Int) = vv := ⟨_, rfl⟩
  obtain ⟨a, ha0⟩ : ∃ a : Nat, s + afterN n d k = a := ⟨_, rfl⟩
  rw [ha0] at q1
  obtain ⟨u, hu⟩ : ∃ u : Int, (t : Int) - (a : Int) = u := ⟨_, rfl⟩
  have er : (t : Int) - s - afterN n d k1 = vv := by omega
  rw [er]
  have ub : -100000000000000000 ≤ u ∧ u ≤ 100000000000000000 := by omega
  obtain ⟨ub1, ub2⟩ := ub
  have vb : -100000000000000000 ≤ v ∧ v ≤ 100000000000000000 ∧ -100000000000000000 ≤ vv ∧ vv ≤ 100000000000000000 := by omega
  obtain ⟨vb1, vb2, vb3, vb4⟩ := vb
  have d1 : decide (v < u) = true := by simp; omega
  have d2 : decide ((k : Int) < 16777216) = true := by simp; omega
  have Q2 := hide q2
  clear q2 hup B2 hk1 hb0
  have Q1 := hide q1
  have dk : decide ((k : Int) < 0) = false := by simp
  have hm2 : (k : Int) ≤ 16777216 := by omega
  clear q q1 hr hk B1 ha0 er hm
  go_enter Try.func25, Try.ntmps25
  go_wp2_with (first
    | (go_at_call 23; (with_reducible refine (accB (below1 _) (heap_alloc_new _ _) (Q.out _)).mono ?_); rintro e w1 ⟨rfl, hb, hc⟩; (obtain ⟨c0, c1, f0, f1⟩ := pair_cells hc))
    | (go_at_call 22; (with_reducible refine (accB hb hc (Q1.out _)).mono ?_); clear hb hc c0 c1 f0 f1; rintro e w2 ⟨rfl, hb, hc⟩; (obtain ⟨c0, c1, f0, f1⟩ := pair_cells hc))
    | (go_at_call 22; (with_reducible refine (accB hb hc (Q2.out _)).mono ?_); clear hb hc c0 c1 f0 f1; rintro e w2 ⟨rfl, hb, hc⟩; (obtain ⟨c0, c1, f0, f1⟩ := pair_cells hc)))
  go_ret3
  exact ⟨rfl, hb⟩
set_option maxRecDepth 20000 in
theorem ref_near_here (n d s t k : Nat) (hr : RateOk n d) (hs : s ≤ 9007199254740992) (ht : t ≤ 18014398509481984) (h : s ≤ t) (hk : idxN n d (t - s) = k) (hk2 : k < 16777216) (hup : ¬ (afterN n d (k + 1) : Int) - ((t : Int) - s) < (t : Int) - s - afterN n d k) (w : World) :
    Calls Try.prog 25 #[.int .i64 s, .agg #[.int .i64 n, .int .i64 d], .int .i64 t] w fun e w' => e = .returned (.tuple #[.int .i64 (k : Int), .int .i64 ((t : Int) - s - afterN n d k), .int .i64 0]) ∧ Below w.heap.size w w' := by
  have hm : k ≤ 16777216 := by rw [← hk]; unfold idxN; exact Nat.min_le_right _ _
  have q := fun w => ref_index_in n d s t hr hs ht h w
  rw [hk] at q
  have Q := hide q
  have hd : d ≤ 4096 := by have := hr.2.2.2.1; omega
  have q1 := fun w => ref_time_ok n d s k hr hs hm w
  have B1 := afterN_bound n d k hd (by omega)
  have q2 := fun w => ref_time_ok n d s (k + 1) hr hs (by omega) w
  have B2 := afterN_bound n d (k + 1) hd (by omega)
  obtain ⟨k1, hk1⟩ : ∃ k1 : Nat, k + 1 = k1 := ⟨_, rfl⟩
  rw [hk1] at q2 hup B2
  have e0 : (k : Int) + 1 = (k1 : Int) := by omega
  obtain ⟨b, hb0⟩ : ∃ b : Nat, s + afterN n d k1 = b := ⟨_, rfl⟩
  rw [hb0] at q2
  obtain ⟨v, hv⟩ : ∃ v : Int, (b : Int) - (t : Int) = v := ⟨_, rfl⟩
  obtain ⟨vv, hvv⟩ : ∃ vv : Int, (t : Int) - (b : Int) = vv := ⟨_, rfl⟩
  obtain ⟨a, ha0⟩ : ∃ a : Nat, s + afterN n d k = a := ⟨_, rfl⟩
  rw [ha0] at q1
  obtain ⟨u, hu⟩ : ∃ u : Int, (t : Int) - (a : Int) = u := ⟨_, rfl⟩
  have er : (t : Int) - s - afterN n d k = u := by omega
  rw [er]
  have ub : -100000000000000000 ≤ u ∧ u ≤ 100000000000000000 := by omega
  obtain ⟨ub1, ub2⟩ := ub
  have vb : -100000000000000000 ≤ v ∧ v ≤ 100000000000000000 ∧ -100000000000000000 ≤ vv ∧ vv ≤ 100000000000000000 := by omega
  obtain ⟨vb1, vb2, vb3, vb4⟩ := vb
  have d1 : decide (v < u) = false := by simp; omega
  have d2 : decide ((k : Int) < 16777216) = true := by simp; omega
  have Q2 := hide q2
  clear q2 hup B2 hk1 hb0
  have Q1 := hide q1
  have dk : decide ((k : Int) < 0) = false := by simp
  have hm2 : (k : Int) ≤ 16777216 := by omega
  clear q q1 hr hk B1 ha0 er hm
  go_enter Try.func25, Try.ntmps25
  go_wp2_with (first
    | (go_at_call 23; (with_reducible refine (accB (below1 _) (heap_alloc_new _ _) (Q.out _)).mono ?_); rintro e w1 ⟨rfl, hb, hc⟩; (obtain ⟨c0, c1, f0, f1⟩ := pair_cells hc))
    | (go_at_call 22; (with_reducible refine (accB hb hc (Q1.out _)).mono ?_); clear hb hc c0 c1 f0 f1; rintro e w2 ⟨rfl, hb, hc⟩; (obtain ⟨c0, c1, f0, f1⟩ := pair_cells hc))
    | (go_at_call 22; (with_reducible refine (accB hb hc (Q2.out _)).mono ?_); clear hb hc c0 c1 f0 f1; rintro e w2 ⟨rfl, hb, hc⟩; (obtain ⟨c0, c1, f0, f1⟩ := pair_cells hc)))
  go_ret3
  exact ⟨rfl, hb⟩
set_option maxRecDepth 20000 in
theorem ref_near_end (n d s t k : Nat) (hr : RateOk n d) (hs : s ≤ 9007199254740992) (ht : t ≤ 18014398509481984) (h : s ≤ t) (hk : idxN n d (t - s) = k) (hk2 : k = 16777216) (w : World) :
    Calls Try.prog 25 #[.int .i64 s, .agg #[.int .i64 n, .int .i64 d], .int .i64 t] w fun e w' => e = .returned (.tuple #[.int .i64 (k : Int), .int .i64 ((t : Int) - s - afterN n d k), .int .i64 0]) ∧ Below w.heap.size w w' := by
  have hm : k ≤ 16777216 := by rw [← hk]; unfold idxN; exact Nat.min_le_right _ _
  have q := fun w => ref_index_in n d s t hr hs ht h w
  rw [hk] at q
  have Q := hide q
  have hd : d ≤ 4096 := by have := hr.2.2.2.1; omega
  have q1 := fun w => ref_time_ok n d s k hr hs hm w
  have B1 := afterN_bound n d k hd (by omega)
  obtain ⟨a, ha0⟩ : ∃ a : Nat, s + afterN n d k = a := ⟨_, rfl⟩
  rw [ha0] at q1
  obtain ⟨u, hu⟩ : ∃ u : Int, (t : Int) - (a : Int) = u := ⟨_, rfl⟩
  have er : (t : Int) - s - afterN n d k = u := by omega
  rw [er]
  have ub : -100000000000000000 ≤ u ∧ u ≤ 100000000000000000 := by omega
  obtain ⟨ub1, ub2⟩ := ub
  have d2 : decide ((k : Int) < 16777216) = false := by simp; omega
  have Q1 := hide q1
  have dk : decide ((k : Int) < 0) = false := by simp
  have hm2 : (k : Int) ≤ 16777216 := by omega
  clear q q1 hr hk B1 ha0 er hm hk2
  go_enter Try.func25, Try.ntmps25
  go_wp2_with (first
    | (go_at_call 23; (with_reducible refine (accB (below1 _) (heap_alloc_new _ _) (Q.out _)).mono ?_); rintro e w1 ⟨rfl, hb, hc⟩; (obtain ⟨c0, c1, f0, f1⟩ := pair_cells hc))
    | (go_at_call 22; (with_reducible refine (accB hb hc (Q1.out _)).mono ?_); clear hb hc c0 c1 f0 f1; rintro e w2 ⟨rfl, hb, hc⟩; (obtain ⟨c0, c1, f0, f1⟩ := pair_cells hc)))
  go_ret3
  exact ⟨rfl, hb⟩
end Go.Proofs.Ytmhbncpiloffgaa
