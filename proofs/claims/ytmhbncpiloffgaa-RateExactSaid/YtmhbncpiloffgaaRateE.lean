/- The walks of Nearest and Slower, for rates that are valid. -/
import Derived.Test.YtmhbncpiloffgaaRateD
namespace Go.Proofs.Ytmhbncpiloffgaa
open Go.RowKit
set_option linter.unusedVariables false

theorem afterN_bound (n d k : Nat) (hd : d ≤ 4096) (hk : k ≤ 16777217) : afterN n d k ≤ 16777217 * 4096000000 := by
  unfold afterN
  exact Nat.le_trans (Nat.div_le_self _ _) (Nat.mul_le_mul hk (by omega))
theorem rate_near_up (n d s t k : Nat) (hr : RateOk n d) (hs : s ≤ 9007199254740992) (ht : t ≤ 18014398509481984) (h : s ≤ t) (hk : idxN n d (t - s) = k) (hk2 : k < 16777216)
    (hup : (afterN n d (k + 1) : Int) - ((t : Int) - s) < (t : Int) - s - afterN n d k) (w : World) :
    Calls Try.prog 12 #[.int .i64 s, .agg #[.int .i64 n, .int .i64 d], .int .i64 t] w fun e w' => e = .returned (.tuple #[.int .i64 ((k : Int) + 1), .int .i64 ((t : Int) - s - afterN n d (k + 1)), .int .i64 0]) ∧ Below w.heap.size w w' := by
  have q := fun w => rate_index_in n d s t hr hs ht h w
  rw [hk] at q
  obtain ⟨r1, r2, r3, r4, r5⟩ := hr
  have q1 := fun w => rate_after n d k (by omega) (by omega) (by omega) (by omega) w
  have q2 := fun w => rate_after n d (k + 1) (by omega) (by omega) (by omega) (by omega) w
  have B1 := afterN_bound n d k (by omega) (by omega)
  have B2 := afterN_bound n d (k + 1) (by omega) (by omega)
  obtain ⟨k1, hk1⟩ : ∃ k1 : Nat, k + 1 = k1 := ⟨_, rfl⟩
  rw [hk1] at q2 hup B2 ⊢
  have e0 : (k : Int) + 1 = (k1 : Int) := by omega
  rw [e0]
  generalize afterN n d k = a at *
  generalize afterN n d k1 = b at *
  obtain ⟨x, hx⟩ : ∃ x : Int, (t : Int) - (s : Int) = x := ⟨_, rfl⟩
  rw [hx] at hup ⊢
  obtain ⟨u, hu⟩ : ∃ u : Int, x - (a : Int) = u := ⟨_, rfl⟩
  obtain ⟨v, hv⟩ : ∃ v : Int, x - (b : Int) = v := ⟨_, rfl⟩
  rw [hv]
  have x1 : 0 ≤ x ∧ x ≤ 18014398509481984 := by omega
  obtain ⟨x1, x2⟩ := x1
  have u1 : -68719476736000000000 ≤ -1 ∧ u ≤ 18014398509481984 ∧ -(16777217 * 4096000000) ≤ u ∧ v ≤ 18014398509481984 ∧ -(16777218 * 8192000000) ≤ v := by omega
  obtain ⟨-, u1, u2, v1, v2⟩ := u1
  have d1 : decide (-v < u) = true := by simp; omega
  have d2 : decide ((k : Int) < 16777216) = true := by simp; omega
  have e3 : max (k : Int) 0 = (k : Int) := by omega
  have Q := hide q
  have Q1 := hide q1
  have Q2 := hide q2
  clear q q1 q2 r5 hup hk hk1 B1 B2
  go_enter Try.func12, Try.ntmps12
  go_wp2_with (first
    | (go_at_call 14; (with_reducible refine (accB (below1 _) (heap_alloc_new _ _) (Q.out _)).mono ?_); rintro e w1 ⟨rfl, hb, hc⟩; (obtain ⟨c0, c1, f0, f1⟩ := pair_cells hc))
    | (go_at_call 32; (with_reducible refine (accB hb hc (Q1.out _)).mono ?_); clear hb hc c0 c1 f0 f1; rintro e w2 ⟨rfl, hb, hc⟩; (obtain ⟨c0, c1, f0, f1⟩ := pair_cells hc))
    | (go_at_call 32; (with_reducible refine (accB hb hc (Q2.out _)).mono ?_); clear hb hc c0 c1 f0 f1; rintro e w2 ⟨rfl, hb, hc⟩; (obtain ⟨c0, c1, f0, f1⟩ := pair_cells hc)))
  go_ret3
  exact ⟨rfl, hb⟩
theorem rate_near_here (n d s t k : Nat) (hr : RateOk n d) (hs : s ≤ 9007199254740992) (ht : t ≤ 18014398509481984) (h : s ≤ t) (hk : idxN n d (t - s) = k) (hk2 : k < 16777216)
    (hup : ¬ (afterN n d (k + 1) : Int) - ((t : Int) - s) < (t : Int) - s - afterN n d k) (w : World) :
    Calls Try.prog 12 #[.int .i64 s, .agg #[.int .i64 n, .int .i64 d], .int .i64 t] w fun e w' => e = .returned (.tuple #[.int .i64 (k : Int), .int .i64 ((t : Int) - s - afterN n d k), .int .i64 0]) ∧ Below w.heap.size w w' := by
  have q := fun w => rate_index_in n d s t hr hs ht h w
  rw [hk] at q
  obtain ⟨r1, r2, r3, r4, r5⟩ := hr
  have q1 := fun w => rate_after n d k (by omega) (by omega) (by omega) (by omega) w
  have q2 := fun w => rate_after n d (k + 1) (by omega) (by omega) (by omega) (by omega) w
  have B1 := afterN_bound n d k (by omega) (by omega)
  have B2 := afterN_bound n d (k + 1) (by omega) (by omega)
  obtain ⟨k1, hk1⟩ : ∃ k1 : Nat, k + 1 = k1 := ⟨_, rfl⟩
  rw [hk1] at q2 hup B2
  have e0 : (k : Int) + 1 = (k1 : Int) := by omega
  generalize afterN n d k = a at *
  generalize afterN n d k1 = b at *
  obtain ⟨x, hx⟩ : ∃ x : Int, (t : Int) - (s : Int) = x := ⟨_, rfl⟩
  rw [hx] at hup ⊢
  obtain ⟨u, hu⟩ : ∃ u : Int, x - (a : Int) = u := ⟨_, rfl⟩
  obtain ⟨v, hv⟩ : ∃ v : Int, x - (b : Int) = v := ⟨_, rfl⟩
  rw [hu]
  have x1 : 0 ≤ x ∧ x ≤ 18014398509481984 := by omega
  obtain ⟨x1, x2⟩ := x1
  have u1 : -68719476736000000000 ≤ -1 ∧ u ≤ 18014398509481984 ∧ -(16777217 * 4096000000) ≤ u ∧ v ≤ 18014398509481984 ∧ -(16777218 * 8192000000) ≤ v := by omega
  obtain ⟨-, u1, u2, v1, v2⟩ := u1
  have d1 : decide (-v < u) = false := by simp; omega
  have d2 : decide ((k : Int) < 16777216) = true := by simp; omega
  have e3 : max (k : Int) 0 = (k : Int) := by omega
  have Q := hide q
  have Q1 := hide q1
  have Q2 := hide q2
  clear q q1 q2 r5 hup hk hk1 B1 B2
  go_enter Try.func12, Try.ntmps12
  go_wp2_with (first
    | (go_at_call 14; (with_reducible refine (accB (below1 _) (heap_alloc_new _ _) (Q.out _)).mono ?_); rintro e w1 ⟨rfl, hb, hc⟩; (obtain ⟨c0, c1, f0, f1⟩ := pair_cells hc))
    | (go_at_call 32; (with_reducible refine (accB hb hc (Q1.out _)).mono ?_); clear hb hc c0 c1 f0 f1; rintro e w2 ⟨rfl, hb, hc⟩; (obtain ⟨c0, c1, f0, f1⟩ := pair_cells hc))
    | (go_at_call 32; (with_reducible refine (accB hb hc (Q2.out _)).mono ?_); clear hb hc c0 c1 f0 f1; rintro e w2 ⟨rfl, hb, hc⟩; (obtain ⟨c0, c1, f0, f1⟩ := pair_cells hc)))
  go_ret3
  exact ⟨rfl, hb⟩
theorem rate_near_end (n d s t : Nat) (hr : RateOk n d) (hs : s ≤ 9007199254740992) (ht : t ≤ 18014398509481984) (h : s ≤ t) (hk : idxN n d (t - s) = 16777216) (w : World) :
    Calls Try.prog 12 #[.int .i64 s, .agg #[.int .i64 n, .int .i64 d], .int .i64 t] w fun e w' => e = .returned (.tuple #[.int .i64 16777216, .int .i64 ((t : Int) - s - afterN n d 16777216), .int .i64 0]) ∧ Below w.heap.size w w' := by
  have q := fun w => rate_index_in n d s t hr hs ht h w
  rw [hk] at q
  obtain ⟨r1, r2, r3, r4, r5⟩ := hr
  have q1 := fun w => rate_after n d 16777216 (by omega) (by omega) (by omega) (by omega) w
  have B1 := afterN_bound n d 16777216 (by omega) (by omega)
  obtain ⟨k, hk0⟩ : ∃ k : Nat, 16777216 = k := ⟨_, rfl⟩
  have e0 : (16777216 : Int) = (k : Int) := by omega
  have e9 : Value.int .i64 16777216 = .int .i64 (k : Int) := by rw [e0]
  rw [hk0] at q q1 B1 ⊢
  rw [e9]
  generalize afterN n d k = a at *
  obtain ⟨x, hx⟩ : ∃ x : Int, (t : Int) - (s : Int) = x := ⟨_, rfl⟩
  rw [hx]
  obtain ⟨u, hu⟩ : ∃ u : Int, x - (a : Int) = u := ⟨_, rfl⟩
  rw [hu]
  have x1 : 0 ≤ x ∧ x ≤ 18014398509481984 := by omega
  obtain ⟨x1, x2⟩ := x1
  have u1 : u ≤ 18014398509481984 ∧ -(16777217 * 4096000000) ≤ u := by omega
  obtain ⟨u1, u2⟩ := u1
  have d2 : decide ((k : Int) < 16777216) = false := by simp; omega
  have e3 : max (k : Int) 0 = (k : Int) := by omega
  have Q := hide q
  have Q1 := hide q1
  have hk9 : 16777216 ≤ k := by omega
  clear q q1 r5 hk B1 e0 e9 hk0
  go_enter Try.func12, Try.ntmps12
  go_wp2_with (first
    | (go_at_call 14; (with_reducible refine (accB (below1 _) (heap_alloc_new _ _) (Q.out _)).mono ?_); rintro e w1 ⟨rfl, hb, hc⟩; (obtain ⟨c0, c1, f0, f1⟩ := pair_cells hc))
    | (go_at_call 32; (with_reducible refine (accB hb hc (Q1.out _)).mono ?_); clear hb hc c0 c1 f0 f1; rintro e w2 ⟨rfl, hb, hc⟩; (obtain ⟨c0, c1, f0, f1⟩ := pair_cells hc)))
  go_ret3
  exact ⟨rfl, hb⟩
theorem rate_near_ahead (n d s t : Nat) (hr : RateOk n d) (hs : s ≤ 9007199254740992) (ht : t ≤ 18014398509481984) (h : t < s) (w : World) :
    Calls Try.prog 12 #[.int .i64 s, .agg #[.int .i64 n, .int .i64 d], .int .i64 t] w fun e w' => e = .returned (.tuple #[.int .i64 0, .int .i64 ((t : Int) - s), .int .i64 0]) ∧ Below w.heap.size w w' := by
  have q := fun w => rate_index_ahead n d s t hr hs ht h w
  obtain ⟨r1, r2, r3, r4, r5⟩ := hr
  have q1 := fun w => rate_after n d 0 (by omega) (by omega) (by omega) (by omega) w
  have q2 := fun w => rate_after n d 1 (by omega) (by omega) (by omega) (by omega) w
  have B2 := afterN_bound n d 1 (by omega) (by omega)
  have z : afterN n d 0 = 0 := by simp [afterN]
  rw [z, show ((0 : Nat) : Int) = 0 from rfl] at q1
  rw [show ((1 : Nat) : Int) = 1 from rfl] at q2
  clear z
  generalize afterN n d 1 = b at *
  obtain ⟨x, hx⟩ : ∃ x : Int, (t : Int) - (s : Int) = x := ⟨_, rfl⟩
  rw [hx]
  obtain ⟨v, hv⟩ : ∃ v : Int, x - (b : Int) = v := ⟨_, rfl⟩
  have x1 : -18014398509481984 ≤ x ∧ x < 0 := by omega
  obtain ⟨x1, x2⟩ := x1
  have v1 : v ≤ 0 ∧ -(16777218 * 8192000000) ≤ v := by omega
  obtain ⟨v1, v2⟩ := v1
  have d1 : decide (-v < x) = false := by simp; omega
  have Q := hide q
  have Q1 := hide q1
  have Q2 := hide q2
  clear q q1 q2 r5 B2
  go_enter Try.func12, Try.ntmps12
  go_wp2_with (first
    | (go_at_call 14; (with_reducible refine (accB (below1 _) (heap_alloc_new _ _) (Q.out _)).mono ?_); rintro e w1 ⟨rfl, hb, hc⟩; (obtain ⟨c0, c1, f0, f1⟩ := pair_cells hc))
    | (go_at_call 32; (with_reducible refine (accB hb hc (Q1.out _)).mono ?_); clear hb hc c0 c1 f0 f1; rintro e w2 ⟨rfl, hb, hc⟩; (obtain ⟨c0, c1, f0, f1⟩ := pair_cells hc))
    | (go_at_call 32; (with_reducible refine (accB hb hc (Q2.out _)).mono ?_); clear hb hc c0 c1 f0 f1; rintro e w2 ⟨rfl, hb, hc⟩; (obtain ⟨c0, c1, f0, f1⟩ := pair_cells hc)))
  go_ret3
  exact ⟨rfl, hb⟩
end Go.Proofs.Ytmhbncpiloffgaa
