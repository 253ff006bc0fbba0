/- The walks of Index, Next, Nearest, Number, for rates that are valid. -/
import Derived.Test.YtmhbncpiloffgaaRateC
namespace Go.Proofs.Ytmhbncpiloffgaa
open Go.RowKit
set_option linter.unusedVariables false

theorem ret2_int {k : IntKind} {a b : Int} {v : Value} (h : a = b) : Ending.returned (.tuple #[.int k a, v]) = .returned (.tuple #[.int k b, v]) := by rw [h]
theorem ceilN_pos (n d x : Nat) (hn : 1 ≤ n) (hd : 1 ≤ d) : 1 ≤ ceilN n d (x + 1) := by
  unfold ceilN
  obtain ⟨p, hp⟩ : ∃ p : Nat, d * 1000000 = p := ⟨_, rfl⟩
  rw [hp]
  by_cases h : (x + 1) / p = 0
  · have h2 : (x + 1) % p = x + 1 := by rw [Nat.mod_eq_of_lt]; exact (Nat.div_eq_zero_iff_lt (by omega)).1 h
    rw [h2]
    have h3 : 1 ≤ ((x + 1) * n + p - 1) / p := by
      rw [Nat.le_div_iff_mul_le (by omega)]
      have : 1 * 1 ≤ (x + 1) * n := Nat.mul_le_mul (by omega) hn
      omega
    exact Nat.le_trans h3 (Nat.le_add_left _ _)
  · have : 1 * 1 ≤ (x + 1) / p * n := Nat.mul_le_mul (Nat.pos_of_ne_zero h) hn
    exact Nat.le_trans this (Nat.le_add_right _ _)
def idxN (n d x : Nat) : Nat := min (ceilN n d (x + 1) - 1) 16777216
theorem rate_index_in (n d s t : Nat) (hr : RateOk n d) (hs : s ≤ 9007199254740992) (ht : t ≤ 18014398509481984) (h : s ≤ t) (w : World) :
    Calls Try.prog 14 #[.int .i64 s, .agg #[.int .i64 n, .int .i64 d], .int .i64 t] w fun e w' => e = .returned (.tuple #[.int .i64 (idxN n d (t - s)), .int .i64 0]) ∧ Below w.heap.size w w' := by
  obtain ⟨x, hx⟩ : ∃ x : Nat, t - s = x := ⟨_, rfl⟩
  have q := fun w => rate_check_ok n d s t hr hs ht w
  obtain ⟨r1, r2, r3, r4, r5⟩ := hr
  have q2 := fun w => rate_upto n d x (by omega) (by omega) (by omega) (by omega) (by omega) w
  have hp := ceilN_pos n d x (by omega) (by omega)
  have hB := ceilN_bound n d (x + 1) (by omega) (by omega) (by omega)
  have hI : idxN n d (t - s) = min (ceilN n d (x + 1) - 1) 16777216 := by rw [hx]; rfl
  obtain ⟨r, hr⟩ : ∃ r : Nat, idxN n d (t - s) = r := ⟨_, rfl⟩
  rw [hr] at hI ⊢
  clear hr
  generalize ceilN n d (x + 1) = c at *
  have e1 : (t : Int) - (s : Int) = (x : Int) := by omega
  obtain ⟨y, hy⟩ : ∃ y : Nat, c = y + 1 := ⟨c - 1, by omega⟩
  subst hy
  have e2 : ((y + 1 : Nat) : Int) - 1 = (y : Int) := by omega
  rw [e2] at q2
  have hI2 : r = min y 16777216 := by rw [hI]; omega
  have e3 : min (y : Int) 16777216 = (r : Int) := by omega
  have Q := hide q
  have Q2 := hide q2
  have I2 := hide hI2
  have d1 : decide ((t : Int) < (s : Int)) = false := by simp; omega
  have hy2 : y ≤ 73786976294838210 := by omega
  clear q q2 r5 hI hI2 hx hB hp e2
  go_enter Try.func14, Try.ntmps14
  go_wp2_with (first
    | (go_at_call 34; (with_reducible refine (accB (below1 _) (heap_alloc_new _ _) (Q.out _)).mono ?_); rintro e w1 ⟨rfl, hb, hc⟩; (obtain ⟨c0, c1, f0, f1⟩ := pair_cells hc))
    | (go_at_call 35; (with_reducible refine (acc hb (Q2.out _)).mono ?_); clear hb; rintro e w2 ⟨rfl, hb⟩))
  all_goals
    go_ret2
    exact ⟨ret2_int (by have := I2.out; omega), hb⟩
theorem rate_index_ahead (n d s t : Nat) (hr : RateOk n d) (hs : s ≤ 9007199254740992) (ht : t ≤ 18014398509481984) (h : t < s) (w : World) :
    Calls Try.prog 14 #[.int .i64 s, .agg #[.int .i64 n, .int .i64 d], .int .i64 t] w fun e w' => e = .returned (.tuple #[.int .i64 (-1), .int .i64 0]) ∧ Below w.heap.size w w' := by
  have q := fun w => rate_check_ok n d s t hr hs ht w
  have d1 : decide ((t : Int) < (s : Int)) = true := by simp; omega
  have Q := hide q
  clear q hr
  go_enter Try.func14, Try.ntmps14
  go_wp2_with (first
    | (go_at_call 34; (with_reducible refine (acc (below1 _) (Q.out _)).mono ?_); rintro e w1 ⟨rfl, hb⟩))
  go_ret2
  exact ⟨rfl, hb⟩
theorem rate_next_ok (n d s t : Nat) (hr : RateOk n d) (hs : s ≤ 9007199254740992) (ht : t ≤ 18014398509481984) (h : s ≤ t) (hm : ceilN n d (t - s) ≤ 16777216) (w : World) :
    Calls Try.prog 15 #[.int .i64 s, .agg #[.int .i64 n, .int .i64 d], .int .i64 t] w fun e w' => e = .returned (.tuple #[.int .i64 (ceilN n d (t - s)), .int .i64 0]) ∧ Below w.heap.size w w' := by
  obtain ⟨x, hx⟩ : ∃ x : Nat, t - s = x := ⟨_, rfl⟩
  have q := fun w => rate_check_ok n d s t hr hs ht w
  obtain ⟨r1, r2, r3, r4, r5⟩ := hr
  rw [hx] at hm ⊢
  have q2 := fun w => rate_ceil n d x (by omega) (by omega) (by omega) (by omega) (by omega) w
  generalize ceilN n d x = c at *
  have e1 : (t : Int) - (s : Int) = (x : Int) := by omega
  have e3 : max (x : Int) 0 = (x : Int) := by omega
  have Q := hide q
  have Q2 := hide q2
  have d1 : decide ((16777216 : Int) < (c : Int)) = false := by simp; omega
  clear q q2 r5 hx
  go_enter Try.func15, Try.ntmps15
  go_wp2_with (first
    | (go_at_call 34; (with_reducible refine (accB (below1 _) (heap_alloc_new _ _) (Q.out _)).mono ?_); rintro e w1 ⟨rfl, hb, hc⟩; (obtain ⟨c0, c1, f0, f1⟩ := pair_cells hc))
    | (go_at_call 36; (with_reducible refine (acc hb (Q2.out _)).mono ?_); clear hb; rintro e w2 ⟨rfl, hb⟩))
  go_ret2
  exact ⟨rfl, hb⟩
def numN (n d t : Nat) : Nat := t / (d * 1000000) * n + (2 * (t % (d * 1000000)) * n + d * 1000000) / (2 * (d * 1000000))
theorem numN_bound (n d x : Nat) (hn2 : n ≤ 4096) (hd1 : 1 ≤ d) (hx : x ≤ 18014398509481984) : numN n d x ≤ 73786976294838210 := by
  unfold numN
  obtain ⟨p, hp⟩ : ∃ p : Nat, d * 1000000 = p := ⟨_, rfl⟩
  rw [hp]
  have ha : x / p ≤ 18014398509 := by rw [Nat.div_le_iff_le_mul_add_pred (by omega)]; have : 1000000 * 18014398509 ≤ p * 18014398509 := Nat.mul_le_mul_right _ (by omega); omega
  have h1 : x / p * n ≤ 18014398509 * 4096 := Nat.mul_le_mul ha hn2
  have hc : x % p < p := Nat.mod_lt _ (by omega)
  have h2 : (2 * (x % p) * n + p) / (2 * p) ≤ 4097 := by
    rw [Nat.div_le_iff_le_mul_add_pred (by omega)]
    have : 2 * (x % p) * n ≤ 2 * p * 4096 := Nat.mul_le_mul (by omega) hn2
    omega
  omega
theorem rate_number (n d x : Nat) (hr : RateOk n d) (hx : x ≤ 18014398509481984) (w : World) :
    Calls Try.prog 16 #[.agg #[.int .i64 n, .int .i64 d], .int .i64 x] w fun e w' => e = .returned (.tuple #[.int .i64 (numN n d x), .int .i64 0]) ∧ Below w.heap.size w w' := by
  have q0 := fun w => rate_valid n d w
  rw [decide_eq_true hr] at q0
  have Q0 := hide q0
  obtain ⟨r1, r2, r3, r4, r5⟩ := hr
  clear q0 r5
  have hn : n ≤ 4096 := by omega
  have q := fun w => rate_micros n d (by omega) w
  have hB := numN_bound n d x hn (by omega) hx
  have hC : numN n d x = x / (d * 1000000) * n + (2 * (x % (d * 1000000)) * n + d * 1000000) / (2 * (d * 1000000)) := rfl
  obtain ⟨r, hr⟩ : ∃ r : Nat, numN n d x = r := ⟨_, rfl⟩
  rw [hr] at hC hB ⊢
  obtain ⟨p, hp⟩ : ∃ p : Nat, d * 1000000 = p := ⟨_, rfl⟩
  rw [hp] at q hC
  have hp1 : 1000000 ≤ p := by omega
  have hp2 : p ≤ 4096000000 := by omega
  obtain ⟨a, ha⟩ : ∃ a : Nat, x / p = a := ⟨_, rfl⟩
  obtain ⟨b, hb⟩ : ∃ b : Nat, a * n = b := ⟨_, rfl⟩
  obtain ⟨c, hc⟩ : ∃ c : Nat, x % p = c := ⟨_, rfl⟩
  obtain ⟨c2, hcc⟩ : ∃ c2 : Nat, 2 * c = c2 := ⟨_, rfl⟩
  obtain ⟨f, hf⟩ : ∃ f : Nat, c2 * n = f := ⟨_, rfl⟩
  obtain ⟨u, hu⟩ : ∃ u : Nat, f + p = u := ⟨_, rfl⟩
  obtain ⟨p2, hpp⟩ : ∃ p2 : Nat, 2 * p = p2 := ⟨_, rfl⟩
  obtain ⟨h, hh⟩ : ∃ h : Nat, u / p2 = h := ⟨_, rfl⟩
  have e1 : (x : Int) / (p : Int) = (a : Int) := by rw [← ha]; rfl
  have e2 : (a : Int) * (n : Int) = (b : Int) := by rw [← hb]; exact (Int.natCast_mul a n).symm
  have e3 : (x : Int) % (p : Int) = (c : Int) := by rw [← hc]; rfl
  have e3a : 2 * (c : Int) = (c2 : Int) := by omega
  have e4 : (c2 : Int) * (n : Int) = (f : Int) := by rw [← hf]; exact (Int.natCast_mul c2 n).symm
  have e5 : (f : Int) + (p : Int) = (u : Int) := by omega
  have e5a : 2 * (p : Int) = (p2 : Int) := by omega
  have e6 : (u : Int) / (p2 : Int) = (h : Int) := by rw [← hh]; rfl
  have hc2 : c < p := by rw [← hc]; exact Nat.mod_lt _ (by omega)
  have hc3 : c2 ≤ 8192000000 := by omega
  have hf2 : f ≤ 8192000000 * 4096 := by rw [← hf]; exact Nat.mul_le_mul (by omega) hn
  have ha2 : a ≤ x := by rw [← ha]; exact Nat.div_le_self _ _
  have hh2 : h ≤ u := by rw [← hh]; exact Nat.div_le_self _ _
  rw [ha, hb, hc, hcc, hf, hu, hpp, hh] at hC
  have e7 : (b : Int) + (h : Int) = (r : Int) := by omega
  have hb2 : b ≤ r := by omega
  have Q := hide q
  have hp0 : (p : Int) ≠ 0 := by omega
  have hp20 : (p2 : Int) ≠ 0 := by omega
  have hu2 : u ≤ 8192000000 * 4096 + 4096000000 := by omega
  have hp22 : p2 ≤ 8192000000 := by omega
  clear q hp ha hb hc hcc hf hu hpp hh hr hC hn
  go_enter Try.func16, Try.ntmps16
  go_wp2_with (first
    | (go_at_call 20; (with_reducible refine (accB (below1 _) (heap_alloc_new _ _) (Q0.out _)).mono ?_); rintro e w1 ⟨rfl, hb, hc⟩; (obtain ⟨c0, c1, f0, f1⟩ := pair_cells hc))
    | (go_at_call 33; (with_reducible refine (rate_in_yes _ _ _ ?_ _).mono ?_); (focus omega); rintro e w1 ⟨rfl, rfl⟩)
    | (go_at_call 37; (with_reducible refine (accB hb hc (Q.out _)).mono ?_); clear hb hc c0 c1 f0 f1; rintro e w2 ⟨rfl, hb, hc⟩; (obtain ⟨c0, c1, f0, f1⟩ := pair_cells hc)))
  go_region
  go_wp2
  go_ret2
  exact ⟨rfl, hb.drew⟩
end Go.Proofs.Ytmhbncpiloffgaa
