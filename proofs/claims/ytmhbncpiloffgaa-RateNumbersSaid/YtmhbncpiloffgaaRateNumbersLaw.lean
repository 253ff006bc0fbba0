/- The walk of RateNumbers. -/
import Derived.Test.YtmhbncpiloffgaaRateAscendsLaw
namespace Go.Proofs.Ytmhbncpiloffgaa
open Go.RowKit
set_option linter.unusedVariables false
set_option linter.unusedSimpArgs false

theorem numN_bounds (n d t : Nat) (hd : 1 ≤ d) : 2 * (numN n d t * (d * 1000000)) ≤ 2 * (t * n) + d * 1000000 ∧ 2 * (t * n) < 2 * (numN n d t * (d * 1000000)) + d * 1000000 := by
  unfold numN
  obtain ⟨p, hp⟩ : ∃ p : Nat, d * 1000000 = p := ⟨_, rfl⟩
  rw [hp]
  have hx : t * n = (t / p * n) * p + t % p * n := by
    have h1 := Nat.div_add_mod t p
    calc t * n = (p * (t / p) + t % p) * n := by rw [h1]
      _ = (t / p * n) * p + t % p * n := by rw [Nat.add_mul, Nat.mul_comm p (t / p), Nat.mul_right_comm]
  rw [hx, Nat.mul_assoc 2 (t % p) n]
  generalize t / p * n = b
  generalize t % p * n = f
  have h1 := Nat.div_add_mod (2 * f + p) (2 * p)
  have h2 := Nat.mod_lt (2 * f + p) (show 2 * p > 0 by omega)
  generalize (2 * f + p) / (2 * p) = y at *
  generalize (2 * f + p) % (2 * p) = z at *
  have h3 : 2 * p * y = 2 * (y * p) := by rw [Nat.mul_assoc, Nat.mul_comm p y]
  rw [h3] at h1
  rw [Nat.add_mul]
  omega
theorem numN_unique (n d t m : Nat) (hd : 1 ≤ d) (h1 : 2 * (m * (d * 1000000)) ≤ 2 * (t * n) + d * 1000000) (h2 : 2 * (t * n) < 2 * (m * (d * 1000000)) + d * 1000000) : numN n d t = m := by
  obtain ⟨b1, b2⟩ := numN_bounds n d t hd
  obtain ⟨p, hp⟩ : ∃ p : Nat, d * 1000000 = p := ⟨_, rfl⟩
  rw [hp] at b1 b2 h1 h2
  generalize numN n d t = y at *
  rcases Nat.lt_trichotomy y m with h | h | h
  · have := Nat.mul_le_mul_right p (show y + 1 ≤ m from h)
    rw [Nat.add_mul] at this; omega
  · exact h
  · have := Nat.mul_le_mul_right p (show m + 1 ≤ y from h)
    rw [Nat.add_mul] at this; omega
theorem after_bounds (n d k : Nat) (hn : 1 ≤ n) : afterN n d k * n ≤ k * (d * 1000000) ∧ k * (d * 1000000) < afterN n d k * n + n := by
  unfold afterN
  have h1 := Nat.div_add_mod (k * (d * 1000000)) n
  have h2 := Nat.mod_lt (k * (d * 1000000)) (show n > 0 by omega)
  rw [Nat.mul_comm n] at h1
  omega
theorem numN_after (n d k : Nat) (hn : 1 ≤ n) (hn2 : n ≤ 4096) (hd : 1 ≤ d) : numN n d (afterN n d k) = k := by
  obtain ⟨a1, a2⟩ := after_bounds n d k hn
  apply numN_unique n d _ _ hd <;> omega
theorem numN_add (n d t : Nat) (hd : 1 ≤ d) : numN n d (t + d * 1000000) = numN n d t + n := by
  unfold numN
  rw [Nat.add_div_right _ (by omega), Nat.add_mod_right, Nat.succ_mul]
  omega
theorem num_facts (n d k x : Nat) (hok : RateOk n d) (hk : k ≤ 65535) (hx : x ≤ 4294967295) : ∃ a m ap p q : Nat,
    Hid (∀ w, Calls Try.prog 13 #[.int .i64 0, .agg #[.int .i64 n, .int .i64 d], .int .i64 k] w fun e w' => e = .returned (.tuple #[.int .i64 a, .int .i64 0]) ∧ Below w.heap.size w w') ∧
    Hid (∀ w, Calls Try.prog 16 #[.agg #[.int .i64 n, .int .i64 d], .int .i64 a] w fun e w' => e = .returned (.tuple #[.int .i64 k, .int .i64 0]) ∧ Below w.heap.size w w') ∧
    Hid (∀ w, Calls Try.prog 16 #[.agg #[.int .i64 n, .int .i64 d], .int .i64 ap] w fun e w' => e = .returned (.tuple #[.int .i64 m, .int .i64 0]) ∧ Below w.heap.size w w') ∧
    Hid (∀ w, Calls Try.prog 16 #[.agg #[.int .i64 n, .int .i64 d], .int .i64 x] w fun e w' => e = .returned (.tuple #[.int .i64 q, .int .i64 0]) ∧ Below w.heap.size w w') ∧
    (k : Int) + n = m ∧ (d : Int) * 1000000 = p ∧ (a : Int) + p = ap ∧ ap ≤ 600000000000000 ∧ p ≤ 4096000000 ∧ n ≤ 4096 ∧ q ≤ 73786976294838210 ∧
    (q ≤ 16777216 → ∃ (b : Nat) (u v r0 r1 z : Int),
      Hid (∀ w, Calls Try.prog 13 #[.int .i64 0, .agg #[.int .i64 n, .int .i64 d], .int .i64 q] w fun e w' => e = .returned (.tuple #[.int .i64 b, .int .i64 0]) ∧ Below w.heap.size w w') ∧
      b ≤ 600000000000000000 ∧ (b : Int) - x = u ∧ (x : Int) - b = v ∧ ((v < u ∧ u - 1 = r0) ∨ (u < v ∧ v - 1 = r0) ∨ (u = 0 ∧ v = 0 ∧ r0 = -1)) ∧ 2 * r0 = r1 ∧ r1 * n = z ∧ z ≤ p ∧ -600000000000000000 ≤ r0 ∧ r0 ≤ 600000000000000000 ∧ -600000000000000000 ≤ z) := by
  have hok' := hok
  obtain ⟨r1, r2, r3, r4, r5⟩ := hok'
  have n1 : 1 ≤ n := by omega
  have n2 : n ≤ 4096 := by omega
  have d1 : 1 ≤ d := by omega
  have d2 : d ≤ 4096 := by omega
  have A := after_le_small n d k n1 d2 (by omega)
  have tA := fun w => rate_time_ok n d 0 k hok (by omega) (by omega) w
  have nA := fun w => rate_number n d (afterN n d k) hok (by omega) w
  have nP := fun w => rate_number n d (afterN n d k + d * 1000000) hok (by omega) w
  have nX := fun w => rate_number n d x hok (by omega) w
  rw [numN_after n d k n1 n2 d1] at nA
  rw [numN_add n d _ d1, numN_after n d k n1 n2 d1] at nP
  rw [Nat.zero_add] at tA
  refine ⟨afterN n d k, k + n, afterN n d k + d * 1000000, d * 1000000, numN n d x, tA, nA, nP, nX, by omega, by omega, by omega, by omega, by omega, n2, numN_bound n d x n2 d1 (by omega), ?_⟩
  intro hq
  have tQ := fun w => rate_time_ok n d 0 (numN n d x) hok (by omega) hq w
  rw [Nat.zero_add] at tQ
  obtain ⟨b1, b2⟩ := numN_bounds n d x d1
  obtain ⟨a1, a2⟩ := after_bounds n d (numN n d x) n1
  have B := afterN_bound n d (numN n d x) d2 (by omega)
  have hb : afterN n d (numN n d x) ≤ 600000000000000000 := by omega
  refine ⟨afterN n d (numN n d x), (afterN n d (numN n d x) : Int) - x, (x : Int) - afterN n d (numN n d x), (if x ≤ afterN n d (numN n d x) then (afterN n d (numN n d x) : Int) - x else (x : Int) - afterN n d (numN n d x)) - 1, 2 * ((if x ≤ afterN n d (numN n d x) then (afterN n d (numN n d x) : Int) - x else (x : Int) - afterN n d (numN n d x)) - 1),
    2 * ((if x ≤ afterN n d (numN n d x) then (afterN n d (numN n d x) : Int) - x else (x : Int) - afterN n d (numN n d x)) - 1) * n, tQ, hb, rfl, rfl, ?_, rfl, rfl, ?_, ?_, ?_, ?_⟩
  · split <;> omega
  · generalize afterN n d (numN n d x) = b at *
    generalize numN n d x * (d * 1000000) = qp at *
    split
    · have e : 2 * ((b : Int) - x - 1) * n = 2 * ((b * n : Nat) : Int) - 2 * ((x * n : Nat) : Int) - 2 * n := by
        rw [Int.natCast_mul, Int.natCast_mul, Int.mul_assoc, Int.sub_mul, Int.sub_mul]; omega
      rw [e]; omega
    · have e : 2 * ((x : Int) - b - 1) * n = 2 * ((x * n : Nat) : Int) - 2 * ((b * n : Nat) : Int) - 2 * n := by
        rw [Int.natCast_mul, Int.natCast_mul, Int.mul_assoc, Int.sub_mul, Int.sub_mul]; omega
      rw [e]; omega
  · split <;> omega
  · split <;> omega
  · generalize afterN n d (numN n d x) = b at *
    have key : ∀ y : Int, -1 ≤ y → -600000000000000000 ≤ 2 * y * n := by
      intro y hy
      have : (-2) * (n : Int) ≤ 2 * y * n := Int.mul_le_mul_of_nonneg_right (by omega) (by omega)
      omega
    split
    · exact key _ (by omega)
    · exact key _ (by omega)
set_option maxRecDepth 100000 in
set_option maxHeartbeats 1000000 in
theorem rate_numbers (a : Option Addr) (len cap : Nat) (k x : Int) (w : World) (hr : IntRow w a len) (hk : 0 ≤ k ∧ k ≤ 65535) (hx : 0 ≤ x ∧ x ≤ 4294967295) :
    Calls Try.prog 5 #[.slice a len cap, .int .u16 k, .int .u32 x] w fun e w' => e = .returned (.bool true) ∧ Below w.heap.size w w' := by
  have QS := hide (fun w => rate_sane w)
  have q1 := fun w => made_light a len cap hr.1 w
  by_cases hl : len ≤ 500
  · rw [decide_eq_true hl] at q1
    have Q1 := hide q1
    have Q2 := hide (made_roll a len cap w hr)
    obtain ⟨x, rfl⟩ : ∃ s' : Nat, x = s' := ⟨x.toNat, by omega⟩
    obtain ⟨k, rfl⟩ : ∃ k' : Nat, k = k' := ⟨k.toNat, by omega⟩
    obtain ⟨hx1, hx2⟩ := hx
    obtain ⟨hk1, hk2⟩ := hk
    clear q1 hl hr
    go_enter Try.func5, Try.ntmps5
    go_wp2_with (first
      | (go_at_call 8; (with_reducible refine (Q1.out _).mono ?_); rintro e w1 ⟨rfl, rfl⟩)
      | (go_at_call 10; (with_reducible refine (Q2.out).mono ?_); rintro e w1 ⟨rfl, hd1⟩)
      | (go_at_call 11; (with_reducible refine (made_rate _ hd1).mono ?_); rintro e w2 ⟨⟨n, d, rfl, hok⟩, hd2, hr2⟩;
         (have hb := hd2.low); (have hb0 := hb.alloc hb.size (.cells #[.int .i64 n, .int .i64 d] 27)); (have hc := heap_alloc_new w2 (.cells #[.int .i64 n, .int .i64 d] 27))))
    obtain ⟨a, m, ap, p, q, T1, N1, N2, N3, e1, e2, e3, z1, z2, z3, z4, hq⟩ := num_facts n d k x hok (by omega) (by omega)
    clear hb hd1 hd2 hr2 hok Q1 Q2
    refine (accB hb0 hc (T1.out _)).mono ?_
    clear hb0 hc
    rintro e w3 ⟨rfl, hb, hc⟩
    obtain ⟨c0, c1, f0, f1⟩ := pair_cells hc
    by_cases hqm : q ≤ 16777216
    · obtain ⟨b, u, v, r0, r1, z, T2, y1, y2, y3, y4, y5, y6, y7, y8, y9, y10⟩ := hq hqm
      have dq : decide ((16777216 : Int) < (q : Int)) = false := by simp; omega
      have dz : decide (z ≤ (p : Int)) = true := by simp; omega
      clear hq T1
      rcases y4 with ⟨o1, o2⟩ | ⟨o1, o2⟩ | ⟨o1, o2, o3⟩
      all_goals
        try (subst o1; subst o2)
        go_wp2_with (first
          | (go_at_call 16; (with_reducible refine (accB hb hc (N1.out _)).mono ?_); clear hb hc c0 c1 f0 f1; rintro e w4 ⟨rfl, hb, hc⟩; (obtain ⟨c0, c1, f0, f1⟩ := pair_cells hc))
          | (go_at_call 16; (with_reducible refine (accB hb hc (N2.out _)).mono ?_); clear hb hc c0 c1 f0 f1; rintro e w5 ⟨rfl, hb, hc⟩; (obtain ⟨c0, c1, f0, f1⟩ := pair_cells hc))
          | (go_at_call 16; (with_reducible refine (accB hb hc (N3.out _)).mono ?_); clear hb hc c0 c1 f0 f1; rintro e w6 ⟨rfl, hb, hc⟩; (obtain ⟨c0, c1, f0, f1⟩ := pair_cells hc))
          | (go_at_call 13; (with_reducible refine (accB hb hc (T2.out _)).mono ?_); clear hb hc c0 c1 f0 f1; rintro e w7 ⟨rfl, hb, hc⟩; (obtain ⟨c0, c1, f0, f1⟩ := pair_cells hc))
          | (go_at_call 9; (with_reducible refine (accB hb hc (QS.out _)).mono ?_); clear hb hc c0 c1 f0 f1; rintro e w10 ⟨rfl, hb, hc⟩))
        go_ret
        exact ⟨rfl, hb⟩
    · have dq : decide ((16777216 : Int) < (q : Int)) = true := by simp; omega
      clear hq T1
      go_wp2_with (first
        | (go_at_call 16; (with_reducible refine (accB hb hc (N1.out _)).mono ?_); clear hb hc c0 c1 f0 f1; rintro e w4 ⟨rfl, hb, hc⟩; (obtain ⟨c0, c1, f0, f1⟩ := pair_cells hc))
        | (go_at_call 16; (with_reducible refine (accB hb hc (N2.out _)).mono ?_); clear hb hc c0 c1 f0 f1; rintro e w5 ⟨rfl, hb, hc⟩; (obtain ⟨c0, c1, f0, f1⟩ := pair_cells hc))
        | (go_at_call 16; (with_reducible refine (accB hb hc (N3.out _)).mono ?_); clear hb hc c0 c1 f0 f1; rintro e w6 ⟨rfl, hb, hc⟩; (obtain ⟨c0, c1, f0, f1⟩ := pair_cells hc))
        | (go_at_call 9; (with_reducible refine (accB hb hc (QS.out _)).mono ?_); clear hb hc c0 c1 f0 f1; rintro e w10 ⟨rfl, hb, hc⟩))
      go_ret
      exact ⟨rfl, hb⟩
  · rw [decide_eq_false hl] at q1
    have Q1 := hide q1
    clear q1 hl hr hx hk
    go_enter Try.func5, Try.ntmps5
    go_wp2_with (first
      | (go_at_call 8; (with_reducible refine (Q1.out _).mono ?_); rintro e w1 ⟨rfl, rfl⟩)
      | (go_at_call 9; (with_reducible refine (QS.out _).mono ?_); rintro e w1 ⟨rfl, hb⟩))
    go_ret
    exact ⟨rfl, hb⟩
end Go.Proofs.Ytmhbncpiloffgaa
