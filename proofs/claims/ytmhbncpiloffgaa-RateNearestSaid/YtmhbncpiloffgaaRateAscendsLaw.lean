/- The walk of RateAscends. -/
import Derived.Test.YtmhbncpiloffgaaRateMath
import Derived.Test.YtmhbncpiloffgaaRateSane
import Derived.Test.YtmhbncpiloffgaaDiceRate
namespace Go.Proofs.Ytmhbncpiloffgaa
open Go.RowKit
set_option linter.unusedVariables false
set_option linter.unusedSimpArgs false

theorem after_le_small (n d k : Nat) (hn : 1 ≤ n) (hd : d ≤ 4096) (hk : k ≤ 70000) : afterN n d k ≤ 70000 * 4096000000 := by
  unfold afterN
  exact Nat.le_trans (Nat.div_le_self _ _) (Nat.mul_le_mul hk (by omega))
theorem asc_facts (n d s k : Nat) (hok : RateOk n d) (hs : s ≤ 4294967295) (hk : k ≤ 65535) : ∃ a b c k1 kn a1 b1 p g g1 t : Nat,
    Hid (∀ w, Calls Try.prog 13 #[.int .i64 s, .agg #[.int .i64 n, .int .i64 d], .int .i64 k] w fun e w' => e = .returned (.tuple #[.int .i64 a, .int .i64 0]) ∧ Below w.heap.size w w') ∧
    Hid (∀ w, Calls Try.prog 13 #[.int .i64 s, .agg #[.int .i64 n, .int .i64 d], .int .i64 k1] w fun e w' => e = .returned (.tuple #[.int .i64 b, .int .i64 0]) ∧ Below w.heap.size w w') ∧
    Hid (∀ w, Calls Try.prog 13 #[.int .i64 s, .agg #[.int .i64 n, .int .i64 d], .int .i64 kn] w fun e w' => e = .returned (.tuple #[.int .i64 c, .int .i64 0]) ∧ Below w.heap.size w w') ∧
    Hid (∀ w, Calls Try.prog 14 #[.int .i64 s, .agg #[.int .i64 n, .int .i64 d], .int .i64 a] w fun e w' => e = .returned (.tuple #[.int .i64 k, .int .i64 0]) ∧ Below w.heap.size w w') ∧
    Hid (∀ w, Calls Try.prog 15 #[.int .i64 s, .agg #[.int .i64 n, .int .i64 d], .int .i64 a] w fun e w' => e = .returned (.tuple #[.int .i64 k, .int .i64 0]) ∧ Below w.heap.size w w') ∧
    Hid (∀ w, Calls Try.prog 14 #[.int .i64 s, .agg #[.int .i64 n, .int .i64 d], .int .i64 b1] w fun e w' => e = .returned (.tuple #[.int .i64 k, .int .i64 0]) ∧ Below w.heap.size w w') ∧
    Hid (∀ w, Calls Try.prog 15 #[.int .i64 s, .agg #[.int .i64 n, .int .i64 d], .int .i64 a1] w fun e w' => e = .returned (.tuple #[.int .i64 k1, .int .i64 0]) ∧ Below w.heap.size w w') ∧
    (k : Int) + 1 = k1 ∧ (k : Int) + n = kn ∧ (a : Int) + 1 = a1 ∧ (b : Int) - 1 = b1 ∧ (d : Int) * 1000000 = p ∧ (p : Int) / n = g ∧ (c : Int) - a = p ∧ (g : Int) + 1 = g1 ∧ (b : Int) - a = t ∧ Hid (t = g ∨ t = g1) ∧
    n ≠ 0 ∧ k1 ≤ 65536 ∧ n ≤ 4096 ∧ d ≤ 4096 ∧ a1 ≤ 600000000000000 ∧ b ≤ 600000000000000 ∧ c ≤ 600000000000000 ∧ g ≤ p := by
  have hok' := hok
  obtain ⟨r1, r2, r3, r4, r5⟩ := hok'
  have n1 : 1 ≤ n := by omega
  have n2 : n ≤ 4096 := by omega
  have d1 : 1 ≤ d := by omega
  have d2 : d ≤ 4096 := by omega
  have A := after_le_small n d k n1 d2 (by omega)
  have B := after_le_small n d (k + 1) n1 d2 (by omega)
  have C := after_le_small n d (k + n) n1 d2 (by omega)
  have S := after_succ n d k n1 n2 d1
  have P := after_period n d k n1
  have D := after_add n d k n1
  have X := ceil_of_after n d k n1 n2 d1
  have X1 := ceil_of_after1 n d k n1 n2 d1
  have Y := ceil_of_after n d (k + 1) n1 n2 d1
  have tA := fun w => rate_time_ok n d s k hok (by omega) (by omega) w
  have tB := fun w => rate_time_ok n d s (k + 1) hok (by omega) (by omega) w
  have tC := fun w => rate_time_ok n d s (k + n) hok (by omega) (by omega) w
  have iA := fun w => rate_index_in n d s (s + afterN n d k) hok (by omega) (by omega) (by omega) w
  have nA := fun w => rate_next_ok n d s (s + afterN n d k) hok (by omega) (by omega) (by omega) (by rw [Nat.add_sub_cancel_left, X]; omega) w
  have iB := fun w => rate_index_in n d s (s + afterN n d (k + 1) - 1) hok (by omega) (by omega) (by omega) w
  have nB := fun w => rate_next_ok n d s (s + afterN n d k + 1) hok (by omega) (by omega) (by omega) (by rw [show s + afterN n d k + 1 - s = afterN n d k + 1 by omega, X1]; omega) w
  have e1 : idxN n d (s + afterN n d k - s) = k := by rw [Nat.add_sub_cancel_left]; unfold idxN; rw [X1]; omega
  have e2 : idxN n d (s + afterN n d (k + 1) - 1 - s) = k := by
    rw [show s + afterN n d (k + 1) - 1 - s = afterN n d (k + 1) - 1 by omega]
    unfold idxN
    rw [show afterN n d (k + 1) - 1 + 1 = afterN n d (k + 1) by omega, Y]; omega
  rw [e1] at iA
  rw [e2] at iB
  rw [Nat.add_sub_cancel_left, X] at nA
  rw [show s + afterN n d k + 1 - s = afterN n d k + 1 by omega, X1] at nB
  have hg : d * 1000000 / n ≤ d * 1000000 := Nat.div_le_self _ _
  refine ⟨s + afterN n d k, s + afterN n d (k + 1), s + afterN n d (k + n), k + 1, k + n, s + afterN n d k + 1, s + afterN n d (k + 1) - 1, d * 1000000, d * 1000000 / n, d * 1000000 / n + 1, afterN n d (k + 1) - afterN n d k,
    tA, tB, tC, iA, nA, iB, nB, by omega, by omega, by omega, by omega, by omega, rfl, by omega, by omega, by omega, ?_, by omega, by omega, by omega, by omega, by omega, by omega, by omega, hg⟩
  show _ ∨ _
  omega
set_option maxRecDepth 100000 in
set_option maxHeartbeats 600000 in
theorem rate_ascends (a : Option Addr) (len cap : Nat) (s k : Int) (w : World) (hr : IntRow w a len) (hs : 0 ≤ s ∧ s ≤ 4294967295) (hk : 0 ≤ k ∧ k ≤ 65535) :
    Calls Try.prog 4 #[.slice a len cap, .int .u32 s, .int .u16 k] w fun e w' => e = .returned (.bool true) ∧ Below w.heap.size w w' := by
  have QS := hide (fun w => rate_sane w)
  have q1 := fun w => made_light a len cap hr.1 w
  by_cases hl : len ≤ 500
  · rw [decide_eq_true hl] at q1
    have Q1 := hide q1
    have Q2 := hide (made_roll a len cap w hr)
    obtain ⟨s, rfl⟩ : ∃ s' : Nat, s = s' := ⟨s.toNat, by omega⟩
    obtain ⟨k, rfl⟩ : ∃ k' : Nat, k = k' := ⟨k.toNat, by omega⟩
    obtain ⟨hs1, hs2⟩ := hs
    obtain ⟨hk1, hk2⟩ := hk
    clear q1 hl hr
    go_enter Try.func4, Try.ntmps4
    go_wp2_with (first
      | (go_at_call 8; (with_reducible refine (Q1.out _).mono ?_); rintro e w1 ⟨rfl, rfl⟩)
      | (go_at_call 10; (with_reducible refine (Q2.out).mono ?_); rintro e w1 ⟨rfl, hd1⟩)
      | (go_at_call 11; (with_reducible refine (made_rate _ hd1).mono ?_); rintro e w2 ⟨⟨n, d, rfl, hok⟩, hd2, hr2⟩;
         (have hb := hd2.low); (have hb0 := hb.alloc hb.size (.cells #[.int .i64 n, .int .i64 d] 27)); (have hc := heap_alloc_new w2 (.cells #[.int .i64 n, .int .i64 d] 27))))
    obtain ⟨a, b, c, k1, kn, a1, b1, p, g, g1, t, T1, T2, T3, I1, N1, I2, N2, e1, e2, e3, e4, e5, e6, e7, e8, e9, ht, z0, z1, z2, z3, z4, z5, z6, z7⟩ := asc_facts n d s k hok (by omega) (by omega)
    have hn0 : (n : Int) ≠ 0 := by omega
    clear hb hd1 hd2 hr2 hok Q1 Q2
    refine (accB hb0 hc (T1.out _)).mono ?_
    clear hb0 hc
    rintro e w3 ⟨rfl, hb, hc⟩
    obtain ⟨c0, c1, f0, f1⟩ := pair_cells hc
    by_cases hg : t = g
    · have y1 : ((t : Int) == (g : Int)) = true := by rw [beq_iff_eq]; omega
      have y1n : (t == g) = true := by rw [beq_iff_eq]; omega
      clear hg ht
      go_wp2_with (first
        | (go_at_call 13; (with_reducible refine (accB hb hc (T2.out _)).mono ?_); clear hb hc c0 c1 f0 f1; rintro e w4 ⟨rfl, hb, hc⟩; (obtain ⟨c0, c1, f0, f1⟩ := pair_cells hc))
        | (go_at_call 13; (with_reducible refine (accB hb hc (T3.out _)).mono ?_); clear hb hc c0 c1 f0 f1; rintro e w5 ⟨rfl, hb, hc⟩; (obtain ⟨c0, c1, f0, f1⟩ := pair_cells hc))
        | (go_at_call 14; (with_reducible refine (accB hb hc (I1.out _)).mono ?_); clear hb hc c0 c1 f0 f1; rintro e w6 ⟨rfl, hb, hc⟩; (obtain ⟨c0, c1, f0, f1⟩ := pair_cells hc))
        | (go_at_call 15; (with_reducible refine (accB hb hc (N1.out _)).mono ?_); clear hb hc c0 c1 f0 f1; rintro e w7 ⟨rfl, hb, hc⟩; (obtain ⟨c0, c1, f0, f1⟩ := pair_cells hc))
        | (go_at_call 14; (with_reducible refine (accB hb hc (I2.out _)).mono ?_); clear hb hc c0 c1 f0 f1; rintro e w8 ⟨rfl, hb, hc⟩; (obtain ⟨c0, c1, f0, f1⟩ := pair_cells hc)))
      go_at_call 15
      refine (accB hb hc (N2.out _)).mono ?_
      clear hb hc c0 c1 f0 f1
      rintro e w9 ⟨rfl, hb, hc⟩
      obtain ⟨c0, c1, f0, f1⟩ := pair_cells hc
      clear T1 T2 T3 I1 N1 I2 N2 e2 e4
      iterate 60 (first | go_values | go_skip | go_guarded | go_step | go_upon | go_back | (simp only [Int.not_lt, Int.not_le] at *; go_simp))
      simp only [List.append_eq, List.cons_append, List.nil_append]
      go_wp2_with (first
        | (go_at_call 9; (with_reducible refine (accB hb hc (QS.out _)).mono ?_); clear hb hc c0 c1 f0 f1; rintro e w10 ⟨rfl, hb, hc⟩))
      go_ret
      exact ⟨rfl, hb⟩
    · have y1 : ((t : Int) == (g : Int)) = false := by rw [beq_eq_false_iff_ne]; omega
      have y1n : (t == g) = false := by rw [beq_eq_false_iff_ne]; omega
      have y2 : ((t : Int) == (g1 : Int)) = true := by rw [beq_iff_eq]; have := ht.out; omega
      have y2n : (t == g1) = true := by rw [beq_iff_eq]; have := ht.out; omega
      clear hg ht
      go_wp2_with (first
        | (go_at_call 13; (with_reducible refine (accB hb hc (T2.out _)).mono ?_); clear hb hc c0 c1 f0 f1; rintro e w4 ⟨rfl, hb, hc⟩; (obtain ⟨c0, c1, f0, f1⟩ := pair_cells hc))
        | (go_at_call 13; (with_reducible refine (accB hb hc (T3.out _)).mono ?_); clear hb hc c0 c1 f0 f1; rintro e w5 ⟨rfl, hb, hc⟩; (obtain ⟨c0, c1, f0, f1⟩ := pair_cells hc))
        | (go_at_call 14; (with_reducible refine (accB hb hc (I1.out _)).mono ?_); clear hb hc c0 c1 f0 f1; rintro e w6 ⟨rfl, hb, hc⟩; (obtain ⟨c0, c1, f0, f1⟩ := pair_cells hc))
        | (go_at_call 15; (with_reducible refine (accB hb hc (N1.out _)).mono ?_); clear hb hc c0 c1 f0 f1; rintro e w7 ⟨rfl, hb, hc⟩; (obtain ⟨c0, c1, f0, f1⟩ := pair_cells hc))
        | (go_at_call 14; (with_reducible refine (accB hb hc (I2.out _)).mono ?_); clear hb hc c0 c1 f0 f1; rintro e w8 ⟨rfl, hb, hc⟩; (obtain ⟨c0, c1, f0, f1⟩ := pair_cells hc)))
      go_at_call 15
      refine (accB hb hc (N2.out _)).mono ?_
      clear hb hc c0 c1 f0 f1
      rintro e w9 ⟨rfl, hb, hc⟩
      obtain ⟨c0, c1, f0, f1⟩ := pair_cells hc
      clear T1 T2 T3 I1 N1 I2 N2 e2 e4
      iterate 60 (first | go_values | go_skip | go_guarded | go_step | go_upon | go_back | (simp only [Int.not_lt, Int.not_le] at *; go_simp))
      simp only [List.append_eq, List.cons_append, List.nil_append]
      go_wp2_with (first
        | (go_at_call 9; (with_reducible refine (accB hb hc (QS.out _)).mono ?_); clear hb hc c0 c1 f0 f1; rintro e w10 ⟨rfl, hb, hc⟩))
      go_ret
      exact ⟨rfl, hb⟩
  · rw [decide_eq_false hl] at q1
    have Q1 := hide q1
    clear q1 hl hr hs hk
    go_enter Try.func4, Try.ntmps4
    go_wp2_with (first
      | (go_at_call 8; (with_reducible refine (Q1.out _).mono ?_); rintro e w1 ⟨rfl, rfl⟩)
      | (go_at_call 9; (with_reducible refine (QS.out _).mono ?_); rintro e w1 ⟨rfl, hb⟩))
    go_ret
    exact ⟨rfl, hb⟩
end Go.Proofs.Ytmhbncpiloffgaa
