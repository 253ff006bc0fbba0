/- The walk of RateSlower. -/
import Derived.Test.YtmhbncpiloffgaaRateAscendsLaw
import Derived.Test.YtmhbncpiloffgaaRateSlow
namespace Go.Proofs.Ytmhbncpiloffgaa
open Go.RowKit
set_option linter.unusedVariables false
set_option linter.unusedSimpArgs false

theorem slow_after (n d f k : Nat) (hn : 1 ≤ n) : afterN (n / Nat.gcd n f) (d * (f / Nat.gcd n f)) k = afterN n d (k * f) := by
  have gp : 0 < Nat.gcd n f := Nat.gcd_pos_of_pos_left _ (by omega)
  have h1 := Nat.div_mul_cancel (Nat.gcd_dvd_left n f)
  have h2 := Nat.div_mul_cancel (Nat.gcd_dvd_right n f)
  generalize Nat.gcd n f = g at *
  generalize n / g = n1 at *
  generalize f / g = f1 at *
  subst h1; subst h2
  unfold afterN
  have e : k * (f1 * g) * (d * 1000000) = k * (d * f1 * 1000000) * g := by
    simp only [Nat.mul_assoc, Nat.mul_comm, Nat.mul_left_comm]
  rw [e, Nat.mul_div_mul_right _ _ gp]
theorem slow_facts (n d f s k : Nat) (hok : RateOk n d) (hf : 1 ≤ f ∧ f ≤ 8) (hs : s ≤ 4294967295) (hk : k ≤ 65535) (hout : RateOk (n / Nat.gcd n f : Nat) (d * (f / Nat.gcd n f) : Nat)) : ∃ n1 d1 kf a : Nat,
    Hid (∀ w, Calls Try.prog 18 #[.agg #[.int .i64 n, .int .i64 d], .int .i64 f] w fun e w' => e = .returned (.tuple #[.agg #[.int .i64 n1, .int .i64 d1], .int .i64 0]) ∧ Below w.heap.size w w') ∧
    Hid (∀ w, Calls Try.prog 13 #[.int .i64 s, .agg #[.int .i64 n1, .int .i64 d1], .int .i64 k] w fun e w' => e = .returned (.tuple #[.int .i64 a, .int .i64 0]) ∧ Below w.heap.size w w') ∧
    Hid (∀ w, Calls Try.prog 13 #[.int .i64 s, .agg #[.int .i64 n, .int .i64 d], .int .i64 kf] w fun e w' => e = .returned (.tuple #[.int .i64 a, .int .i64 0]) ∧ Below w.heap.size w w') ∧
    (k : Int) * f = kf ∧ kf ≤ 600000 := by
  have hm : k * f ≤ 65535 * 8 := Nat.mul_le_mul hk hf.2
  have e := slow_after n d f k (by have := hok.1; omega)
  have tA := fun w => rate_time_ok _ _ s k hout (by omega) (by omega) w
  have tB := fun w => rate_time_ok n d s (k * f) hok (by omega) (by omega) w
  rw [e] at tA
  exact ⟨_, _, k * f, _, fun w => rate_slower_ok n d f hok ⟨hf.1, by omega⟩ hout w, tA, tB, (Int.natCast_mul k f).symm, by omega⟩
set_option maxRecDepth 100000 in
set_option maxHeartbeats 1000000 in
theorem rate_slower (a : Option Addr) (len cap : Nat) (s k : Int) (w : World) (hr : IntRow w a len) (hs : 0 ≤ s ∧ s ≤ 4294967295) (hk : 0 ≤ k ∧ k ≤ 65535) :
    Calls Try.prog 6 #[.slice a len cap, .int .u32 s, .int .u16 k] w fun e w' => e = .returned (.bool true) ∧ Below w.heap.size w w' := by
  have QS := hide (fun w => rate_sane w)
  have q1 := fun w => made_light a len cap hr.1 w
  by_cases hl : len ≤ 500
  · rw [decide_eq_true hl] at q1
    have Q1 := hide q1
    have Q2 := hide (made_roll a len cap w hr)
    obtain ⟨s, rfl⟩ : ∃ s' : Nat, s = s' := ⟨s.toNat, by omega⟩
    obtain ⟨k, rfl⟩ : ∃ k' : Nat, k = k' := ⟨k.toNat, by omega⟩
    obtain ⟨hs1, hs2⟩ := hs
    obtain ⟨hk1, hk2⟩ := hk
    clear q1 hl hr
    go_enter Try.func6, Try.ntmps6
    go_wp2_with (first
      | (go_at_call 8; (with_reducible refine (Q1.out _).mono ?_); rintro e w1 ⟨rfl, rfl⟩)
      | (go_at_call 10; (with_reducible refine (Q2.out).mono ?_); rintro e w1 ⟨rfl, hd1⟩)
      | (go_at_call 11; (with_reducible refine (made_rate _ hd1).mono ?_); rintro e w2 ⟨⟨n, d, rfl, hok⟩, hd2, hr2⟩;
         (have hd3 := hd2.alloc (.cells #[.int .i64 n, .int .i64 d] 27)); (have hc := heap_alloc_new w2 (.cells #[.int .i64 n, .int .i64 d] 27)); (have hne := hd2.lt); clear hd1)
      | (go_at_call 17; (with_reducible refine (made_next _ _ _ _ _ 8 ?_ _ hd3).mono ?_); (focus omega); rintro e w3 ⟨⟨x, rfl, x0, x1⟩, hd4, hr4⟩;
         (have hc3 := (hr4.block w2.heap.size (by simp) (by omega)).trans hc); (have hb := hd4.low);
         (obtain ⟨f, hf⟩ : ∃ f : Nat, 1 + x = (f : Int) := ⟨(1 + x).toNat, by omega⟩); (have hfb : 1 ≤ f ∧ f ≤ 8 := by omega); (obtain ⟨c0, c1, f0, f1⟩ := pair_cells hc3)))
    clear hd2 hd3 hd4 hr2 hr4 Q1 Q2 hc
    by_cases hout : RateOk (n / Nat.gcd n f : Nat) (d * (f / Nat.gcd n f) : Nat)
    · obtain ⟨n1, d1, kf, t, S1, T1, T2, e1, e2⟩ := slow_facts n d f s k hok hfb (by omega) (by omega) hout
      obtain ⟨hf1, hf2⟩ := hfb
      clear hok hout
      refine (S1.out _).mono ?_
      rintro e w4 ⟨rfl, hb4⟩
      have hb5 := (hb.trans (hb4.mono hb.size)).alloc (Nat.le_trans hb.size hb4.size) (.cells #[.int .i64 n1, .int .i64 d1] 27)
      have hc4 := keepC (below1 (.cells #[.int .i64 n1, .int .i64 d1] 27)) (keepC hb4 hc3)
      have hy := heap_alloc_new w4 (.cells #[.int .i64 n1, .int .i64 d1] 27)
      obtain ⟨y0, y1, -, -⟩ := pair_cells hy
      clear hb4 hc3 hb c0 c1 f0 f1 S1
      go_wp2_with (first
        | (go_at_call 13; (with_reducible refine (T1.out _).mono ?_); rintro e w5 ⟨rfl, hb6⟩; (have hb := hb5.trans (hb6.mono hb5.size)); (have hc := keepC hb6 hc4); clear hb6 hc4 hy hb5 y0 y1; (obtain ⟨c0, c1, f0, f1⟩ := pair_cells hc))
        | (go_at_call 13; (with_reducible refine (accB hb hc (T2.out _)).mono ?_); clear hb hc c0 c1 f0 f1; rintro e w6 ⟨rfl, hb, hc⟩)
        | (go_at_call 9; (with_reducible refine (acc hb (QS.out _)).mono ?_); clear hb; rintro e w10 ⟨rfl, hb⟩))
      go_ret
      exact ⟨rfl, hb⟩
    · have S1 := hide (fun w => rate_slower_no n d f hok ⟨hfb.1, by omega⟩ hout w)
      obtain ⟨hf1, hf2⟩ := hfb
      clear hok hout
      refine (S1.out _).mono ?_
      rintro e w4 ⟨rfl, hb4⟩
      have hb5 := (hb.trans (hb4.mono hb.size)).alloc (Nat.le_trans hb.size hb4.size) (.cells #[.int .i64 0, .int .i64 0] 27)
      clear hb4 hc3 hb c0 c1 f0 f1 S1
      go_wp2_with (first
        | (go_at_call 9; (with_reducible refine (acc hb5 (QS.out _)).mono ?_); rintro e w10 ⟨rfl, hb⟩))
      go_ret
      exact ⟨rfl, hb⟩
  · rw [decide_eq_false hl] at q1
    have Q1 := hide q1
    clear q1 hl hr hs hk
    go_enter Try.func6, Try.ntmps6
    go_wp2_with (first
      | (go_at_call 8; (with_reducible refine (Q1.out _).mono ?_); rintro e w1 ⟨rfl, rfl⟩)
      | (go_at_call 9; (with_reducible refine (QS.out _).mono ?_); rintro e w1 ⟨rfl, hb⟩))
    go_ret
    exact ⟨rfl, hb⟩
end Go.Proofs.Ytmhbncpiloffgaa
