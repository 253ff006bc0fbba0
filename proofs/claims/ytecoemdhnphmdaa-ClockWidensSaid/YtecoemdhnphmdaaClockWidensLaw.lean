/- The walk of the statement ClockWidens. -/
import Derived.Test.YtecoemdhnphmdaaClockSane
namespace Go.Proofs.Ytecoemdhnphmdaa
open Go.RowKit
set_option linter.unusedVariables false
set_option linter.unusedSimpArgs false
set_option maxHeartbeats 4000000 in
set_option maxRecDepth 100000 in
theorem clock_widens (a b d m : Int) (ha : 0 ≤ a ∧ a ≤ 4294967295) (hb : 0 ≤ b ∧ b ≤ 65535) (hd : 0 ≤ d ∧ d ≤ 4294967295) (hm : 0 ≤ m ∧ m ≤ 4294967295) (W : World) :
    Calls Try.prog 6 #[.int .u32 a, .int .u16 b, .int .u32 d, .int .u32 m] W fun e w' => e = .returned (.bool true) ∧ Below W.heap.size W w' := by
  obtain ⟨a0, a1⟩ := ha
  obtain ⟨b0, b1⟩ := hb
  obtain ⟨d0, d1⟩ := hd
  obtain ⟨m0, m1⟩ := hm
  obtain ⟨x, hx⟩ : ∃ x : Int, d % 500001 = x := ⟨_, rfl⟩
  obtain ⟨r, hr⟩ : ∃ r : Int, m % 5000 = r := ⟨_, rfl⟩
  have x0 : 0 ≤ x := by omega
  have x1 : x ≤ 500000 := by omega
  have r0 : 0 ≤ r := by omega
  have r1 : r ≤ 5000 := by omega
  obtain ⟨z, hz⟩ : ∃ z : Int, z = min (x + r) 500000 := ⟨_, rfl⟩
  have zx : x ≤ z := by omega
  have z1 : z ≤ 500000 := by omega
  have q1 := clk_elapsed x a ⟨x0, x1⟩ ⟨a0, by omega⟩
  have q2 := clk_elapsed x (a + b) ⟨x0, x1⟩ ⟨by omega, by omega⟩
  have q3 := clk_elapsed z a ⟨by omega, z1⟩ ⟨a0, by omega⟩
  have f1 := eLow_low x a x0
  have f2 := eHigh_high x a x1
  have f3 := eLow_mono x a (a + b) x0 (by omega)
  have f4 := eHigh_mono x a (a + b) x1 (by omega)
  have f5 := eLow_drift x z a x0 a0 zx
  have f6 := eHigh_drift x z a x0 z1 a0 zx
  have f7 := eLow_bounds x a x0 a0
  have f8 := eHigh_bounds x a x0 x1 a0
  generalize eLow x a = lo at *
  generalize eHigh x a = hi at *
  generalize eLow x (a + b) = l at *
  generalize eHigh x (a + b) = h at *
  generalize eLow z a = p at *
  generalize eHigh z a = q at *
  obtain ⟨s, hs⟩ : ∃ s : Int, 1000000 + x = s := ⟨_, rfl⟩
  obtain ⟨f, hf⟩ : ∃ f : Int, 1000000 - x = f := ⟨_, rfl⟩
  rw [hs] at f1
  rw [hf] at f2
  obtain ⟨P1, hP1⟩ : ∃ P : Int, lo * s = P := ⟨_, rfl⟩
  obtain ⟨P2, hP2⟩ : ∃ P : Int, (lo + 1) * s = P := ⟨_, rfl⟩
  obtain ⟨P3, hP3⟩ : ∃ P : Int, hi * f = P := ⟨_, rfl⟩
  obtain ⟨P4, hP4⟩ : ∃ P : Int, (hi - 1) * f = P := ⟨_, rfl⟩
  have e2 : P2 = P1 + s := by rw [← hP2, ← hP1, Int.add_mul, Int.one_mul]
  have e4 : P4 = P3 - f := by rw [← hP4, ← hP3, Int.sub_mul, Int.one_mul]
  rw [hP1, hP2] at f1
  rw [hP3, hP4] at f2
  have s0 : 1000000 ≤ s := by omega
  have s1 : s ≤ 1500000 := by omega
  have f0 : 500000 ≤ f := by omega
  have f9 : f ≤ 1000000 := by omega
  have p1a : 0 ≤ P1 := by rw [← hP1]; exact Int.mul_nonneg (by omega) (by omega)
  have p1b : P1 ≤ 4294967295000000 := by omega
  have p2a : 0 ≤ P2 := by omega
  have p2b : P2 ≤ 4294977295000000 := by omega
  have p3a : 0 ≤ P3 := by omega
  have p3b : P3 ≤ 4294977295000000 := by omega
  have p4a : -1000000 ≤ P4 := by omega
  have p4b : P4 ≤ 4294977295000000 := by omega
  have t1 : decide (P1 ≤ a * 1000000) = true := by simp; omega
  have t2 : decide (a * 1000000 < P2) = true := by simp; omega
  have t3 : decide (a * 1000000 ≤ P3) = true := by simp; omega
  have t4 : decide (P4 < a * 1000000) = true := by simp; omega
  have t5 : decide (lo ≤ l) = true := by simp; omega
  have t6 : decide (hi ≤ h) = true := by simp; omega
  have t7 : decide (p ≤ lo) = true := by simp; omega
  have t8 : decide (hi ≤ q) = true := by simp; omega
  have t9 : decide (lo ≤ a) = true := by simp; omega
  have t10 : decide (a ≤ hi) = true := by simp; omega
  have lo0 : 0 ≤ lo := by omega
  have lo1 : lo ≤ 4294967295 := by omega
  have hi0 : 0 ≤ hi := by omega
  have hi1 : hi ≤ 8589934590 := by omega
  have Q1 := hide q1
  have Q2 := hide q2
  have Q3 := hide q3
  have hzc : (x + r ≤ 500000 ∧ z = x + r) ∨ (500000 < x + r ∧ z = 500000) := by omega
  have E2 := hide e2
  have E4 := hide e4
  clear q1 q2 q3 f1 f2 f3 f4 f5 f6 f7 f8 hz e2 e4 zx z1
  rcases hzc with ⟨hxr, rfl⟩ | ⟨hxr, rfl⟩
  all_goals
    go_enter Try.func6, Try.ntmps6
    go_wp2_with (first
      | (go_at_call 17; (with_reducible refine (Q1.out _).mono ?_); rintro e w1 ⟨rfl, hb1⟩)
      | (go_at_call 17; (with_reducible refine (acc hb1 (Q2.out _)).mono ?_); rintro e w2 ⟨rfl, hb2⟩)
      | (go_at_call 17; (with_reducible refine (acc hb2 (Q3.out _)).mono ?_); rintro e w3 ⟨rfl, hb3⟩)
      | (go_at_call 11; (with_reducible refine (acc hb3 (clock_sane _)).mono ?_); rintro e w4 ⟨rfl, hb4⟩))
    go_ret
    exact ⟨rfl, hb4⟩
end Go.Proofs.Ytecoemdhnphmdaa
