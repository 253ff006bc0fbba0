/- The walk of the statement ClockNarrows. -/
import Derived.Test.YtecoemdhnphmdaaClockTrueLaw
namespace Go.Proofs.Ytecoemdhnphmdaa
open Go.RowKit
set_option linter.unusedVariables false
set_option linter.unusedSimpArgs false
theorem AncRow.less {w : World} {p : Option Addr} {n j : Nat} {A : Nat → Anc} (h : AncRow w p n A) (hj : j ≤ n) : AncRow w p j A := by
  rcases h with rfl | ⟨b, off, rfl, h⟩
  · exact .inl (by omega)
  · exact .inr ⟨b, off, rfl, fun i hi => h i (by omega)⟩
theorem AncL.less {n j : Nat} {A : Nat → Anc} (h : AncL n A) (hj : j ≤ n) : AncL j A := ⟨by have := h.few; omega, fun i hi => h.one i (by omega), fun i h0 hi => h.up i h0 (by omega)⟩
theorem corO_wide {A : Nat → Anc} {n j : Nat} {x y t : Int} (he : ∀ i, i < n → evenAt (A i)) (hn : 0 < j) (hjn : j = n ∨ n = j + 1) (hx : 0 ≤ x) (hxy : x ≤ y) (hy : y ≤ 500000) (ht : 0 ≤ t ∧ t ≤ 131070) : corO A n x t ≤ corO A j y t := by
  obtain ⟨h1, h2, h3, h4⟩ := even_cor he (by omega) ⟨hx, by omega⟩ ht
  obtain ⟨k1, k2, k3, k4⟩ := even_cor (A := A) (n := j) (fun i hi => he i (by omega)) hn ⟨by omega, hy⟩ ht
  have d := com_drift A t hx hxy hy j
  have hl : comLo A x t 0 j ≤ comLo A x t 0 n ∧ comHi A x t 0 n ≤ comHi A x t 0 j := by
    rcases hjn with rfl | rfl
    · omega
    · exact com_less A x t j
  have hle : corLo A n x t ≤ corHi A n x t := by omega
  have hle2 : corLo A j y t ≤ corHi A j y t := by omega
  unfold corO
  rw [if_pos hle, if_pos hle2]
  omega
set_option maxHeartbeats 4000000 in
set_option maxRecDepth 100000 in
theorem clock_narrows (a : Option Addr) (len cap : Nat) (m r : Int) (W : World) (hr : IntRow W a len) (hm : 0 ≤ m ∧ m ≤ 65535) (hq : 0 ≤ r ∧ r ≤ 65535) :
    Calls Try.prog 5 #[.slice a len cap, .int .u16 m, .int .u16 r] W fun e w' => e = .returned (.bool true) ∧ Below W.heap.size W w' := by
  have QS := hide (fun w => clock_sane w)
  have q1 := fun w => made_light a len cap hr.1 w
  obtain ⟨m0, m1⟩ := hm
  obtain ⟨r0, r1⟩ := hq
  by_cases hl : len ≤ 500
  · rw [decide_eq_true hl] at q1
    have Q1 := hide q1
    have Q2 := hide (made_roll a len cap W hr)
    clear q1 hl hr
    go_enter Try.func5, Try.ntmps5
    go_wp2_with (first
      | (go_at_call 10; (with_reducible refine (Q1.out _).mono ?_); rintro e w1 ⟨rfl, rfl⟩)
      | (go_at_call 12; (with_reducible refine (Q2.out).mono ?_); rintro e w1 ⟨rfl, hd1⟩))
    go_at_call 13
    refine (made_anchors false _ hd1).mono ?_
    rintro e w2 ⟨⟨L, x, tg, at', p, c, rfl, x0, x1, hL5, hspec, hrow, hc1, hc2⟩, hd2, hr2⟩
    have HB := hide (hd2.low)
    have hAL := hspec.ancL hL5
    have hEv := hspec.even
    clear hd1 hd2 hr2 hspec Q1 Q2
    generalize ancAt L = A at *
    generalize L.length = n at *
    by_cases hn : n < 2
    · have d1 : decide ((n : Int) < 2) = true := by simp; omega
      have d1' : decide (n < 2) = true := by simp; omega
      clear hAL hEv hrow hc1 hc2
      go_wp2_with (first
        | (go_at_call 11; (with_reducible refine (QS.out _).mono ?_); rintro e w4 ⟨rfl, hb⟩; (have HB := hide (HB.out.trans (hb.mono HB.out.size))); clear hb))
      go_ret
      exact ⟨rfl, HB.out⟩
    · obtain ⟨j, hj⟩ : ∃ j, n = j + 1 := ⟨n - 1, by omega⟩
      have hj1 : 1 ≤ j := by omega
      have q3 := fun (w : World) (hw : AncRow w p n A) => correct_ok A n p c x (m * 2) hAL (by omega) hc1 hc2 ⟨by omega, by omega⟩ ⟨by omega, by omega⟩ w hw
      have q4 := fun (w : World) (hw : AncRow w p n A) => correct_ok A j p c x (m * 2) (hAL.less (by omega)) (by omega) (by omega) hc2 ⟨by omega, by omega⟩ ⟨by omega, by omega⟩ w (hw.less (by omega))
      have q5 := fun (w : World) (hw : AncRow w p n A) => correct_ok A n p c (x + r) (m * 2) hAL (by omega) hc1 hc2 ⟨by omega, by omega⟩ ⟨by omega, by omega⟩ w hw
      obtain ⟨t1, -⟩ := true_facts (x := x) (t := m * 2) hEv (by omega) ⟨by omega, by omega⟩ ⟨by omega, by omega⟩
      obtain ⟨u1, -⟩ := true_facts (A := A) (n := j) (x := x) (t := m * 2) (fun i hi => hEv i (by omega)) (by omega) ⟨by omega, by omega⟩ ⟨by omega, by omega⟩
      obtain ⟨v1, -⟩ := true_facts (x := x + r) (t := m * 2) hEv (by omega) ⟨by omega, by omega⟩ ⟨by omega, by omega⟩
      have w1 := corO_wide (j := j) (y := x) (t := m * 2) hEv (by omega) (.inr hj) x0 (by omega) (by omega) ⟨by omega, by omega⟩
      have w3 := corO_wide (j := n) (y := x + r) (t := m * 2) hEv (by omega) (.inl rfl) x0 (by omega) (by omega) ⟨by omega, by omega⟩
      rw [t1] at q3
      rw [u1] at q4
      rw [v1] at q5
      generalize corO A n x (m * 2) = O1 at *
      generalize corT A n x (m * 2) = T1 at *
      generalize corO A j x (m * 2) = O2 at *
      generalize corT A j x (m * 2) = T2 at *
      generalize corO A n (x + r) (m * 2) = O3 at *
      generalize corT A n (x + r) (m * 2) = T3 at *
      have d1 : decide ((n : Int) < 2) = false := by simp; omega
      have d1' : decide (n < 2) = false := by simp; omega
      have d2 : decide (O1 ≤ O2) = true := by simp; omega
      have d3 : decide (O1 ≤ O3) = true := by simp; omega
      have e1 : ((n : Int) - 1) = (j : Int) := by omega
      have e2 : (j : Int) ≤ (c : Int) := by omega
      have e3 : (0 : Int) ≤ (j : Int) := by omega
      have HROW := hide hrow
      have Q3 := hide q3
      have Q4 := hide q4
      have Q5 := hide q5
      have HJ := hide hj
      clear q3 q4 q5 hAL hEv hrow hc1 hc2 t1 u1 v1 w1 w3 hj
      go_wp2_with (first
        | (go_at_call 15; (with_reducible refine (Q3.out _ ?_).mono ?_); (focus exact HROW.out); rintro e w3 ⟨rfl, hb⟩; (have HROW := hide (HROW.out.keep hb)); (have HB := hide (HB.out.trans (hb.mono HB.out.size))); clear hb)
        | (go_at_call 15; (with_reducible refine (Q4.out _ ?_).mono ?_); (focus exact HROW.out); rintro e w3 ⟨rfl, hb⟩; (have HROW := hide (HROW.out.keep hb)); (have HB := hide (HB.out.trans (hb.mono HB.out.size))); clear hb)
        | (go_at_call 15; (with_reducible refine (Q5.out _ ?_).mono ?_); (focus exact HROW.out); rintro e w3 ⟨rfl, hb⟩; (have HROW := hide (HROW.out.keep hb)); (have HB := hide (HB.out.trans (hb.mono HB.out.size))); clear hb)
        | (go_at_call 11; (with_reducible refine (QS.out _).mono ?_); rintro e w5 ⟨rfl, hb⟩; (have HB := hide (HB.out.trans (hb.mono HB.out.size))); clear hb))
      go_ret
      exact ⟨rfl, HB.out⟩
  · rw [decide_eq_false hl] at q1
    have Q1 := hide q1
    clear q1 hl hr
    go_enter Try.func5, Try.ntmps5
    go_wp2_with (first
      | (go_at_call 10; (with_reducible refine (Q1.out _).mono ?_); rintro e w1 ⟨rfl, rfl⟩)
      | (go_at_call 11; (with_reducible refine (QS.out _).mono ?_); rintro e w1 ⟨rfl, hb⟩))
    go_ret
    exact ⟨rfl, hb⟩
end Go.Proofs.Ytecoemdhnphmdaa
