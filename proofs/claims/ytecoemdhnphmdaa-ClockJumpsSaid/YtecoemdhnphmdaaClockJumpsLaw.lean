/- The walk of the statement ClockJumps. -/
import Derived.Test.YtecoemdhnphmdaaClockSane
import Derived.Test.YtecoemdhnphmdaaDiceB
namespace Go.Proofs.Ytecoemdhnphmdaa
open Go.RowKit
set_option linter.unusedVariables false
set_option linter.unusedSimpArgs false
theorem eLow_zero (d : Int) : eLow 0 d = d := by unfold eLow; omega
theorem eHigh_zero (d : Int) : eHigh 0 d = d := by unfold eHigh; omega
theorem frLo_zero (a : Anc) (t : Int) : frLo a 0 t = a.low + (t - a.tag) := by unfold frLo; rw [eLow_zero, eHigh_zero]; split <;> omega
theorem frHi_zero (a : Anc) (t : Int) : frHi a 0 t = a.high + (t - a.tag) := by unfold frHi; rw [eLow_zero, eHigh_zero]; split <;> omega
def twoA (j v : Int) (i : Nat) : Anc := if i = 0 then ⟨1000, 1000000000000, 1000000000000 + v⟩ else ⟨5000, 1000000004000 + j, 1000000004000 + j + v⟩
theorem twoA_ok {j v : Int} (j0 : 100 ≤ j) (j1 : j ≤ 65635) (v0 : 0 ≤ v) (v1 : v < 40) : AncL 2 (twoA j v) := by
  refine ⟨by omega, fun i hi => ?_, fun i h1 h2 => ?_⟩
  · have : i = 0 ∨ i = 1 := by omega
    rcases this with rfl | rfl
    · unfold twoA AncT; simp; omega
    · unfold twoA AncT; simp; omega
  · have : i = 1 := by omega
    subst this
    unfold twoA; simp
theorem twoA_jumps {j v : Int} (j0 : 100 ≤ j) (j1 : j ≤ 65635) (v0 : 0 ≤ v) (v1 : v < 40) : jumpsF (twoA j v) 0 2 = [1] := by
  have h : agr (twoA j v 0) (twoA j v 1) 0 = false := by
    unfold agr
    rw [decide_eq_false_iff_not, frLo_zero, frHi_zero]
    unfold twoA
    simp
    omega
  show (([] ++ (if 1 ≤ 0 ∧ _ then [0] else [])) ++ (if 1 ≤ 1 ∧ agr (twoA j v 0) (twoA j v 1) 0 = false then [1] else [])) = [1]
  rw [h]
  simp
theorem two_behind {j v k : Int} (j0 : 100 ≤ j) (j1 : j ≤ 65635) (v0 : 0 ≤ v) (v1 : v < 40) (k0 : 0 ≤ k) (k1 : k ≤ 2550) :
    corLo (twoA j v) 2 0 (5000 + k) = 1000000004000 + j + k ∧ corHi (twoA j v) 2 0 (5000 + k) = 1000000004000 + j + k + v := by
  have hb : behF (twoA j v) (5000 + k) 2 = 2 := by
    unfold behF behF behF twoA
    simp
    (repeat' split) <;> omega
  have hw := wit_run (A := twoA j v) (n := 2) (J := [1]) (x := 0) hb (by simp)
  have hr : runF 2 (2 - 1) [1] = (1, 2) := by decide
  rw [hr] at hw
  have e1 : comLo (twoA j v) 0 (5000 + k) 1 (2 - 1) = 1000000004000 + j + k := by
    show max (frLo (twoA j v 1) 0 (5000 + k)) (frLo (twoA j v 1) 0 (5000 + k)) = _
    rw [frLo_zero]; unfold twoA; simp; omega
  have e2 : comHi (twoA j v) 0 (5000 + k) 1 (2 - 1) = 1000000004000 + j + k + v := by
    show min (frHi (twoA j v 1) 0 (5000 + k)) (frHi (twoA j v 1) 0 (5000 + k)) = _
    rw [frHi_zero]; unfold twoA; simp; omega
  simp only [e1, e2] at hw
  unfold corLo corHi
  rw [twoA_jumps j0 j1 v0 v1, hw.1, hw.2]
  omega
theorem two_ahead {j v k : Int} (j0 : 100 ≤ j) (j1 : j ≤ 65635) (v0 : 0 ≤ v) (v1 : v < 40) (k0 : 0 ≤ k) (k1 : k ≤ 850) :
    corLo (twoA j v) 2 0 (999 - k) = 999999999999 - k ∧ corHi (twoA j v) 2 0 (999 - k) = 999999999999 - k + v := by
  have hb : behF (twoA j v) (999 - k) 2 = 0 := by
    unfold behF behF behF twoA
    simp
    (repeat' split) <;> omega
  have hw := wit_run (A := twoA j v) (n := 2) (J := [1]) (x := 0) hb (by simp)
  have hr : runF 2 (0 - 1) [1] = (0, 1) := by decide
  rw [hr] at hw
  have e1 : comLo (twoA j v) 0 (999 - k) 0 (1 - 0) = 999999999999 - k := by
    show max (frLo (twoA j v 0) 0 (999 - k)) (frLo (twoA j v 0) 0 (999 - k)) = _
    rw [frLo_zero]; unfold twoA; simp; omega
  have e2 : comHi (twoA j v) 0 (999 - k) 0 (1 - 0) = 999999999999 - k + v := by
    show min (frHi (twoA j v 0) 0 (999 - k)) (frHi (twoA j v 0) 0 (999 - k)) = _
    rw [frHi_zero]; unfold twoA; simp; omega
  simp only [e1, e2] at hw
  unfold corLo corHi
  rw [twoA_jumps j0 j1 v0 v1, hw.1, hw.2]
  omega
theorem two_between {j v k : Int} (j0 : 100 ≤ j) (j1 : j ≤ 65635) (v0 : 0 ≤ v) (v1 : v < 40) (k0 : 0 ≤ k) (k1 : k ≤ 2550) :
    corLo (twoA j v) 2 0 (1000 + k) = 1000000000000 + k ∧ corHi (twoA j v) 2 0 (1000 + k) = 1000000000000 + j + k + v := by
  have hb : behF (twoA j v) (1000 + k) 2 = 1 := by
    unfold behF behF behF twoA
    simp
    (repeat' split) <;> omega
  have hw := wit_hull (A := twoA j v) (n := 2) (J := [1]) (x := 0) hb (by simp)
  simp only [frLo_zero, frHi_zero] at hw
  have a0 : twoA j v (1 - 1) = ⟨1000, 1000000000000, 1000000000000 + v⟩ := rfl
  have a1 : twoA j v 1 = ⟨5000, 1000000004000 + j, 1000000004000 + j + v⟩ := rfl
  rw [a0, a1] at hw
  simp only at hw
  unfold corLo corHi
  rw [twoA_jumps j0 j1 v0 v1, hw.1, hw.2]
  omega
set_option maxHeartbeats 4000000 in
set_option maxRecDepth 100000 in
theorem clock_jumps (a : Option Addr) (len cap : Nat) (b m : Int) (W : World) (hr : IntRow W a len) (hb : 0 ≤ b ∧ b ≤ 65535) (hm : 0 ≤ m ∧ m ≤ 255) :
    Calls Try.prog 7 #[.slice a len cap, .int .u16 b, .int .u8 m] W fun e w' => e = .returned (.bool true) ∧ Below W.heap.size W w' := by
  have QS := hide (fun w => clock_sane w)
  have q1 := fun w => made_light a len cap hr.1 w
  obtain ⟨m0, m1⟩ := hm
  obtain ⟨b0, b1⟩ := hb
  by_cases hl : len ≤ 500
  · rw [decide_eq_true hl] at q1
    have Q1 := hide q1
    have Q2 := hide (made_roll a len cap W hr)
    clear q1 hl hr
    obtain ⟨j, hj⟩ : ∃ j, 100 + b = j := ⟨_, rfl⟩
    have j0 : 100 ≤ j := by omega
    have j1 : j ≤ 65635 := by omega
    obtain ⟨k, hk⟩ : ∃ k, m * 10 = k := ⟨_, rfl⟩
    have k0 : 0 ≤ k := by omega
    have k1 : k ≤ 2550 := by omega
    go_enter Try.func7, Try.ntmps7
    go_wp2_with (first
      | (go_at_call 10; (with_reducible refine (Q1.out _).mono ?_); rintro e w1 ⟨rfl, rfl⟩)
      | (go_at_call 12; (with_reducible refine (Q2.out).mono ?_); rintro e w1 ⟨rfl, hd1⟩))
    go_at_call 18
    refine (made_next W a len cap _ 40 ⟨by omega, by omega⟩ _ hd1).mono ?_
    rintro e w2 ⟨⟨v, rfl, v0, v1⟩, hd2, hr2⟩
    have HB := hide (hd2.low)
    clear hd1 hd2 hr2 Q1 Q2
    have hok := twoA_ok j0 j1 v0 v1
    have rowB : ∀ X : World, ∀ g, X.heap[g]? = some (.cells #[.int .i64 1000, .int .i64 1000000000000, .int .i64 (1000000000000 + v), .int .i64 5000, .int .i64 (1000000004000 + j), .int .i64 (1000000004000 + j + v)] 34 (0, 0)) → AncRow X (some ⟨g, 0, none⟩) 2 (twoA j v) := fun X g h => AncRow.blk h (fun i hi => by
      have : i = 0 ∨ i = 1 := by omega
      rcases this with rfl | rfl <;> exact ⟨rfl, rfl, rfl⟩)
    have q3 := fun (X : World) (g : Nat) (h : X.heap[g]? = some (.cells #[.int .i64 1000, .int .i64 1000000000000, .int .i64 (1000000000000 + v), .int .i64 5000, .int .i64 (1000000004000 + j), .int .i64 (1000000004000 + j + v)] 34 (0, 0))) => jumps_ok (twoA j v) 2 (some ⟨g, 0, none⟩) 2 0 hok (by omega) X (rowB X g h)
    rw [twoA_jumps j0 j1 v0 v1] at q3
    have q4 := fun (t : Int) (ht : 0 ≤ t ∧ t ≤ 9007199254740992) (X : World) (g : Nat) (h : X.heap[g]? = some (.cells #[.int .i64 1000, .int .i64 1000000000000, .int .i64 (1000000000000 + v), .int .i64 5000, .int .i64 (1000000004000 + j), .int .i64 (1000000004000 + j + v)] 34 (0, 0))) => correct_ok (twoA j v) 2 (some ⟨g, 0, none⟩) 2 0 t hok (by omega) (by omega) (by omega) (by omega) ht X (rowB X g h)
    have q5 := q4 (5000 + k) (by omega)
    have q6 := q4 (999 - k / 3) (by omega)
    have q7 := q4 (1000 + k) (by omega)
    obtain ⟨l1, u1⟩ := two_behind j0 j1 v0 v1 k0 k1
    obtain ⟨l2, u2⟩ := two_ahead (k := k / 3) j0 j1 v0 v1 (by omega) (by omega)
    obtain ⟨l3, u3⟩ := two_between j0 j1 v0 v1 k0 k1
    have r1 : corE (twoA j v) 2 0 (5000 + k) = 0 ∧ corT (twoA j v) 2 0 (5000 + k) = 1000000004000 + j + k + v / 2 ∧ corO (twoA j v) 2 0 (5000 + k) = v - v / 2 := by
      have : corLo (twoA j v) 2 0 (5000 + k) ≤ corHi (twoA j v) 2 0 (5000 + k) := by omega
      unfold corE corT corO
      rw [if_pos this, if_pos this, if_pos this, l1, u1]; omega
    have r2 : corE (twoA j v) 2 0 (999 - k / 3) = 0 ∧ corT (twoA j v) 2 0 (999 - k / 3) = 999999999999 - k / 3 + v / 2 ∧ corO (twoA j v) 2 0 (999 - k / 3) = v - v / 2 := by
      have : corLo (twoA j v) 2 0 (999 - k / 3) ≤ corHi (twoA j v) 2 0 (999 - k / 3) := by omega
      unfold corE corT corO
      rw [if_pos this, if_pos this, if_pos this, l2, u2]; omega
    have r3 : corE (twoA j v) 2 0 (1000 + k) = 0 ∧ 0 ≤ corT (twoA j v) 2 0 (1000 + k) ∧ corT (twoA j v) 2 0 (1000 + k) ≤ 1000000100000 ∧ 0 ≤ corO (twoA j v) 2 0 (1000 + k) ∧ corO (twoA j v) 2 0 (1000 + k) ≤ 1000000100000 ∧ corT (twoA j v) 2 0 (1000 + k) - corO (twoA j v) 2 0 (1000 + k) - 1 ≤ 1000000000000 + k ∧ 1000000000000 + j + k + v ≤ corT (twoA j v) 2 0 (1000 + k) + corO (twoA j v) 2 0 (1000 + k) ∧ j / 2 ≤ corO (twoA j v) 2 0 (1000 + k) := by
      have : corLo (twoA j v) 2 0 (1000 + k) ≤ corHi (twoA j v) 2 0 (1000 + k) := by omega
      unfold corE corT corO
      rw [if_pos this, if_pos this, if_pos this, l3, u3]; omega
    rw [r1.1, r1.2.1, r1.2.2] at q5
    rw [r2.1, r2.2.1, r2.2.2] at q6
    obtain ⟨s1, s2, s3, s4, s5, s6, s7, s8⟩ := r3
    rw [s1] at q7
    generalize corT (twoA j v) 2 0 (1000 + k) = T at *
    generalize corO (twoA j v) 2 0 (1000 + k) = O at *
    have d1 : decide (T - O - 1 ≤ 1000000000000 + k) = true := by simp; omega
    have d2 : decide (1000000000000 + j + k + v ≤ T + O) = true := by simp; omega
    have d3 : decide (j / 2 ≤ O) = true := by simp; omega
    have Q3 := hide q3
    have Q5 := hide q5
    have Q6 := hide q6
    have Q7 := hide q7
    clear q3 q4 q5 q6 q7 rowB hok l1 u1 l2 u2 l3 u3 r1 r2 s1
    go_wp2_with (first
      | (go_at_call 16; (with_reducible refine (Q3.out _ _ ?_).mono ?_); (focus exact heap_alloc_new _ _); rintro e w3 ⟨⟨ja, jc, rfl, hj2⟩, hb⟩; (have HH := hide ((hb.block _ (by simp)).trans (heap_alloc_new _ _))); (have HB := hide ((HB.out.alloc HB.out.size _).trans (hb.mono (by have := HB.out.size; simp; omega)))); (obtain ⟨jb, jo, rfl, x0⟩ := hj2.cell0); clear hb hj2)
      | (go_at_call 15; (with_reducible refine (Q5.out _ _ ?_).mono ?_); (focus exact HH.out); rintro e w4 ⟨rfl, hb⟩; (have HH := hide ((hb.block _ (Array.getElem?_eq_some_iff.1 HH.out).1).trans HH.out)); (have HB := hide (HB.out.trans (hb.mono HB.out.size))); clear hb)
      | (go_at_call 15; (with_reducible refine (Q6.out _ _ ?_).mono ?_); (focus exact HH.out); rintro e w5 ⟨rfl, hb⟩; (have HH := hide ((hb.block _ (Array.getElem?_eq_some_iff.1 HH.out).1).trans HH.out)); (have HB := hide (HB.out.trans (hb.mono HB.out.size))); clear hb))
    go_at_call 15
    refine (Q7.out _ _ ?_).mono ?_
    focus exact HH.out
    rintro e w6 ⟨rfl, hb⟩
    have HB := hide (HB.out.trans (hb.mono HB.out.size))
    clear hb x0
    iterate 60 (first | go_values | go_skip | go_guarded | go_step | go_upon | go_back | (simp only [Int.not_lt, Int.not_le] at *; go_simp))
    (try simp only [List.append_eq, List.cons_append, List.nil_append])
    go_wp2_with (first
      | (go_at_call 11; (with_reducible refine (QS.out _).mono ?_); rintro e w7 ⟨rfl, hb⟩; (have HB := hide (HB.out.trans (hb.mono HB.out.size))); clear hb))
    go_ret
    exact ⟨rfl, HB.out⟩
  · rw [decide_eq_false hl] at q1
    have Q1 := hide q1
    clear q1 hl hr
    go_enter Try.func7, Try.ntmps7
    go_wp2_with (first
      | (go_at_call 10; (with_reducible refine (Q1.out _).mono ?_); rintro e w1 ⟨rfl, rfl⟩)
      | (go_at_call 11; (with_reducible refine (QS.out _).mono ?_); rintro e w1 ⟨rfl, hb⟩))
    go_ret
    exact ⟨rfl, hb⟩
end Go.Proofs.Ytecoemdhnphmdaa
