/- The walk of the statement ClockTrue. -/
import Derived.Test.YtecoemdhnphmdaaClockSane
import Derived.Test.YtecoemdhnphmdaaDiceAnc
namespace Go.Proofs.Ytecoemdhnphmdaa
open Go.RowKit
set_option linter.unusedVariables false
set_option linter.unusedSimpArgs false
theorem AncSpec.ancL {b : Bool} {L : List Anc} {tg at' : Int} (h : AncSpec b L tg at') (hl : L.length ≤ 5) : AncL L.length (ancAt L) := by
  obtain ⟨h1, h2, h3, h4, h5, h6, h7⟩ := h
  have hat : ∀ i (hi : i < L.length), ancAt L i = L[i] := fun i hi => by unfold ancAt; rw [List.getElem?_eq_getElem hi]; rfl
  refine ⟨by omega, fun i hi => ?_, fun i h0 hi => ?_⟩
  · rw [hat i hi]
    obtain ⟨a1, a2, a3, a4, a5, a6⟩ := h6 _ (List.getElem_mem hi)
    exact ⟨⟨by omega, by omega, by omega, by omega, by omega, by omega⟩, a4⟩
  · rw [hat i hi, hat (i - 1) (by omega)]
    exact (List.pairwise_iff_getElem.1 h7) (i - 1) i (by omega) hi (by omega)
theorem AncSpec.even {L : List Anc} {tg at' : Int} (h : AncSpec false L tg at') : ∀ i, i < L.length → evenAt (ancAt L i) := fun i hi => by
  have hat : ancAt L i = L[i] := by unfold ancAt; rw [List.getElem?_eq_getElem hi]; rfl
  rw [hat]
  exact (h.2.2.2.2.2.1 _ (List.getElem_mem hi)).2.2.2.2.2 rfl
theorem AncSpec.range {b : Bool} {L : List Anc} {tg at' : Int} (h : AncSpec b L tg at') (hl : L.length ≤ 5) : ∀ i, i < L.length → 1000 ≤ (ancAt L i).tag ∧ (ancAt L i).tag ≤ 101000 ∧ 999999998000 ≤ (ancAt L i).low ∧ (ancAt L i).low ≤ (ancAt L i).high ∧ (ancAt L i).high ≤ 1000100000000 := fun i hi => by
  have hat : ancAt L i = L[i] := by unfold ancAt; rw [List.getElem?_eq_getElem hi]; rfl
  rw [hat]
  obtain ⟨h1, h2, h3, h4, h5, h6, h7⟩ := h
  obtain ⟨a1, a2, a3, a4, a5, a6⟩ := h6 _ (List.getElem_mem hi)
  exact ⟨a1, by omega, a3, a4, a5⟩
theorem even_cor {A : Nat → Anc} {n : Nat} {x t : Int} (he : ∀ i, i < n → evenAt (A i)) (hn : 0 < n) (hx : 0 ≤ x ∧ x ≤ 500000) (ht : 0 ≤ t ∧ t ≤ 131070) :
    corLo A n x t ≤ 1000000000000 + t - 1000 ∧ 1000000000000 + t - 1000 ≤ corHi A n x t ∧ corLo A n x t = max (comLo A x t 0 n) 0 ∧ corHi A n x t = min (comHi A x t 0 n) 9007199254740992 := by
  have h1 := com_even he hn (t := t) hx.1 hx.2 n (Nat.le_refl _)
  have h2 := wit_even he (t := t) hx.1 hx.2
  unfold corLo corHi
  rw [h2.1, h2.2]
  omega
theorem true_facts {A : Nat → Anc} {n : Nat} {x t : Int} (he : ∀ i, i < n → evenAt (A i)) (hn : 0 < n) (hx : 0 ≤ x ∧ x ≤ 500000) (ht : 0 ≤ t ∧ t ≤ 131070) :
    corE A n x t = 0 ∧ 0 ≤ corO A n x t ∧ corO A n x t ≤ 9007199254740992 ∧ 0 ≤ corT A n x t ∧ corT A n x t ≤ 9007199254740992 ∧ corT A n x t - corO A n x t - 1 ≤ 1000000000000 + t - 1000 ∧ 1000000000000 + t - 1000 ≤ corT A n x t + corO A n x t := by
  obtain ⟨h1, h2, h3, h4⟩ := even_cor he hn hx ht
  have hle : corLo A n x t ≤ corHi A n x t := by omega
  unfold corE corO corT
  rw [if_pos hle, if_pos hle, if_pos hle]
  omega
set_option maxHeartbeats 4000000 in
set_option maxRecDepth 100000 in
theorem clock_true (a : Option Addr) (len cap : Nat) (m : Int) (W : World) (hr : IntRow W a len) (hm : 0 ≤ m ∧ m ≤ 65535) :
    Calls Try.prog 4 #[.slice a len cap, .int .u16 m] W fun e w' => e = .returned (.bool true) ∧ Below W.heap.size W w' := by
  have QS := hide (fun w => clock_sane w)
  have q1 := fun w => made_light a len cap hr.1 w
  obtain ⟨m0, m1⟩ := hm
  by_cases hl : len ≤ 500
  · rw [decide_eq_true hl] at q1
    have Q1 := hide q1
    have Q2 := hide (made_roll a len cap W hr)
    clear q1 hl hr
    go_enter Try.func4, Try.ntmps4
    go_wp2_with (first
      | (go_at_call 10; (with_reducible refine (Q1.out _).mono ?_); rintro e w1 ⟨rfl, rfl⟩)
      | (go_at_call 12; (with_reducible refine (Q2.out).mono ?_); rintro e w1 ⟨rfl, hd1⟩))
    go_at_call 13
    refine (made_anchors false _ hd1).mono ?_
    rintro e w2 ⟨⟨L, x, tg, at', p, c, rfl, x0, x1, hL5, hspec, hrow, hc1, hc2⟩, hd2, hr2⟩
    have HB := hide (hd2.low)
    have hAL := hspec.ancL hL5
    have hEv := hspec.even
    clear hd1 hd2 hr2 hspec Q1 Q2
    generalize ancAt L = A at *
    generalize L.length = n at *
    by_cases hn : n = 0
    · subst hn
      have q3 := hide (correct_none A p c x 5 ⟨by omega, by omega⟩ ⟨by omega, by omega⟩ w2)
      clear hAL hEv hrow hc1 hc2
      go_wp2_with (first
        | (go_at_call 15; (with_reducible refine (q3.out).mono ?_); rintro e w3 ⟨rfl, hb⟩; (have HB := hide (HB.out.trans (hb.mono HB.out.size))); clear hb)
        | (go_at_call 11; (with_reducible refine (QS.out _).mono ?_); rintro e w4 ⟨rfl, hb⟩; (have HB := hide (HB.out.trans (hb.mono HB.out.size))); clear hb))
      go_ret
      exact ⟨rfl, HB.out⟩
    · have q3 := fun (w : World) (hw : AncRow w p n A) => correct_ok A n p c x (m * 2) hAL (by omega) hc1 hc2 ⟨by omega, by omega⟩ ⟨by omega, by omega⟩ w hw
      have q4 := fun (w : World) (hw : AncRow w p n A) => jumps_ok A n p c x hAL ⟨by omega, by omega⟩ w hw
      rw [jumps_even hEv x0 (by omega) n (Nat.le_refl _)] at q4
      obtain ⟨t1, t2, t3, t4, t5, t6, t7⟩ := true_facts (x := x) (t := m * 2) hEv (by omega) ⟨by omega, by omega⟩ ⟨by omega, by omega⟩
      rw [t1] at q3
      generalize corO A n x (m * 2) = O at *
      generalize corT A n x (m * 2) = T at *
      have d1 : decide ((n : Int) = 0) = false := by simp; omega
      have d1' : ((n : Int) == 0) = false := by simp; omega
      have d1'' : decide (n = 0) = false := by simp; omega
      have d2 : decide (0 ≤ O) = true := by simp; omega
      have d3 : decide (T - O - 1 ≤ 1000000000000 + m * 2 - 1000) = true := by simp; omega
      have d4 : decide (1000000000000 + m * 2 - 1000 ≤ T + O) = true := by simp; omega
      have HROW := hide hrow
      have Q3 := hide q3
      have Q4 := hide q4
      have HN := hide hn
      clear q3 q4 hAL hEv hrow hc1 hc2 t1 hn
      go_wp2_with (first
        | (go_at_call 15; (with_reducible refine (Q3.out _ ?_).mono ?_); (focus exact HROW.out); rintro e w3 ⟨rfl, hb⟩; (have HROW := hide (HROW.out.keep hb)); (have HB := hide (HB.out.trans (hb.mono HB.out.size))); clear hb)
        | (go_at_call 16; (with_reducible refine (Q4.out _ ?_).mono ?_); (focus exact HROW.out); rintro e w4 ⟨⟨ja, jc, rfl, hj⟩, hb⟩; (have HB := hide (HB.out.trans (hb.mono HB.out.size))); clear hb hj)
        | (go_at_call 11; (with_reducible refine (QS.out _).mono ?_); rintro e w5 ⟨rfl, hb⟩; (have HB := hide (HB.out.trans (hb.mono HB.out.size))); clear hb))
      go_ret
      exact ⟨rfl, HB.out⟩
  · rw [decide_eq_false hl] at q1
    have Q1 := hide q1
    clear q1 hl hr
    go_enter Try.func4, Try.ntmps4
    go_wp2_with (first
      | (go_at_call 10; (with_reducible refine (Q1.out _).mono ?_); rintro e w1 ⟨rfl, rfl⟩)
      | (go_at_call 11; (with_reducible refine (QS.out _).mono ?_); rintro e w1 ⟨rfl, hb⟩))
    go_ret
    exact ⟨rfl, hb⟩
end Go.Proofs.Ytecoemdhnphmdaa
