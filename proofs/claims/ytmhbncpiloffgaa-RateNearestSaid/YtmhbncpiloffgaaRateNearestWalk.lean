/- The walk of RateNearest. -/
import Derived.Test.YtmhbncpiloffgaaRateNearestLaw
namespace Go.Proofs.Ytmhbncpiloffgaa
open Go.RowKit
set_option linter.unusedVariables false
set_option linter.unusedSimpArgs false
set_option maxRecDepth 100000 in
set_option maxHeartbeats 4000000 in
theorem rate_nearest (a : Option Addr) (len cap : Nat) (s x : Int) (w : World) (hr : IntRow w a len) (hs : 0 ≤ s ∧ s ≤ 4294967295) (hx : 0 ≤ x ∧ x ≤ 4294967295) :
    Calls Try.prog 3 #[.slice a len cap, .int .u32 s, .int .u32 x] w fun e w' => e = .returned (.bool true) ∧ Below w.heap.size w w' := by
  have QS := hide (fun w => rate_sane w)
  have q1 := fun w => made_light a len cap hr.1 w
  by_cases hl : len ≤ 500
  · rw [decide_eq_true hl] at q1
    have Q1 := hide q1
    have Q2 := hide (made_roll a len cap w hr)
    obtain ⟨s, rfl⟩ : ∃ s' : Nat, s = s' := ⟨s.toNat, by omega⟩
    obtain ⟨x, rfl⟩ : ∃ k' : Nat, x = k' := ⟨x.toNat, by omega⟩
    obtain ⟨hs1, hs2⟩ := hs
    obtain ⟨hx1, hx2⟩ := hx
    clear q1 hl hr
    obtain ⟨sx, hsx⟩ : ∃ sx : Nat, (s : Int) + x = sx := ⟨s + x, by omega⟩
    by_cases hneg : sx < 1000
    · obtain ⟨t, ht⟩ : ∃ t : Int, (sx : Int) - 1000 = t := ⟨_, rfl⟩
      have hb1 : t < 0 ∧ -1000 ≤ t := by omega
      obtain ⟨hb1, hb2⟩ := hb1
      go_enter Try.func3, Try.ntmps3
      go_wp2_with (first
        | (go_at_call 8; (with_reducible refine (Q1.out _).mono ?_); rintro e w1 ⟨rfl, rfl⟩)
        | (go_at_call 10; (with_reducible refine (Q2.out).mono ?_); rintro e w1 ⟨rfl, hd1⟩)
        | (go_at_call 11; (with_reducible refine (made_rate _ hd1).mono ?_); rintro e w2 ⟨⟨n, d, rfl, hok⟩, hd2, hr2⟩;
           (have hb := hd2.low); (have hb0 := hb.alloc hb.size (.cells #[.int .i64 n, .int .i64 d] 27)))
        | (go_at_call 9; (with_reducible refine (acc hb0 (QS.out _)).mono ?_); rintro e w10 ⟨rfl, hb9⟩))
      go_ret
      exact ⟨rfl, hb9⟩
    · obtain ⟨t, ht⟩ : ∃ t : Nat, (sx : Int) - 1000 = t := ⟨sx - 1000, by omega⟩
      have ht2 : t ≤ 8589934590 := by omega
      have hst : s ≤ 4294967295 := by omega
      clear hneg
      go_enter Try.func3, Try.ntmps3
      go_wp2_with (first
        | (go_at_call 8; (with_reducible refine (Q1.out _).mono ?_); rintro e w1 ⟨rfl, rfl⟩)
        | (go_at_call 10; (with_reducible refine (Q2.out).mono ?_); rintro e w1 ⟨rfl, hd1⟩)
        | (go_at_call 11; (with_reducible refine (made_rate _ hd1).mono ?_); rintro e w2 ⟨⟨n, d, rfl, hok⟩, hd2, hr2⟩;
           (have hb := hd2.low); (have hb0 := hb.alloc hb.size (.cells #[.int .i64 n, .int .i64 d] 27)); (have hc := heap_alloc_new w2 (.cells #[.int .i64 n, .int .i64 d] 27))))
      obtain ⟨k, off, N1, hk, hoff, hnear⟩ := near_facts n d s t hok hst ht2
      have T1 := hide (fun w => rate_time_ok n d s k hok (by omega) hk w)
      have hn1 : 1 ≤ n := by have := hok.1; omega
      have hd4 : d ≤ 4096 := by have := hok.2.2.2.1; omega
      have hAll := hide (fun i (h : i ≤ 16777216) w => rate_time_ok n d s i hok (by omega) h w)
      have hFar := hide (fun i (h : 16777216 < i) w => rate_time_far n d s i hok (by omega) h w)
      have hBnd := hide (fun i (h : i ≤ 16777216) => afterN_bound n d i hd4 (by omega))
      have hN := hide hnear
      have hA := afterN_bound n d k hd4 (by omega)
      obtain ⟨h0, hh0⟩ : ∃ h0 : Nat, s + afterN n d k = h0 := ⟨_, rfl⟩
      rw [hh0] at T1 hoff
      have ho : (t : Int) - (h0 : Int) = off := by omega
      have hob : -100000000000000000 ≤ off ∧ off ≤ 100000000000000000 := by omega
      obtain ⟨ho1, ho2⟩ := hob
      obtain ⟨kp, hkp⟩ : ∃ kp : Nat, (k : Int) + 2 = kp := ⟨k + 2, by omega⟩
      obtain ⟨no, hno⟩ : ∃ no : Int, -off = no := ⟨_, rfl⟩
      have HNO := hide hno
      clear hb hd1 hd2 hr2 hok Q1 Q2 hnear hoff hA hh0 hn1 hd4
      refine (accB hb0 hc (N1.out _)).mono ?_
      clear hb0 hc
      rintro e w3 ⟨rfl, hb, hc⟩
      generalize w2.heap.size = B at *
      obtain ⟨c0, c1, f0, f1⟩ := pair_cells hc
      have hstart : (∃ k2 : Nat, (k : Int) - 2 = k2) ∨ (∃ m : Int, (k : Int) - 2 = m ∧ m < 0 ∧ -2 ≤ m) := by
        by_cases h2 : 2 ≤ k
        · exact .inl ⟨k - 2, by omega⟩
        · exact .inr ⟨(k : Int) - 2, rfl, by omega, by omega⟩
      rcases hstart with ⟨k2, hk2⟩ | ⟨m, hk2, hm1, hm2⟩
      all_goals
        go_wp2_with (first
          | (go_at_call 13; (with_reducible refine (accB hb hc (T1.out _)).mono ?_); clear hb hc c0 c1 f0 f1; rintro e w4 ⟨rfl, hb, hc⟩; (obtain ⟨c0, c1, f0, f1⟩ := pair_cells hc)))
        clear c0 c1 f0 f1
        go_loopw [15] (fun i wr => ∃ j : Nat, i = .int .i64 j ∧ j ≤ k + 3 ∧ Below w.heap.size w wr ∧ wr.heap[B]? = some (.cells #[.int .i64 n, .int .i64 d] 27 (0, 0))) (fun i _ => (k + 3) - (intOf i).toNat)
        case atStart => first | exact ⟨k2, rfl, by omega, hb, hc⟩ | exact ⟨0, rfl, by omega, hb, hc⟩
        case round =>
          clear hb hc
          obtain ⟨j, rfl, hj3, hb, hc⟩ := hrel
          obtain ⟨c0, c1, f0, f1⟩ := pair_cells hc
          by_cases hj : j ≤ k + 2
          · have dj : decide ((j : Int) ≤ (kp : Int)) = true := by simp; omega
            have dj' : decide (j ≤ kp) = true := by simp; omega
            by_cases hjm : j ≤ 16777216
            · obtain ⟨u, v, hu, hv, P1, P2, P3⟩ := hN.out j hjm
              have TJ := hide (hAll.out j hjm)
              have bj := hBnd.out j hjm
              obtain ⟨tj, htj⟩ : ∃ tj : Nat, s + afterN n d j = tj := ⟨_, rfl⟩
              rw [htj] at TJ hu hv
              have htb : tj ≤ 100000000000000000 := by omega
              have hvb : v = -u := by omega
              have HV := hide hvb
              have hub : -200000000000000000 ≤ u ∧ u ≤ 200000000000000000 ∧ -200000000000000000 ≤ v ∧ v ≤ 200000000000000000 ∧ -100000000000000000 ≤ no ∧ no ≤ 100000000000000000 := by omega
              obtain ⟨ub1, ub2, vb1, vb2, nb1, nb2⟩ := hub
              have hq1 : (off ≤ u ∧ no ≤ u) ∨ (off ≤ v ∧ no ≤ v) := by omega
              have hq2 : j < k → (off < u ∧ no < u) ∨ (off < v ∧ no < v) := fun h => by have := P3 h; omega
              have Z1 := hide hq1
              have Z2 := hide hq2
              clear bj htj hvb P1 P2 P3 hq1 hq2
              by_cases hjk : j < k
              · have jk : decide ((j : Int) < (k : Int)) = true := by simp; omega
                have jk' : decide (j < k) = true := by simp; omega
                rcases Int.lt_trichotomy u 0 with hu0 | hu0 | hu0
                · rcases Int.lt_trichotomy off 0 with ho0 | ho0 | ho0
                  · have zz : u < 0 ∧ 0 < v ∧ True := ⟨by have := HV.out; omega, by have := HV.out; omega, trivial⟩
                    obtain ⟨zz1, zz2, -⟩ := zz
                    have yy : off < 0 ∧ 0 < no := ⟨by have := HNO.out; omega, by have := HNO.out; omega⟩
                    obtain ⟨yy1, yy2⟩ := yy
                    have t1 : decide ((v : Int) < no) = false := by rw [decide_eq_false_iff_not]; have z1 := Z1.out; have z3 := HV.out; have z4 := HNO.out; omega
                    have t2 : ((v : Int) == no) = false := by rw [beq_eq_false_iff_ne]; have z2 := Z2.out hjk; have z3 := HV.out; have z4 := HNO.out; omega
                    go_wp2_with (first
                      | (go_at_call 13; (with_reducible refine (accB hb hc (TJ.out _)).mono ?_); clear hb hc c0 c1 f0 f1; rintro e w4 ⟨rfl, hb, hc⟩))
                    go_roundw
                    case rel => exact ⟨j + 1, by go_num, by omega, hb, hc⟩
                    case measure => simp [intOf]; omega
                  · have zz : u < 0 ∧ 0 < v ∧ True := ⟨by have := HV.out; omega, by have := HV.out; omega, trivial⟩
                    obtain ⟨zz1, zz2, -⟩ := zz
                    have t1 : decide ((v : Int) < 0) = false := by rw [decide_eq_false_iff_not]; have z1 := Z1.out; have z3 := HV.out; have z4 := HNO.out; omega
                    have t2 : ((v : Int) == 0) = false := by rw [beq_eq_false_iff_ne]; have z2 := Z2.out hjk; have z3 := HV.out; have z4 := HNO.out; omega
                    have n0 : no = 0 := by have := HNO.out; omega
                    subst ho0; subst n0
                    go_wp2_with (first
                      | (go_at_call 13; (with_reducible refine (accB hb hc (TJ.out _)).mono ?_); clear hb hc c0 c1 f0 f1; rintro e w4 ⟨rfl, hb, hc⟩))
                    go_roundw
                    case rel => exact ⟨j + 1, by go_num, by omega, hb, hc⟩
                    case measure => simp [intOf]; omega
                  · have zz : u < 0 ∧ 0 < v ∧ True := ⟨by have := HV.out; omega, by have := HV.out; omega, trivial⟩
                    obtain ⟨zz1, zz2, -⟩ := zz
                    have yy : no < 0 ∧ 0 < off := ⟨by have := HNO.out; omega, by have := HNO.out; omega⟩
                    obtain ⟨yy1, yy2⟩ := yy
                    have t1 : decide ((v : Int) < off) = false := by rw [decide_eq_false_iff_not]; have z1 := Z1.out; have z3 := HV.out; have z4 := HNO.out; omega
                    have t2 : ((v : Int) == off) = false := by rw [beq_eq_false_iff_ne]; have z2 := Z2.out hjk; have z3 := HV.out; have z4 := HNO.out; omega
                    go_wp2_with (first
                      | (go_at_call 13; (with_reducible refine (accB hb hc (TJ.out _)).mono ?_); clear hb hc c0 c1 f0 f1; rintro e w4 ⟨rfl, hb, hc⟩))
                    go_roundw
                    case rel => exact ⟨j + 1, by go_num, by omega, hb, hc⟩
                    case measure => simp [intOf]; omega
                · rcases Int.lt_trichotomy off 0 with ho0 | ho0 | ho0
                  · exfalso
                    have z1 := Z1.out; have z3 := HV.out; have z4 := HNO.out
                    have z2 := Z2.out hjk
                    omega
                  · exfalso
                    have z1 := Z1.out; have z3 := HV.out; have z4 := HNO.out
                    have z2 := Z2.out hjk
                    omega
                  · exfalso
                    have z1 := Z1.out; have z3 := HV.out; have z4 := HNO.out
                    have z2 := Z2.out hjk
                    omega
                · rcases Int.lt_trichotomy off 0 with ho0 | ho0 | ho0
                  · have zz : v < 0 ∧ 0 < u ∧ True := ⟨by have := HV.out; omega, by have := HV.out; omega, trivial⟩
                    obtain ⟨zz1, zz2, -⟩ := zz
                    have yy : off < 0 ∧ 0 < no := ⟨by have := HNO.out; omega, by have := HNO.out; omega⟩
                    obtain ⟨yy1, yy2⟩ := yy
                    have t1 : decide ((u : Int) < no) = false := by rw [decide_eq_false_iff_not]; have z1 := Z1.out; have z3 := HV.out; have z4 := HNO.out; omega
                    have t2 : ((u : Int) == no) = false := by rw [beq_eq_false_iff_ne]; have z2 := Z2.out hjk; have z3 := HV.out; have z4 := HNO.out; omega
                    go_wp2_with (first
                      | (go_at_call 13; (with_reducible refine (accB hb hc (TJ.out _)).mono ?_); clear hb hc c0 c1 f0 f1; rintro e w4 ⟨rfl, hb, hc⟩))
                    go_roundw
                    case rel => exact ⟨j + 1, by go_num, by omega, hb, hc⟩
                    case measure => simp [intOf]; omega
                  · have zz : v < 0 ∧ 0 < u ∧ True := ⟨by have := HV.out; omega, by have := HV.out; omega, trivial⟩
                    obtain ⟨zz1, zz2, -⟩ := zz
                    have t1 : decide ((u : Int) < 0) = false := by rw [decide_eq_false_iff_not]; have z1 := Z1.out; have z3 := HV.out; have z4 := HNO.out; omega
                    have t2 : ((u : Int) == 0) = false := by rw [beq_eq_false_iff_ne]; have z2 := Z2.out hjk; have z3 := HV.out; have z4 := HNO.out; omega
                    have n0 : no = 0 := by have := HNO.out; omega
                    subst ho0; subst n0
                    go_wp2_with (first
                      | (go_at_call 13; (with_reducible refine (accB hb hc (TJ.out _)).mono ?_); clear hb hc c0 c1 f0 f1; rintro e w4 ⟨rfl, hb, hc⟩))
                    go_roundw
                    case rel => exact ⟨j + 1, by go_num, by omega, hb, hc⟩
                    case measure => simp [intOf]; omega
                  · have zz : v < 0 ∧ 0 < u ∧ True := ⟨by have := HV.out; omega, by have := HV.out; omega, trivial⟩
                    obtain ⟨zz1, zz2, -⟩ := zz
                    have yy : no < 0 ∧ 0 < off := ⟨by have := HNO.out; omega, by have := HNO.out; omega⟩
                    obtain ⟨yy1, yy2⟩ := yy
                    have t1 : decide ((u : Int) < off) = false := by rw [decide_eq_false_iff_not]; have z1 := Z1.out; have z3 := HV.out; have z4 := HNO.out; omega
                    have t2 : ((u : Int) == off) = false := by rw [beq_eq_false_iff_ne]; have z2 := Z2.out hjk; have z3 := HV.out; have z4 := HNO.out; omega
                    go_wp2_with (first
                      | (go_at_call 13; (with_reducible refine (accB hb hc (TJ.out _)).mono ?_); clear hb hc c0 c1 f0 f1; rintro e w4 ⟨rfl, hb, hc⟩))
                    go_roundw
                    case rel => exact ⟨j + 1, by go_num, by omega, hb, hc⟩
                    case measure => simp [intOf]; omega
              · have jk : decide ((j : Int) < (k : Int)) = false := by simp; omega
                have jk' : decide (j < k) = false := by simp; omega
                rcases Int.lt_trichotomy u 0 with hu0 | hu0 | hu0
                · rcases Int.lt_trichotomy off 0 with ho0 | ho0 | ho0
                  · have zz : u < 0 ∧ 0 < v ∧ True := ⟨by have := HV.out; omega, by have := HV.out; omega, trivial⟩
                    obtain ⟨zz1, zz2, -⟩ := zz
                    have yy : off < 0 ∧ 0 < no := ⟨by have := HNO.out; omega, by have := HNO.out; omega⟩
                    obtain ⟨yy1, yy2⟩ := yy
                    have t1 : decide ((v : Int) < no) = false := by rw [decide_eq_false_iff_not]; have z1 := Z1.out; have z3 := HV.out; have z4 := HNO.out; omega
                    go_wp2_with (first
                      | (go_at_call 13; (with_reducible refine (accB hb hc (TJ.out _)).mono ?_); clear hb hc c0 c1 f0 f1; rintro e w4 ⟨rfl, hb, hc⟩))
                    go_roundw
                    case rel => exact ⟨j + 1, by go_num, by omega, hb, hc⟩
                    case measure => simp [intOf]; omega
                  · have zz : u < 0 ∧ 0 < v ∧ True := ⟨by have := HV.out; omega, by have := HV.out; omega, trivial⟩
                    obtain ⟨zz1, zz2, -⟩ := zz
                    have t1 : decide ((v : Int) < 0) = false := by rw [decide_eq_false_iff_not]; have z1 := Z1.out; have z3 := HV.out; have z4 := HNO.out; omega
                    have n0 : no = 0 := by have := HNO.out; omega
                    subst ho0; subst n0
                    go_wp2_with (first
                      | (go_at_call 13; (with_reducible refine (accB hb hc (TJ.out _)).mono ?_); clear hb hc c0 c1 f0 f1; rintro e w4 ⟨rfl, hb, hc⟩))
                    go_roundw
                    case rel => exact ⟨j + 1, by go_num, by omega, hb, hc⟩
                    case measure => simp [intOf]; omega
                  · have zz : u < 0 ∧ 0 < v ∧ True := ⟨by have := HV.out; omega, by have := HV.out; omega, trivial⟩
                    obtain ⟨zz1, zz2, -⟩ := zz
                    have yy : no < 0 ∧ 0 < off := ⟨by have := HNO.out; omega, by have := HNO.out; omega⟩
                    obtain ⟨yy1, yy2⟩ := yy
                    have t1 : decide ((v : Int) < off) = false := by rw [decide_eq_false_iff_not]; have z1 := Z1.out; have z3 := HV.out; have z4 := HNO.out; omega
                    go_wp2_with (first
                      | (go_at_call 13; (with_reducible refine (accB hb hc (TJ.out _)).mono ?_); clear hb hc c0 c1 f0 f1; rintro e w4 ⟨rfl, hb, hc⟩))
                    go_roundw
                    case rel => exact ⟨j + 1, by go_num, by omega, hb, hc⟩
                    case measure => simp [intOf]; omega
                · rcases Int.lt_trichotomy off 0 with ho0 | ho0 | ho0
                  · exfalso
                    have z1 := Z1.out; have z3 := HV.out; have z4 := HNO.out
                    omega
                  · have zz : True ∧ True ∧ True := ⟨trivial, trivial, trivial⟩
                    obtain ⟨zz1, zz2, -⟩ := zz
                    have t1 : decide ((0 : Int) < 0) = false := by rw [decide_eq_false_iff_not]; have z1 := Z1.out; have z3 := HV.out; have z4 := HNO.out; omega
                    have v0 : v = 0 := by have := HV.out; omega
                    subst hu0; subst v0
                    have n0 : no = 0 := by have := HNO.out; omega
                    subst ho0; subst n0
                    go_wp2_with (first
                      | (go_at_call 13; (with_reducible refine (accB hb hc (TJ.out _)).mono ?_); clear hb hc c0 c1 f0 f1; rintro e w4 ⟨rfl, hb, hc⟩))
                    go_roundw
                    case rel => exact ⟨j + 1, by go_num, by omega, hb, hc⟩
                    case measure => simp [intOf]; omega
                  · exfalso
                    have z1 := Z1.out; have z3 := HV.out; have z4 := HNO.out
                    omega
                · rcases Int.lt_trichotomy off 0 with ho0 | ho0 | ho0
                  · have zz : v < 0 ∧ 0 < u ∧ True := ⟨by have := HV.out; omega, by have := HV.out; omega, trivial⟩
                    obtain ⟨zz1, zz2, -⟩ := zz
                    have yy : off < 0 ∧ 0 < no := ⟨by have := HNO.out; omega, by have := HNO.out; omega⟩
                    obtain ⟨yy1, yy2⟩ := yy
                    have t1 : decide ((u : Int) < no) = false := by rw [decide_eq_false_iff_not]; have z1 := Z1.out; have z3 := HV.out; have z4 := HNO.out; omega
                    go_wp2_with (first
                      | (go_at_call 13; (with_reducible refine (accB hb hc (TJ.out _)).mono ?_); clear hb hc c0 c1 f0 f1; rintro e w4 ⟨rfl, hb, hc⟩))
                    go_roundw
                    case rel => exact ⟨j + 1, by go_num, by omega, hb, hc⟩
                    case measure => simp [intOf]; omega
                  · have zz : v < 0 ∧ 0 < u ∧ True := ⟨by have := HV.out; omega, by have := HV.out; omega, trivial⟩
                    obtain ⟨zz1, zz2, -⟩ := zz
                    have t1 : decide ((u : Int) < 0) = false := by rw [decide_eq_false_iff_not]; have z1 := Z1.out; have z3 := HV.out; have z4 := HNO.out; omega
                    have n0 : no = 0 := by have := HNO.out; omega
                    subst ho0; subst n0
                    go_wp2_with (first
                      | (go_at_call 13; (with_reducible refine (accB hb hc (TJ.out _)).mono ?_); clear hb hc c0 c1 f0 f1; rintro e w4 ⟨rfl, hb, hc⟩))
                    go_roundw
                    case rel => exact ⟨j + 1, by go_num, by omega, hb, hc⟩
                    case measure => simp [intOf]; omega
                  · have zz : v < 0 ∧ 0 < u ∧ True := ⟨by have := HV.out; omega, by have := HV.out; omega, trivial⟩
                    obtain ⟨zz1, zz2, -⟩ := zz
                    have yy : no < 0 ∧ 0 < off := ⟨by have := HNO.out; omega, by have := HNO.out; omega⟩
                    obtain ⟨yy1, yy2⟩ := yy
                    have t1 : decide ((u : Int) < off) = false := by rw [decide_eq_false_iff_not]; have z1 := Z1.out; have z3 := HV.out; have z4 := HNO.out; omega
                    go_wp2_with (first
                      | (go_at_call 13; (with_reducible refine (accB hb hc (TJ.out _)).mono ?_); clear hb hc c0 c1 f0 f1; rintro e w4 ⟨rfl, hb, hc⟩))
                    go_roundw
                    case rel => exact ⟨j + 1, by go_num, by omega, hb, hc⟩
                    case measure => simp [intOf]; omega
            · have TF := hide (hFar.out j (by omega))
              have dm : decide ((16777216 : Int) < (j : Int)) = true := by simp; omega
              have dm' : decide (16777216 < j) = true := by simp; omega
              go_wp2_with (first
                | (go_at_call 13; (with_reducible refine (accB hb hc (TF.out _)).mono ?_); clear hb hc c0 c1 f0 f1; rintro e w4 ⟨rfl, hb, hc⟩)
                | (go_at_call 9; (with_reducible refine (acc hb (QS.out _)).mono ?_); clear hb; rintro e w10 ⟨rfl, hb⟩))
              go_ret
              exact ⟨rfl, hb⟩
          · have dj : decide ((j : Int) ≤ (kp : Int)) = false := by simp; omega
            have dj' : decide (j ≤ kp) = false := by simp; omega
            go_wp2_with (first
              | (go_at_call 9; (with_reducible refine (acc hb (QS.out _)).mono ?_); clear hb; rintro e w10 ⟨rfl, hb⟩))
            go_ret
            exact ⟨rfl, hb⟩
  · rw [decide_eq_false hl] at q1
    have Q1 := hide q1
    clear q1 hl hr hs hx
    go_enter Try.func3, Try.ntmps3
    go_wp2_with (first
      | (go_at_call 8; (with_reducible refine (Q1.out _).mono ?_); rintro e w1 ⟨rfl, rfl⟩)
      | (go_at_call 9; (with_reducible refine (QS.out _).mono ?_); rintro e w1 ⟨rfl, hb⟩))
    go_ret
    exact ⟨rfl, hb⟩
end Go.Proofs.Ytmhbncpiloffgaa
