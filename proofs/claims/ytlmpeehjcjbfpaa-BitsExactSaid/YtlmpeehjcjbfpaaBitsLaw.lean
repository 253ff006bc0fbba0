/- The statement BitsPairs. -/
import Derived.Test.YtlmpeehjcjbfpaaBitsRefB
namespace Go.Proofs.Ytlmpeehjcjbfpaa
open Go.RowKit Bits
set_option linter.unusedVariables false

theorem sane_put : putS ByteArray.empty 258 2 = ⟨#[1, 2]⟩ ∧ putE 258 2 = 0 := by
  have h : okPut 258 2 := by unfold okPut; decide
  unfold putS putE
  rw [if_pos h, if_pos h]
  exact ⟨by decide, rfl⟩
theorem sane_wrap : wrapV (-1) 8 = 255 ∧ wrapE (-1) 8 = 0 := by
  have h : fitB (-1) 8 = true := fitB_yes (by unfold Fit; decide)
  unfold wrapV wrapE
  rw [h]
  exact ⟨by decide, rfl⟩
theorem sane_set : setN 0 (30 - 2 * 15) 3 = 3 := by decide
theorem bits_sane (w : World) : Calls Try.prog 9 #[] w fun e w' => e = .returned (.bool true) ∧ Below w.heap.size w w' := by
  have hb := Below.refl w.heap.size w
  have q1 := fun w => bits_put ByteArray.empty (by decide) 258 2 w
  rw [sane_put.1, sane_put.2] at q1
  have q2 := fun w => bits_wrap (-1) 8 w
  rw [sane_wrap.1, sane_wrap.2] at q2
  have q3 := fun w => bits_setpair_ok 0 15 3 (by decide) (by decide) (by decide) w
  rw [sane_set] at q3
  have Q1 := hide q1
  have Q2 := hide q2
  have Q3 := hide q3
  clear q1 q2 q3
  go_enter Try.func9, Try.ntmps9
  go_wp2_with (first
    | (go_at_call 13; refine (acc hb (Q1.out _)).mono ?_; clear hb; rintro e w1 ⟨rfl, hb⟩)
    | (go_at_call 10; refine (acc hb (Q2.out _)).mono ?_; clear hb; rintro e w1 ⟨rfl, hb⟩)
    | (go_at_call 8; refine (acc hb (Q3.out _)).mono ?_; clear hb; rintro e w1 ⟨rfl, hb⟩))
  go_ret
  exact ⟨rfl, hb⟩

set_option maxRecDepth 100000 in
theorem bits_pairs (word other k : Int) (hw : 0 ≤ word ∧ word ≤ 4294967295) (ho : 0 ≤ other ∧ other ≤ 4294967295) (hk : 0 ≤ k ∧ k ≤ 255) (w : World) :
    Calls Try.prog 3 #[.int .u32 word, .int .u32 other, .int .u8 k] w fun e w' => e = .returned (.bool true) ∧ Below w.heap.size w w' := by
  obtain ⟨W, rfl⟩ := Int.eq_ofNat_of_zero_le hw.1
  obtain ⟨O, rfl⟩ := Int.eq_ofNat_of_zero_le ho.1
  have hW : W < 4294967296 := by omega
  have hO : O < 4294967296 := by omega
  obtain ⟨k1, k2⟩ := hk
  clear hw ho
  go_enter Try.func3, Try.ntmps3
  go_wp2
  go_loopw [7, 8, 9] (fun a b i wr => ∃ (j A B : Nat), j ≤ 16 ∧ i = .int .i64 j ∧ a = .int .i64 A ∧ b = .int .i64 B ∧ Hid (A = hiN W (32 - 2 * j)) ∧ Hid (B = mixN O W (2 * j)) ∧ Below w.heap.size w wr) (fun _ _ i _ => 16 - (intOf i).toNat)
  case atStart => exact ⟨0, 0, O, by omega, rfl, rfl, rfl, hide (hiN_top (by omega)).symm, hide (mixN_zero _ _).symm, Below.refl _ _⟩
  case round =>
    obtain ⟨j, A, B, hj, rfl, rfl, rfl, hA, hB, hb⟩ := hrel
    have hAl : A ≤ 4294967295 := by have := hiN_le W (32 - 2 * j); rw [hA.out]; omega
    have hBl : B ≤ 4294967295 := by have := mixN_lt (a := O) (b := W) (m := 2 * j) (by omega) (by omega); rw [hB.out]; omega
    by_cases hlt : j < 16
    · obtain ⟨r, hr⟩ : ∃ r, r = 15 - j := ⟨_, rfl⟩
      have er : (15 : Int) - (j : Int) = (r : Int) := by omega
      obtain ⟨x, hx⟩ : ∃ x, x = pairN W (30 - 2 * j) := ⟨_, rfl⟩
      obtain ⟨y, hy⟩ : ∃ y, y = pairN W (30 - 2 * r) := ⟨_, rfl⟩
      have hx3 : x ≤ 3 := by have := pairN_lt W (30 - 2 * j); omega
      have hy3 : y ≤ 3 := by have := pairN_lt W (30 - 2 * r); omega
      obtain ⟨A', hA'⟩ : ∃ A', A' = setN A (30 - 2 * j) x := ⟨_, rfl⟩
      obtain ⟨B', hB'⟩ : ∃ B', B' = setN B (30 - 2 * r) y := ⟨_, rfl⟩
      have q1 := fun w => bits_pair_ok W j (by omega) (by omega) w
      have q2 := fun w => bits_setpair_ok A j x hAl (by omega) hx3 w
      have q3 := fun w => bits_pair_ok W r (by omega) (by omega) w
      have q4 := fun w => bits_setpair_ok B r y hBl (by omega) hy3 w
      rw [← hx] at q1
      rw [← hA'] at q2
      rw [← hy] at q3
      rw [← hB'] at q4
      have nA : A' = hiN W (32 - 2 * (j + 1)) := by
        rw [hA', hA.out, hx, show 32 - 2 * j = (30 - 2 * j) + 2 by omega, hiN_step]; congr 1; omega
      have nB : B' = mixN O W (2 * (j + 1)) := by
        rw [hB', hB.out, hy, show 30 - 2 * r = 2 * j by omega, mixN_step]; congr 1
      have NA := hide nA
      have NB := hide nB
      have Q1 := hide q1
      have Q2 := hide q2
      have Q3 := hide q3
      have Q4 := hide q4
      clear q1 q2 q3 q4 nA nB hA' hB' hx hy hr hA hB
      go_wp2_with (first
        | (go_at_call 7; (with_reducible refine (Q1.out _).mono ?_); rintro e w1 ⟨rfl, rfl⟩)
        | (go_at_call 7; (with_reducible refine (Q3.out _).mono ?_); rintro e w1 ⟨rfl, rfl⟩)
        | (go_at_call 8; (with_reducible refine (acc hb (Q2.out _)).mono ?_); clear hb; rintro e w1 ⟨rfl, hb⟩)
        | (go_at_call 8; (with_reducible refine (acc hb (Q4.out _)).mono ?_); clear hb; rintro e w1 ⟨rfl, hb⟩))
      go_roundw
      case rel => exact ⟨j + 1, A', B', by omega, by go_num, rfl, rfl, NA, NB, hb⟩
      case measure => simp [intOf]; omega
    · have e : j = 16 := by omega
      rw [e] at hA hB
      have eA : A = W := by rw [hA.out]; exact hiN_zero W
      have eB : B = W := by rw [hB.out]; exact mixN_top (by omega) (by omega)
      obtain ⟨i, hi⟩ : ∃ i : Nat, k % 16 = (i : Int) := ⟨(k % 16).toNat, by omega⟩
      have hi15 : i ≤ 15 := by omega
      obtain ⟨z, hz⟩ : ∃ z, z = setN W (30 - 2 * i) 2 := ⟨_, rfl⟩
      have q1 : ∀ w, Calls Try.prog 8 #[.int .i64 W, .int .i64 i, .int .i64 2] w fun e w' => e = .returned (.tuple #[.int .i64 z, .int .i64 0]) ∧ Below w.heap.size w w' := fun w => by rw [hz]; exact bits_setpair_ok W i 2 (by omega) hi15 (by omega) w
      have hzl : z ≤ 4294967295 := by have := setN_lt (w := W) (n := 30 - 2 * i) (v := 2) (by omega) (by omega) (by omega); omega
      have Q1 := hide q1
      have HZ := hide hz
      have hge : 16 ≤ j := by omega
      clear q1 hz e hA hB hAl hBl hlt hj
      subst eA eB
      go_wp2_with (first
        | (go_at_call 8; (refine (acc hb (Q1.out _)).mono ?_); clear hb; rintro e w1 ⟨rfl, hb⟩))
      clear hge hi
      go_loop [22] (fun v => ∃ j : Nat, j ≤ 16 ∧ v = .int .i64 j) (fun v => 16 - (intOf v).toNat)
      case atStart => exact ⟨0, by omega, rfl⟩
      case round =>
        obtain ⟨j, hj, rfl⟩ := hrel
        by_cases hlt : j < 16
        · have q2 := fun w => bits_pair_ok B j (by omega) (by omega) w
          have q3 := fun w => bits_pair_ok z j hzl (by omega) w
          by_cases hji : j = i
          · have f1 : ((j : Int) == (i : Int)) = true := by rw [beq_iff_eq]; omega
            have f2 : ((j : Int) != (i : Int)) = false := by rw [bne_eq_false_iff_eq]; omega
            have e1 : pairN z (30 - 2 * j) = 2 := by rw [hji, HZ.out]; exact pairN_setN _ _ _ (by omega)
            rw [e1] at q3
            have q3' : ∀ w, Calls Try.prog 7 #[.int .i64 z, .int .i64 j] w fun e w' => e = .returned (.tuple #[.int .i64 2, .int .i64 0]) ∧ w = w' := q3
            have Q2 := hide q2
            have Q3 := hide q3'
            clear q2 q3 q3' e1 hji
            go_wp2_with (first
              | (go_at_call 7; (with_reducible refine (Q2.out _).mono ?_); rintro e w1 ⟨rfl, rfl⟩)
              | (go_at_call 7; (with_reducible refine (Q3.out _).mono ?_); rintro e w1 ⟨rfl, rfl⟩))
            go_round
            case rel => exact ⟨j + 1, by omega, by go_num⟩
            case measure => simp [intOf]; omega
          · have f1 : ((j : Int) == (i : Int)) = false := by rw [beq_eq_false_iff_ne]; omega
            have f2 : ((j : Int) != (i : Int)) = true := by rw [bne_iff_ne]; omega
            have e1 : pairN z (30 - 2 * j) = pairN B (30 - 2 * j) := by rw [HZ.out]; exact pairN_other _ _ _ _ (by omega) (by omega)
            rw [e1] at q3
            obtain ⟨x, hx⟩ : ∃ x, x = pairN B (30 - 2 * j) := ⟨_, rfl⟩
            rw [← hx] at q2 q3
            have Q2 := hide q2
            have Q3 := hide q3
            clear q2 q3 e1 hji hx
            go_wp2_with (first
              | (go_at_call 7; (with_reducible refine (Q2.out _).mono ?_); rintro e w1 ⟨rfl, rfl⟩)
              | (go_at_call 7; (with_reducible refine (Q3.out _).mono ?_); rintro e w1 ⟨rfl, rfl⟩))
            go_round
            case rel => exact ⟨j + 1, by omega, by go_num⟩
            case measure => simp [intOf]; omega
        · go_wp2_with (first
            | (go_at_call 9; (refine (acc hb (bits_sane _)).mono ?_); clear hb; rintro e w1 ⟨rfl, hb⟩))
          go_ret
          exact ⟨rfl, hb⟩
end Go.Proofs.Ytlmpeehjcjbfpaa
