/- The walks of the reference's check, Time, Index, for rates that are valid. -/
import Derived.Test.YtmhbncpiloffgaaRateG
import Derived.Test.YtmhbncpiloffgaaRateMath
namespace Go.Proofs.Ytmhbncpiloffgaa
open Go.RowKit
set_option linter.unusedVariables false
set_option linter.unusedSimpArgs false

theorem ref_check_ok (n d s x : Nat) (hr : RateOk n d) (hs : s ≤ 9007199254740992) (hx : x ≤ 18014398509481984) (w : World) :
    Calls Try.prog 41 #[.int .i64 s, .agg #[.int .i64 n, .int .i64 d], .int .i64 x] w fun e w' => e = .returned (.int .i64 0) ∧ Below w.heap.size w w' := by
  have q := fun w => ref_valid n d w
  rw [decide_eq_true hr] at q
  have Q := hide q
  clear q hr
  go_enter Try.func41, Try.ntmps41
  go_wp2_with (first
    | (go_at_call 21; (with_reducible refine (acc (below1 _) (Q.out _)).mono ?_); rintro e w1 ⟨rfl, hb⟩)
    | (go_at_call 39; (with_reducible refine (utc_in_yes _ _ _ ?_ _).mono ?_); (focus omega); rintro e w1 ⟨rfl, rfl⟩))
  go_ret
  exact ⟨rfl, hb⟩
theorem ref_time_ok (n d s k : Nat) (hr : RateOk n d) (hs : s ≤ 9007199254740992) (hk : k ≤ 16777216) (w : World) :
    Calls Try.prog 22 #[.int .i64 s, .agg #[.int .i64 n, .int .i64 d], .int .i64 k] w fun e w' => e = .returned (.tuple #[.int .i64 (s + afterN n d k : Nat), .int .i64 0]) ∧ Below w.heap.size w w' := by
  have q := fun w => ref_valid n d w
  rw [decide_eq_true hr] at q
  have Q := hide q
  obtain ⟨r1, r2, r3, r4, r5⟩ := hr
  have hA := afterN_bound n d k (by omega) (by omega)
  have hC : afterN n d k = k * (d * 1000000) / n := rfl
  obtain ⟨b, hb0⟩ : ∃ b : Nat, k * d = b := ⟨_, rfl⟩
  obtain ⟨m, hm⟩ : ∃ m : Nat, b * 1000000 = m := ⟨_, rfl⟩
  obtain ⟨a, ha⟩ : ∃ a : Nat, afterN n d k = a := ⟨_, rfl⟩
  rw [ha] at hA hC ⊢
  rw [← Nat.mul_assoc, hb0, hm] at hC
  have hb1 : b ≤ 16777216 * 4096 := by rw [← hb0]; exact Nat.mul_le_mul hk (by omega)
  have e1 : (k : Int) * (d : Int) = (b : Int) := by rw [← hb0]; exact (Int.natCast_mul k d).symm
  have e2 : (b : Int) * 1000000 = (m : Int) := by omega
  have e3 : (m : Int) / (n : Int) = (a : Int) := by rw [hC]; rfl
  obtain ⟨y, hy⟩ : ∃ y : Nat, s + a = y := ⟨_, rfl⟩
  have e4 : (s : Int) + (a : Int) = (y : Int) := by omega
  have hy2 : y ≤ 9007199254740992 + 16777217 * 4096000000 := by omega
  have hn0 : (n : Int) ≠ 0 := by omega
  have hm2 : m ≤ 16777216 * 4096 * 1000000 := by omega
  rw [hy]
  clear q r5 hy hC ha hm hb0
  go_enter Try.func22, Try.ntmps22
  go_wp2_with (first
    | (go_at_call 21; (with_reducible refine (accB (below1 _) (heap_alloc_new _ _) (Q.out _)).mono ?_); rintro e w1 ⟨rfl, hb, hc⟩; (obtain ⟨c0, c1, f0, f1⟩ := pair_cells hc))
    | (go_at_call 39; (with_reducible refine (utc_in_yes _ _ _ ?_ _).mono ?_); (focus omega); rintro e w1 ⟨rfl, rfl⟩))
  go_ret2
  exact ⟨rfl, hb⟩
theorem idx_iff (n d x j : Nat) (hn : 1 ≤ n) (hd : 1 ≤ d) (hj : j ≤ 16777216) : afterN n d j ≤ x ↔ j ≤ idxN n d x := by
  have h1 := ceil_after n d (x + 1) j hn hd
  have h2 := ceilN_pos n d x hn hd
  unfold idxN
  omega
theorem ref_index_ahead (n d s t : Nat) (hr : RateOk n d) (hs : s ≤ 9007199254740992) (ht : t ≤ 18014398509481984) (h : t < s) (w : World) :
    Calls Try.prog 23 #[.int .i64 s, .agg #[.int .i64 n, .int .i64 d], .int .i64 t] w fun e w' => e = .returned (.tuple #[.int .i64 (-1), .int .i64 0]) ∧ Below w.heap.size w w' := by
  have q := fun w => ref_check_ok n d s t hr hs ht w
  have d1 : decide ((t : Int) < (s : Int)) = true := by simp; omega
  have Q := hide q
  clear q hr
  go_enter Try.func23, Try.ntmps23
  go_wp2_with (first
    | (go_at_call 41; (with_reducible refine (acc (below1 _) (Q.out _)).mono ?_); rintro e w1 ⟨rfl, hb⟩))
  go_ret2
  exact ⟨rfl, hb⟩
theorem ref_index_in (n d s t : Nat) (hr : RateOk n d) (hs : s ≤ 9007199254740992) (ht : t ≤ 18014398509481984) (h : s ≤ t) (w : World) :
    Calls Try.prog 23 #[.int .i64 s, .agg #[.int .i64 n, .int .i64 d], .int .i64 t] w fun e w' => e = .returned (.tuple #[.int .i64 (idxN n d (t - s)), .int .i64 0]) ∧ Below w.heap.size w w' := by
  have q := fun w => ref_check_ok n d s t hr hs ht w
  have Q := hide q
  have hT := hide (fun m (hm : m ≤ 16777216) w => ref_time_ok n d s m hr hs hm w)
  have hn1 : 1 ≤ n := by have := hr.1; omega
  have hd1 : 1 ≤ d := by have := hr.2.2.1; omega
  have hI := hide (fun j (hj : j ≤ 16777216) => idx_iff n d (t - s) j hn1 hd1 hj)
  have hr16 : idxN n d (t - s) ≤ 16777216 := by unfold idxN; omega
  obtain ⟨r, hrr⟩ : ∃ r : Nat, idxN n d (t - s) = r := ⟨_, rfl⟩
  rw [hrr] at hI hr16 ⊢
  have d1 : decide ((t : Int) < (s : Int)) = false := by simp; omega
  have d1' : decide (t < s) = false := by simp; omega
  clear q hrr hr
  go_enter Try.func23, Try.ntmps23
  go_wp2_with (first
    | (go_at_call 41; (with_reducible refine (accB (below1 _) (heap_alloc_new _ _) (Q.out _)).mono ?_); rintro e w1 ⟨rfl, hb, hc⟩; (obtain ⟨c0, c1, f0, f1⟩ := pair_cells hc)))
  clear c0 c1 f0 f1
  go_loopw [9, 10] (fun l u wr => ∃ L H : Nat, l = .int .i64 L ∧ u = .int .i64 H ∧ L ≤ r ∧ r ≤ H ∧ H ≤ 16777216 ∧ Below w.heap.size w wr ∧ wr.heap[w.heap.size]? = some (.cells #[.int .i64 n, .int .i64 d] 27 (0, 0))) (fun l u _ => (intOf u).toNat - (intOf l).toNat)
  case atStart => exact ⟨0, 16777216, rfl, rfl, by omega, by omega, by omega, hb, hc⟩
  case round =>
    clear hb hc
    obtain ⟨L, H, rfl, rfl, hL, hH, hM, hb, hc⟩ := hrel
    obtain ⟨c0, c1, f0, f1⟩ := pair_cells hc
    by_cases hlt : L < H
    · have dl : decide ((L : Int) < (H : Int)) = true := by simp; omega
      have dl' : decide (L < H) = true := by simp; omega
      obtain ⟨m, hm⟩ : ∃ m : Nat, (L + H + 1) / 2 = m := ⟨_, rfl⟩
      have em : ((L : Int) + (H : Int) + 1) / 2 = (m : Int) := by omega
      have hmb : L < m ∧ m ≤ H := by omega
      obtain ⟨m1, m2⟩ := hmb
      have TM := hide (hT.out m (by omega))
      have IM := hI.out m (by omega)
      obtain ⟨a, ha⟩ : ∃ a : Nat, s + afterN n d m = a := ⟨_, rfl⟩
      rw [ha] at TM
      by_cases hle : a ≤ t
      · have da : decide ((a : Int) ≤ (t : Int)) = true := by simp; omega
        have da' : decide (a ≤ t) = true := by simp; omega
        have hmr : m ≤ r := by omega
        clear hm ha IM
        go_wp2_with (first
          | (go_at_call 22; (with_reducible refine (accB hb hc (TM.out _)).mono ?_); clear hb hc c0 c1 f0 f1; rintro e w4 ⟨rfl, hb, hc⟩))
        go_roundw
        case rel => exact ⟨m, H, rfl, rfl, hmr, hH, hM, hb, hc⟩
        case measure => simp [intOf]; omega
      · have da : decide ((a : Int) ≤ (t : Int)) = false := by simp; omega
        have da' : decide (a ≤ t) = false := by simp; omega
        have hmr : r < m := by omega
        obtain ⟨p, hp⟩ : ∃ p : Nat, m = p + 1 := ⟨m - 1, by omega⟩
        have ep : (m : Int) - 1 = (p : Int) := by omega
        have hp3 : r ≤ p ∧ p < H ∧ p ≤ 16777216 := by omega
        obtain ⟨hp3, hp4, hp5⟩ := hp3
        clear hm ha IM hp
        go_wp2_with (first
          | (go_at_call 22; (with_reducible refine (accB hb hc (TM.out _)).mono ?_); clear hb hc c0 c1 f0 f1; rintro e w4 ⟨rfl, hb, hc⟩))
        go_roundw
        case rel => exact ⟨L, p, rfl, rfl, hL, hp3, hp5, hb, hc⟩
        case measure => simp [intOf]; omega
    · have dl : decide ((L : Int) < (H : Int)) = false := by simp; omega
      have dl' : decide (L < H) = false := by simp; omega
      have hLr : L = r := by omega
      have HL := hide hLr
      clear hLr
      go_wp2_with fail
      go_ret2
      exact ⟨ret2_int (by have := HL.out; omega), hb⟩
end Go.Proofs.Ytmhbncpiloffgaa
