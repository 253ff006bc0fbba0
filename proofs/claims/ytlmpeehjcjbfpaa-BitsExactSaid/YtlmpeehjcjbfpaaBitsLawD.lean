/- The statement BitsExact. -/
import Derived.Test.YtlmpeehjcjbfpaaBitsLaw
import Derived.Test.YtlmpeehjcjbfpaaIntBlk
namespace Go.Proofs.Ytlmpeehjcjbfpaa
open Go.RowKit Bits
set_option linter.unusedVariables false

def okP (word i : Int) : Prop := 0 ≤ word ∧ word ≤ 4294967295 ∧ 0 ≤ i ∧ i ≤ 15
instance (word i : Int) : Decidable (okP word i) := by unfold okP; exact inferInstance
def pairV (word i : Int) : Int := if okP word i then ((pairN word.toNat (30 - 2 * i.toNat) : Nat) : Int) else 0
def pairE (word i : Int) : Int := if okP word i then 0 else 2
def okS (word i v : Int) : Prop := okP word i ∧ 0 ≤ v ∧ v ≤ 3
instance (word i v : Int) : Decidable (okS word i v) := by unfold okS; exact inferInstance
def setV (word i v : Int) : Int := if okS word i v then ((setN word.toNat (30 - 2 * i.toNat) v.toNat : Nat) : Int) else 0
def setE (word i v : Int) : Int := if okS word i v then 0 else 2
theorem bits_pair (word i : Int) (w : World) : Calls Try.prog 7 #[.int .i64 word, .int .i64 i] w fun e w' => e = .returned (.tuple #[.int .i64 (pairV word i), .int .i64 (pairE word i)]) ∧ w = w' := by
  unfold pairV pairE
  split
  · rename_i h
    obtain ⟨a, rfl⟩ := Int.eq_ofNat_of_zero_le h.1
    obtain ⟨b, rfl⟩ := Int.eq_ofNat_of_zero_le h.2.2.1
    obtain ⟨_, h2, _, h4⟩ := h
    exact bits_pair_ok a b (by omega) (by omega) w
  · rename_i h
    unfold okP at h
    exact bits_pair_bad word i (by omega) w
theorem ref_pair (word i : Int) (w : World) : Calls Try.prog 20 #[.int .i64 word, .int .i64 i] w fun e w' => e = .returned (.tuple #[.int .i64 (pairV word i), .int .i64 (pairE word i)]) ∧ w = w' := by
  unfold pairV pairE
  split
  · rename_i h
    obtain ⟨a, rfl⟩ := Int.eq_ofNat_of_zero_le h.1
    obtain ⟨b, rfl⟩ := Int.eq_ofNat_of_zero_le h.2.2.1
    obtain ⟨_, h2, _, h4⟩ := h
    exact ref_pair_ok a b (by omega) (by omega) w
  · rename_i h
    unfold okP at h
    exact ref_pair_bad word i (by omega) w
theorem bits_setpair (word i v : Int) (w : World) : Calls Try.prog 8 #[.int .i64 word, .int .i64 i, .int .i64 v] w fun e w' => e = .returned (.tuple #[.int .i64 (setV word i v), .int .i64 (setE word i v)]) ∧ Below w.heap.size w w' := by
  unfold setV setE
  split
  · rename_i h
    obtain ⟨a, rfl⟩ := Int.eq_ofNat_of_zero_le h.1.1
    obtain ⟨b, rfl⟩ := Int.eq_ofNat_of_zero_le h.1.2.2.1
    obtain ⟨c, rfl⟩ := Int.eq_ofNat_of_zero_le h.2.1
    obtain ⟨⟨_, h2, _, h4⟩, _, h6⟩ := h
    exact bits_setpair_ok a b c (by omega) (by omega) (by omega) w
  · rename_i h
    unfold okS okP at h
    exact (bits_setpair_bad word i v (by omega) w).mono fun _ _ ⟨h1, h2⟩ => ⟨h1, h2 ▸ Below.refl _ _⟩
theorem ref_setpair (word i v : Int) (w : World) : Calls Try.prog 21 #[.int .i64 word, .int .i64 i, .int .i64 v] w fun e w' => e = .returned (.tuple #[.int .i64 (setV word i v), .int .i64 (setE word i v)]) ∧ w = w' := by
  unfold setV setE
  split
  · rename_i h
    obtain ⟨a, rfl⟩ := Int.eq_ofNat_of_zero_le h.1.1
    obtain ⟨b, rfl⟩ := Int.eq_ofNat_of_zero_le h.1.2.2.1
    obtain ⟨c, rfl⟩ := Int.eq_ofNat_of_zero_le h.2.1
    obtain ⟨⟨_, h2, _, h4⟩, _, h6⟩ := h
    exact ref_setpair_ok a b c (by omega) (by omega) (by omega) w
  · rename_i h
    unfold okS okP at h
    exact ref_setpair_bad word i v (by omega) w

set_option maxRecDepth 100000 in
set_option maxHeartbeats 1000000 in
theorem bits_exact (s : ByteArray) (n width at_ i value small : Int) (hs : s.size ≤ 140737488351232) (hn : -9223372036854775808 ≤ n ∧ n ≤ 9223372036854775807) (hwd : -9223372036854775808 ≤ width ∧ width ≤ 9223372036854775807)
    (hat : -9223372036854775808 ≤ at_ ∧ at_ ≤ 9223372036854775807) (hi : -9223372036854775808 ≤ i ∧ i ≤ 9223372036854775807) (hv : -9223372036854775808 ≤ value ∧ value ≤ 9223372036854775807) (hsm : 0 ≤ small ∧ small ≤ 4294967295) (w : World) :
    Calls Try.prog 6 #[.string s, .int .i64 n, .int .i64 width, .int .i64 at_, .int .i64 i, .int .i64 value, .int .u32 small] w fun e w' => e = .returned (.bool true) ∧ Below w.heap.size w w' := by
  have hb := Below.refl w.heap.size w
  obtain ⟨s1, s2⟩ := hsm
  clear hn hwd hat hi hv
  by_cases hl : 200 < s.size
  · have hl' : (200 : Int) < (s.size : Int) := by omega
    go_enter Try.func6, Try.ntmps6
    go_wp2_with (first | (go_at_call 9; refine (acc hb (bits_sane _)).mono ?_; clear hb; rintro e w1 ⟨rfl, hb⟩))
    go_ret
    exact ⟨rfl, hb⟩
  have hl' : (s.size : Int) ≤ 200 := by omega
  have sa : s.size ≤ 140737488000000 := by omega
  have sb : s.size ≤ 140737488355328 := by omega
  have d0 : decide (200 < (s.size : Int)) = false := by simp; omega
  clear hl hs
  go_enter Try.func6, Try.ntmps6
  go_wp2_with fail
  go_loopw [70] (fun i wr => ∃ k : Nat, k ≤ 3 ∧ i = .int .i64 k ∧ IntBlk wr w.heap.size 3 3 ∧ Below w.heap.size w wr) (fun i _ => 3 - (intOf i).toNat)
  case atStart => exact ⟨0, by omega, rfl, IntBlk.new _ _ _ rfl, below1 _⟩
  case round =>
    obtain ⟨k, hk, rfl, hB, hb1⟩ := hrel
    obtain ⟨wo, rfl⟩ : ∃ wo : World, wo = wr := ⟨_, rfl⟩
    clear hb
    by_cases hlt : k < 3
    · obtain ⟨wd, hcell⟩ := hB.cell hlt
      have dk : decide ((k : Int) < 3) = true := by simp; omega
      go_wp2_with fail
      have hlg : Below wo.heap.size wo wo := Below.refl _ _
      go_loopw [85] (fun i wr => ∃ k : Nat, k ≤ 4 ∧ i = .int .i64 k ∧ IntBlk wr wo.heap.size 3 4 ∧ Below wo.heap.size wo wr) (fun i _ => 4 - (intOf i).toNat)
      case atStart => exact ⟨0, by omega, rfl, IntBlk.new _ _ _ rfl, below1 _⟩
      case round =>
        clear hlg
        obtain ⟨k', hk', rfl, hB2, hb2⟩ := hrel
        by_cases hlt2 : k' < 4
        · obtain ⟨x, hcell2⟩ := hB2.cell hlt2
          have hr := Below.refl wr.heap.size wr
          go_wp2_with (first
            | (go_at_call 13; (with_reducible refine (acc hr (bits_put s sa x wd _)).mono ?_); clear hr; rintro e w3 ⟨rfl, hr⟩)
            | (go_at_call 15; (with_reducible refine (acc hr (ref_put s sa x wd _)).mono ?_); clear hr; rintro e w3 ⟨rfl, hr⟩)
            | (go_at_call 14; (with_reducible refine (bits_get s sb x wd _).mono ?_); rintro e w3 ⟨rfl, rfl⟩)
            | (go_at_call 16; (with_reducible refine (ref_get s sb x wd _).mono ?_); rintro e w3 ⟨rfl, rfl⟩)
            | (go_at_call 10; (with_reducible refine (acc hr (bits_wrap x wd _)).mono ?_); clear hr; rintro e w3 ⟨rfl, hr⟩)
            | (go_at_call 17; (with_reducible refine (ref_wrap x wd _).mono ?_); rintro e w3 ⟨rfl, rfl⟩)
            | (go_at_call 12; (with_reducible refine (bits_sign x wd _).mono ?_); rintro e w3 ⟨rfl, rfl⟩)
            | (go_at_call 18; (with_reducible refine (ref_sign x wd _).mono ?_); rintro e w3 ⟨rfl, rfl⟩)
            | (go_at_call 11; (with_reducible refine (acc hr (bits_fits x wd _)).mono ?_); clear hr; rintro e w3 ⟨rfl, hr⟩)
            | (go_at_call 19; (with_reducible refine (ref_fits x wd _).mono ?_); rintro e w3 ⟨rfl, rfl⟩))
          go_roundw
          case rel => exact ⟨k' + 1, by omega, by go_num, hB2.keep hr, hb2.trans (hr.mono hb2.size)⟩
          case measure => simp [intOf]; omega
        · clear hB2
          go_wp2_with (first
            | (go_at_call 14; (with_reducible refine (bits_get s sb at_ wd _).mono ?_); rintro e w3 ⟨rfl, rfl⟩)
            | (go_at_call 16; (with_reducible refine (ref_get s sb at_ wd _).mono ?_); rintro e w3 ⟨rfl, rfl⟩))
          go_roundw
          case rel => exact ⟨k + 1, by omega, by go_num, hB.keep hb2, hb1.trans (hb2.mono hb1.size)⟩
          case measure => simp [intOf]; omega
    · clear hB
      go_wp2_with fail
      go_loopw [217] (fun i wr => ∃ k : Nat, k ≤ 2 ∧ i = .int .i64 k ∧ IntBlk wr wo.heap.size 3 2 ∧ Below wo.heap.size wo wr) (fun i _ => 2 - (intOf i).toNat)
      case atStart => exact ⟨0, by omega, rfl, IntBlk.new _ _ _ rfl, below1 _⟩
      case round =>
        obtain ⟨k', hk', rfl, hB2, hb2⟩ := hrel
        obtain ⟨wp, rfl⟩ : ∃ wp : World, wp = wr := ⟨_, rfl⟩
        by_cases hlt2 : k' < 2
        · obtain ⟨x, hcell2⟩ := hB2.cell hlt2
          have dk : decide ((k' : Int) < 2) = true := by simp; omega
          go_wp2_with fail
          go_loopw [227] (fun i wr => ∃ k : Nat, k ≤ 2 ∧ i = .int .i64 k ∧ IntBlk wr wp.heap.size 3 2 ∧ Below wp.heap.size wp wr) (fun i _ => 2 - (intOf i).toNat)
          case atStart => exact ⟨0, by omega, rfl, IntBlk.new _ _ _ rfl, below1 _⟩
          case round =>
            obtain ⟨k3, hk3, rfl, hB3, hb3⟩ := hrel
            by_cases hlt3 : k3 < 2
            · obtain ⟨y, hcell3⟩ := hB3.cell hlt3
              have hr := Below.refl wr.heap.size wr
              go_wp2_with (first
                | (go_at_call 7; (with_reducible refine (bits_pair x y _).mono ?_); rintro e w4 ⟨rfl, rfl⟩)
                | (go_at_call 20; (with_reducible refine (ref_pair x y _).mono ?_); rintro e w4 ⟨rfl, rfl⟩)
                | (go_at_call 8; (with_reducible refine (acc hr (bits_setpair x y _ _)).mono ?_); clear hr; rintro e w4 ⟨rfl, hr⟩)
                | (go_at_call 21; (with_reducible refine (ref_setpair x y _ _).mono ?_); rintro e w4 ⟨rfl, rfl⟩))
              go_roundw
              case rel => exact ⟨k3 + 1, by omega, by go_num, hB3.keep hr, hb3.trans (hr.mono hb3.size)⟩
              case measure => simp [intOf]; omega
            · clear hB3
              go_wp2
              go_roundw
              case rel => exact ⟨k' + 1, by omega, by go_num, hB2.keep hb3, hb2.trans (hb3.mono hb2.size)⟩
              case measure => simp [intOf]; omega
        · have hbb := hb1.trans (hb2.mono hb1.size)
          go_wp2_with (first | (go_at_call 9; refine (acc hbb (bits_sane _)).mono ?_; clear hbb; rintro e w1 ⟨rfl, hbb⟩))
          go_ret
          exact ⟨rfl, hbb⟩
end Go.Proofs.Ytlmpeehjcjbfpaa
