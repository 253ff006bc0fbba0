/- The statement CrcExact: contracts for any arguments, and the walk. -/
import Derived.Test.YtmpdgplgjclcoaaCrcLaw
namespace Go.Proofs.Ytmpdgplgjclcoaa
open Go.RowKit Crc
set_option linter.unusedVariables false

def updI (n : Int) (s : ByteArray) : Int := if 0 ≤ n ∧ n ≤ 4294967295 then ((upd n.toNat s.data.toList : Nat) : Int) else 0
theorem crc_update_any (n : Int) (s : ByteArray) (hs : s.size ≤ maxLen) (w : World) :
    Calls Try.prog 10 #[.int .i64 n, .string s] w fun e w' => e = .returned (.int .i64 (updI n s)) ∧ Below w.heap.size w w' := by
  unfold updI
  split
  · exact crc_update' n (by omega) (by omega) s hs w
  · exact crc_update_bad n s (by omega) w
theorem ref_update_any (n : Int) (s : ByteArray) (hs : s.size ≤ maxLen) (w : World) :
    Calls Try.prog 11 #[.int .i64 n, .string s] w fun e w' => e = .returned (.int .i64 (updI n s)) ∧ w = w' := by
  unfold updI
  split
  · rename_i h
    obtain ⟨m, rfl⟩ := Int.eq_ofNat_of_zero_le h.1
    exact ref_update m (by omega) s hs w
  · exact ref_update_bad n s (by omega) w

def flipBad (at_ len mask : Int) : Prop := len < 1 ∨ 32 < len ∨ at_ < 0 ∨ mask < 0 ∨ 2 ^ len.toNat ≤ mask
instance (at_ len mask : Int) : Decidable (flipBad at_ len mask) := by unfold flipBad; exact inferInstance
def flipS (s : ByteArray) (at_ len mask : Int) : ByteArray :=
  if flipBad at_ len mask then ByteArray.empty else if 8 * s.size - len < at_ then ByteArray.empty else ⟨(flipTo s.data.toList at_.toNat mask.toNat len.toNat).toArray⟩
def flipE (s : ByteArray) (at_ len mask : Int) : Int := if flipBad at_ len mask then 2 else if 8 * s.size - len < at_ then 4 else 0
theorem crc_flip_any (s : ByteArray) (hs : s.size ≤ 200) (at_ len mask : Int) (w : World) :
    Calls Try.prog 12 #[.string s, .int .i64 at_, .int .i64 len, .int .i64 mask] w fun e w' => e = .returned (.tuple #[.string (flipS s at_ len mask), .int .i64 (flipE s at_ len mask)]) ∧ Below w.heap.size w w' := by
  unfold flipS flipE
  by_cases hb : flipBad at_ len mask
  · rw [if_pos hb, if_pos hb]
    exact crc_flip_range s at_ len mask hb w
  · rw [if_neg hb, if_neg hb]
    unfold flipBad at hb
    by_cases hc : 8 * s.size - len < at_
    · rw [if_pos hc, if_pos hc]
      exact crc_flip_short s (by omega) at_ len mask (by omega) (by omega) (by omega) (by omega) (by omega) hc w
    · rw [if_neg hc, if_neg hc]
      obtain ⟨a, rfl⟩ := Int.eq_ofNat_of_zero_le (show 0 ≤ at_ by omega)
      obtain ⟨l, rfl⟩ := Int.eq_ofNat_of_zero_le (show 0 ≤ len by omega)
      obtain ⟨m, rfl⟩ := Int.eq_ofNat_of_zero_le (show 0 ≤ mask by omega)
      have hm : m < 2 ^ l := by
        have h1 : ¬ (2 : Int) ^ l ≤ (m : Int) := fun h => hb (Or.inr (Or.inr (Or.inr (Or.inr h))))
        have h2 : ((2 ^ l : Nat) : Int) = (2 : Int) ^ l := by simp
        omega
      exact crc_flip_ok s (by omega) a l m (by omega) (by omega) hm (by omega) w
theorem ref_flip_any (s : ByteArray) (hs : s.size ≤ 200) (at_ len mask : Int) (w : World) :
    Calls Try.prog 13 #[.string s, .int .i64 at_, .int .i64 len, .int .i64 mask] w fun e w' => e = .returned (.tuple #[.string (flipS s at_ len mask), .int .i64 (flipE s at_ len mask)]) ∧ Below w.heap.size w w' := by
  unfold flipS flipE
  by_cases hb : flipBad at_ len mask
  · rw [if_pos hb, if_pos hb]
    exact ref_flip_range s at_ len mask hb w
  · rw [if_neg hb, if_neg hb]
    unfold flipBad at hb
    by_cases hc : 8 * s.size - len < at_
    · rw [if_pos hc, if_pos hc]
      exact ref_flip_short s (by omega) at_ len mask (by omega) (by omega) (by omega) (by omega) (by omega) hc w
    · rw [if_neg hc, if_neg hc]
      obtain ⟨a, rfl⟩ := Int.eq_ofNat_of_zero_le (show 0 ≤ at_ by omega)
      obtain ⟨l, rfl⟩ := Int.eq_ofNat_of_zero_le (show 0 ≤ len by omega)
      obtain ⟨m, rfl⟩ := Int.eq_ofNat_of_zero_le (show 0 ≤ mask by omega)
      have hm : m < 2 ^ l := by
        have h1 : ¬ (2 : Int) ^ l ≤ (m : Int) := fun h => hb (Or.inr (Or.inr (Or.inr (Or.inr h))))
        have h2 : ((2 ^ l : Nat) : Int) = (2 : Int) ^ l := by simp
        omega
      exact ref_flip_ok s (by omega) a l m (by omega) (by omega) hm (by omega) w

set_option maxRecDepth 100000 in
theorem crc_exact (a b : ByteArray) (n at_ length mask small : Int) (ha : a.size ≤ 140737488351232) (hb0 : b.size ≤ 140737488351232) (hn : -9223372036854775808 ≤ n ∧ n ≤ 9223372036854775807)
    (hat : -9223372036854775808 ≤ at_ ∧ at_ ≤ 9223372036854775807) (hle : -9223372036854775808 ≤ length ∧ length ≤ 9223372036854775807) (hma : -9223372036854775808 ≤ mask ∧ mask ≤ 9223372036854775807) (hsm : 0 ≤ small ∧ small ≤ 4294967295) (w : World) :
    Calls Try.prog 6 #[.string a, .string b, .int .i64 n, .int .i64 at_, .int .i64 length, .int .i64 mask, .int .u32 small] w fun e w' => e = .returned (.bool true) ∧ Below w.heap.size w w' := by
  have hb := Below.refl w.heap.size w
  obtain ⟨s1, s2⟩ := hsm

  by_cases hl : 200 < a.size
  · have hl' : (200 : Int) < (a.size : Int) := by omega
    go_enter Try.func6, Try.ntmps6
    go_wp2_with (first | (go_at_call 8; refine (acc hb (crc_sane _)).mono ?_; clear hb; rintro e w1 ⟨rfl, hb⟩))
    go_ret
    exact ⟨rfl, hb⟩
  by_cases hl2 : 200 < b.size
  · have hl' : (200 : Int) < (b.size : Int) := by omega
    go_enter Try.func6, Try.ntmps6
    go_wp2_with (first | (go_at_call 8; refine (acc hb (crc_sane _)).mono ?_; clear hb; rintro e w1 ⟨rfl, hb⟩))
    go_ret
    exact ⟨rfl, hb⟩
  have d1 : decide (200 < (a.size : Int)) = false := by simp; omega
  have d2 : decide (200 < (b.size : Int)) = false := by simp; omega
  have sa : a.size ≤ 200 := by omega
  have sb : b.size ≤ 200 := by omega
  clear ha hb0 hl hl2
  go_enter Try.func6, Try.ntmps6
  go_wp2_with fail
  go_loopw [37] (fun i wr => ∃ k : Nat, k ≤ 2 ∧ i = .int .i64 k ∧ wr.heap[w.heap.size]? = some (.cells #[.int .i64 n, .int .i64 small] 3 (0, 0)) ∧ Below w.heap.size w wr) (fun i _ => 2 - (intOf i).toNat)
  case atStart => exact ⟨0, by omega, rfl, heap_alloc_new _ _, below1 _⟩
  case round =>
    obtain ⟨k, hk, rfl, hg, hb1⟩ := hrel
    clear hb
    by_cases hlt : k < 2
    · obtain ⟨x, hx⟩ : ∃ x : Int, wr.cell? ⟨w.heap.size, k, none⟩ = some (.int .i64 x) := by
        rw [cell_of_row wr _ _ _ _ _ hg]
        rcases k with _ | _ | k
        · exact ⟨_, rfl⟩
        · exact ⟨_, rfl⟩
        · omega
      have HG := hide hg
      have hlg : w.heap.size < wr.heap.size := (Array.getElem?_eq_some_iff.1 hg).1
      clear hg
      have hr := Below.refl wr.heap.size wr
      go_wp2_with (first
        | (go_at_call 10; refine (acc hr (crc_update_any x b (by unfold maxLen; omega) _)).mono ?_; clear hr; rintro e w1 ⟨rfl, hr⟩)
        | (go_at_call 11; refine (ref_update_any x b (by unfold maxLen; omega) _).mono ?_; rintro e w2 ⟨rfl, rfl⟩))
      go_roundw
      case rel => exact ⟨k + 1, by omega, by go_num, (hr.block _ hlg).trans HG.out, hb1.trans (hr.mono hb1.size)⟩
      case measure => simp [intOf]; omega
    · clear hg
      have hb2 : Below w.heap.size w (wr.alloc (.cells #[.int .i64 at_, .int .i64 length, .int .i64 mask, .int .i64 (small % 300), .int .i64 (1 + small / 1024 % 33), .int .i64 (small / 8 % 70)] 32)) := hb1.alloc hb1.size _
      have hg2 : (wr.alloc (.cells #[.int .i64 at_, .int .i64 length, .int .i64 mask, .int .i64 (small % 300), .int .i64 (1 + small / 1024 % 33), .int .i64 (small / 8 % 70)] 32)).heap[wr.heap.size]? = some (.cells #[.int .i64 at_, .int .i64 length, .int .i64 mask, .int .i64 (small % 300), .int .i64 (1 + small / 1024 % 33), .int .i64 (small / 8 % 70)] 32 (0, 0)) := heap_alloc_new _ _
      go_wp2_with fail
      generalize wr.alloc _ = W at hb2 hg2 ⊢
      generalize wr.heap.size = G at hg2 ⊢
      clear hb1 hlt hk
      go_loopw [68] (fun i wr => ∃ k : Nat, k ≤ 2 ∧ i = .int .i64 k ∧ wr.heap[G]? = some (.cells #[.int .i64 at_, .int .i64 length, .int .i64 mask, .int .i64 (small % 300), .int .i64 (1 + small / 1024 % 33), .int .i64 (small / 8 % 70)] 32 (0, 0)) ∧ Below w.heap.size w wr) (fun i _ => 2 - (intOf i).toNat)
      case atStart => exact ⟨0, by omega, rfl, hg2, hb2⟩
      case round =>
        obtain ⟨k, hk, rfl, hg, hb1⟩ := hrel
        clear hb2 hg2
        by_cases hlt : k < 2
        · obtain ⟨x0, x1, x2, h0, h1, h2⟩ : ∃ x0 x1 x2 : Int, wr.cell? ⟨G, k * 3, none⟩ = some (.int .i64 x0) ∧ wr.cell? ⟨G, k * 3 + 1, none⟩ = some (.int .i64 x1) ∧ wr.cell? ⟨G, k * 3 + 2, none⟩ = some (.int .i64 x2) := by
            rw [cell_of_row wr _ _ _ _ _ hg, cell_of_row wr _ _ _ _ _ hg, cell_of_row wr _ _ _ _ _ hg]
            rcases k with _ | _ | k
            · exact ⟨_, _, _, rfl, rfl, rfl⟩
            · exact ⟨_, _, _, rfl, rfl, rfl⟩
            · omega
          have HG := hide hg
          have hlg : G < wr.heap.size := (Array.getElem?_eq_some_iff.1 hg).1
          clear hg
          go_wp2_with fail
          refine (crc_flip_any a sa x0 x1 x2 _).mono ?_
          rintro e w1 ⟨rfl, hr⟩
          have c0 : w1.cell? ⟨wr.heap.size, 0, none⟩ = some (.int .i64 x0) := (hr.cell (by simp)).trans (by simp [go_sem])
          have c1 : w1.cell? ⟨wr.heap.size, 1, none⟩ = some (.int .i64 x1) := (hr.cell (by simp)).trans (by simp [go_sem])
          have c2 : w1.cell? ⟨wr.heap.size, 2, none⟩ = some (.int .i64 x2) := (hr.cell (by simp)).trans (by simp [go_sem])
          have hw : Below wr.heap.size wr w1 := (below1 _).trans (hr.mono (by simp))
          clear hr
          go_wp2_with fail
          refine (ref_flip_any a sa x0 x1 x2 _).mono ?_
          rintro e w2 ⟨rfl, hr⟩
          have hw2 : Below wr.heap.size wr w2 := hw.trans (hr.mono hw.size)
          clear hr hw c0 c1 c2
          go_wp2_with fail
          go_roundw
          case rel => exact ⟨k + 1, by omega, by go_num, (hw2.block _ hlg).trans HG.out, hb1.trans (hw2.mono hb1.size)⟩
          case measure => simp [intOf]; omega
        · clear hg
          have hr := hb1
          go_wp2_with (first
            | (go_at_call 8; refine (acc hr (crc_sane _)).mono ?_; clear hr; rintro e w1 ⟨rfl, hr⟩)
            | (go_at_call 9; refine (acc hr (crc_sum a (by unfold maxLen; omega) _)).mono ?_; clear hr; rintro e w1 ⟨rfl, hr⟩)
            | (go_at_call 14; refine (ref_sum a (by unfold maxLen; omega) _).mono ?_; rintro e w1 ⟨rfl, rfl⟩)
            | (go_at_call 15; refine (acc hr (crc_append a (by unfold maxLen; omega) _)).mono ?_; clear hr; rintro e w1 ⟨rfl, hr⟩)
            | (go_at_call 16; refine (acc hr (ref_append a (by unfold maxLen; omega) _)).mono ?_; clear hr; rintro e w1 ⟨rfl, hr⟩)
            | (go_at_call 17; refine (acc hr (crc_check _ (by simp [ByteArray.size_append, maxLen]; omega) _)).mono ?_; clear hr; rintro e w1 ⟨rfl, hr⟩)
            | (go_at_call 18; refine (acc hr (ref_check _ (by simp [ByteArray.size_append, maxLen]; omega) _)).mono ?_; clear hr; rintro e w1 ⟨rfl, hr⟩))
          go_ret
          exact ⟨rfl, hr⟩
end Go.Proofs.Ytmpdgplgjclcoaa
