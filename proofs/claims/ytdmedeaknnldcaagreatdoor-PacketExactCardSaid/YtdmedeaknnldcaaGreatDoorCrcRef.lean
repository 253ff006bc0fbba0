/- The walks of the reference of the checksum. -/
import Derived.Test.YtdmedeaknnldcaaGreatDoorCrcWalkB
namespace Go.Proofs.YtdmedeaknnldcaaGreatDoor
open Go.RowKit Crc

set_option maxRecDepth 100000 in
theorem ref_run (n : Nat) (hn : n < 4294967296) (s : ByteArray) (hs : s.size ≤ maxLen) (w : World) :
    Calls Tryz.prog 71 #[.int .i64 n, .string s] w fun e w' => e = .returned (.int .i64 ((run n s.data.toList : Nat) : Int)) ∧ w = w' := by
  unfold maxLen at hs
  go_enter Tryz.func71, Tryz.ntmps71
  go_wp2
  go_loop [0, 5] (fun r i => ∃ (k : Nat) (q : Nat), k ≤ s.size ∧ i = .int .i64 k ∧ r = .int .i64 q ∧ Hid (q = run n (s.data.toList.take k))) (fun _ i => s.size - (intOf i).toNat)
  case atStart => exact ⟨0, n, Nat.zero_le _, rfl, rfl, hide (by rw [List.take_zero, run_nil])⟩
  case round =>
    obtain ⟨k, q, hk, rfl, rfl, hq⟩ := hrel
    by_cases hlt : k < s.size
    · have hqb : q < 4294967296 := by rw [hq.out]; exact run_lt _ hn
      have hnext : run n (s.data.toList.take (k + 1)) = bsteps 8 (q ^^^ s[k].toNat) := by rw [take_snoc s k hlt, run_snoc, ← hq.out]
      have HN := hide hnext
      clear hnext hq
      have hcb : s[k].toNat < 256 := s[k].toNat_lt
      obtain ⟨x, hx⟩ : ∃ x, x = q ^^^ s[k].toNat := ⟨_, rfl⟩
      have e1 : bits .xor .i64 (q : Int) ((s[k].toNat : Nat) : Int) = (x : Int) := by rw [hx]; exact i64_xor_nat _ _ (by omega) (by omega)
      have hxb : x < 4294967296 := by rw [hx]; exact xor_lt 32 hqb (by omega)
      rw [← hx] at HN
      clear hx
      go_wp2
      go_loop [0, 6] (fun r j => ∃ m : Nat, m ≤ 8 ∧ j = .int .i64 m ∧ r = .int .i64 ((bsteps m x : Nat) : Int)) (fun _ j => 8 - (intOf j).toNat)
      case atStart => exact ⟨0, by omega, rfl, rfl⟩
      case round =>
        obtain ⟨m, hm, rfl, rfl⟩ := hrel
        by_cases hm8 : m < 8
        · go_wp2
          · go_round
            case rel =>
              refine ⟨m + 1, by omega, by go_num, ?_⟩
              rw [bit_yes (by assumption) (bsteps_lt m hxb)]
              rfl
            case measure => simp [intOf]; omega
          · go_round
            case rel =>
              refine ⟨m + 1, by omega, by go_num, ?_⟩
              rw [bit_no (by assumption)]
              rfl
            case measure => simp [intOf]; omega
        · have e8 : m = 8 := by omega
          have HM := hide e8
          clear e8
          go_wp2
          go_round
          case rel => exact ⟨k + 1, bsteps 8 x, by omega, by go_num, by rw [HM.out], hide HN.out.symm⟩
          case measure => simp [intOf]; omega
    · have hq2 : q = run n s.data.toList := by
        rw [hq.out, List.take_of_length_le (by simp; omega)]
      clear hq
      have H2 := hide hq2
      clear hq2
      go_wp2
      go_ret
      exact ⟨by rw [← H2.out]; rfl, rfl⟩

theorem ref_sum (s : ByteArray) (hs : s.size ≤ maxLen) (w : World) :
    Calls Tryz.prog 44 #[.string s] w fun e w' => e = .returned (.int .i64 ((sum s.data.toList : Nat) : Int)) ∧ w = w' := by
  have hb : run all s.data.toList < 4294967296 := run_lt _ all_lt
  have e1 : bits .xor .i64 ((run all s.data.toList : Nat) : Int) 4294967295 = ((sum s.data.toList : Nat) : Int) := by
    rw [show (4294967295 : Int) = ((4294967295 : Nat) : Int) from rfl, i64_xor_nat _ _ (by omega) (by omega)]; unfold sum upd; rw [Nat.zero_xor]; rfl
  go_enter Tryz.func44, Tryz.ntmps44
  go_wp2_with (first | (go_at_call 71; refine (ref_run 4294967295 (by omega) s hs _).mono ?_; rintro e w1 ⟨rfl, rfl⟩))
  go_ret
  exact ⟨by rw [← e1]; rfl, rfl⟩

theorem ref_append (s : ByteArray) (hs : s.size + 4 ≤ maxLen) (w : World) :
    Calls Tryz.prog 19 #[.string s] w fun e w' => e = .returned (.string (appended s)) ∧ Below w.heap.size w w' := by
  have hsb := sum_lt s.data.toList
  have hs' : s.size ≤ maxLen := by omega
  unfold maxLen at hs
  have hap : Hid (appended s = s ++ ⟨(le4 (sum s.data.toList)).toArray⟩) := hide rfl
  have hsz : (⟨(le4 (sum s.data.toList)).toArray⟩ : ByteArray).size = 4 := rfl
  go_enter Tryz.func19, Tryz.ntmps19
  go_wp2_with (first
    | (go_at_call 44; refine (ref_sum s hs' _).mono ?_; rintro e w1 ⟨rfl, rfl⟩)
    | (refine wpList_bytes_string rfl 53 9 5 _ rfl Tryz.underlying53 Tryz.underlying5 Tryz.underlying9 ⟨w.heap.size, 0, none⟩ 4 4 (le4 (sum s.data.toList)) rfl rfl (le4_cell hsb) ?_))
  go_ret
  exact ⟨by rw [hap.out]; rfl, below1 _⟩

theorem ref_check (s : ByteArray) (hs : s.size ≤ maxLen) (w : World) :
    Calls Tryz.prog 47 #[.string s] w fun e w' => e = .returned (.bool (check s)) ∧ Below w.heap.size w w' := by
  by_cases h4 : 4 ≤ s.size
  · have hn : (((s.size - 4 : Nat) : Int)) = (s.size : Int) - 4 := by omega
    obtain ⟨n, hn'⟩ : ∃ n, n = s.size - 4 := ⟨_, rfl⟩
    have hsz : (s.extract 0 n).size + 4 ≤ maxLen := by simp [ByteArray.size_extract]; omega
    have hck : check s = ((appended (s.extract 0 n)).toList == s.toList) := by unfold check; rw [hn', decide_eq_true h4]; rfl
    have H := hide hck
    clear hck
    unfold maxLen at hs
    have e1 : (s.size : Int) - 4 = (n : Int) := by omega
    have h0 : decide (4 ≤ (s.size : Int)) = true := by simp; omega
    clear hn hn'
    go_enter Tryz.func47, Tryz.ntmps47
    go_wp2_with (first | (go_at_call 19; refine (ref_append _ hsz _).mono ?_; rintro e w1 ⟨rfl, hb1⟩))
    go_ret
    exact ⟨by rw [H.out]; rfl, hb1⟩
  · have hck : check s = false := by unfold check; rw [decide_eq_false h4]; rfl
    have H := hide hck
    clear hck
    have h0 : decide (4 ≤ (s.size : Int)) = false := by simp; omega
    unfold maxLen at hs
    go_enter Tryz.func47, Tryz.ntmps47
    go_wp2
    go_ret
    exact ⟨by rw [H.out]; rfl, Below.refl _ _⟩

end Go.Proofs.YtdmedeaknnldcaaGreatDoor
