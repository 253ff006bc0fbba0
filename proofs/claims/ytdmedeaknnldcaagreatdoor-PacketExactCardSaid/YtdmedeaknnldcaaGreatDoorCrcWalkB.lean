/- The walks of crc.Append, crc.Check, crc.Flip. -/
import Derived.Test.YtdmedeaknnldcaaGreatDoorCrcWalk
namespace Go.Proofs.YtdmedeaknnldcaaGreatDoor
open Go.RowKit Crc

def le4 (n : Nat) : List UInt8 := [UInt8.ofNat n, UInt8.ofNat (n / 256), UInt8.ofNat (n / 65536), UInt8.ofNat (n / 16777216)]
theorem le4_cell {n : Nat} (hn : n < 2 ^ 32) {w : World} (j : Nat) (hj : j < (le4 n).length) :
    (w.alloc (.cells #[.int .u8 ((n : Int) % 256), .int .u8 ((n : Int) / 256 % 256), .int .u8 ((n : Int) / 65536 % 256), .int .u8 ((n : Int) / 16777216)] 5)).cell? ((⟨w.heap.size, 0, none⟩ : Addr).add j) = some (.int .u8 ((le4 n)[j].toNat : Int)) := by
  have hj' : j < 4 := hj
  rcases j with _ | _ | _ | _ | j
  · simp [le4, go_sem]
  · simp [le4, go_sem]
  · simp [le4, go_sem]
  · simp [le4, go_sem]; omega
  · omega
def appended (s : ByteArray) : ByteArray := s ++ ⟨(le4 (sum s.data.toList)).toArray⟩
theorem crc_append (s : ByteArray) (hs : s.size + 4 ≤ maxLen) (w : World) :
    Calls Tryz.prog 36 #[.string s] w fun e w' => e = .returned (.string (appended s)) ∧ Below w.heap.size w w' := by
  have hsb := sum_lt s.data.toList
  have hs' : s.size ≤ maxLen := by omega
  unfold maxLen at hs
  have hap : Hid (appended s = s ++ ⟨(le4 (sum s.data.toList)).toArray⟩) := hide rfl
  have hsz : (⟨(le4 (sum s.data.toList)).toArray⟩ : ByteArray).size = 4 := rfl
  go_enter Tryz.func36, Tryz.ntmps36
  go_wp2_with (first
    | (go_at_call 65; refine (crc_sum s hs' _).mono ?_; rintro e w1 ⟨rfl, hb1⟩)
    | (refine wpList_bytes_string rfl 53 9 5 _ rfl Tryz.underlying53 Tryz.underlying5 Tryz.underlying9 ⟨w1.heap.size, 0, none⟩ 4 4 (le4 (sum s.data.toList)) rfl rfl (le4_cell hsb) ?_))
  go_ret
  exact ⟨by rw [hap.out]; rfl, hb1.alloc hb1.size _⟩

def check (s : ByteArray) : Bool := decide (4 ≤ s.size) && ((appended (s.extract 0 (s.size - 4))).toList == s.toList)
theorem crc_check (s : ByteArray) (hs : s.size ≤ maxLen) (w : World) :
    Calls Tryz.prog 45 #[.string s] w fun e w' => e = .returned (.bool (check s)) ∧ Below w.heap.size w w' := by
  by_cases h4 : 4 ≤ s.size
  · have hn : (((s.size - 4 : Nat) : Int)) = (s.size : Int) - 4 := by omega
    obtain ⟨n, hn'⟩ : ∃ n, n = s.size - 4 := ⟨_, rfl⟩
    have hsz : (s.extract 0 n).size + 4 ≤ maxLen := by simp [ByteArray.size_extract]; omega
    have hck : check s = ((appended (s.extract 0 n)).toList == s.toList) := by unfold check; rw [hn', decide_eq_true h4]; rfl
    have H := hide hck
    clear hck
    unfold maxLen at hs
    have e1 : (s.size : Int) - 4 = (n : Int) := by omega
    have h0 : decide (0 ≤ (n : Int)) = true := by simp
    clear hn hn'
    go_enter Tryz.func45, Tryz.ntmps45
    go_wp2_with (first | (go_at_call 36; refine (crc_append _ hsz _).mono ?_; rintro e w1 ⟨rfl, hb1⟩))
    go_ret
    exact ⟨by rw [H.out]; rfl, hb1⟩
  · have hck : check s = false := by unfold check; rw [decide_eq_false h4]; rfl
    have H := hide hck
    clear hck
    have h0 : decide (0 ≤ (s.size : Int) - 4) = false := by simp; omega
    unfold maxLen at hs
    go_enter Tryz.func45, Tryz.ntmps45
    go_wp2
    go_ret
    exact ⟨by rw [H.out]; rfl, Below.refl _ _⟩

end Go.Proofs.YtdmedeaknnldcaaGreatDoor
