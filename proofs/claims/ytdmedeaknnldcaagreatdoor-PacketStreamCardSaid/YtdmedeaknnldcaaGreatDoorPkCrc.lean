/- The checksum: what a check asks, in plain numbers. -/
import Derived.Test.YtdmedeaknnldcaaGreatDoorCrcWalkB
import Derived.Test.YtdmedeaknnldcaaGreatDoorCrcMathB
namespace Go.Proofs.YtdmedeaknnldcaaGreatDoor
open Go.RowKit Crc
theorem data_append (a b : ByteArray) : (a ++ b).data.toList = a.data.toList ++ b.data.toList := by simp
theorem toList_data (a : ByteArray) : a.toList = a.data.toList := ByteArray.toList_eq a
theorem size_data (a : ByteArray) : a.data.toList.length = a.size := by simp
theorem appended_data (s : ByteArray) : (appended s).data.toList = s.data.toList ++ le4 (sum s.data.toList) := by unfold appended; rw [data_append]
theorem appended_size (s : ByteArray) : (appended s).size = s.size + 4 := by unfold appended; simp [ByteArray.size_append]; rfl
theorem extract_pre (s : ByteArray) (n : Nat) : (s.extract 0 n).data.toList = s.data.toList.take n := by simp
theorem check_appended (s : ByteArray) : check (appended s) = true := by
  unfold check
  have h1 : decide (4 ≤ (appended s).size) = true := by rw [appended_size]; simp
  have h2 : (appended s).extract 0 ((appended s).size - 4) = s := by
    apply ByteArray.ext
    apply Array.toList_inj.1
    rw [extract_pre, appended_data, appended_size, Nat.add_sub_cancel, ← size_data, List.take_left]
  rw [h1, h2]; simp

theorem word_le4 {n : Nat} (h : n < 2 ^ 32) : word (le4 n) = n := by
  simp only [le4, word, UInt8.toNat_ofNat']
  omega
theorem check_iff (t : ByteArray) (h4 : 4 ≤ t.size) : check t = true ↔ run all t.data.toList = bsteps 32 all := by
  obtain ⟨pre, hpre⟩ : ∃ pre, pre = t.data.toList.take (t.size - 4) := ⟨_, rfl⟩
  obtain ⟨w4, hw4⟩ : ∃ w4, w4 = t.data.toList.drop (t.size - 4) := ⟨_, rfl⟩
  have hsp : t.data.toList = pre ++ w4 := by rw [hpre, hw4, List.take_append_drop]
  have hl4 : w4.length = 4 := by rw [hw4, List.length_drop, size_data]; omega
  have hr : run all t.data.toList = bsteps 32 (run all pre ^^^ word w4) := by rw [hsp, run_append, run_word _ w4, hl4]
  have hc : check t = (pre ++ le4 (sum pre) == t.data.toList) := by
    unfold check
    rw [decide_eq_true h4, Bool.true_and, toList_data, toList_data, appended_data, extract_pre, ← hpre]
  rw [hc, beq_iff_eq, hr, hsp, List.append_cancel_left_eq]
  have hrl := run_lt pre all_lt
  have hwl := word_lt4 (l := w4) (by omega)
  have hsl := sum_lt pre
  have hsum : sum pre = run all pre ^^^ all := by unfold sum upd; rw [Nat.zero_xor]
  constructor
  · intro h
    have h2 : sum pre = word w4 := by rw [← h, word_le4 hsl]
    rw [← h2, hsum, ← Nat.xor_assoc, Nat.xor_self, Nat.zero_xor]
  · intro h
    have h2 := bsteps_inj 32 (xor_lt 32 hrl hwl) all_lt h
    refine word_inj (by rw [hl4]; rfl) ?_
    have h3 : run all pre ^^^ (run all pre ^^^ word w4) = run all pre ^^^ all := by rw [h2]
    rw [← Nat.xor_assoc, Nat.xor_self, Nat.zero_xor] at h3
    rw [word_le4 hsl, hsum, h3]
theorem check_flipped (s : ByteArray) (k n m : Nat) (hn : n ≤ 32) (hm : m < 2 ^ n) (hk : k + n ≤ 8 * (s.size + 4)) :
    check ⟨(flipTo (appended s).data.toList k m n).toArray⟩ = (m == 0) := by
  have hx := (check_iff (appended s) (by rw [appended_size]; omega)).1 (check_appended s)
  have hlen : (appended s).data.toList.length = s.size + 4 := by rw [size_data, appended_size]
  have hsz : (⟨(flipTo (appended s).data.toList k m n).toArray⟩ : ByteArray).size = s.size + 4 := by
    show (flipTo (appended s).data.toList k m n).toArray.size = _
    rw [List.size_toArray, flipTo_length, hlen]
  have hi := check_iff ⟨(flipTo (appended s).data.toList k m n).toArray⟩ (by rw [hsz]; omega)
  have hd : (⟨(flipTo (appended s).data.toList k m n).toArray⟩ : ByteArray).data.toList = flipTo (appended s).data.toList k m n := rfl
  rw [hd, run_flipTo _ _ _ _ _ hm (by rw [hlen]; exact hk), hx] at hi
  have hm32 : m < 2 ^ 32 := Nat.lt_of_lt_of_le hm (Nat.pow_le_pow_right (by decide) hn)
  rw [Bool.eq_iff_iff, hi, beq_iff_eq]
  constructor
  · intro h
    exact bsteps_eq_zero _ hm32 (xor_cancel_left (c := bsteps 32 all) (h.trans (Nat.xor_zero _).symm))
  · rintro rfl
    rw [bsteps_zero, Nat.xor_zero]
theorem flip_back (s : ByteArray) (k n m : Nat) (hk : k + n ≤ 8 * (s.size + 4)) :
    (⟨(flipTo (⟨(flipTo (appended s).data.toList k m n).toArray⟩ : ByteArray).data.toList k m n).toArray⟩ : ByteArray) = appended s := by
  have hlen : (appended s).data.toList.length = s.size + 4 := by rw [size_data, appended_size]
  apply ByteArray.ext
  show (flipTo (flipTo (appended s).data.toList k m n) k m n).toArray = _
  rw [flipTo_twice _ _ _ _ (by rw [hlen]; exact hk)]

end Go.Proofs.YtdmedeaknnldcaaGreatDoor
