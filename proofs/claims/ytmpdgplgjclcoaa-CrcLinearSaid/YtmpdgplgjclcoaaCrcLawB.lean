/- The statement CrcBursts: what a check asks, in plain numbers, and the walk. -/
import Derived.Test.YtmpdgplgjclcoaaCrcLaw
import Derived.Test.YtmpdgplgjclcoaaCrcMathB
namespace Go.Proofs.Ytmpdgplgjclcoaa
open Go.RowKit Crc

theorem word_le4 {n : Nat} (h : n < 2 ^ 32) : word (le4 n) = n := by
  simp only [le4, word, UInt8.toNat_ofNat']
  omega
theorem check_iff (t : ByteArray) (h4 : 4 ≤ t.size) : check t = true ↔ run all t.data.toList = bsteps 32 all := by
  obtain ⟨pre, hpre⟩ : ∃ pre, pre = t.data.toList.take (t.size - 4) := ⟨_, rfl⟩
  obtain ⟨w4, hw4⟩ : ∃ w4, w4 = t.data.toList.drop (t.size - 4) := ⟨_, rfl⟩
  have hsp : t.data.toList = pre ++ w4 := by rw [hpre, hw4, List.take_append_drop]
  have hl4 : w4.length = 4 := by rw [hw4, List.length_drop, size_data]; omega
  have hr : run all t.data.toList = bsteps 32 (run all pre ^^^ word w4) := by rw [hsp, run_append, run_word _ w4, hl4]
  have hc : check t = (pre ++ le4 (sum pre) == t.data.toList) := by
    unfold check
    rw [decide_eq_true h4, Bool.true_and, toList_data, toList_data, appended_data, extract_pre, ← hpre]
  rw [hc, beq_iff_eq, hr, hsp, List.append_cancel_left_eq]
  have hrl := run_lt pre all_lt
  have hwl := word_lt4 (l := w4) (by omega)
  have hsl := sum_lt pre
  have hsum : sum pre = run all pre ^^^ all := by unfold sum upd; rw [Nat.zero_xor]
  constructor
  · intro h
    have h2 : sum pre = word w4 := by rw [← h, word_le4 hsl]
    rw [← h2, hsum, ← Nat.xor_assoc, Nat.xor_self, Nat.zero_xor]
  · intro h
    have h2 := bsteps_inj 32 (xor_lt 32 hrl hwl) all_lt h
    refine word_inj (by rw [hl4]; rfl) ?_
    have h3 : run all pre ^^^ (run all pre ^^^ word w4) = run all pre ^^^ all := by rw [h2]
    rw [← Nat.xor_assoc, Nat.xor_self, Nat.zero_xor] at h3
    rw [word_le4 hsl, hsum, h3]
theorem check_flipped (s : ByteArray) (k n m : Nat) (hn : n ≤ 32) (hm : m < 2 ^ n) (hk : k + n ≤ 8 * (s.size + 4)) :
    check ⟨(flipTo (appended s).data.toList k m n).toArray⟩ = (m == 0) := by
  have hx := (check_iff (appended s) (by rw [appended_size]; omega)).1 (check_appended s)
  have hlen : (appended s).data.toList.length = s.size + 4 := by rw [size_data, appended_size]
  have hsz : (⟨(flipTo (appended s).data.toList k m n).toArray⟩ : ByteArray).size = s.size + 4 := by
    show (flipTo (appended s).data.toList k m n).toArray.size = _
    rw [List.size_toArray, flipTo_length, hlen]
  have hi := check_iff ⟨(flipTo (appended s).data.toList k m n).toArray⟩ (by rw [hsz]; omega)
  have hd : (⟨(flipTo (appended s).data.toList k m n).toArray⟩ : ByteArray).data.toList = flipTo (appended s).data.toList k m n := rfl
  rw [hd, run_flipTo _ _ _ _ _ hm (by rw [hlen]; exact hk), hx] at hi
  have hm32 : m < 2 ^ 32 := Nat.lt_of_lt_of_le hm (Nat.pow_le_pow_right (by decide) hn)
  rw [Bool.eq_iff_iff, hi, beq_iff_eq]
  constructor
  · intro h
    exact bsteps_eq_zero _ hm32 (xor_cancel_left (c := bsteps 32 all) (h.trans (Nat.xor_zero _).symm))
  · rintro rfl
    rw [bsteps_zero, Nat.xor_zero]
theorem flip_back (s : ByteArray) (k n m : Nat) (hk : k + n ≤ 8 * (s.size + 4)) :
    (⟨(flipTo (⟨(flipTo (appended s).data.toList k m n).toArray⟩ : ByteArray).data.toList k m n).toArray⟩ : ByteArray) = appended s := by
  have hlen : (appended s).data.toList.length = s.size + 4 := by rw [size_data, appended_size]
  apply ByteArray.ext
  show (flipTo (flipTo (appended s).data.toList k m n) k m n).toArray = _
  rw [flipTo_twice _ _ _ _ (by rw [hlen]; exact hk)]

set_option maxRecDepth 100000 in
theorem crc_bursts (s : ByteArray) (at_ mask length : Int) (hs : s.size ≤ 140737488351232) (hat : 0 ≤ at_ ∧ at_ ≤ 65535) (hmask : 0 ≤ mask ∧ mask ≤ 4294967295) (hle : 0 ≤ length ∧ length ≤ 255) (w : World) :
    Calls Try.prog 7 #[.string s, .int .u16 at_, .int .u32 mask, .int .u8 length] w fun e w' => e = .returned (.bool true) ∧ Below w.heap.size w w' := by
  have hb := Below.refl w.heap.size w
  obtain ⟨ha1, ha2⟩ := hat
  obtain ⟨hm1, hm2⟩ := hmask
  obtain ⟨hl1, hl2⟩ := hle
  by_cases hl : 200 < s.size
  · have hl' : (200 : Int) < (s.size : Int) := by omega
    go_enter Try.func7, Try.ntmps7
    go_wp2_with (first | (go_at_call 8; refine (acc hb (crc_sane _)).mono ?_; clear hb; rintro e w1 ⟨rfl, hb⟩))
    go_ret
    exact ⟨rfl, hb⟩
  · have hl' : (s.size : Int) ≤ 200 := by omega
    obtain ⟨n, hn⟩ : ∃ n : Nat, (n : Int) = 1 + length % 32 := ⟨(1 + length % 32).toNat, by omega⟩
    have hn1 : 1 ≤ n := by omega
    have hn2 : n ≤ 32 := by omega
    obtain ⟨m, hm⟩ : ∃ m : Nat, (m : Int) = mask % 2 ^ n := ⟨(mask % 2 ^ n).toNat, Int.toNat_of_nonneg (Int.emod_nonneg _ (by have := Int.pow_pos (n := 2) (m := n) (by decide); omega))⟩
    have hmn : m < 2 ^ n := by
      have h1 : mask % 2 ^ n < 2 ^ n := Int.emod_lt_of_pos _ (Int.pow_pos (by decide))
      rw [← hm] at h1; exact_mod_cast h1
    obtain ⟨k, hk⟩ : ∃ k : Nat, (k : Int) = at_ % (8 * s.size + 32 - n + 1) := ⟨(at_ % (8 * s.size + 32 - n + 1)).toNat, Int.toNat_of_nonneg (Int.emod_nonneg _ (by omega))⟩
    have hkn : k + n ≤ 8 * (s.size + 4) := by
      have h1 := Int.emod_lt_of_pos at_ (b := 8 * s.size + 32 - n + 1) (by omega)
      omega
    obtain ⟨p, hp, hP, hp1, hp2⟩ := pow_at n (by omega)
    have em : bits .and .i64 mask (p - 1) = (m : Int) := by rw [hm, hP.out]; exact i64_mask mask n (by omega)
    have en : 1 + length % 32 = (n : Int) := hn.symm
    have ek : at_ % (8 * (s.size : Int) + 32 - (n : Int) + 1) = (k : Int) := hk.symm
    have hk1 : 1 ≤ 8 * (s.size : Int) + 32 - (n : Int) + 1 := by omega
    clear hm hn hk
    obtain ⟨x, hx⟩ : ∃ x, x = appended s := ⟨_, rfl⟩
    obtain ⟨y, hy⟩ : ∃ y : ByteArray, y = ⟨(flipTo x.data.toList k m n).toArray⟩ := ⟨_, rfl⟩
    have hxs : x.size = s.size + 4 := by rw [hx, appended_size]
    have hys : y.size = s.size + 4 := by
      rw [hy]; show (flipTo x.data.toList k m n).toArray.size = _
      rw [List.size_toArray, flipTo_length, size_data, hxs]
    have q1 : ∀ w, Calls Try.prog 15 #[.string s] w fun e w' => e = .returned (.string x) ∧ Below w.heap.size w w' := fun w => by
      have := crc_append s (by unfold maxLen; omega) w
      rwa [← hx] at this
    have q2 : ∀ w, Calls Try.prog 12 #[.string x, .int .i64 k, .int .i64 n, .int .i64 m] w fun e w' => e = .returned (.tuple #[.string y, .int .i64 0]) ∧ Below w.heap.size w w' := fun w => by
      have := crc_flip_ok x (by omega) k n m hn1 hn2 hmn (by omega) w
      rwa [← hy] at this
    have q3 : ∀ w, Calls Try.prog 12 #[.string y, .int .i64 k, .int .i64 n, .int .i64 m] w fun e w' => e = .returned (.tuple #[.string x, .int .i64 0]) ∧ Below w.heap.size w w' := fun w => by
      have := crc_flip_ok y (by omega) k n m hn1 hn2 hmn (by omega) w
      rwa [hy, hx, flip_back s k n m hkn, ← hx, ← hy] at this
    have q4 : ∀ w, Calls Try.prog 17 #[.string x] w fun e w' => e = .returned (.bool true) ∧ Below w.heap.size w w' := fun w => by
      have := crc_check x (by unfold maxLen; omega) w
      rwa [show check x = true from by rw [hx, check_appended]] at this
    have q5 : ∀ w, Calls Try.prog 17 #[.string y] w fun e w' => e = .returned (.bool ((m : Int) == 0)) ∧ Below w.heap.size w w' := fun w => by
      have := crc_check y (by unfold maxLen; omega) w
      rwa [show check y = ((m : Int) == 0) from by rw [hy, hx, check_flipped s k n m hn2 hmn hkn, Bool.eq_iff_iff, beq_iff_eq, beq_iff_eq]; omega] at this
    have Q1 := hide q1
    have Q2 := hide q2
    have Q3 := hide q3
    have Q4 := hide q4
    have Q5 := hide q5
    clear q1 q2 q3 q4 q5 hx hy hxs hys hmn hkn
    go_enter Try.func7, Try.ntmps7
    go_wp2_with (first
      | (go_at_call 8; refine (acc hb (crc_sane _)).mono ?_; clear hb; rintro e w1 ⟨rfl, hb⟩)
      | (go_at_call 15; ((with_reducible refine (acc hb (Q1.out _)).mono ?_); clear hb; rintro e w1 ⟨rfl, hb⟩))
      | (go_at_call 12; ((with_reducible refine (acc hb (Q2.out _)).mono ?_); clear hb; rintro e w1 ⟨rfl, hb⟩))
      | (go_at_call 12; ((with_reducible refine (acc hb (Q3.out _)).mono ?_); clear hb; rintro e w1 ⟨rfl, hb⟩))
      | (go_at_call 17; ((with_reducible refine (acc hb (Q4.out _)).mono ?_); clear hb; rintro e w1 ⟨rfl, hb⟩))
      | (go_at_call 17; ((with_reducible refine (acc hb (Q5.out _)).mono ?_); clear hb; rintro e w1 ⟨rfl, hb⟩)))
    go_ret
    exact ⟨rfl, hb⟩
end Go.Proofs.Ytmpdgplgjclcoaa
