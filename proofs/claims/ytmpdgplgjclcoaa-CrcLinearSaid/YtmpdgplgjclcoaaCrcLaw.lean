/- The walks of the statements on the checksum: sane, CrcParts. -/
import Derived.Test.YtmpdgplgjclcoaaCrcRef
namespace Go.Proofs.Ytmpdgplgjclcoaa
open Go.RowKit Crc

theorem data_append (a b : ByteArray) : (a ++ b).data.toList = a.data.toList ++ b.data.toList := by simp
theorem toList_data (a : ByteArray) : a.toList = a.data.toList := ByteArray.toList_eq a
theorem size_data (a : ByteArray) : a.data.toList.length = a.size := by simp
theorem appended_data (s : ByteArray) : (appended s).data.toList = s.data.toList ++ le4 (sum s.data.toList) := by unfold appended; rw [data_append]
theorem appended_size (s : ByteArray) : (appended s).size = s.size + 4 := by unfold appended; simp [ByteArray.size_append]; rfl
theorem extract_pre (s : ByteArray) (n : Nat) : (s.extract 0 n).data.toList = s.data.toList.take n := by simp
theorem check_appended (s : ByteArray) : check (appended s) = true := by
  unfold check
  have h1 : decide (4 ≤ (appended s).size) = true := by rw [appended_size]; simp
  have h2 : (appended s).extract 0 ((appended s).size - 4) = s := by
    apply ByteArray.ext
    apply Array.toList_inj.1
    rw [extract_pre, appended_data, appended_size, Nat.add_sub_cancel, ← size_data, List.take_left]
  rw [h1, h2]; simp

theorem sane_num : sum [49, 50, 51, 52, 53, 54, 55, 56, 57] = 3421780262 := by decide +kernel
theorem sane_nil : sum [] = 0 := by decide +kernel
theorem crc_sane (w : World) : Calls Try.prog 8 #[] w fun e w' => e = .returned (.bool true) ∧ Below w.heap.size w w' := by
  have h1 : ((sum [49, 50, 51, 52, 53, 54, 55, 56, 57] : Nat) : Int) = 3421780262 := by rw [sane_num]; rfl
  have h2 : ((sum [] : Nat) : Int) = 0 := by rw [sane_nil]; rfl
  have h3 := check_appended ⟨#[97]⟩
  have hz : (appended ⟨#[97]⟩).size ≤ maxLen := by rw [appended_size]; decide
  have hb := Below.refl w.heap.size w
  go_enter Try.func8, Try.ntmps8
  go_wp2_with (first
    | (go_at_call 9; refine (acc hb (crc_sum _ (by decide) _)).mono ?_; clear hb; rintro e w1 ⟨rfl, hb⟩)
    | (go_at_call 15; refine (acc hb (crc_append _ (by decide) _)).mono ?_; clear hb; rintro e w1 ⟨rfl, hb⟩)
    | (go_at_call 17; refine (acc hb (crc_check _ hz _)).mono ?_; clear hb; rintro e w1 ⟨rfl, hb⟩))
  go_ret
  exact ⟨rfl, hb⟩

set_option maxRecDepth 100000 in
set_option maxHeartbeats 400000 in
theorem crc_parts (a b c : ByteArray) (ha : a.size ≤ 140737488351232) (hb0 : b.size ≤ 140737488351232) (hc0 : c.size ≤ 140737488351232) (w : World) :
    Calls Try.prog 3 #[.string a, .string b, .string c] w fun e w' => e = .returned (.bool true) ∧ Below w.heap.size w w' := by
  have hb := Below.refl w.heap.size w
  by_cases hl : 400 < a.size + b.size + c.size
  · have hl' : (400 : Int) < (a.size : Int) + b.size + c.size := by omega
    go_enter Try.func3, Try.ntmps3
    go_wp2_with (first | (go_at_call 8; refine (acc hb (crc_sane _)).mono ?_; clear hb; rintro e w1 ⟨rfl, hb⟩))
    go_ret
    exact ⟨rfl, hb⟩
  · have hl' : ¬ (400 : Int) < (a.size : Int) + b.size + c.size := by omega
    have sz : (a ++ b ++ c).size ≤ maxLen := by simp [ByteArray.size_append, maxLen]; omega
    have sz2 : (b ++ c).size ≤ maxLen := by simp [ByteArray.size_append, maxLen]; omega
    have sa : a.size ≤ maxLen := by unfold maxLen; omega
    have sb : b.size ≤ maxLen := by unfold maxLen; omega
    have sc : c.size ≤ maxLen := by unfold maxLen; omega
    obtain ⟨S, hS⟩ : ∃ S, S = sum (a.data.toList ++ b.data.toList ++ c.data.toList) := ⟨_, rfl⟩
    obtain ⟨A, hA⟩ : ∃ A, A = sum a.data.toList := ⟨_, rfl⟩
    obtain ⟨B, hB⟩ : ∃ B, B = upd A b.data.toList := ⟨_, rfl⟩
    have hSl : S < 4294967296 := by rw [hS]; exact sum_lt _
    have hAl : A < 4294967296 := by rw [hA]; exact sum_lt _
    have hBl : B < 4294967296 := by rw [hB]; exact upd_lt _ hAl
    have q1 : ∀ w, Calls Try.prog 9 #[.string (a ++ b ++ c)] w fun e w' => e = .returned (.int .i64 (S : Int)) ∧ Below w.heap.size w w' := fun w => by
      have := crc_sum (a ++ b ++ c) sz w
      rwa [data_append, data_append, ← hS] at this
    have q2 : ∀ w, Calls Try.prog 9 #[.string a] w fun e w' => e = .returned (.int .i64 (A : Int)) ∧ Below w.heap.size w w' := fun w => by
      have := crc_sum a sa w
      rwa [← hA] at this
    have q3 : ∀ w, Calls Try.prog 10 #[.int .i64 (A : Int), .string b] w fun e w' => e = .returned (.int .i64 (B : Int)) ∧ Below w.heap.size w w' := fun w => by
      have := crc_update A hAl b sb w
      rwa [← hB] at this
    have q4 : ∀ w, Calls Try.prog 10 #[.int .i64 (B : Int), .string c] w fun e w' => e = .returned (.int .i64 (S : Int)) ∧ Below w.heap.size w w' := fun w => by
      have := crc_update B hBl c sc w
      rwa [show upd B c.data.toList = S from by rw [hB, hA, hS]; unfold sum; rw [upd_append, upd_append, List.append_assoc]] at this
    have q5 : ∀ w, Calls Try.prog 10 #[.int .i64 (A : Int), .string (b ++ c)] w fun e w' => e = .returned (.int .i64 (S : Int)) ∧ Below w.heap.size w w' := fun w => by
      have := crc_update A hAl (b ++ c) sz2 w
      rwa [show upd A (b ++ c).data.toList = S from by rw [hA, hS, data_append]; unfold sum; rw [upd_append, List.append_assoc]] at this
    have q6 : ∀ w, Calls Try.prog 10 #[.int .i64 0, .string a] w fun e w' => e = .returned (.int .i64 (A : Int)) ∧ Below w.heap.size w w' := fun w => by
      have := crc_update 0 (by omega) a sa w
      rwa [show upd 0 a.data.toList = A from by rw [hA, sum]] at this
    have Q1 := hide q1
    have Q2 := hide q2
    have Q3 := hide q3
    have Q4 := hide q4
    have Q5 := hide q5
    have Q6 := hide q6
    clear q1 q2 q3 q4 q5 q6 hS hA hB sz sz2 sa sb sc
    have d0 : decide (0 ≤ (S : Int)) = true := by simp
    have d1 : decide ((S : Int) < 4294967296) = true := by simp; omega
    clear hSl hAl hBl
    go_enter Try.func3, Try.ntmps3
    go_wp2_with (first
      | (go_at_call 8; refine (acc hb (crc_sane _)).mono ?_; clear hb; rintro e w1 ⟨rfl, hb⟩)
      | (go_at_call 9; ((with_reducible refine (acc hb (Q1.out _)).mono ?_); clear hb; rintro e w1 ⟨rfl, hb⟩))
      | (go_at_call 9; ((with_reducible refine (acc hb (Q2.out _)).mono ?_); clear hb; rintro e w1 ⟨rfl, hb⟩))
      | (go_at_call 10; ((with_reducible refine (acc hb (Q3.out _)).mono ?_); clear hb; rintro e w1 ⟨rfl, hb⟩))
      | (go_at_call 10; ((with_reducible refine (acc hb (Q4.out _)).mono ?_); clear hb; rintro e w1 ⟨rfl, hb⟩))
      | (go_at_call 10; ((with_reducible refine (acc hb (Q5.out _)).mono ?_); clear hb; rintro e w1 ⟨rfl, hb⟩))
      | (go_at_call 10; ((with_reducible refine (acc hb (Q6.out _)).mono ?_); clear hb; rintro e w1 ⟨rfl, hb⟩)))
    go_ret
    exact ⟨rfl, hb⟩
end Go.Proofs.Ytmpdgplgjclcoaa
