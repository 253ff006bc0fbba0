/- The statement BitsBack. -/
import Derived.Test.YtlmpeehjcjbfpaaBitsLaw
import Derived.Test.YtlmpeehjcjbfpaaBitsLawB
namespace Go.Proofs.Ytlmpeehjcjbfpaa
open Go.RowKit Bits
set_option linter.unusedVariables false

theorem getB_putTo (n w j : Nat) (hn : n < 2 ^ (8 * w)) (hj : j ≤ w) : getB (putTo n w j) = n / 2 ^ (8 * (w - j)) := by
  induction j with
  | zero =>
    have : n / 2 ^ (8 * (w - 0)) = 0 := Nat.div_eq_of_lt hn
    rw [this]; rfl
  | succ j ih =>
    rw [putTo_succ, getB_snoc, ih (by omega), UInt8.toNat_ofNat']
    have e : 8 * (w - j) = 8 * (w - 1 - j) + 8 := by omega
    rw [e, Nat.pow_add, ← Nat.div_div_eq_div_mul, show w - (j + 1) = w - 1 - j by omega]
    omega
theorem get_back (s : ByteArray) (n w : Nat) (hn : n < 2 ^ (8 * w)) : getB (getL (⟨(s.data.toList ++ putTo n w w).toArray⟩ ++ s) s.size w) = n := by
  have e : (⟨(s.data.toList ++ putTo n w w).toArray⟩ ++ s : ByteArray).data.toList = s.data.toList ++ (putTo n w w ++ s.data.toList) := by simp
  have hl : s.data.toList.length = s.size := by simp
  unfold getL
  rw [e, List.drop_append_of_le_length (by omega), List.drop_of_length_le (by omega), List.nil_append, List.take_append_of_le_length (by rw [putTo_length]; omega), List.take_of_length_le (by rw [putTo_length]; omega)]
  rw [getB_putTo n w w hn (Nat.le_refl _), Nat.sub_self]
  simp
set_option maxRecDepth 100000 in
theorem bits_back (s : ByteArray) (n width : Int) (hs : s.size ≤ 140737488351232) (hn : 0 ≤ n ∧ n ≤ 4294967295) (hw : 0 ≤ width ∧ width ≤ 255) (w : World) :
    Calls Try.prog 5 #[.string s, .int .u32 n, .int .u8 width] w fun e w' => e = .returned (.bool true) ∧ Below w.heap.size w w' := by
  have hb := Below.refl w.heap.size w
  obtain ⟨w1, w2⟩ := hw
  obtain ⟨N, rfl⟩ := Int.eq_ofNat_of_zero_le hn.1
  have hN : N < 4294967296 := by omega
  clear hn
  by_cases hl : 200 < s.size
  · have hl' : (200 : Int) < (s.size : Int) := by omega
    go_enter Try.func5, Try.ntmps5
    go_wp2_with (first | (go_at_call 9; refine (acc hb (bits_sane _)).mono ?_; clear hb; rintro e w1 ⟨rfl, hb⟩))
    go_ret
    exact ⟨rfl, hb⟩
  have hl' : (s.size : Int) ≤ 200 := by omega
  obtain ⟨m, hm⟩ : ∃ m : Nat, 4 + width % 4 = (m : Int) := ⟨(4 + width % 4).toNat, by omega⟩
  have hm4 : 4 ≤ m := by omega
  have hm7 : m ≤ 7 := by omega
  have hNm : N < 2 ^ (8 * m) := Nat.lt_of_lt_of_le (show N < 2 ^ 32 from hN) (Nat.pow_le_pow_right (by decide) (by omega))
  obtain ⟨a, ha⟩ : ∃ a : ByteArray, a = ⟨(s.data.toList ++ putTo N m m).toArray⟩ := ⟨_, rfl⟩
  have has : a.size = s.size + m := by
    rw [ha]; show (s.data.toList ++ putTo N m m).toArray.size = _
    rw [List.size_toArray, List.length_append, putTo_length]; simp
  have q1 := fun w => bits_put_ok s N m (by omega) (by omega) hm7 hNm w
  rw [← ha] at q1
  have q2 := fun w => bits_get_ok (a ++ s) (by simp [ByteArray.size_append]; omega) s.size m (by omega) hm7 (by simp [ByteArray.size_append]; omega) w
  rw [show getB (getL (a ++ s) s.size m) = N from by rw [ha]; exact get_back s N m hNm] at q2
  obtain ⟨x, hx⟩ : ∃ x : Int, (N : Int) / 2 - 1073741824 = x := ⟨_, rfl⟩
  have hxb : -1073741824 ≤ x ∧ x ≤ 1073741823 := by omega
  obtain ⟨j, hj⟩ : ∃ j : Nat, 8 * (m : Int) = (j : Int) + 1 := ⟨8 * m - 1, by omega⟩
  obtain ⟨p, hp, hP, hp1, hp2⟩ := pow_at j (by omega)
  have hp3 : 2147483648 ≤ p := by
    have h1 : (2 : Int) ^ 31 ≤ 2 ^ j := by have := Nat.pow_le_pow_right (n := 2) (i := 31) (j := j) (by decide) (by omega); exact_mod_cast this
    rw [hP.out]; exact h1
  have hfit : -(2 ^ j) ≤ x ∧ x < 2 ^ j := by rw [← hP.out]; omega
  obtain ⟨wv, we⟩ := wrapV_at (k := (j : Int) + 1) rfl (by omega) hfit
  rw [← hP.out] at wv
  obtain ⟨c, hc⟩ : ∃ c, c = if x < 0 then x + 2 * p else x := ⟨_, rfl⟩
  have hc0 : decide (0 ≤ c) = true := by rw [decide_eq_true_eq, hc]; split <;> omega
  have hsg : signV c ((j : Int) + 1) = x ∧ signE c ((j : Int) + 1) = 0 := by
    have e3 : (2 : Int) ^ (j + 1) = 2 * p := by rw [hP.out, Int.pow_succ]; omega
    rw [hc]
    split
    · obtain ⟨s1, s2⟩ := signV_hi (n := x + 2 * p) (j := j) (by omega) (by rw [← hP.out]; omega) (by rw [e3]; omega)
      rw [e3] at s1
      exact ⟨by rw [s1]; omega, s2⟩
    · exact signV_lo (by omega) (by omega) (by rw [← hP.out]; omega)
  have q3 := fun w => bits_wrap x ((j : Int) + 1) w
  rw [wv, we, ← hc] at q3
  have q4 := fun w => bits_sign c ((j : Int) + 1) w
  rw [hsg.1, hsg.2] at q4
  have hlen : ((a.size : Int) == (s.size : Int) + (m : Int)) = true := by rw [beq_iff_eq]; omega
  have Q1 := hide q1
  have Q2 := hide q2
  have Q3 := hide q3
  have Q4 := hide q4
  have ha2 : a.size ≤ 207 := by omega
  clear q1 q2 q3 q4 ha has hc hsg wv we hfit hNm
  go_enter Try.func5, Try.ntmps5
  go_wp2_with (first
    | (go_at_call 9; refine (acc hb (bits_sane _)).mono ?_; clear hb; rintro e w1 ⟨rfl, hb⟩)
    | (go_at_call 13; (with_reducible refine (acc hb (Q1.out _)).mono ?_); clear hb; rintro e w1 ⟨rfl, hb⟩)
    | (go_at_call 14; (with_reducible refine (Q2.out _).mono ?_); rintro e w1 ⟨rfl, rfl⟩)
    | (go_at_call 10; (with_reducible refine (acc hb (Q3.out _)).mono ?_); clear hb; rintro e w1 ⟨rfl, hb⟩)
    | (go_at_call 12; (with_reducible refine (Q4.out _).mono ?_); rintro e w1 ⟨rfl, rfl⟩))
  go_ret
  exact ⟨rfl, hb⟩
end Go.Proofs.Ytlmpeehjcjbfpaa
