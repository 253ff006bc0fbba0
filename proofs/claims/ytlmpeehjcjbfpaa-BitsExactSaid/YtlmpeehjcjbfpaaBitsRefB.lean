/- The walks of the reference's Sign, Put, Get. -/
import Derived.Test.YtlmpeehjcjbfpaaBitsRef
namespace Go.Proofs.Ytlmpeehjcjbfpaa
open Go.RowKit Bits
set_option linter.unusedVariables false

theorem ref_sign_ok (n : Int) (j : Nat) (hj : j ≤ 55) (h0 : 0 ≤ n) (h1 : n < 2 ^ (j + 1)) (w : World) :
    Calls Try.prog 18 #[.int .i64 n, .int .i64 ((j : Int) + 1)] w fun e w' => e = .returned (.tuple #[.int .i64 (signV n ((j : Int) + 1)), .int .i64 (signE n ((j : Int) + 1))]) ∧ w = w' := by
  obtain ⟨p, hp, hP, hp1, hp2⟩ := pow_at (j + 1) (by omega)
  have hn : n ≤ p - 1 := by rw [hP.out]; omega
  have hk1 : (1 : Int) ≤ (j : Int) + 1 := by omega
  by_cases hlo : n < 2 ^ j
  · obtain ⟨hV, hE⟩ := signV_lo hj h0 hlo
    rw [hV, hE]
    obtain ⟨q, hq, hQ, hq1, hq2⟩ := pow_at j (by omega)
    have eb : n < q := by rw [hQ.out]; exact hlo
    clear hlo hV hE h1
    go_enter Try.func18, Try.ntmps18
    go_wp2_with (first
      | (go_at_call 24; (with_reducible refine (utc_in_yes _ 1 56 ?_ _).mono ?_); (focus omega); rintro e w1 ⟨rfl, rfl⟩)
      | (go_at_call 24; (with_reducible refine (utc_in_yes n 0 _ ?_ _).mono ?_); (focus omega); rintro e w1 ⟨rfl, rfl⟩))
    go_ret2
    exact ⟨rfl, rfl⟩
  · obtain ⟨hV, hE⟩ := signV_hi hj (by omega) h1
    rw [hV, hE]
    have hpj : (0 : Int) < 2 ^ j := Int.pow_pos (by decide)
    have e3 : (2 : Int) ^ (j + 1) = 2 * 2 ^ j := by rw [Int.pow_succ]; omega
    obtain ⟨q, hq, hQ, hq1, hq2⟩ := pow_at j (by omega)
    have eb : q ≤ n := by rw [hQ.out]; omega
    clear hlo hV hE h1 e3 hpj
    rw [← hP.out]
    go_enter Try.func18, Try.ntmps18
    go_wp2_with (first
      | (go_at_call 24; (with_reducible refine (utc_in_yes _ 1 56 ?_ _).mono ?_); (focus omega); rintro e w1 ⟨rfl, rfl⟩)
      | (go_at_call 24; (with_reducible refine (utc_in_yes n 0 _ ?_ _).mono ?_); (focus omega); rintro e w1 ⟨rfl, rfl⟩))
    go_ret2
    exact ⟨rfl, rfl⟩
theorem ref_sign_no (n k : Int) (h : ¬ Sgn n k) (w : World) :
    Calls Try.prog 18 #[.int .i64 n, .int .i64 k] w fun e w' => e = .returned (.tuple #[.int .i64 (signV n k), .int .i64 (signE n k)]) ∧ w = w' := by
  obtain ⟨hV, hE⟩ := signV_no h
  rw [hV, hE]
  by_cases hk : 1 ≤ k ∧ k ≤ 56
  · obtain ⟨k1, k2⟩ := hk
    obtain ⟨j, rfl⟩ := Int.eq_ofNat_of_zero_le (show 0 ≤ k by omega)
    obtain ⟨p, hp, hP, hp1, hp2⟩ := pow_at j (by omega)
    have hn : n < 0 ∨ p - 1 < n := by
      unfold Sgn at h
      rw [Int.toNat_natCast, ← hP.out] at h; omega
    clear h hV hE
    rcases hn with hn | hn
    all_goals
      go_enter Try.func18, Try.ntmps18
      go_wp2_with (first
        | (go_at_call 24; (with_reducible refine (utc_in_yes _ 1 56 ?_ _).mono ?_); (focus omega); rintro e w1 ⟨rfl, rfl⟩))
      go_ret2
      exact ⟨rfl, rfl⟩
  · have hk' : k < 1 ∨ 56 < k := by omega
    clear h hV hE hk
    go_enter Try.func18, Try.ntmps18
    go_wp2_with (first
      | (go_at_call 24; (with_reducible refine (utc_in_no _ 1 56 ?_ _).mono ?_); (focus omega); rintro e w1 ⟨rfl, rfl⟩))
    go_ret2
    exact ⟨rfl, rfl⟩
theorem ref_sign (n k : Int) (w : World) :
    Calls Try.prog 18 #[.int .i64 n, .int .i64 k] w fun e w' => e = .returned (.tuple #[.int .i64 (signV n k), .int .i64 (signE n k)]) ∧ w = w' := by
  by_cases h : Sgn n k
  · obtain ⟨h1, h2, h3, h4⟩ := id h
    obtain ⟨j, hj⟩ : ∃ j : Nat, k = (j : Int) + 1 := ⟨(k - 1).toNat, by omega⟩
    subst hj
    have e1 : ((j : Int) + 1).toNat = j + 1 := by omega
    rw [e1] at h4
    exact ref_sign_ok n j (by omega) h3 h4 w
  · exact ref_sign_no n k h w
set_option maxRecDepth 100000 in
theorem ref_put_ok (s : ByteArray) (n wd : Nat) (hs : s.size ≤ 140737488000000) (h1 : 1 ≤ wd) (h2 : wd ≤ 7) (hn : n < 2 ^ (8 * wd)) (w : World) :
    Calls Try.prog 15 #[.string s, .int .i64 n, .int .i64 wd] w fun e w' => e = .returned (.tuple #[.string ⟨(s.data.toList ++ putTo n wd wd).toArray⟩, .int .i64 0]) ∧ Below w.heap.size w w' := by
  obtain ⟨m, hm⟩ : ∃ m, m = 8 * wd := ⟨_, rfl⟩
  obtain ⟨p, hp, hP, hp1, hp2⟩ := pow_at m (by omega)
  have em : (8 : Int) * (wd : Int) = (m : Int) := by omega
  have hnp : (n : Int) ≤ p - 1 := by
    have : (n : Int) < 2 ^ (8 * wd) := by exact_mod_cast hn
    rw [hP.out, hm]; omega
  have HM := hide hm
  clear hm hn
  obtain ⟨i0, hi0, hz0, hz1, hz2⟩ := info_parts info_u8
  have hb := Below.refl w.heap.size w
  go_enter Try.func15, Try.ntmps15
  go_wp2_with (first
    | (go_at_call 24; (with_reducible refine (utc_in_yes _ 1 7 ?_ _).mono ?_); (focus omega); rintro e w1 ⟨rfl, rfl⟩)
    | (go_at_call 24; (with_reducible refine (utc_in_yes _ 0 _ ?_ _).mono ?_); (focus omega); rintro e w1 ⟨rfl, rfl⟩)
    | (refine wpList_string_Own rfl 9 42 5 _ rfl Try.underlying9 Try.underlying42 Try.underlying5 s rfl (by unfold maxLen; omega) ?_; intro v0 w0 hown0 hb0))
  go_loopw [8, 9] (fun v i wr => ∃ (j : Nat) (t : Int), j ≤ wd ∧ i = .int .i64 t ∧ t = (wd : Int) - 1 - j ∧ Own wr w.heap.size 5 1 v (s.size + j) (byteVals (s.data.toList ++ putTo n wd j)) ∧ Below w.heap.size w wr) (fun _ i _ => (intOf i + 1).toNat)
  case atStart => exact ⟨0, (wd : Int) - 1, by omega, rfl, by omega, by simpa [putTo] using hown0, hb0⟩
  case round =>
    obtain ⟨j, t, hj, rfl, ht, hown, hb1⟩ := hrel
    clear hb hb0 hown0
    by_cases hlt : j < wd
    · obtain ⟨q, hq⟩ : ∃ q : Nat, t = (q : Int) := ⟨wd - 1 - j, by omega⟩
      obtain ⟨r, hr⟩ : ∃ r : Nat, r = 8 * q := ⟨_, rfl⟩
      have er : (8 : Int) * (q : Int) = (r : Int) := by omega
      have hq7 : q ≤ 6 := by omega
      have hr7 : r ≤ 48 := by omega
      have hnext := putTo_succ n wd j
      rw [show 8 * (wd - 1 - j) = r by omega] at hnext
      obtain ⟨c, hc⟩ : ∃ c : UInt8, c = UInt8.ofNat (n / 2 ^ r) := ⟨_, rfl⟩
      have ec : (n : Int) / 2 ^ r % 256 = ((c.toNat : Nat) : Int) := by
        have : ((n : Int) / 2 ^ r) = ((n / 2 ^ r : Nat) : Int) := by simp
        rw [this, hc, UInt8.toNat_ofNat']; omega
      rw [← hc] at hnext
      have HN := hide hnext
      have HT := hide ht
      clear hnext hc hr ht
      subst hq
      go_wp2_with (first
        | (at_builtin
           refine wpList_append_elem wr rfl _ _ 42 rfl w.heap.size 5 i0 _ 1 1 Try.underlying42 hi0 hz0 hz1 hz2 rfl (by decide) _ (s.size + j) _ [.int .u8 ((c.toNat : Nat) : Int)] hown rfl rfl rfl rfl (by omega) (by omega) hb1.size ?_
           intro v1 w1 hown1 hb2 _))
      go_roundw
      case rel => exact ⟨j + 1, (q : Int) - 1, by omega, rfl, (by have := HT.out; omega), by rw [HN.out, ← List.append_assoc, byteVals_append]; exact hown1, hb1.trans hb2⟩
      case measure => simp [intOf]
    · have hj2 : j = wd := by omega
      rw [hj2] at hown
      have ht2 : t = -1 := by omega
      rw [ht2]
      clear ht hj2 ht2
      go_wp2_with (refine wpList_Own_string rfl 42 9 5 _ rfl w.heap.size Try.underlying42 Try.underlying5 Try.underlying9 _ _ _ hown rfl ?_)
      go_ret2
      exact ⟨rfl, hb1⟩

theorem ref_put_bad (s : ByteArray) (n wd : Int) (h : ¬ okPut n wd) (w : World) :
    Calls Try.prog 15 #[.string s, .int .i64 n, .int .i64 wd] w fun e w' => e = .returned (.tuple #[.string ByteArray.empty, .int .i64 2]) ∧ w = w' := by
  by_cases hw : 1 ≤ wd ∧ wd ≤ 7
  · obtain ⟨h1, h2⟩ := hw
    obtain ⟨k, rfl⟩ := Int.eq_ofNat_of_zero_le (show 0 ≤ wd by omega)
    obtain ⟨m, hm⟩ : ∃ m, m = 8 * k := ⟨_, rfl⟩
    obtain ⟨p, hp, hP, hp1, hp2⟩ := pow_at m (by omega)
    have em : (8 : Int) * (k : Int) = (m : Int) := by omega
    have hn : n < 0 ∨ p - 1 < n := by
      unfold okPut at h
      rw [Int.toNat_natCast, ← hm, ← hP.out] at h; omega
    clear h hm
    rcases hn with hn | hn
    all_goals
      go_enter Try.func15, Try.ntmps15
      go_wp2_with (first
        | (go_at_call 24; (with_reducible refine (utc_in_yes _ 1 7 ?_ _).mono ?_); (focus omega); rintro e w1 ⟨rfl, rfl⟩))
      go_ret2
      exact ⟨rfl, rfl⟩
  · have hw' : wd < 1 ∨ 7 < wd := by omega
    clear h hw
    go_enter Try.func15, Try.ntmps15
    go_wp2_with (first
      | (go_at_call 24; (with_reducible refine (utc_in_no _ 1 7 ?_ _).mono ?_); (focus omega); rintro e w1 ⟨rfl, rfl⟩))
    go_ret2
    exact ⟨rfl, rfl⟩
theorem ref_put (s : ByteArray) (hs : s.size ≤ 140737488000000) (n wd : Int) (w : World) :
    Calls Try.prog 15 #[.string s, .int .i64 n, .int .i64 wd] w fun e w' => e = .returned (.tuple #[.string (putS s n wd), .int .i64 (putE n wd)]) ∧ Below w.heap.size w w' := by
  unfold putS putE
  by_cases h : okPut n wd
  · rw [if_pos h, if_pos h]
    obtain ⟨a, b, rfl, rfl, h1, h2, h3⟩ := okPut_nat h
    exact ref_put_ok s a b hs h1 h2 h3 w
  · rw [if_neg h, if_neg h]
    exact (ref_put_bad s n wd h w).mono fun _ _ ⟨h1, h2⟩ => ⟨h1, h2 ▸ Below.refl _ _⟩

set_option maxRecDepth 100000 in
theorem ref_get_ok (s : ByteArray) (hs : s.size ≤ 140737488355328) (at_ wd : Nat) (h1 : 1 ≤ wd) (h2 : wd ≤ 7) (h3 : at_ + wd ≤ s.size) (w : World) :
    Calls Try.prog 16 #[.string s, .int .i64 at_, .int .i64 wd] w fun e w' => e = .returned (.tuple #[.int .i64 ((getB (getL s at_ wd) : Nat) : Int), .int .i64 0]) ∧ w = w' := by
  go_enter Try.func16, Try.ntmps16
  go_wp2_with (first
    | (go_at_call 24; (with_reducible refine (utc_in_yes _ 1 7 ?_ _).mono ?_); (focus omega); rintro e w1 ⟨rfl, rfl⟩))
  go_loop [8, 9] (fun n i => ∃ (k g : Nat), k ≤ wd ∧ i = .int .i64 k ∧ n = .int .i64 g ∧ Hid (g = getB (getL s at_ k))) (fun _ i => wd - (intOf i).toNat)
  case atStart => exact ⟨0, 0, by omega, rfl, rfl, hide (by simp [getL, getB])⟩
  case round =>
    obtain ⟨k, g, hk, rfl, rfl, hg⟩ := hrel
    by_cases hlt : k < wd
    · have hgb : g < 281474976710656 := by
        have a1 := getB_lt (getL s at_ k)
        have a2 : 256 ^ (getL s at_ k).length ≤ 256 ^ 6 := Nat.pow_le_pow_right (by decide) (Nat.le_trans (getL_length _ _ _) (by omega))
        rw [← hg.out] at a1
        omega
      have hix : at_ + k < s.size := by omega
      have hcb : s[at_ + k].toNat < 256 := s[at_ + k].toNat_lt
      have e1 : bits .or .i64 ((g : Int) * 256) ((s[at_ + k].toNat : Nat) : Int) = ((g * 256 + s[at_ + k].toNat : Nat) : Int) := by
        rw [show ((g : Int) * 256) = ((g * 256 : Nat) : Int) by simp, i64_or_nat _ _ (by omega) (by omega), or_byte _ _ hcb]
      have hn : g * 256 + s[at_ + k].toNat = getB (getL s at_ (k + 1)) := by rw [getL_succ s at_ k hix, getB_snoc, ← hg.out]
      obtain ⟨x, hx⟩ : ∃ x, x = g * 256 + s[at_ + k].toNat := ⟨_, rfl⟩
      rw [← hx] at e1 hn
      have HN := hide hn
      clear hn hx hg
      go_wp2
      go_round
      case rel => exact ⟨k + 1, x, by omega, by go_num, rfl, HN⟩
      case measure => simp [intOf]; omega
    · have e : k = wd := by omega
      rw [e] at hg
      clear e
      go_wp2
      go_ret2
      exact ⟨by rw [← hg.out]; rfl, rfl⟩
theorem ref_get_bad (s : ByteArray) (at_ wd : Int) (h : badGet at_ wd) (w : World) :
    Calls Try.prog 16 #[.string s, .int .i64 at_, .int .i64 wd] w fun e w' => e = .returned (.tuple #[.int .i64 0, .int .i64 2]) ∧ w = w' := by
  unfold badGet at h
  by_cases hw : 1 ≤ wd ∧ wd ≤ 7
  · obtain ⟨h1, h2⟩ := hw
    have h3 : at_ < 0 := by omega
    clear h
    go_enter Try.func16, Try.ntmps16
    go_wp2_with (first
      | (go_at_call 24; (with_reducible refine (utc_in_yes _ 1 7 ?_ _).mono ?_); (focus omega); rintro e w1 ⟨rfl, rfl⟩))
    go_ret2
    exact ⟨rfl, rfl⟩
  · have hw' : wd < 1 ∨ 7 < wd := by omega
    clear h hw
    go_enter Try.func16, Try.ntmps16
    go_wp2_with (first
      | (go_at_call 24; (with_reducible refine (utc_in_no _ 1 7 ?_ _).mono ?_); (focus omega); rintro e w1 ⟨rfl, rfl⟩))
    go_ret2
    exact ⟨rfl, rfl⟩
theorem ref_get_short (s : ByteArray) (hs : s.size ≤ 140737488355328) (at_ wd : Int) (h : ¬ badGet at_ wd) (h2 : s.size - wd < at_) (w : World) :
    Calls Try.prog 16 #[.string s, .int .i64 at_, .int .i64 wd] w fun e w' => e = .returned (.tuple #[.int .i64 0, .int .i64 4]) ∧ w = w' := by
  unfold badGet at h
  have c1 : 1 ≤ wd := by omega
  have c2 : wd ≤ 7 := by omega
  have c3 : 0 ≤ at_ := by omega
  clear h
  go_enter Try.func16, Try.ntmps16
  go_wp2_with (first
    | (go_at_call 24; (with_reducible refine (utc_in_yes _ 1 7 ?_ _).mono ?_); (focus omega); rintro e w1 ⟨rfl, rfl⟩))
  go_ret2
  exact ⟨rfl, rfl⟩
theorem ref_get (s : ByteArray) (hs : s.size ≤ 140737488355328) (at_ wd : Int) (w : World) :
    Calls Try.prog 16 #[.string s, .int .i64 at_, .int .i64 wd] w fun e w' => e = .returned (.tuple #[.int .i64 (getV s at_ wd), .int .i64 (getE s at_ wd)]) ∧ w = w' := by
  unfold getV getE
  by_cases h : badGet at_ wd
  · rw [if_pos h, if_pos h]
    exact ref_get_bad s at_ wd h w
  · rw [if_neg h, if_neg h]
    by_cases h2 : s.size - wd < at_
    · rw [if_pos h2, if_pos h2]
      exact ref_get_short s hs at_ wd h h2 w
    · rw [if_neg h2, if_neg h2]
      unfold badGet at h
      obtain ⟨a, rfl⟩ := Int.eq_ofNat_of_zero_le (show 0 ≤ at_ by omega)
      obtain ⟨b, rfl⟩ := Int.eq_ofNat_of_zero_le (show 0 ≤ wd by omega)
      exact ref_get_ok s hs a b (by omega) (by omega) (by omega) w

theorem ref_pair_bad (word i : Int) (h : word < 0 ∨ 4294967295 < word ∨ i < 0 ∨ 15 < i) (w : World) :
    Calls Try.prog 20 #[.int .i64 word, .int .i64 i] w fun e w' => e = .returned (.tuple #[.int .i64 0, .int .i64 2]) ∧ w = w' := by
  by_cases c : 0 ≤ word ∧ word ≤ 4294967295
  · have c3 : i < 0 ∨ 15 < i := by omega
    clear h
    go_enter Try.func20, Try.ntmps20
    go_wp2_with (first
      | (go_at_call 24; (with_reducible refine (utc_in_yes _ 0 4294967295 ?_ _).mono ?_); (focus omega); rintro e w1 ⟨rfl, rfl⟩)
      | (go_at_call 24; (with_reducible refine (utc_in_no _ 0 15 ?_ _).mono ?_); (focus omega); rintro e w1 ⟨rfl, rfl⟩))
    go_ret2
    exact ⟨rfl, rfl⟩
  · have c3 : word < 0 ∨ 4294967295 < word := by omega
    clear h c
    go_enter Try.func20, Try.ntmps20
    go_wp2_with (first
      | (go_at_call 24; (with_reducible refine (utc_in_no _ 0 4294967295 ?_ _).mono ?_); (focus omega); rintro e w1 ⟨rfl, rfl⟩))
    go_ret2
    exact ⟨rfl, rfl⟩
theorem ref_pair_ok (word i : Nat) (h1 : word ≤ 4294967295) (h2 : i ≤ 15) (w : World) :
    Calls Try.prog 20 #[.int .i64 word, .int .i64 i] w fun e w' => e = .returned (.tuple #[.int .i64 ((pairN word (30 - 2 * i) : Nat) : Int), .int .i64 0]) ∧ w = w' := by
  obtain ⟨t, ht⟩ : ∃ t : Nat, t = 30 - 2 * i := ⟨_, rfl⟩
  have e0 : (30 : Int) - 2 * (i : Int) = (t : Int) := by omega
  have e1 : bits .and .i64 ((word : Int) / 2 ^ t) 3 = ((pairN word t : Nat) : Int) := by
    rw [i64_and3]
    have : ((word : Int) / 2 ^ t) = ((word / 2 ^ t : Nat) : Int) := by simp
    rw [this]; unfold pairN; omega
  rw [← ht]
  have ht2 : t ≤ 30 := by omega
  clear ht
  go_enter Try.func20, Try.ntmps20
  go_wp2_with (first
    | (go_at_call 24; (with_reducible refine (utc_in_yes _ 0 4294967295 ?_ _).mono ?_); (focus omega); rintro e w1 ⟨rfl, rfl⟩)
    | (go_at_call 24; (with_reducible refine (utc_in_yes _ 0 15 ?_ _).mono ?_); (focus omega); rintro e w1 ⟨rfl, rfl⟩))
  go_ret2
  exact ⟨rfl, rfl⟩
theorem ref_setpair_bad (word i v : Int) (h : word < 0 ∨ 4294967295 < word ∨ i < 0 ∨ 15 < i ∨ v < 0 ∨ 3 < v) (w : World) :
    Calls Try.prog 21 #[.int .i64 word, .int .i64 i, .int .i64 v] w fun e w' => e = .returned (.tuple #[.int .i64 0, .int .i64 2]) ∧ w = w' := by
  by_cases c : 0 ≤ word ∧ word ≤ 4294967295
  · by_cases c2 : 0 ≤ i ∧ i ≤ 15
    · have c3 : v < 0 ∨ 3 < v := by omega
      clear h
      go_enter Try.func21, Try.ntmps21
      go_wp2_with (first
        | (go_at_call 24; (with_reducible refine (utc_in_yes _ 0 4294967295 ?_ _).mono ?_); (focus omega); rintro e w1 ⟨rfl, rfl⟩)
        | (go_at_call 24; (with_reducible refine (utc_in_yes _ 0 15 ?_ _).mono ?_); (focus omega); rintro e w1 ⟨rfl, rfl⟩)
        | (go_at_call 24; (with_reducible refine (utc_in_no _ 0 3 ?_ _).mono ?_); (focus omega); rintro e w1 ⟨rfl, rfl⟩))
      go_ret2
      exact ⟨rfl, rfl⟩
    · have c3 : i < 0 ∨ 15 < i := by omega
      clear h c2
      go_enter Try.func21, Try.ntmps21
      go_wp2_with (first
        | (go_at_call 24; (with_reducible refine (utc_in_yes _ 0 4294967295 ?_ _).mono ?_); (focus omega); rintro e w1 ⟨rfl, rfl⟩)
        | (go_at_call 24; (with_reducible refine (utc_in_no _ 0 15 ?_ _).mono ?_); (focus omega); rintro e w1 ⟨rfl, rfl⟩))
      go_ret2
      exact ⟨rfl, rfl⟩
  · have c3 : word < 0 ∨ 4294967295 < word := by omega
    clear h c
    go_enter Try.func21, Try.ntmps21
    go_wp2_with (first
      | (go_at_call 24; (with_reducible refine (utc_in_no _ 0 4294967295 ?_ _).mono ?_); (focus omega); rintro e w1 ⟨rfl, rfl⟩))
    go_ret2
    exact ⟨rfl, rfl⟩
theorem ref_setpair_ok (word i v : Nat) (h1 : word ≤ 4294967295) (h2 : i ≤ 15) (h3 : v ≤ 3) (w : World) :
    Calls Try.prog 21 #[.int .i64 word, .int .i64 i, .int .i64 v] w fun e w' => e = .returned (.tuple #[.int .i64 ((setN word (30 - 2 * i) v : Nat) : Int), .int .i64 0]) ∧ w = w' := by
  obtain ⟨t, ht⟩ : ∃ t : Nat, t = 30 - 2 * i := ⟨_, rfl⟩
  have e0 : (30 : Int) - 2 * (i : Int) = (t : Int) := by omega
  rw [← ht]
  have ht2 : t ≤ 30 := by omega
  clear ht
  have hp : 2 ^ t ≤ 2 ^ 30 := Nat.pow_le_pow_right (by decide) ht2
  obtain ⟨m, hm⟩ : ∃ m, m = 3 * 2 ^ t := ⟨_, rfl⟩
  obtain ⟨y, hy⟩ : ∃ y, y = v * 2 ^ t := ⟨_, rfl⟩
  have hml : m < 2 ^ 63 := by omega
  have hyl : y < 2 ^ 63 := by
    have : v * 2 ^ t ≤ 3 * 2 ^ t := Nat.mul_le_mul_right _ h3
    omega
  have em : wrap64 (3 * 2 ^ t) = (m : Int) := by
    have : (3 : Int) * 2 ^ t = (m : Int) := by rw [hm]; simp
    rw [this]; exact IntWalk.wrap64_in _ (by omega)
  have ey : wrap64 ((v : Int) * 2 ^ t) = (y : Int) := by
    have : (v : Int) * 2 ^ t = (y : Int) := by rw [hy]; simp
    rw [this]; exact IntWalk.wrap64_in _ (by omega)
  obtain ⟨x, hx⟩ : ∃ x, x = word ^^^ (word &&& m) := ⟨_, rfl⟩
  have hxl : x < 2 ^ 63 := by rw [hx]; exact Nat.xor_lt_two_pow (by omega) (Nat.and_lt_two_pow _ hml)
  have e1 : bits .andNot .i64 (word : Int) (m : Int) = (x : Int) := by rw [hx]; exact i64_andNot_nat _ _ (by omega) hml
  have e2 : bits .or .i64 (x : Int) (y : Int) = ((setN word t v : Nat) : Int) := by
    rw [i64_or_nat _ _ hxl hyl, hx, hy, hm, setN_bits _ _ _ (by omega)]
  clear hx hy hm hp
  go_enter Try.func21, Try.ntmps21
  go_wp2_with (first
    | (go_at_call 24; (with_reducible refine (utc_in_yes _ 0 4294967295 ?_ _).mono ?_); (focus omega); rintro e w1 ⟨rfl, rfl⟩)
    | (go_at_call 24; (with_reducible refine (utc_in_yes _ 0 15 ?_ _).mono ?_); (focus omega); rintro e w1 ⟨rfl, rfl⟩)
    | (go_at_call 24; (with_reducible refine (utc_in_yes _ 0 3 ?_ _).mono ?_); (focus omega); rintro e w1 ⟨rfl, rfl⟩))
  go_ret2
  exact ⟨rfl, rfl⟩
end Go.Proofs.Ytlmpeehjcjbfpaa
