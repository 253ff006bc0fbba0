/- The walks of bits.Put and bits.Get. -/
import Derived.Test.YtlmpeehjcjbfpaaBitsWalkB
import Derived.Test.YtlmpeehjcjbfpaaOwnB
namespace Go.Proofs.Ytlmpeehjcjbfpaa
open Go.RowKit Bits
set_option linter.unusedVariables false

def putTo (n w j : Nat) : List UInt8 := (List.range j).map fun u => UInt8.ofNat (n / 2 ^ (8 * (w - 1 - u)))
theorem putTo_succ (n w j : Nat) : putTo n w (j + 1) = putTo n w j ++ [UInt8.ofNat (n / 2 ^ (8 * (w - 1 - j)))] := by simp [putTo, List.range_succ]
theorem putTo_length (n w j : Nat) : (putTo n w j).length = j := by simp [putTo]
def okPut (n w : Int) : Prop := 1 ≤ w ∧ w ≤ 7 ∧ 0 ≤ n ∧ n < 2 ^ (8 * w.toNat)
instance (n w : Int) : Decidable (okPut n w) := by unfold okPut; exact inferInstance
def putS (s : ByteArray) (n w : Int) : ByteArray := if okPut n w then ⟨(s.data.toList ++ putTo n.toNat w.toNat w.toNat).toArray⟩ else ByteArray.empty
def putE (n w : Int) : Int := if okPut n w then 0 else 2
theorem info_u8 : (Try.prog.info? 5).map (fun i => (i.zero, i.size, i.bytes)) = some (some (.int .u8 0), 1, 1) := by kernel_rfl

set_option maxRecDepth 100000 in
theorem bits_put_ok (s : ByteArray) (n wd : Nat) (hs : s.size ≤ 140737488000000) (h1 : 1 ≤ wd) (h2 : wd ≤ 7) (hn : n < 2 ^ (8 * wd)) (w : World) :
    Calls Try.prog 13 #[.string s, .int .i64 n, .int .i64 wd] w fun e w' => e = .returned (.tuple #[.string ⟨(s.data.toList ++ putTo n wd wd).toArray⟩, .int .i64 0]) ∧ Below w.heap.size w w' := by
  obtain ⟨m, hm⟩ : ∃ m, m = 8 * wd := ⟨_, rfl⟩
  obtain ⟨p, hp, hP, hp1, hp2⟩ := pow_at m (by omega)
  have em : (8 : Int) * (wd : Int) = (m : Int) := by omega
  have hnp : (n : Int) ≤ p - 1 := by
    have : (n : Int) < 2 ^ (8 * wd) := by exact_mod_cast hn
    rw [hP.out, hm]; omega
  have HM := hide hm
  clear hm hn
  obtain ⟨i0, hi0, hz0, hz1, hz2⟩ := info_parts info_u8
  have hb := Below.refl w.heap.size w
  go_enter Try.func13, Try.ntmps13
  go_wp2_with (first
    | (go_at_call 23; (with_reducible refine (bits_in_yes _ 1 7 ?_ _).mono ?_); (focus omega); rintro e w1 ⟨rfl, rfl⟩)
    | (go_at_call 23; (with_reducible refine (bits_in_yes _ 0 _ ?_ _).mono ?_); (focus omega); rintro e w1 ⟨rfl, rfl⟩)
    | (refine wpList_string_Own rfl 9 42 5 _ rfl Try.underlying9 Try.underlying42 Try.underlying5 s rfl (by unfold maxLen; omega) ?_; intro v0 w0 hown0 hb0))
  go_loopw [8, 9] (fun v i wr => ∃ (j : Nat) (t : Int), j ≤ wd ∧ i = .int .i64 t ∧ t = (wd : Int) - 1 - j ∧ Own wr w.heap.size 5 1 v (s.size + j) (byteVals (s.data.toList ++ putTo n wd j)) ∧ Below w.heap.size w wr) (fun _ i _ => (intOf i + 1).toNat)
  case atStart => exact ⟨0, (wd : Int) - 1, by omega, rfl, by omega, by simpa [putTo] using hown0, hb0⟩
  case round =>
    obtain ⟨j, t, hj, rfl, ht, hown, hb1⟩ := hrel
    clear hb hb0 hown0
    by_cases hlt : j < wd
    · obtain ⟨q, hq⟩ : ∃ q : Nat, t = (q : Int) := ⟨wd - 1 - j, by omega⟩
      obtain ⟨r, hr⟩ : ∃ r : Nat, r = 8 * q := ⟨_, rfl⟩
      have er : (8 : Int) * (q : Int) = (r : Int) := by omega
      have hq7 : q ≤ 6 := by omega
      have hr7 : r ≤ 48 := by omega
      have hnext := putTo_succ n wd j
      rw [show 8 * (wd - 1 - j) = r by omega] at hnext
      obtain ⟨c, hc⟩ : ∃ c : UInt8, c = UInt8.ofNat (n / 2 ^ r) := ⟨_, rfl⟩
      have ec : (n : Int) / 2 ^ r % 256 = ((c.toNat : Nat) : Int) := by
        have : ((n : Int) / 2 ^ r) = ((n / 2 ^ r : Nat) : Int) := by simp
        rw [this, hc, UInt8.toNat_ofNat']; omega
      rw [← hc] at hnext
      have HN := hide hnext
      have HT := hide ht
      clear hnext hc hr ht
      subst hq
      go_wp2_with (first
        | (at_builtin
           refine wpList_append_elem wr rfl _ _ 42 rfl w.heap.size 5 i0 _ 1 1 Try.underlying42 hi0 hz0 hz1 hz2 rfl (by decide) _ (s.size + j) _ [.int .u8 ((c.toNat : Nat) : Int)] hown rfl rfl rfl rfl (by omega) (by omega) hb1.size ?_
           intro v1 w1 hown1 hb2 _))
      go_roundw
      case rel => exact ⟨j + 1, (q : Int) - 1, by omega, rfl, (by have := HT.out; omega), by rw [HN.out, ← List.append_assoc, byteVals_append]; exact hown1, hb1.trans hb2⟩
      case measure => simp [intOf]
    · have hj2 : j = wd := by omega
      rw [hj2] at hown
      have ht2 : t = -1 := by omega
      rw [ht2]
      clear ht hj2 ht2
      go_wp2_with (refine wpList_Own_string rfl 42 9 5 _ rfl w.heap.size Try.underlying42 Try.underlying5 Try.underlying9 _ _ _ hown rfl ?_)
      go_ret2
      exact ⟨rfl, hb1⟩

theorem bits_put_bad (s : ByteArray) (n wd : Int) (h : ¬ okPut n wd) (w : World) :
    Calls Try.prog 13 #[.string s, .int .i64 n, .int .i64 wd] w fun e w' => e = .returned (.tuple #[.string ByteArray.empty, .int .i64 2]) ∧ w = w' := by
  by_cases hw : 1 ≤ wd ∧ wd ≤ 7
  · obtain ⟨h1, h2⟩ := hw
    obtain ⟨k, rfl⟩ := Int.eq_ofNat_of_zero_le (show 0 ≤ wd by omega)
    obtain ⟨m, hm⟩ : ∃ m, m = 8 * k := ⟨_, rfl⟩
    obtain ⟨p, hp, hP, hp1, hp2⟩ := pow_at m (by omega)
    have em : (8 : Int) * (k : Int) = (m : Int) := by omega
    have hn : n < 0 ∨ p - 1 < n := by
      unfold okPut at h
      rw [Int.toNat_natCast, ← hm, ← hP.out] at h; omega
    clear h hm
    go_enter Try.func13, Try.ntmps13
    go_wp2_with (first
      | (go_at_call 23; (with_reducible refine (bits_in_yes _ 1 7 ?_ _).mono ?_); (focus omega); rintro e w1 ⟨rfl, rfl⟩)
      | (go_at_call 23; (with_reducible refine (bits_in_no _ 0 _ ?_ _).mono ?_); (focus omega); rintro e w1 ⟨rfl, rfl⟩))
    go_ret2
    exact ⟨rfl, rfl⟩
  · have hw' : wd < 1 ∨ 7 < wd := by omega
    clear h hw
    go_enter Try.func13, Try.ntmps13
    go_wp2_with (first
      | (go_at_call 23; (with_reducible refine (bits_in_no _ 1 7 ?_ _).mono ?_); (focus omega); rintro e w1 ⟨rfl, rfl⟩))
    go_ret2
    exact ⟨rfl, rfl⟩
theorem okPut_nat {n wd : Int} (h : okPut n wd) : ∃ a b : Nat, n = a ∧ wd = b ∧ 1 ≤ b ∧ b ≤ 7 ∧ a < 2 ^ (8 * b) := by
  obtain ⟨h1, h2, h3, h4⟩ := h
  obtain ⟨a, rfl⟩ := Int.eq_ofNat_of_zero_le h3
  obtain ⟨b, rfl⟩ := Int.eq_ofNat_of_zero_le (show 0 ≤ wd by omega)
  refine ⟨a, b, rfl, rfl, by omega, by omega, ?_⟩
  rw [Int.toNat_natCast] at h4
  exact_mod_cast h4
theorem bits_put (s : ByteArray) (hs : s.size ≤ 140737488000000) (n wd : Int) (w : World) :
    Calls Try.prog 13 #[.string s, .int .i64 n, .int .i64 wd] w fun e w' => e = .returned (.tuple #[.string (putS s n wd), .int .i64 (putE n wd)]) ∧ Below w.heap.size w w' := by
  unfold putS putE
  by_cases h : okPut n wd
  · rw [if_pos h, if_pos h]
    obtain ⟨a, b, rfl, rfl, h1, h2, h3⟩ := okPut_nat h
    exact bits_put_ok s a b hs h1 h2 h3 w
  · rw [if_neg h, if_neg h]
    exact (bits_put_bad s n wd h w).mono fun _ _ ⟨h1, h2⟩ => ⟨h1, h2 ▸ Below.refl _ _⟩

/-! ### Get -/
theorem getB_snoc (l : List UInt8) (c : UInt8) : getB (l ++ [c]) = getB l * 256 + c.toNat := by simp [getB]
theorem getB_lt (l : List UInt8) : getB l < 256 ^ l.length := by
  suffices h : ∀ (l : List UInt8) (n k : Nat), n < 256 ^ k → l.foldl (fun n c => n * 256 + c.toNat) n < 256 ^ (k + l.length) by
    have := h l 0 0 (by decide)
    simpa [getB] using this
  intro l
  induction l with
  | nil => intro n k h; simpa using h
  | cons c t ih =>
    intro n k h
    have hc := c.toNat_lt
    have := ih (n * 256 + c.toNat) (k + 1) (by rw [Nat.pow_succ]; omega)
    rw [show k + 1 + t.length = k + (c :: t).length by simp; omega] at this
    exact this
theorem or_byte (g c : Nat) (hc : c < 256) : g * 256 ||| c = g * 256 + c := by
  have := Nat.two_pow_add_eq_or_of_lt (i := 8) (b := c) hc g
  rw [show (2 : Nat) ^ 8 = 256 from rfl, Nat.mul_comm] at this
  exact this.symm
def getL (s : ByteArray) (at_ w : Nat) : List UInt8 := (s.data.toList.drop at_).take w
theorem getL_succ (s : ByteArray) (at_ k : Nat) (h : at_ + k < s.size) : getL s at_ (k + 1) = getL s at_ k ++ [s[at_ + k]] := by
  unfold getL
  have hl : k < (s.data.toList.drop at_).length := by simp; omega
  rw [List.take_succ_eq_append_getElem hl]
  simp
  rfl
theorem getL_length (s : ByteArray) (at_ k : Nat) : (getL s at_ k).length ≤ k := by unfold getL; simp; omega
def badGet (at_ w : Int) : Prop := w < 1 ∨ 7 < w ∨ at_ < 0
instance (at_ w : Int) : Decidable (badGet at_ w) := by unfold badGet; exact inferInstance
def getV (s : ByteArray) (at_ w : Int) : Int := if badGet at_ w then 0 else if s.size - w < at_ then 0 else ((getB (getL s at_.toNat w.toNat) : Nat) : Int)
def getE (s : ByteArray) (at_ w : Int) : Int := if badGet at_ w then 2 else if s.size - w < at_ then 4 else 0

set_option maxRecDepth 100000 in
theorem bits_get_ok (s : ByteArray) (hs : s.size ≤ 140737488355328) (at_ wd : Nat) (h1 : 1 ≤ wd) (h2 : wd ≤ 7) (h3 : at_ + wd ≤ s.size) (w : World) :
    Calls Try.prog 14 #[.string s, .int .i64 at_, .int .i64 wd] w fun e w' => e = .returned (.tuple #[.int .i64 ((getB (getL s at_ wd) : Nat) : Int), .int .i64 0]) ∧ w = w' := by
  go_enter Try.func14, Try.ntmps14
  go_wp2_with (first
    | (go_at_call 23; (with_reducible refine (bits_in_yes _ 1 7 ?_ _).mono ?_); (focus omega); rintro e w1 ⟨rfl, rfl⟩))
  go_loop [8, 24] (fun n i => ∃ (k g : Nat), k ≤ wd ∧ i = .int .i64 k ∧ n = .int .i64 g ∧ Hid (g = getB (getL s at_ k))) (fun _ i => wd - (intOf i).toNat)
  case atStart => exact ⟨0, 0, by omega, rfl, rfl, hide (by simp [getL, getB])⟩
  case round =>
    obtain ⟨k, g, hk, rfl, rfl, hg⟩ := hrel
    by_cases hlt : k < wd
    · have hgb : g < 281474976710656 := by
        have a1 := getB_lt (getL s at_ k)
        have a2 : 256 ^ (getL s at_ k).length ≤ 256 ^ 6 := Nat.pow_le_pow_right (by decide) (Nat.le_trans (getL_length _ _ _) (by omega))
        rw [← hg.out] at a1
        omega
      have hix : at_ + k < s.size := by omega
      have hcb : s[at_ + k].toNat < 256 := s[at_ + k].toNat_lt
      have e1 : bits .or .i64 ((g : Int) * 256) ((s[at_ + k].toNat : Nat) : Int) = ((g * 256 + s[at_ + k].toNat : Nat) : Int) := by
        rw [show ((g : Int) * 256) = ((g * 256 : Nat) : Int) by simp, i64_or_nat _ _ (by omega) (by omega), or_byte _ _ hcb]
      have hn : g * 256 + s[at_ + k].toNat = getB (getL s at_ (k + 1)) := by rw [getL_succ s at_ k hix, getB_snoc, ← hg.out]
      obtain ⟨x, hx⟩ : ∃ x, x = g * 256 + s[at_ + k].toNat := ⟨_, rfl⟩
      rw [← hx] at e1 hn
      have HN := hide hn
      clear hn hx hg
      go_wp2
      go_round
      case rel => exact ⟨k + 1, x, by omega, by go_num, rfl, HN⟩
      case measure => simp [intOf]; omega
    · have e : k = wd := by omega
      rw [e] at hg
      clear e
      go_wp2
      go_ret2
      exact ⟨by rw [← hg.out]; rfl, rfl⟩
theorem bits_get_bad (s : ByteArray) (at_ wd : Int) (h : badGet at_ wd) (w : World) :
    Calls Try.prog 14 #[.string s, .int .i64 at_, .int .i64 wd] w fun e w' => e = .returned (.tuple #[.int .i64 0, .int .i64 2]) ∧ w = w' := by
  unfold badGet at h
  by_cases hw : 1 ≤ wd ∧ wd ≤ 7
  · obtain ⟨h1, h2⟩ := hw
    have h3 : at_ < 0 := by omega
    clear h
    go_enter Try.func14, Try.ntmps14
    go_wp2_with (first
      | (go_at_call 23; (with_reducible refine (bits_in_yes _ 1 7 ?_ _).mono ?_); (focus omega); rintro e w1 ⟨rfl, rfl⟩))
    go_ret2
    exact ⟨rfl, rfl⟩
  · have hw' : wd < 1 ∨ 7 < wd := by omega
    clear h hw
    go_enter Try.func14, Try.ntmps14
    go_wp2_with (first
      | (go_at_call 23; (with_reducible refine (bits_in_no _ 1 7 ?_ _).mono ?_); (focus omega); rintro e w1 ⟨rfl, rfl⟩))
    go_ret2
    exact ⟨rfl, rfl⟩
theorem bits_get_short (s : ByteArray) (hs : s.size ≤ 140737488355328) (at_ wd : Int) (h : ¬ badGet at_ wd) (h2 : s.size - wd < at_) (w : World) :
    Calls Try.prog 14 #[.string s, .int .i64 at_, .int .i64 wd] w fun e w' => e = .returned (.tuple #[.int .i64 0, .int .i64 4]) ∧ w = w' := by
  unfold badGet at h
  have c1 : 1 ≤ wd := by omega
  have c2 : wd ≤ 7 := by omega
  have c3 : 0 ≤ at_ := by omega
  clear h
  go_enter Try.func14, Try.ntmps14
  go_wp2_with (first
    | (go_at_call 23; (with_reducible refine (bits_in_yes _ 1 7 ?_ _).mono ?_); (focus omega); rintro e w1 ⟨rfl, rfl⟩))
  go_ret2
  exact ⟨rfl, rfl⟩
theorem bits_get (s : ByteArray) (hs : s.size ≤ 140737488355328) (at_ wd : Int) (w : World) :
    Calls Try.prog 14 #[.string s, .int .i64 at_, .int .i64 wd] w fun e w' => e = .returned (.tuple #[.int .i64 (getV s at_ wd), .int .i64 (getE s at_ wd)]) ∧ w = w' := by
  unfold getV getE
  by_cases h : badGet at_ wd
  · rw [if_pos h, if_pos h]
    exact bits_get_bad s at_ wd h w
  · rw [if_neg h, if_neg h]
    by_cases h2 : s.size - wd < at_
    · rw [if_pos h2, if_pos h2]
      exact bits_get_short s hs at_ wd h h2 w
    · rw [if_neg h2, if_neg h2]
      unfold badGet at h
      obtain ⟨a, rfl⟩ := Int.eq_ofNat_of_zero_le (show 0 ≤ at_ by omega)
      obtain ⟨b, rfl⟩ := Int.eq_ofNat_of_zero_le (show 0 ≤ wd by omega)
      exact bits_get_ok s hs a b (by omega) (by omega) (by omega) w
end Go.Proofs.Ytlmpeehjcjbfpaa
