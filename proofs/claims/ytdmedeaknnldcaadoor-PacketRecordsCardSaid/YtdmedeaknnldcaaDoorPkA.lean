/- Packets: numbers of 1 to 7 bytes (package bits: Put, Get). -/
import Derived.Test.YtdmedeaknnldcaaDoorStH
namespace Go.Proofs.YtdmedeaknnldcaaDoor
open Go.RowKit
set_option linter.unusedVariables false
set_option linter.unusedSimpArgs false
set_option linter.unnecessarySimpa false
/-- The bytes of a number, the highest one first. -/
def beP : Nat → Int → List Int
  | 0, _ => []
  | i + 1, n => (n / 2 ^ (8 * i) % 256) :: beP i n
theorem beP_len : ∀ (w : Nat) (n : Int), (beP w n).length = w
  | 0, _ => rfl
  | w + 1, n => by simp [beP, beP_len w n]
theorem beP_rng : ∀ (w : Nat) (n : Int), ∀ x ∈ beP w n, 0 ≤ x ∧ x ≤ 255
  | 0, _ => fun x h => by cases h
  | w + 1, n => fun x h => by
    rcases List.mem_cons.1 h with rfl | h
    · have := Int.emod_nonneg (n / 2 ^ (8 * w)) (show (256 : Int) ≠ 0 by omega)
      have := Int.emod_lt_of_pos (n / 2 ^ (8 * w)) (show (0 : Int) < 256 by omega)
      omega
    · exact beP_rng w n x h
theorem putg_step (l : List Int) (hl : l.length ≤ 1000000) (n : Int) (i f : Nat) (hi : i ≤ 7) : (F24_l9 600).L (f + 1) (rows8 l, n, (i : Int)) = (F24_l9 600).L f (rows8 (l ++ [n / 2 ^ (8 * i) % 256]), n, (i : Int) - 1) := put_step l hl n i f hi
theorem putg_loop (n : Int) : ∀ (w f : Nat) (l : List Int), w < f → w ≤ 7 → l.length + w ≤ 900100 → (F24_l9 600).L f (rows8 l, n, (w : Int) - 1) = some (rows8 (l ++ beP w n))
  | 0, f, l, hf, hw, hl => by
    obtain ⟨g, rfl⟩ : ∃ g, f = g + 1 := ⟨f - 1, by omega⟩
    show (F24_l9 600).b _ _ ((F24_l9 600).L g) some = _
    have c0 : decide ((((0 : Nat) : Int) - 1) ≥ 0) = false := by rw [decide_eq_false_iff_not]; omega
    simp only [F24_l9, c0, beP, List.append_nil]
  | w + 1, f, l, hf, hw, hl => by
    obtain ⟨g, rfl⟩ : ∃ g, f = g + 1 := ⟨f - 1, by omega⟩
    have e : (((w + 1 : Nat) : Int) - 1) = ((w : Nat) : Int) := by omega
    rw [e, putg_step l (by omega) n w g (by omega), putg_loop n w g _ (by omega) (by omega) (by simp; omega), List.append_assoc]
    rfl
theorem put_lim : ∀ w : Nat, w < 8 → 1 ≤ w → i64 (8 * (w : Int)) = 8 * (w : Int) ∧ i64 (shL .i64 1 (8 * (w : Int)) - 1) = 2 ^ (8 * w) - 1 ∧ i64 ((w : Int) - 1) = (w : Int) - 1 := by
  intro w h1 h2
  rcases (show w = 1 ∨ w = 2 ∨ w = 3 ∨ w = 4 ∨ w = 5 ∨ w = 6 ∨ w = 7 by omega) with rfl | rfl | rfl | rfl | rfl | rfl | rfl <;> exact ⟨by kernel_rfl, by kernel_rfl, by kernel_rfl⟩
theorem put_ok (s : ByteArray) (hs : s.size ≤ 900000) {n : Int} (w : Nat) (hw : 1 ≤ w ∧ w ≤ 7) (hn : 0 ≤ n ∧ n < 2 ^ (8 * w)) : F24_d 600 (s, n, (w : Int)) = some (s ++ strOfNums (beP w n), 0) := by
  obtain ⟨e1, e2, e3⟩ := put_lim w (by omega) hw.1
  have c : ¬ ((8 * (w : Int)) < 0) := by omega
  have i1 : F40_d 600 ((w : Int), 1, 7) = some true := in_yes (by omega)
  have i2 : F40_d 600 (n, 0, 2 ^ (8 * w) - 1) = some true := in_yes (by omega)
  have hl := nums_len s
  have r := putg_loop n w 600 (nums s) (by omega) hw.2 (by omega)
  simp only [F24_d, FSpec.d, F24_s, i1, Bool.not_true, e1, c, if_false, e2, i2, e3, bytesL_eq, F24_d9, r, numsOf_rows8, strOf_app, strOf_nums]
/-- The number of some bytes. -/
def gw (l : List Int) (m : Nat) : Nat → Int
  | 0 => 0
  | i + 1 => gw l m i * 256 + l.getD (m + i) 0
theorem gw_rng (l : List Int) (hl : ∀ x ∈ l, 0 ≤ x ∧ x ≤ 255) (m : Nat) : ∀ i : Nat, 0 ≤ gw l m i ∧ gw l m i < 2 ^ (8 * i)
  | 0 => ⟨Int.le_refl _, by show (0 : Int) < 1; decide⟩
  | i + 1 => by
    have h := gw_rng l hl m i
    have hd : 0 ≤ l.getD (m + i) 0 ∧ l.getD (m + i) 0 ≤ 255 := by
      rw [List.getD_eq_getElem?_getD]
      by_cases hlt : m + i < l.length
      · rw [List.getElem?_eq_getElem hlt]; exact hl _ (List.getElem_mem hlt)
      · rw [List.getElem?_eq_none (by omega)]; simp
    have e : (2 : Int) ^ (8 * (i + 1)) = 2 ^ (8 * i) * 256 := by rw [show 8 * (i + 1) = 8 * i + 8 by omega, Int.pow_add]; rfl
    show 0 ≤ gw l m i * 256 + l.getD (m + i) 0 ∧ gw l m i * 256 + l.getD (m + i) 0 < 2 ^ (8 * (i + 1))
    rw [e]
    generalize (2 : Int) ^ (8 * i) = P at h ⊢
    omega
theorem pow56 {i : Nat} (h : i ≤ 7) : (2 : Int) ^ (8 * i) ≤ 72057594037927936 := by
  have := two_le (a := 8 * i) (b := 56) (by omega)
  have e : (2 : Int) ^ 56 = 72057594037927936 := by decide
  omega
theorem getg_step (s : ByteArray) (m w i f : Nat) (hm : m ≤ 1000000) (hi : i < w) (hw : w ≤ 7) (hs : m + i < s.size) : (F64_l13 600).L (f + 1) (s, (m : Int), gw (nums s) m i, (w : Int), (i : Int)) = (F64_l13 600).L f (s, (m : Int), gw (nums s) m (i + 1), (w : Int), ((i + 1 : Nat) : Int)) := by
  show (F64_l13 600).b _ _ ((F64_l13 600).L f) some = _
  obtain ⟨Lf, hL⟩ : ∃ Lf, Lf = (F64_l13 600).L f := ⟨_, rfl⟩
  rw [← hL]
  have ha := gw_rng (nums s) (nums_rng s) m i
  have hp := pow56 (i := i) (by omega)
  have hp2 := two_le (a := 8 * i) (b := 48) (by omega)
  have e48 : (2 : Int) ^ 48 = 281474976710656 := by decide
  have c1 : decide ((i : Int) < (w : Int)) = true := by rw [decide_eq_true_iff]; omega
  have e1 : i64 ((m : Int) + (i : Int)) = ((m + i : Nat) : Int) := by rw [i64_id (by omega)]; omega
  have c2 : (0 : Int) ≤ ((m + i : Nat) : Int) := by omega
  have e3 : i64 ((i : Int) + 1) = ((i + 1 : Nat) : Int) := by rw [i64_id (by omega)]; omega
  obtain ⟨u, hu, hv⟩ := byte_get s (m + i) hs
  have hr := num_rng s (m + i)
  have e8 : ((8 : Int)).toNat = 8 := rfl
  have e4 : shL .i64 (gw (nums s) m i) 8 = gw (nums s) m i * 2 ^ 8 := shL_ok (by omega) (by rw [e8]; omega)
  have e5 : IntKind.i64.wrap ((nums s).getD (m + i) 0) = (nums s).getD (m + i) 0 := i64_id (by omega)
  have e6 : bOr .i64 (gw (nums s) m i * 2 ^ 8) ((nums s).getD (m + i) 0) = gw (nums s) m i * 2 ^ 8 + (nums s).getD (m + i) 0 := bOr_ok (by omega) ha.1 (by omega) (by omega)
  simp only [F64_l13, c1, e1, c2, if_true, Int.toNat_natCast, hu, hv, e4, e5, e6, e3]
  exact if_pos trivial
theorem getg_loop (s : ByteArray) (m w : Nat) (hm : m ≤ 1000000) (hw : w ≤ 7) (hs : m + w ≤ s.size) : ∀ (k i f : Nat), k < f → i + k = w → (F64_l13 600).L f (s, (m : Int), gw (nums s) m i, (w : Int), (i : Int)) = some (gw (nums s) m w)
  | 0, i, f, hf, hk => by
    obtain ⟨g, rfl⟩ : ∃ g, f = g + 1 := ⟨f - 1, by omega⟩
    obtain rfl : i = w := by omega
    show (F64_l13 600).b _ _ ((F64_l13 600).L g) some = _
    have c0 : decide ((i : Int) < (i : Int)) = false := by rw [decide_eq_false_iff_not]; omega
    simp only [F64_l13, c0]
  | k + 1, i, f, hf, hk => by
    obtain ⟨g, rfl⟩ : ∃ g, f = g + 1 := ⟨f - 1, by omega⟩
    rw [getg_step s m w i g hm (by omega) hw (by omega)]
    exact getg_loop s m w hm hw hs k (i + 1) g (by omega) (by omega)
theorem get_ok (s : ByteArray) (m w : Nat) (hm : m ≤ 1000000) (hw : 1 ≤ w ∧ w ≤ 7) (h : m + w ≤ s.size) (hs : s.size ≤ 1000000) : F64_d 600 (s, (m : Int), (w : Int)) = some (gw (nums s) m w, 0) := by
  have i1 : F40_d 600 ((w : Int), 1, 7) = some true := in_yes (by omega)
  have c1 : decide ((m : Int) < 0) = false := by rw [decide_eq_false_iff_not]; omega
  have e1 : i64 ((s.size : Int) - (w : Int)) = (s.size : Int) - (w : Int) := i64_id (by omega)
  have c2 : decide ((m : Int) > (s.size : Int) - (w : Int)) = false := by rw [decide_eq_false_iff_not]; omega
  have r := getg_loop s m w hm hw.2 h w 0 600 (by omega) (by omega)
  have r' : (F64_l13 600).L 600 (s, (m : Int), 0, (w : Int), 0) = some (gw (nums s) m w) := r
  simp only [F64_d, FSpec.d, F64_s, i1, Bool.not_true, c1, e1, c2, F64_d13, r']
/-! What was put is got. -/
theorem gw_skip (a l : List Int) (m : Nat) : ∀ i : Nat, gw (a ++ l) (a.length + m) i = gw l m i
  | 0 => rfl
  | i + 1 => by
    show gw (a ++ l) (a.length + m) i * 256 + (a ++ l).getD (a.length + m + i) 0 = gw l m i * 256 + l.getD (m + i) 0
    rw [gw_skip a l m i, List.getD_eq_getElem?_getD, List.getElem?_append_right (by omega), List.getD_eq_getElem?_getD]
    congr 3
    omega
theorem pow_split (n : Int) (j : Nat) : n / 2 ^ (8 * j) = n / 2 ^ (8 * (j + 1)) * 256 + n / 2 ^ (8 * j) % 256 := by
  have e : n / 2 ^ (8 * (j + 1)) = n / 2 ^ (8 * j) / 256 := by
    rw [show 8 * (j + 1) = 8 * j + 8 by omega, Int.pow_add, ← Int.ediv_ediv_of_nonneg (Int.le_of_lt (Int.pow_pos (by omega)))]
    rfl
  rw [e]
  generalize n / 2 ^ (8 * j) = q
  omega
theorem beP_get : ∀ (w : Nat) (n : Int) (l : List Int) (i : Nat), i < w → (beP w n ++ l).getD i 0 = n / 2 ^ (8 * (w - 1 - i)) % 256
  | w + 1, n, l, 0, _ => rfl
  | w + 1, n, l, i + 1, h => by
    show (beP w n ++ l).getD i 0 = _
    rw [beP_get w n l i (by omega)]
    congr 4
    omega
theorem gw_head (w : Nat) (n : Int) (hn : 0 ≤ n ∧ n < 2 ^ (8 * w)) (l : List Int) : ∀ i : Nat, i ≤ w → gw (beP w n ++ l) 0 i = n / 2 ^ (8 * (w - i))
  | 0, _ => by
    show (0 : Int) = _
    rw [Nat.sub_zero, Int.ediv_eq_zero_of_lt hn.1 hn.2]
  | i + 1, h => by
    show gw (beP w n ++ l) 0 i * 256 + (beP w n ++ l).getD (0 + i) 0 = _
    rw [gw_head w n hn l i (by omega), Nat.zero_add, beP_get w n l i (by omega), pow_split n (w - (i + 1)), show w - (i + 1) + 1 = w - i by omega, show w - 1 - i = w - (i + 1) by omega]
theorem gw_put (w : Nat) (n : Int) (hn : 0 ≤ n ∧ n < 2 ^ (8 * w)) (l : List Int) : gw (beP w n ++ l) 0 w = n := by
  rw [gw_head w n hn l w (Nat.le_refl _), Nat.sub_self, Nat.mul_zero, Int.pow_zero, Int.ediv_one]
end Go.Proofs.YtdmedeaknnldcaaDoor
