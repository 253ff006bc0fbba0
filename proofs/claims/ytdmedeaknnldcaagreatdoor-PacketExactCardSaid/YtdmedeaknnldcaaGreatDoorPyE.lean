/- Several texts as one (written by merge.py): PzA PzB PzC PzD PzE PzF PzX. -/
import Derived.Test.YtdmedeaknnldcaaGreatDoorPyB
import Derived.Test.YtdmedeaknnldcaaGreatDoorPkV
import Derived.Test.YtdmedeaknnldcaaGreatDoorLeaf
/- Packets: both packages' Valid for any packet. -/
namespace Go.Proofs.YtdmedeaknnldcaaGreatDoor
open Go.RowKit
set_option linter.unusedVariables false
set_option linter.unusedSimpArgs false
set_option linter.unnecessarySimpa false
theorem code_any {s : ByteArray} (lo hi : Int) (h : s.size ≤ 9223372036854775807) : F66_d 600 (s, lo, hi) = some (codeB s lo hi) := if_pos h
theorem rcode_any {s : ByteArray} (lo hi : Int) (h : s.size ≤ 9223372036854775807) : F69_d 600 (s, lo, hi) = some (codeB s lo hi) := if_pos h
/-- Whether a source is valid. -/
def sidB (a b c d : ByteArray) : Bool := codeB a 1 2 && (codeB b 1 5 && (codeB c 0 2 && (((c.size : Int) != 1) && codeB d 3 3)))
theorem codeB_size {s : ByteArray} {lo hi : Int} (h : codeB s lo hi = true) : lo ≤ (s.size : Int) ∧ (s.size : Int) ≤ hi := by
  unfold codeB at h
  simp only [Bool.and_eq_true, decide_eq_true_eq] at h
  exact h.2
theorem sidB_size {a b c d : ByteArray} (h : sidB a b c d = true) : a.size ≤ 2 ∧ b.size ≤ 5 ∧ c.size ≤ 2 ∧ d.size ≤ 3 ∧ 1 ≤ a.size ∧ 1 ≤ b.size ∧ 3 ≤ d.size := by
  unfold sidB at h
  simp only [Bool.and_eq_true] at h
  have h1 := codeB_size h.1
  have h2 := codeB_size h.2.1
  have h3 := codeB_size h.2.2.1
  have h4 := codeB_size h.2.2.2.2
  omega
def Small (s : ByteArray) : Prop := s.size ≤ 9223372036854775807
theorem src_any {a b c d : ByteArray} (ha : Small a) (hb : Small b) (hc : Small c) (hd : Small d) : F37_d 600 (a, b, c, d) = some (sidB a b c d) := by
  have e1 := code_any 1 2 ha
  have e2 := code_any 1 5 hb
  have e3 := code_any 0 2 hc
  have e4 := code_any 3 3 hd
  unfold sidB
  simp only [F37_d, FSpec.d, F37_s, e1, e2, e3, e4]
  cases codeB a 1 2 <;> cases codeB b 1 5 <;> cases codeB c 0 2 <;> cases ((c.size : Int) != 1) <;> cases codeB d 3 3 <;> rfl
theorem empty_iff (c : ByteArray) : (c.toList == (⟨#[]⟩ : ByteArray).toList) = decide (c.size = 0) := by
  rw [ByteArray.toList_eq, ByteArray.toList_eq]
  have hs : c.size = c.data.toList.length := by simp
  rw [hs]
  cases h : c.data.toList with
  | nil => rfl
  | cons x r => rfl
theorem loc_eq (c : ByteArray) : (if c.size = 0 then true else codeB c 2 2) = (codeB c 0 2 && ((c.size : Int) != 1)) := by
  unfold codeB
  by_cases h0 : c.size = 0
  · rw [if_pos h0]
    have hl : c.data.toList = [] := List.length_eq_zero_iff.1 (by simpa using h0)
    rw [hl, h0]
    rfl
  · rw [if_neg h0]
    by_cases h1 : c.size = 1
    · rw [h1]
      cases c.data.toList.all okc <;> rfl
    · have e1 : ((c.size : Int) != 1) = true := by rw [bne_iff_ne]; omega
      have e2 : decide ((2 : Int) ≤ (c.size : Int)) = true := decide_eq_true (by omega)
      have e3 : decide ((0 : Int) ≤ (c.size : Int)) = true := decide_eq_true (by omega)
      rw [e1, e2, e3, Bool.and_true]
theorem rsrc_any {a b c d : ByteArray} (ha : Small a) (hb : Small b) (hc : Small c) (hd : Small d) : F40_d 600 (a, b, c, d) = some (sidB a b c d) := by
  have e1 := rcode_any 1 2 ha
  have e2 := rcode_any 1 5 hb
  have e3 := rcode_any 2 2 hc
  have e4 := rcode_any 3 3 hd
  have hl := loc_eq c
  have hs : sidB a b c d = (codeB a 1 2 && (codeB b 1 5 && ((codeB c 0 2 && ((c.size : Int) != 1)) && codeB d 3 3))) := by unfold sidB; rw [Bool.and_assoc (codeB c 0 2)]
  rw [hs, ← hl]
  simp only [F40_d, FSpec.d, F40_s, e1, e2, e3, e4, empty_iff]
  by_cases h0 : c.size = 0
  · rw [if_pos h0, decide_eq_true h0]
    cases codeB a 1 2 <;> cases codeB b 1 5 <;> cases codeB d 3 3 <;> rfl
  · rw [if_neg h0, decide_eq_false h0]
    cases codeB a 1 2 <;> cases codeB b 1 5 <;> cases codeB c 2 2 <;> cases codeB d 3 3 <;> rfl
/-! Rates. -/
theorem gcd_end (a : Int) (f : Nat) : (F68_l3 600).L (f + 1) (a, 0) = some a := rfl
theorem gcd_step (a b : Int) (hb : b ≠ 0) (f : Nat) : (F68_l3 600).L (f + 1) (a, b) = (F68_l3 600).L f (b, a.tmod b) := by
  show (F68_l3 600).b _ _ ((F68_l3 600).L f) some = _
  have c1 : (b != 0) = true := by rw [bne_iff_ne]; exact hb
  simp only [F68_l3, c1, if_neg hb]
theorem gcd_loop : ∀ (k : Nat) (a b : Int) (f : Nat), 0 ≤ a → 0 ≤ b → b < 2 ^ k → 2 * k + 1 ≤ f → ∃ g : Int, (F68_l3 600).L f (a, b) = some g
  | 0, a, b, f, ha, hb, hk, hf => by
    obtain ⟨f, rfl⟩ : ∃ f', f = f' + 1 := ⟨f - 1, by omega⟩
    have h1 : (2 : Int) ^ 0 = 1 := rfl
    obtain rfl : b = 0 := by omega
    exact ⟨a, gcd_end a f⟩
  | k + 1, a, b, f, ha, hb, hk, hf => by
    obtain ⟨f, rfl⟩ : ∃ f', f = f' + 2 := ⟨f - 2, by omega⟩
    by_cases h0 : b = 0
    · subst h0; exact ⟨a, gcd_end a _⟩
    · rw [gcd_step a b h0 (f + 1)]
      have r1 := Int.tmod_nonneg b ha
      have r2 := Int.tmod_lt_of_pos a (show 0 < b by omega)
      by_cases h1 : a.tmod b = 0
      · rw [h1]; exact ⟨b, gcd_end b _⟩
      · rw [gcd_step b (a.tmod b) h1 f]
        have q1 := Int.tmod_nonneg (a.tmod b) hb
        have q2 := Int.tmod_lt_of_pos b (show 0 < a.tmod b by omega)
        have q3 : b = (a.tmod b) * (b.tdiv (a.tmod b)) + b.tmod (a.tmod b) := (Int.mul_tdiv_add_tmod b (a.tmod b)).symm
        have q4 : 1 ≤ b.tdiv (a.tmod b) := by
          rw [Int.tdiv_eq_ediv_of_nonneg hb]
          exact (Int.le_ediv_iff_mul_le (by omega)).2 (by omega)
        have q5 : a.tmod b * 1 ≤ a.tmod b * b.tdiv (a.tmod b) := Int.mul_le_mul_of_nonneg_left q4 r1
        have hp : (2 : Int) ^ (k + 1) = 2 ^ k * 2 := Int.pow_succ 2 k
        exact gcd_loop k (a.tmod b) (b.tmod (a.tmod b)) f r1 q1 (by omega) (by omega)
theorem gcd_same (f : Nat) (x : Int × Int) : (F70_l3 600).L f x = (F68_l3 600).L f x := rfl
theorem rin67 (N : Nat) (x lo hi : Int) : F67_d N (x, lo, hi) = some (decide (lo ≤ x ∧ x ≤ hi)) := in_any N x lo hi
theorem rate_any (n d : Int) : ∃ v : Bool, F38_d 600 (n, d) = some v ∧ F41_d 600 (n, d) = some v ∧ (v = true → (1 ≤ n ∧ n ≤ 4096) ∧ (1 ≤ d ∧ d ≤ 4096)) := by
  by_cases h1 : 1 ≤ n ∧ n ≤ 4096
  · by_cases h2 : 1 ≤ d ∧ d ≤ 4096
    · have e13 : (2 : Int) ^ 13 = 8192 := by decide
      obtain ⟨g, hg⟩ := gcd_loop 13 n d 600 (by omega) (by omega) (by omega) (by omega)
      have hg2 : (F70_l3 600).L 600 (n, d) = some g := (gcd_same 600 _).trans hg
      refine ⟨g == 1, ?_, ?_, fun _ => ⟨h1, h2⟩⟩
      · have z : F68_d 600 (n, d) = some g := by
          simp only [F68_d, FSpec.d, F68_s, F68_d3, hg]
          try rfl
        simp only [F38_d, FSpec.d, F38_s, rin67, h1, h2, decide_true, and_self, z]
      · have z : F70_d 600 (n, d) = some g := by
          simp only [F70_d, FSpec.d, F70_s, F70_d3, hg2]
          try rfl
        simp only [F41_d, FSpec.d, F41_s, rin_any, h1, h2, decide_true, and_self, z]
    · refine ⟨false, ?_, ?_, fun h => by cases h⟩
      · simp only [F38_d, FSpec.d, F38_s, rin67, h1, h2, decide_true, decide_false, and_self]
      · simp only [F41_d, FSpec.d, F41_s, rin_any, h1, h2, decide_true, decide_false, and_self]
  · refine ⟨false, ?_, ?_, fun h => by cases h⟩
    · simp only [F38_d, FSpec.d, F38_s, rin67, h1, decide_false]
    · simp only [F41_d, FSpec.d, F41_s, rin_any, h1, decide_false]
/-- What a valid packet has. -/
structure VOk (a b c d : ByteArray) (run seq start num den clk err : Int) (X : List Int) (u : ByteArray) : Prop where
  src : sidB a b c d = true
  num : 1 ≤ num ∧ num ≤ 4096
  den : 1 ≤ den ∧ den ≤ 4096
  run : 0 ≤ run ∧ run ≤ 65535
  seq : 0 ≤ seq ∧ seq ≤ 1073741824
  start : 0 ≤ start ∧ start ≤ 9007199254740992
  clk : 0 ≤ clk ∧ clk ≤ 2
  err : 0 ≤ err ∧ err ≤ 1099511627776
  len : 1 ≤ X.length ∧ X.length ≤ 420
  enc : F34_d 600 (rowsI X) = some (u, 0)
  renc : F27_d 600 (rowsI X) = some (u, 0)
  usz : u.size ≤ 512
theorem valid_any {a b c d : ByteArray} (ha : Small a) (hb : Small b) (hc : Small c) (hd : Small d) (run seq start num den clk err : Int) (X : List Int) (hl : X.length ≤ 430) :
    ∃ v : Bool, F16_d 600 (a, b, c, d, run, seq, start, num, den, clk, err, rowsI X) = some v ∧ F17_d 600 (a, b, c, d, run, seq, start, num, den, clk, err, rowsI X) = some v ∧ (v = true → ∃ u, VOk a b c d run seq start num den clk err X u) := by
  have s1 := src_any ha hb hc hd
  have s2 := rsrc_any ha hb hc hd
  obtain ⟨r, r1, r2, r3⟩ := rate_any num den
  obtain ⟨u, e, u1, u2, u3⟩ := enc_any X hl
  have hnil : X.length = 0 → e ≠ 0 := fun h he => by
    have : X = [] := List.length_eq_zero_iff.1 h
    subst this
    subst he
    have q : F34_d 600 (rowsI []) = some (⟨#[]⟩, 1) := rfl
    rw [q] at u1
    injection u1 with u1
    injection u1 with _ u1
    exact absurd u1 (by decide)
  have no : ∀ p : Prop, (false = true → p) := fun p h => by cases h
  cases hs : sidB a b c d with
  | false =>
    rw [hs] at s1 s2
    exact ⟨false, by simp only [F16_d, FSpec.d, F16_s, s1, Bool.not_false], by simp only [F17_d, FSpec.d, F17_s, s2, Bool.not_false], no _⟩
  | true =>
  rw [hs] at s1 s2
  cases hr : r with
  | false =>
    rw [hr] at r1 r2
    exact ⟨false, by simp only [F16_d, FSpec.d, F16_s, s1, r1, Bool.not_true, Bool.not_false], by simp only [F17_d, FSpec.d, F17_s, s2, r2, Bool.not_true, Bool.not_false], no _⟩
  | true =>
  rw [hr] at r1 r2
  by_cases h1 : 0 ≤ run ∧ run ≤ 65535
  case neg => exact ⟨false, by simp only [F16_d, FSpec.d, F16_s, s1, r1, pin_no h1, Bool.not_true, Bool.not_false], by simp only [F17_d, FSpec.d, F17_s, s2, r2, rin_no h1, Bool.not_true, Bool.not_false], no _⟩
  by_cases h2 : 0 ≤ seq ∧ seq ≤ 1073741824
  case neg => exact ⟨false, by simp only [F16_d, FSpec.d, F16_s, s1, r1, pin_yes h1, pin_no h2, Bool.not_true, Bool.not_false], by simp only [F17_d, FSpec.d, F17_s, s2, r2, rin_yes h1, rin_no h2, Bool.not_true, Bool.not_false], no _⟩
  by_cases h3 : 0 ≤ start ∧ start ≤ 9007199254740992
  case neg => exact ⟨false, by simp only [F16_d, FSpec.d, F16_s, s1, r1, pin_yes h1, pin_yes h2, pin_no h3, Bool.not_true, Bool.not_false], by simp only [F17_d, FSpec.d, F17_s, s2, r2, rin_yes h1, rin_yes h2, rin_no h3, Bool.not_true, Bool.not_false], no _⟩
  by_cases h4 : 0 ≤ clk ∧ clk ≤ 2
  case neg => exact ⟨false, by simp only [F16_d, FSpec.d, F16_s, s1, r1, pin_yes h1, pin_yes h2, pin_yes h3, pin_no h4, Bool.not_true, Bool.not_false], by simp only [F17_d, FSpec.d, F17_s, s2, r2, rin_yes h1, rin_yes h2, rin_yes h3, rin_no h4, Bool.not_true, Bool.not_false], no _⟩
  by_cases h5 : 0 ≤ err ∧ err ≤ 1099511627776
  case neg => exact ⟨false, by simp only [F16_d, FSpec.d, F16_s, s1, r1, pin_yes h1, pin_yes h2, pin_yes h3, pin_yes h4, pin_no h5, Bool.not_true, Bool.not_false], by simp only [F17_d, FSpec.d, F17_s, s2, r2, rin_yes h1, rin_yes h2, rin_yes h3, rin_yes h4, rin_no h5, Bool.not_true, Bool.not_false], no _⟩
  by_cases h6 : X.length ≤ 420
  case neg =>
    have c1 : decide ((X.length : Int) > 420) = true := by rw [decide_eq_true_iff]; omega
    have c2 : ¬ ((1 : Int) ≤ (X.length : Int) ∧ (X.length : Int) ≤ 420) := by omega
    exact ⟨false, by simp only [F16_d, FSpec.d, F16_s, s1, r1, pin_yes h1, pin_yes h2, pin_yes h3, pin_yes h4, pin_yes h5, Bool.not_true, rowsI_len, c1], by simp only [F17_d, FSpec.d, F17_s, s2, r2, rin_yes h1, rin_yes h2, rin_yes h3, rin_yes h4, rin_yes h5, rowsI_len, rin_no c2, Bool.not_true, Bool.not_false], no _⟩
  have c1 : decide ((X.length : Int) > 420) = false := by rw [decide_eq_false_iff_not]; omega
  by_cases h7 : X.length = 0
  · have c2 : ¬ ((1 : Int) ≤ (X.length : Int) ∧ (X.length : Int) ≤ 420) := by omega
    have he : (e == 0) = false := beq_eq_false_iff_ne.2 (hnil h7)
    exact ⟨false, by simp only [F16_d, FSpec.d, F16_s, s1, r1, pin_yes h1, pin_yes h2, pin_yes h3, pin_yes h4, pin_yes h5, Bool.not_true, rowsI_len, c1, u1, he], by simp only [F17_d, FSpec.d, F17_s, s2, r2, rin_yes h1, rin_yes h2, rin_yes h3, rin_yes h4, rin_yes h5, rowsI_len, rin_no c2, Bool.not_true, Bool.not_false], no _⟩
  · have c2 : (1 : Int) ≤ (X.length : Int) ∧ (X.length : Int) ≤ 420 := by omega
    refine ⟨e == 0, by simp only [F16_d, FSpec.d, F16_s, s1, r1, pin_yes h1, pin_yes h2, pin_yes h3, pin_yes h4, pin_yes h5, Bool.not_true, rowsI_len, c1, u1], by simp only [F17_d, FSpec.d, F17_s, s2, r2, rin_yes h1, rin_yes h2, rin_yes h3, rin_yes h4, rin_yes h5, rowsI_len, rin_yes c2, Bool.not_true, u2], fun he => ⟨u, ?_⟩⟩
    have he : e = 0 := beq_iff_eq.1 he
    subst he
    exact ⟨hs, (r3 hr).1, (r3 hr).2, h1, h2, h3, h4, h5, by omega, u1, u2, by omega⟩
end Go.Proofs.YtdmedeaknnldcaaGreatDoor
/- Packets: both packages' Encode and Record for any packet. -/
namespace Go.Proofs.YtdmedeaknnldcaaGreatDoor
open Go.RowKit
set_option linter.unusedVariables false
set_option linter.unusedSimpArgs false
set_option linter.unnecessarySimpa false
theorem rputg_loop (n : Int) : ∀ (w f : Nat) (l : List Int), w < f → w ≤ 7 → l.length + w ≤ 900100 → (F28_l9 600).L f (rows8 l, n, (w : Int) - 1) = some (rows8 (l ++ beP w n))
  | 0, f, l, hf, hw, hl => by
    obtain ⟨g, rfl⟩ : ∃ g, f = g + 1 := ⟨f - 1, by omega⟩
    show (F28_l9 600).b _ _ ((F28_l9 600).L g) some = _
    have c0 : decide ((((0 : Nat) : Int) - 1) ≥ 0) = false := by rw [decide_eq_false_iff_not]; omega
    simp only [F28_l9, c0, beP, List.append_nil]
  | w + 1, f, l, hf, hw, hl => by
    obtain ⟨g, rfl⟩ : ∃ g, f = g + 1 := ⟨f - 1, by omega⟩
    have e : (((w + 1 : Nat) : Int) - 1) = ((w : Nat) : Int) := by omega
    rw [e, rput_step l (by omega) n w g (by omega), rputg_loop n w g _ (by omega) (by omega) (by simp; omega), List.append_assoc]
    rfl
theorem rput_lim : ∀ w : Nat, w < 8 → 1 ≤ w → IntKind.u64.wrap (i64 (8 * (w : Int))) = 8 * (w : Int) ∧ shL .i64 1 (8 * (w : Int)) = 2 ^ (8 * w) ∧ i64 ((w : Int) - 1) = (w : Int) - 1 := by
  intro w h1 h2
  rcases (show w = 1 ∨ w = 2 ∨ w = 3 ∨ w = 4 ∨ w = 5 ∨ w = 6 ∨ w = 7 by omega) with rfl | rfl | rfl | rfl | rfl | rfl | rfl <;> exact ⟨by kernel_rfl, by kernel_rfl, by kernel_rfl⟩
theorem rpute_ok (s : ByteArray) (hs : s.size ≤ 900000) {n : Int} (w : Nat) (hw : 1 ≤ w ∧ w ≤ 7) (hn : 0 ≤ n ∧ n < 2 ^ (8 * w)) : F28_d 600 (s, n, (w : Int)) = some (s ++ strOfNums (beP w n), 0) := by
  obtain ⟨e1, e2, e3⟩ := rput_lim w (by omega) hw.1
  have c : ¬ ((8 * (w : Int)) < 0) := by omega
  have i1 : F42_d 600 ((w : Int), 1, 7) = some true := rin_yes (by omega)
  have i2 : decide (n < 0) = false := by rw [decide_eq_false_iff_not]; omega
  have i3 : decide (n ≥ 2 ^ (8 * w)) = false := by rw [decide_eq_false_iff_not]; omega
  have hl := nums_len s
  have r := rputg_loop n w 600 (nums s) (by omega) hw.2 (by omega)
  simp only [F28_d, FSpec.d, F28_s, i1, Bool.not_true, e1, c, if_false, i2, e2, i3, e3, bytesL_eq, F28_d9, r, numsOf_rows8, strOf_app, strOf_nums]
theorem rfld_loop (v1 w1 v2 w2 v3 w3 v4 w4 v5 w5 v6 w6 v7 w7 v8 w8 v9 w9 v10 w10 v11 w11 : Int)
    (hL : ∀ q ∈ [(v1, w1), (v2, w2), (v3, w3), (v4, w4), (v5, w5), (v6, w6), (v7, w7), (v8, w8), (v9, w9), (v10, w10), (v11, w11)], FOk q) (nm dt : ByteArray) : ∀ (k i f : Nat) (out : ByteArray), k < f → i + k = 11 → out.size + 7 * k ≤ 800000 →
    (F9_l11 600).L f (nm, dt, out, v1, w1, v2, w2, v3, w3, v4, w4, v5, w5, v6, w6, v7, w7, v8, w8, v9, w9, v10, w10, v11, w11, (i : Int)) = some (nm, dt, out ++ strOfNums (fbs ([(v1, w1), (v2, w2), (v3, w3), (v4, w4), (v5, w5), (v6, w6), (v7, w7), (v8, w8), (v9, w9), (v10, w10), (v11, w11)].drop i)))
  | 0, i, f, out, hf, hi, ho => by
    obtain ⟨f, rfl⟩ : ∃ f', f = f' + 1 := ⟨f - 1, by omega⟩
    obtain rfl : i = 11 := by omega
    show (F9_l11 600).b _ _ ((F9_l11 600).L f) some = _
    have c : decide (((11 : Nat) : Int) < 11) = false := rfl
    have e2 : out ++ strOfNums (fbs ([(v1, w1), (v2, w2), (v3, w3), (v4, w4), (v5, w5), (v6, w6), (v7, w7), (v8, w8), (v9, w9), (v10, w10), (v11, w11)].drop 11)) = out := by
      apply ByteArray.ext
      show (out ++ strOfNums []).data = _
      simp [strOfNums]
    simp only [F9_l11, c, e2]
  | k + 1, i, f, out, hf, hi, ho => by
    obtain ⟨f, rfl⟩ : ∃ f', f = f' + 1 := ⟨f - 1, by omega⟩
    obtain ⟨L, hLL⟩ : ∃ L, L = [(v1, w1), (v2, w2), (v3, w3), (v4, w4), (v5, w5), (v6, w6), (v7, w7), (v8, w8), (v9, w9), (v10, w10), (v11, w11)] := ⟨_, rfl⟩
    have hlt : i < L.length := by rw [hLL]; show i < 11; omega
    have g : [AV.v (.int .i64 v1), AV.v (.int .i64 w1), AV.v (.int .i64 v2), AV.v (.int .i64 w2), AV.v (.int .i64 v3), AV.v (.int .i64 w3), AV.v (.int .i64 v4), AV.v (.int .i64 w4), AV.v (.int .i64 v5), AV.v (.int .i64 w5), AV.v (.int .i64 v6), AV.v (.int .i64 w6), AV.v (.int .i64 v7), AV.v (.int .i64 w7), AV.v (.int .i64 v8), AV.v (.int .i64 w8), AV.v (.int .i64 v9), AV.v (.int .i64 w9), AV.v (.int .i64 v10), AV.v (.int .i64 w10), AV.v (.int .i64 v11), AV.v (.int .i64 w11)][i * 2]? = some (AV.v (.int .i64 (L[i]).1)) ∧ [AV.v (.int .i64 v1), AV.v (.int .i64 w1), AV.v (.int .i64 v2), AV.v (.int .i64 w2), AV.v (.int .i64 v3), AV.v (.int .i64 w3), AV.v (.int .i64 v4), AV.v (.int .i64 w4), AV.v (.int .i64 v5), AV.v (.int .i64 w5), AV.v (.int .i64 v6), AV.v (.int .i64 w6), AV.v (.int .i64 v7), AV.v (.int .i64 w7), AV.v (.int .i64 v8), AV.v (.int .i64 w8), AV.v (.int .i64 v9), AV.v (.int .i64 w9), AV.v (.int .i64 v10), AV.v (.int .i64 w10), AV.v (.int .i64 v11), AV.v (.int .i64 w11)][i * 2 + 1]? = some (AV.v (.int .i64 (L[i]).2)) := by
      subst hLL
      rcases (show i = 0 ∨ i = 1 ∨ i = 2 ∨ i = 3 ∨ i = 4 ∨ i = 5 ∨ i = 6 ∨ i = 7 ∨ i = 8 ∨ i = 9 ∨ i = 10 by omega) with rfl | rfl | rfl | rfl | rfl | rfl | rfl | rfl | rfl | rfl | rfl <;> exact ⟨rfl, rfl⟩
    have r0 := rfld_loop v1 w1 v2 w2 v3 w3 v4 w4 v5 w5 v6 w6 v7 w7 v8 w8 v9 w9 v10 w10 v11 w11 hL nm dt k (i + 1) f
    rw [← hLL] at hL r0 ⊢
    obtain ⟨h1, h2, h3⟩ := hL _ (List.getElem_mem hlt)
    have ew : (((L[i]).2.toNat : Nat) : Int) = (L[i]).2 := Int.toNat_of_nonneg (by omega)
    have pu := rpute_ok out (by omega) (n := (L[i]).1) (L[i]).2.toNat (by omega) ⟨h2, h3⟩
    rw [ew] at pu
    have hsz : (out ++ strOfNums (beP (L[i]).2.toNat (L[i]).1)).size + 7 * k ≤ 800000 := by
      rw [ByteArray.size_append, strOf_size, beP_len]; omega
    have r1 := r0 (out ++ strOfNums (beP (L[i]).2.toNat (L[i]).1)) (by omega) (by omega) hsz
    have ed : L.drop i = L[i] :: L.drop (i + 1) := List.drop_eq_getElem_cons hlt
    have ea : out ++ strOfNums (beP (L[i]).2.toNat (L[i]).1) ++ strOfNums (fbs (L.drop (i + 1))) = out ++ strOfNums (fbs (L.drop i)) := by
      rw [ed, fbs_cons, strOf_app]
      exact ByteArray.append_assoc
    rw [ea] at r1
    have c1 : decide ((i : Int) < 11) = true := by rw [decide_eq_true_iff]; omega
    have c2 : (0 : Int) ≤ (i : Int) ∧ (i : Int) < 11 := by omega
    have c4 : i64 ((i : Int) + 1) = ((i + 1 : Nat) : Int) := by rw [i64_id (by omega)]; omega
    show (F9_l11 600).b _ _ ((F9_l11 600).L f) some = _
    obtain ⟨Lf, hL2⟩ : ∃ Lf, Lf = (F9_l11 600).L f := ⟨_, rfl⟩
    rw [← hL2] at r1 ⊢
    simp only [F9_l11, c1, c2, and_self, if_true, Int.toNat_natCast, g.1, g.2, pu, c4]
    exact r1
theorem joined_eq (a b c d : ByteArray) : joined [a, b, c, d] = ((((((a ++ dot) ++ b) ++ dot) ++ c) ++ dot) ++ d) := by
  apply ByteArray.ext
  apply Array.toList_inj.1
  show (Lib.join ([a, b, c, d].map (·.data.toList)) dot.data.toList).toArray.toList = _
  simp [Lib.join]
theorem joined_size (a b c d : ByteArray) : (joined [a, b, c, d]).size = a.size + b.size + c.size + d.size + 3 := by
  have h : dot.size = 1 := rfl
  rw [joined_eq]
  simp only [ByteArray.size_append, h]
  omega
theorem enc_both {a b c d : ByteArray} (ha : Small a) (hb : Small b) (hc : Small c) (hd : Small d) (run seq start num den clk err : Int) (X : List Int) (hl : X.length ≤ 430) :
    ∃ (s : ByteArray) (e : Int), F13_d 600 (a, b, c, d, run, seq, start, num, den, clk, err, rowsI X) = some (s, e) ∧ F9_d 600 (a, b, c, d, run, seq, start, num, den, clk, err, rowsI X) = some (s, e) ∧ s.size ≤ 570 ∧ (e = 0 → 4 ≤ s.size) := by
  obtain ⟨v, v1, v2, v3⟩ := valid_any ha hb hc hd run seq start num den clk err X hl
  cases hv : v with
  | false =>
    rw [hv] at v1 v2
    exact ⟨⟨#[]⟩, 1, by simp only [F13_d, FSpec.d, F13_s, v1, Bool.not_false], by simp only [F9_d, FSpec.d, F9_s, v2, Bool.not_false], by decide, fun h => by cases h⟩
  | true =>
  rw [hv] at v1 v2
  obtain ⟨u, V⟩ := v3 hv
  have hsz := sidB_size V.src
  have js := joined_size a b c d
  obtain ⟨fr, hfr⟩ : ∃ fr : Nat, fr = u.size / 64 := ⟨_, rfl⟩
  have usz := V.usz
  have fr8 : fr ≤ 8 := by omega
  have e64 : i64 ((u.size : Int).tdiv 64) = (fr : Int) := by
    have : (u.size : Int).tdiv 64 = ((u.size / 64 : Nat) : Int) := rfl
    rw [this, ← hfr]
    exact i64_id (by omega)
  have rl : (((rowsI X).length : Nat) : Int) = (X.length : Int) := by rw [rowsI_len]
  have s1 := src_any ha hb hc hd
  have s2 := rsrc_any ha hb hc hd
  rw [V.src] at s1 s2
  obtain ⟨nm, hnm⟩ : ∃ nm, nm = joined [a, b, c, d] := ⟨_, rfl⟩
  have nms : nm.size ≤ 15 := by rw [hnm]; omega
  have f1 : F33_d 600 (a, b, c, d) = some (nm, 0) := by
    have e : (joined [(a, b, c, d).1, (a, b, c, d).2.1, (a, b, c, d).2.2.1, (a, b, c, d).2.2.2]).size ≤ 140737488355328 := by show (joined [a, b, c, d]).size ≤ _; omega
    simp only [F33_d, FSpec.d, F33_s, s1]
    refine (if_pos e).trans ?_
    rw [hnm]
  have dz : (⟨#[46]⟩ : ByteArray).size = 1 := rfl
  have f2 : F26_d 600 (a, b, c, d) = some (nm, 0) := by
    have b1 : a.size + 1 ≤ 9223372036854775807 := by omega
    have b2 : (a ++ (⟨#[46]⟩ : ByteArray)).size + b.size ≤ 9223372036854775807 := by rw [ByteArray.size_append, dz]; omega
    have b3 : ((a ++ (⟨#[46]⟩ : ByteArray)) ++ b).size + 1 ≤ 9223372036854775807 := by rw [ByteArray.size_append, ByteArray.size_append, dz]; omega
    have b4 : (((a ++ (⟨#[46]⟩ : ByteArray)) ++ b) ++ (⟨#[46]⟩ : ByteArray)).size + c.size ≤ 9223372036854775807 := by rw [ByteArray.size_append, ByteArray.size_append, ByteArray.size_append, dz]; omega
    have b5 : ((((a ++ (⟨#[46]⟩ : ByteArray)) ++ b) ++ (⟨#[46]⟩ : ByteArray)) ++ c).size + 1 ≤ 9223372036854775807 := by rw [ByteArray.size_append, ByteArray.size_append, ByteArray.size_append, ByteArray.size_append, dz]; omega
    have b6 : (((((a ++ (⟨#[46]⟩ : ByteArray)) ++ b) ++ (⟨#[46]⟩ : ByteArray)) ++ c) ++ (⟨#[46]⟩ : ByteArray)).size + d.size ≤ 9223372036854775807 := by rw [ByteArray.size_append, ByteArray.size_append, ByteArray.size_append, ByteArray.size_append, ByteArray.size_append, dz]; omega
    simp only [F26_d, FSpec.d, F26_s, s2, Bool.not_true, dz, b1, b2, b3, b4, b5, b6, if_true]
    rw [hnm, joined_eq]
    rfl
  obtain ⟨L, hL⟩ : ∃ L : List (Int × Int), L = [(clk, 1), (run, 2), (seq, 4), (start, 7), (num, 2), (den, 2), (err, 6), ((X.length : Int), 2), ((nm.size : Int), 1), ((fr : Int), 1)] := ⟨_, rfl⟩
  have p1 : (2 : Int) ^ (8 * (1 : Int).toNat) = 256 := by decide
  have p2 : (2 : Int) ^ (8 * (2 : Int).toNat) = 65536 := by decide
  have p4 : (2 : Int) ^ (8 * (4 : Int).toNat) = 4294967296 := by decide
  have p6 : (2 : Int) ^ (8 * (6 : Int).toNat) = 281474976710656 := by decide
  have p7 : (2 : Int) ^ (8 * (7 : Int).toNat) = 72057594037927936 := by decide
  obtain ⟨-, h1, h2, h3, h4, h5, h6, h7, h8, ve, vre, -⟩ := V
  have ok1 : ∀ q ∈ (((1 : Int), (1 : Int)) :: L), FOk q := by
    intro q hq
    simp only [hL, List.mem_cons, List.not_mem_nil, or_false] at hq
    rcases hq with rfl | rfl | rfl | rfl | rfl | rfl | rfl | rfl | rfl | rfl | rfl <;> refine ⟨by omega, ?_⟩ <;> simp only [p1, p2, p4, p6, p7] <;> omega
  have ok : ∀ q ∈ L, FOk q := fun q hq => ok1 q (List.mem_cons_of_mem _ hq)
  have l10 : L.length = 10 := by rw [hL]; rfl
  have r := fld_loop L ok (by omega) nm u 10 0 600 ⟨#[83, 78, 1]⟩ (by omega) (by omega) (by show 3 + 7 * 10 ≤ 800000; omega)
  rw [l10, List.drop_zero] at r
  rw [hL] at ok1
  have rr := rfld_loop 1 1 clk 1 run 2 seq 4 start 7 num 2 den 2 err 6 (X.length : Int) 2 (nm.size : Int) 1 (fr : Int) 1 ok1 nm u 11 0 600 ⟨#[83, 78]⟩ (by omega) (by omega) (by show 2 + 7 * 11 ≤ 800000; omega)
  rw [List.drop_zero, ← hL] at rr
  have hh : (⟨#[83, 78]⟩ : ByteArray) ++ strOfNums (fbs (((1 : Int), (1 : Int)) :: L)) = (⟨#[83, 78, 1]⟩ : ByteArray) ++ strOfNums (fbs L) := by
    rw [fbs_cons, strOf_app, ← ByteArray.append_assoc]
    have : (⟨#[83, 78]⟩ : ByteArray) ++ strOfNums (beP (((1 : Int), (1 : Int))).2.toNat (((1 : Int), (1 : Int))).1) = (⟨#[83, 78, 1]⟩ : ByteArray) := by kernel_rfl
    rw [this]
  rw [hh] at rr
  obtain ⟨hdr, hhd⟩ : ∃ hd, hd = (⟨#[83, 78, 1]⟩ : ByteArray) ++ strOfNums (fbs L) := ⟨_, rfl⟩
  rw [← hhd] at r rr
  have hhs : hdr.size = 31 := by
    rw [hhd, ByteArray.size_append, strOf_size, fbs_len, hL]; rfl
  have b1 : hdr.size + nm.size ≤ 9223372036854775807 := by omega
  have b2 : (hdr ++ nm).size + u.size ≤ 9223372036854775807 := by rw [ByteArray.size_append]; omega
  have bsz : (hdr ++ nm ++ u).size + 4 ≤ 562 := by rw [ByteArray.size_append, ByteArray.size_append]; omega
  have cm : (hdr ++ nm ++ u).size + 4 ≤ maxLen := by unfold maxLen; omega
  have cr : F36_d 600 (hdr ++ nm ++ u) = some (appended (hdr ++ nm ++ u)) := if_pos cm
  have cr2 : F19_d 600 (hdr ++ nm ++ u) = some (appended (hdr ++ nm ++ u)) := if_pos cm
  have asz := appended_size (hdr ++ nm ++ u)
  refine ⟨appended (hdr ++ nm ++ u), 0, ?_, ?_, by omega, fun _ => by omega⟩
  · rw [hL] at r
    replace r : (F13_l11 600).L 600 ([[AV.v (.int .i64 clk), AV.v (.int .i64 1)], [AV.v (.int .i64 run), AV.v (.int .i64 2)], [AV.v (.int .i64 seq), AV.v (.int .i64 4)], [AV.v (.int .i64 start), AV.v (.int .i64 7)], [AV.v (.int .i64 num), AV.v (.int .i64 2)], [AV.v (.int .i64 den), AV.v (.int .i64 2)], [AV.v (.int .i64 err), AV.v (.int .i64 6)], [AV.v (.int .i64 (X.length : Int)), AV.v (.int .i64 2)], [AV.v (.int .i64 (nm.size : Int)), AV.v (.int .i64 1)], [AV.v (.int .i64 (fr : Int)), AV.v (.int .i64 1)]], nm, u, ⟨#[83, 78, 1]⟩, 10, 0) = some (nm, u, hdr) := r
    have l10' : (([[AV.v (.int .i64 clk), AV.v (.int .i64 1)], [AV.v (.int .i64 run), AV.v (.int .i64 2)], [AV.v (.int .i64 seq), AV.v (.int .i64 4)], [AV.v (.int .i64 start), AV.v (.int .i64 7)], [AV.v (.int .i64 num), AV.v (.int .i64 2)], [AV.v (.int .i64 den), AV.v (.int .i64 2)], [AV.v (.int .i64 err), AV.v (.int .i64 6)], [AV.v (.int .i64 (X.length : Int)), AV.v (.int .i64 2)], [AV.v (.int .i64 (nm.size : Int)), AV.v (.int .i64 1)], [AV.v (.int .i64 (fr : Int)), AV.v (.int .i64 1)]].length : Nat) : Int) = 10 := rfl
    simp only [F13_d, FSpec.d, F13_s, v1, Bool.not_true, f1, ve, rl, e64, l10', F13_d11, r, b1, b2, if_true, cr]
  · replace rr : (F9_l11 600).L 600 (nm, u, ⟨#[83, 78]⟩, 1, 1, clk, 1, run, 2, seq, 4, start, 7, num, 2, den, 2, err, 6, (X.length : Int), 2, (nm.size : Int), 1, (fr : Int), 1, 0) = some (nm, u, hdr) := rr
    simp only [F9_d, FSpec.d, F9_s, v2, Bool.not_true, f2, vre, rl, e64, F9_d11, rr, b1, b2, if_true, cr2]
end Go.Proofs.YtdmedeaknnldcaaGreatDoor
/- Packets: both packages' Record, Length, Split, and the texts of sources, for any arguments. -/
namespace Go.Proofs.YtdmedeaknnldcaaGreatDoor
open Go.RowKit
set_option linter.unusedVariables false
set_option linter.unusedSimpArgs false
set_option linter.unnecessarySimpa false
theorem rec_both {a b c d : ByteArray} (ha : Small a) (hb : Small b) (hc : Small c) (hd : Small d) (run seq start num den clk err : Int) (X : List Int) (hl : X.length ≤ 430) :
    ∃ (a' b' c' d' : ByteArray) (x5 x6 x7 x8 x9 x10 x11 : Int) (X' : List Int) (e : Int), F14_d 600 (a, b, c, d, run, seq, start, num, den, clk, err, rowsI X) = some (a', b', c', d', x5, x6, x7, x8, x9, x10, x11, rowsI X', e) ∧ F15_d 600 (a, b, c, d, run, seq, start, num, den, clk, err, rowsI X) = some (a', b', c', d', x5, x6, x7, x8, x9, x10, x11, rowsI X', e) ∧ X'.length ≤ 430 := by
  obtain ⟨v, v1, v2, v3⟩ := valid_any ha hb hc hd run seq start num den clk err X hl
  have bm : (rowsI X).length * 8 ≤ maxBytes := by rw [rowsI_len]; unfold maxBytes; omega
  cases hv : v with
  | false =>
    rw [hv] at v1 v2
    exact ⟨⟨#[]⟩, ⟨#[]⟩, ⟨#[]⟩, ⟨#[]⟩, 0, 0, 0, 0, 0, 0, 0, [], 1, by simp only [F14_d, FSpec.d, F14_s, v1, Bool.not_false]; rfl, by simp only [F15_d, FSpec.d, F15_s, v2, Bool.not_false]; rfl, by simp⟩
  | true =>
    rw [hv] at v1 v2
    cases hk : (clk == 2) with
    | true => exact ⟨a, b, c, d, start, 0, num, den, 1099511627776, run, seq, X, 0, by simp only [F14_d, FSpec.d, F14_s, v1, Bool.not_true, hk, bm, if_true], by simp only [F15_d, FSpec.d, F15_s, v2, Bool.not_true, hk, bm, if_true], hl⟩
    | false => exact ⟨a, b, c, d, start, 0, num, den, err, run, seq, X, 0, by simp only [F14_d, FSpec.d, F14_s, v1, Bool.not_true, hk, bm, if_true], by simp only [F15_d, FSpec.d, F15_s, v2, Bool.not_true, hk, bm, if_true], hl⟩
theorem bself (a : ByteArray) : (a == a) = true := by
  cases a with
  | mk d =>
    show (d == d) = true
    exact beq_self_eq_true d
theorem recsame_ok {a b c d : ByteArray} {x5 x6 x7 x8 x9 x10 x11 : Int} {X : List Int} (hl : X.length ≤ 590) : F18_d 600 (a, b, c, d, x5, x6, x7, x8, x9, x10, x11, rowsI X, a, b, c, d, x5, x6, x7, x8, x9, x10, x11, rowsI X) = some true := by
  have s := same_ok X hl
  simp only [F18_d, FSpec.d, F18_s, bself, beq_self_eq_true, Bool.and_self, s]
theorem pksame_ok {a b c d : ByteArray} {x5 x6 x7 x8 x9 x10 x11 : Int} {X : List Int} (hl : X.length ≤ 590) : F25_d 600 (a, b, c, d, x5, x6, x7, x8, x9, x10, x11, rowsI X, a, b, c, d, x5, x6, x7, x8, x9, x10, x11, rowsI X) = some true := by
  have s := same_ok X hl
  simp only [F25_d, FSpec.d, F25_s, bself, beq_self_eq_true, Bool.and_self, s]
/-- What a header of an encoding says. -/
structure LOk (y : ByteArray) (n : Int) (nm fr : Nat) : Prop where
  hn : n = 31 + (nm : Int) + 64 * (fr : Int) + 4
  hnm : 8 ≤ nm ∧ nm ≤ 15
  hfr : 1 ≤ fr ∧ fr ≤ 8
  sz : 31 ≤ y.size
  g9 : gw (nums y) 29 1 = (nm : Int)
  g10 : gw (nums y) 30 1 = (fr : Int)
theorem gw_one (l : List Int) (m : Nat) : gw l m 1 = l.getD m 0 := by
  show 0 * 256 + l.getD (m + 0) 0 = _
  rw [Nat.add_zero]; omega
theorem len_both (y : ByteArray) (hy : y.size ≤ 100000) : ∃ n e : Int, F22_d 600 y = some (n, e) ∧ F23_d 600 y = some (n, e) ∧ (e = 0 → ∃ nm fr, LOk y n nm fr) ∧ (e = 0 ∨ e = 3 ∨ e = 4) := by
  by_cases h31 : y.size < 31
  · have c0 : decide ((y.size : Int) < 31) = true := by rw [decide_eq_true_iff]; omega
    exact ⟨0, 4, by simp only [F22_d, FSpec.d, F22_s, c0], by simp only [F23_d, FSpec.d, F23_s, c0], (fun h => by cases h), .inr (.inr rfl)⟩
  · have c0 : decide ((y.size : Int) < 31) = false := by rw [decide_eq_false_iff_not]; omega
    obtain ⟨u1, x1, y1⟩ := byte_get y 29 (by omega)
    obtain ⟨u2, x2, y2⟩ := byte_get y 30 (by omega)
    have z29 : (0 : Int) ≤ 29 := by omega
    have z30 : (0 : Int) ≤ 30 := by omega
    have z3 : (0 : Int) ≤ 3 ∧ (3 : Int) ≤ (y.size : Int) := by omega
    have t29 : (29 : Int).toNat = 29 := rfl
    have t30 : (30 : Int).toNat = 30 := rfl
    have t3 : (3 : Int).toNat = 3 := rfl
    have l1 : u1.toNat < 256 := UInt8.toNat_lt _
    have l2 : u2.toNat < 256 := UInt8.toNat_lt _
    have e1 : IntKind.i64.wrap (u1.toNat : Int) = (u1.toNat : Int) := i64_id (by omega)
    have e2 : IntKind.i64.wrap (u2.toNat : Int) = (u2.toNat : Int) := i64_id (by omega)
    cases hm : ((y.extract 0 3).toList == (⟨#[83, 78, 1]⟩ : ByteArray).toList) with
    | false => exact ⟨0, 3, by simp only [F22_d, FSpec.d, F22_s, c0, z29, z30, z3, t29, t30, t3, x1, x2, and_self, if_true, hm, Bool.not_false], by simp only [F23_d, FSpec.d, F23_s, c0, z29, z30, z3, t29, t30, t3, x1, x2, and_self, if_true, hm, Bool.not_false], (fun h => by cases h), .inr (.inl rfl)⟩
    | true =>
      by_cases h1 : (8 : Int) ≤ (u1.toNat : Int) ∧ (u1.toNat : Int) ≤ 15
      case neg => exact ⟨0, 3, by simp only [F22_d, FSpec.d, F22_s, c0, z29, z30, z3, t29, t30, t3, x1, x2, and_self, if_true, hm, Bool.not_true, e1, pin_no h1, Bool.not_false], by simp only [F23_d, FSpec.d, F23_s, c0, z29, z30, z3, t29, t30, t3, x1, x2, and_self, if_true, hm, Bool.not_true, e1, rin_no h1, Bool.not_false], (fun h => by cases h), .inr (.inl rfl)⟩
      by_cases h2 : (1 : Int) ≤ (u2.toNat : Int) ∧ (u2.toNat : Int) ≤ 8
      case neg => exact ⟨0, 3, by simp only [F22_d, FSpec.d, F22_s, c0, z29, z30, z3, t29, t30, t3, x1, x2, and_self, if_true, hm, Bool.not_true, e1, e2, pin_yes h1, pin_no h2, Bool.not_false], by simp only [F23_d, FSpec.d, F23_s, c0, z29, z30, z3, t29, t30, t3, x1, x2, and_self, if_true, hm, Bool.not_true, e1, e2, rin_yes h1, rin_no h2, Bool.not_false], (fun h => by cases h), .inr (.inl rfl)⟩
      have e3 : i64 (31 + (u1.toNat : Int)) = 31 + (u1.toNat : Int) := i64_id (by omega)
      have e4 : i64 (64 * (u2.toNat : Int)) = 64 * (u2.toNat : Int) := i64_id (by omega)
      have e5 : i64 (31 + (u1.toNat : Int) + 64 * (u2.toNat : Int)) = 31 + (u1.toNat : Int) + 64 * (u2.toNat : Int) := i64_id (by omega)
      have e6 : i64 (31 + (u1.toNat : Int) + 64 * (u2.toNat : Int) + 4) = 31 + (u1.toNat : Int) + 64 * (u2.toNat : Int) + 4 := i64_id (by omega)
      refine ⟨31 + (u1.toNat : Int) + 64 * (u2.toNat : Int) + 4, 0, by simp only [F22_d, FSpec.d, F22_s, c0, z29, z30, z3, t29, t30, t3, x1, x2, and_self, if_true, hm, Bool.not_true, e1, e2, e3, e4, e5, e6, pin_yes h1, pin_yes h2], by simp only [F23_d, FSpec.d, F23_s, c0, z29, z30, z3, t29, t30, t3, x1, x2, and_self, if_true, hm, Bool.not_true, e1, e2, e3, e4, e5, e6, rin_yes h1, rin_yes h2], fun _ => ⟨u1.toNat, u2.toNat, rfl, by omega, by omega, by omega, ?_, ?_⟩, .inl rfl⟩
      · rw [gw_one, ← y1]
      · rw [gw_one, ← y2]
/-! Split. -/
theorem split_eq : ∀ (f : Nat) (R : List (List AV)) (y : ByteArray), y.size ≤ 100000 → (F24_l3 600).L f (R, y) = (F11_l3 600).L f (R, y)
  | 0, R, y, _ => rfl
  | f + 1, R, y, hy => by
    obtain ⟨n, e, h1, h2, -, h3⟩ := len_both y hy
    show (F24_l3 600).b _ _ ((F24_l3 600).L f) some = (F11_l3 600).b _ _ ((F11_l3 600).L f) some
    have ih : ∀ (R' : List (List AV)) (z : ByteArray), z.size ≤ 100000 → (F24_l3 600).L f (R', z) = (F11_l3 600).L f (R', z) := fun R' z hz => split_eq f R' z hz
    obtain ⟨Lf, hL⟩ : ∃ Lf, Lf = (F24_l3 600).L f := ⟨_, rfl⟩
    obtain ⟨Lg, hL2⟩ : ∃ Lg, Lg = (F11_l3 600).L f := ⟨_, rfl⟩
    rw [← hL, ← hL2] at ih ⊢
    rcases h3 with rfl | rfl | rfl
    · have z1 : ((0 : Int) == 3) = false := rfl
      have z2 : ((0 : Int) != 0) = false := rfl
      simp only [F24_l3, F11_l3, h1, h2, z1, z2]
      cases hc : decide ((y.size : Int) < n) with
      | true => rfl
      | false =>
        by_cases hn : 0 ≤ n ∧ n ≤ (y.size : Int)
        · simp only [hn, and_self, if_true]
          by_cases hb : (R.length + [[AV.v (Value.string (y.extract 0 n.toNat))]].length) * 16 ≤ maxBytes
          · simp only [hb, if_true]
            exact ih _ _ (by rw [ext_size y _ _ (Nat.le_refl _)]; omega)
          · simp only [hb, if_false]
        · simp only [hn, if_false]
    · have z1 : ((3 : Int) == 3) = true := rfl
      simp only [F24_l3, F11_l3, h1, h2, z1]
    · have z1 : ((4 : Int) == 3) = false := rfl
      have z2 : ((4 : Int) != 0) = true := rfl
      simp only [F24_l3, F11_l3, h1, h2, z1, z2]
theorem rowsS_len (l : List ByteArray) : (rowsS l).length = l.length := by simp [rowsS]
theorem rowsS_snoc (l : List ByteArray) (s : ByteArray) : rowsS l ++ [[AV.v (.string s)]] = rowsS (l ++ [s]) := by simp [rowsS]
theorem split_ex : ∀ (k f : Nat) (L : List ByteArray) (y : ByteArray), y.size ≤ 107 * k → k < f → L.length + k ≤ 1000 → k ≤ 900 → ∃ (L' : List ByteArray) (r : ByteArray) (e : Int), (F11_l3 600).L f (rowsS L, y) = some (rowsS L', r, e) ∧ L'.length ≤ L.length + k
  | k, f, L, y, hy, hf, hl, hk => by
    obtain ⟨f, rfl⟩ : ∃ f', f = f' + 1 := ⟨f - 1, by omega⟩
    obtain ⟨n, e, h1, -, h2, h3⟩ := len_both y (by omega)
    rcases h3 with rfl | rfl | rfl
    · obtain ⟨nm, fr, H⟩ := h2 rfl
      have hn := H.hn
      have h4 := H.hnm
      have h5 := H.hfr
      have z1 : ((0 : Int) == 3) = false := rfl
      have z2 : ((0 : Int) != 0) = false := rfl
      by_cases hc : (y.size : Int) < n
      · refine ⟨L, y, 0, ?_, by omega⟩
        show (F11_l3 600).b _ _ ((F11_l3 600).L f) some = _
        simp only [F11_l3, h1, z1, z2, decide_eq_true hc]
      · cases k with
        | zero => omega
        | succ k =>
          obtain ⟨L', r, e, q1, q2⟩ := split_ex k f (L ++ [y.extract 0 n.toNat]) (y.extract n.toNat y.size) (by rw [ext_size y _ _ (Nat.le_refl _)]; omega) (by omega) (by simp; omega) (by omega)
          refine ⟨L', r, e, ?_, by simp at q2; omega⟩
          show (F11_l3 600).b _ _ ((F11_l3 600).L f) some = _
          obtain ⟨Lf, hL⟩ : ∃ Lf, Lf = (F11_l3 600).L f := ⟨_, rfl⟩
          rw [← hL] at q1 ⊢
          have c1 : 0 ≤ n ∧ n ≤ (y.size : Int) := by omega
          have b : ((rowsS L).length + 1) * 16 ≤ maxBytes := by rw [rowsS_len]; unfold maxBytes; omega
          simp only [F11_l3, h1, z1, z2, decide_eq_false hc, c1, and_self, if_true, List.length_cons, List.length_nil, Nat.zero_add, b, rowsS_snoc]
          exact q1
    · have z1 : ((3 : Int) == 3) = true := rfl
      refine ⟨L, y, 3, ?_, by omega⟩
      show (F11_l3 600).b _ _ ((F11_l3 600).L f) some = _
      simp only [F11_l3, h1, z1]
    · have z1 : ((4 : Int) == 3) = false := rfl
      have z2 : ((4 : Int) != 0) = true := rfl
      refine ⟨L, y, 0, ?_, by omega⟩
      show (F11_l3 600).b _ _ ((F11_l3 600).L f) some = _
      simp only [F11_l3, h1, z1, z2]
theorem split_both (y : ByteArray) (hy : y.size ≤ 10700) : ∃ (L : List ByteArray) (r : ByteArray) (e : Int), F11_d 600 y = some (rowsS L, r, e) ∧ F24_d 600 y = some (rowsS L, r, e) ∧ L.length ≤ 100 := by
  obtain ⟨L, r, e, h, hl⟩ := split_ex 100 600 [] y (by omega) (by omega) (by simp) (by omega)
  replace h : (F11_l3 600).L 600 (([] : List (List AV)), y) = some (rowsS L, r, e) := h
  have h2 := (split_eq 600 [] y (by omega)).trans h
  refine ⟨L, r, e, ?_, ?_, by simpa using hl⟩
  · simp only [F11_d, FSpec.d, F11_s, F11_d3, h]
  · simp only [F24_d, FSpec.d, F24_s, F24_d3, h2]
end Go.Proofs.YtdmedeaknnldcaaGreatDoor
/- Packets: texts of sources cut at dots, by both packages. -/
namespace Go.Proofs.YtdmedeaknnldcaaGreatDoor
open Go.RowKit
set_option linter.unusedVariables false
set_option linter.unusedSimpArgs false
set_option linter.unnecessarySimpa false
/-- A text cut at each dot. -/
def spl : List UInt8 → List (List UInt8)
  | [] => [[]]
  | x :: r => if x = 46 then [] :: spl r else (match spl r with | h :: t => (x :: h) :: t | [] => [[x]])
def mk8 (l : List UInt8) : ByteArray := ⟨l.toArray⟩
theorem idx_cons (x : UInt8) (r : List UInt8) (h : ¬ x = 46) : Lib.indexByte (x :: r) 46 = if Lib.indexByte r 46 == -1 then -1 else Lib.indexByte r 46 + 1 := by
  show (if x == 46 then (0 : Int) else _) = _
  rw [if_neg (by simpa using h)]
theorem cnt_pos_idx : ∀ (r : List UInt8), 0 < r.count 46 → ∃ i : Nat, Lib.indexByte r 46 = (i : Int)
  | [], h => by simp at h
  | x :: r, h => by
    by_cases hx : x = 46
    · subst hx; exact ⟨0, rfl⟩
    · rw [List.count_cons_of_ne (by simpa using hx)] at h
      obtain ⟨i, hi⟩ := cnt_pos_idx r h
      refine ⟨i + 1, ?_⟩
      rw [idx_cons x r hx, hi, if_neg (by simp <;> omega)]
      omega
theorem splK : ∀ l : List UInt8, Lib.splitK [46] 0 (l.count 46) l = spl l
  | [] => rfl
  | x :: r => by
    by_cases hx : x = 46
    · subst hx
      rw [List.count_cons_self]
      have e : Lib.index (46 :: r) [46] = 0 := by rw [Lib.index_one]; rfl
      show (if Lib.index (46 :: r) [46] == -1 then [46 :: r] else _) = _
      rw [e, if_neg (by decide)]
      show [] :: Lib.splitK [46] 0 (r.count 46) r = _
      rw [splK r]
      rfl
    · rw [List.count_cons_of_ne (by simpa using hx)]
      have ih := splK r
      have hs : spl (x :: r) = (match spl r with | h :: t => (x :: h) :: t | [] => [[x]]) := if_neg hx
      rw [hs]
      cases hc : r.count 46 with
      | zero =>
        rw [hc] at ih
        have : spl r = [r] := ih.symm
        rw [this]
        rfl
      | succ k =>
        rw [hc] at ih
        obtain ⟨i, hi⟩ := cnt_pos_idx r (by omega)
        have e1 : Lib.index r [46] = (i : Int) := by rw [Lib.index_one]; exact hi
        have e2 : Lib.index (x :: r) [46] = ((i + 1 : Nat) : Int) := by
          rw [Lib.index_one, idx_cons x r hx, hi, if_neg (by simp <;> omega)]
          omega
        have ih' : (if Lib.index r [46] == -1 then [r] else r.take ((Lib.index r [46]).toNat + 0) :: Lib.splitK [46] 0 k (r.drop ((Lib.index r [46]).toNat + 1))) = spl r := ih
        rw [e1, if_neg (by simp <;> omega)] at ih'
        show (if Lib.index (x :: r) [46] == -1 then [x :: r] else (x :: r).take ((Lib.index (x :: r) [46]).toNat + 0) :: Lib.splitK [46] 0 k ((x :: r).drop ((Lib.index (x :: r) [46]).toNat + 1))) = _
        rw [e2, if_neg (by simp <;> omega), ← ih']
        simp
theorem split_own (s : ByteArray) (hs : s.size < 4294967281) : F101_d 600 (s, (⟨#[46]⟩ : ByteArray)) = some (rowsS ((spl s.data.toList).map mk8)) := by
  have e : (Lib.splitB dot 0 (Lib.countB s dot) s).map (·.data.toList) = spl s.data.toList := by
    rw [Lib.splitB_data, ← splK]
    have hc : Lib.countB s dot = s.data.toList.count 46 := Lib.count_one 46 s.data.toList
    rw [hc]
    rfl
  have e2 : (spl s.data.toList).map mk8 = Lib.splitB dot 0 (Lib.countB s dot) s := by
    rw [← e, List.map_map]
    have : (mk8 ∘ fun x : ByteArray => x.data.toList) = id := by funext x; rfl
    rw [this, List.map_id]
  rw [e2]
  exact if_pos ⟨rfl, hs⟩
/-- What follows in the last piece, and behind it. -/
def glue (x : List UInt8) : List (List UInt8) → List (List UInt8)
  | h :: t => (x ++ h) :: t
  | [] => [x]
def cellsS (P : List (List UInt8)) : List AV := P.map fun l => AV.v (.string (mk8 l))
theorem cellsS_len (P : List (List UInt8)) : (cellsS P).length = P.length := by simp [cellsS]
theorem cellsS_dat (P : List (List UInt8)) : (cellsS P).map dat0 = cellsS P := by
  unfold cellsS
  rw [List.map_map]
  rfl
theorem chunksS : ∀ P : List (List UInt8), chunks (cellsS P) 1 P.length = rowsS (P.map mk8)
  | [] => rfl
  | x :: P => by
    show ((cellsS (x :: P)).take 1) :: chunks ((cellsS (x :: P)).drop 1) 1 P.length = _
    have ih := chunksS P
    rw [show (cellsS (x :: P)).drop 1 = cellsS P from rfl, ih]
    rfl
theorem spl_cons (x : UInt8) (r : List UInt8) : spl (x :: r) = if x = 46 then [] :: spl r else (match spl r with | h :: t => (x :: h) :: t | [] => [[x]]) := rfl
theorem spl_ne (l : List UInt8) : spl l ≠ [] := by
  cases l with
  | nil => exact fun h => by cases h
  | cons x r =>
    rw [spl_cons]
    split
    · exact fun h => by cases h
    · split <;> exact fun h => by cases h
theorem ext_one (s : ByteArray) (i : Nat) (h : i < s.size) : s.extract i (i + 1) = mk8 [s.data.toList[i]'(by simpa using h)] := by
  apply ByteArray.ext
  apply Array.toList_inj.1
  show (s.extract i (i + 1)).data.toList = [s.data.toList[i]'(by simpa using h)]
  have h' : i < s.data.toList.length := by simpa using h
  rw [ByteArray.data_extract, Array.toList_extract]
  show (s.data.toList.drop i).take (i + 1 - i) = _
  rw [List.drop_eq_getElem_cons h', show i + 1 - i = 1 by omega]
  rfl
theorem mk8_app (a b : List UInt8) : mk8 a ++ mk8 b = mk8 (a ++ b) := by
  apply ByteArray.ext
  apply Array.toList_inj.1
  simp [mk8]
theorem dots_loop (s : ByteArray) (hs : s.size ≤ 500) : ∀ (k i f : Nat) (Q : List (List UInt8)) (x : List UInt8), k < f → i + k = s.size → Q.length ≤ i → x.length ≤ i →
    (F77_l5 600).L f ((Q ++ [x]).length, s, 46, (i : Int), cellsS (Q ++ [x])) = some ((Q ++ glue x (spl (s.data.toList.drop i))).length, cellsS (Q ++ glue x (spl (s.data.toList.drop i))))
  | 0, i, f, Q, x, hf, hi, hq, hx => by
    obtain ⟨f, rfl⟩ : ∃ f', f = f' + 1 := ⟨f - 1, by omega⟩
    have e : s.data.toList.drop i = [] := List.drop_eq_nil_of_le (by simp; omega)
    have e2 : glue x (spl []) = [x] := by show [x ++ []] = [x]; rw [List.append_nil]
    rw [e, e2]
    show (F77_l5 600).b _ _ ((F77_l5 600).L f) some = _
    have c : decide ((i : Int) < (s.size : Int)) = false := by rw [decide_eq_false_iff_not]; omega
    simp only [F77_l5, c, cellsS_dat]
  | k + 1, i, f, Q, x, hf, hi, hq, hx => by
    obtain ⟨f, rfl⟩ : ∃ f', f = f' + 1 := ⟨f - 1, by omega⟩
    have hlt : i < s.size := by omega
    have hlt' : i < s.data.toList.length := by simpa using hlt
    obtain ⟨u, hu⟩ : ∃ u, u = s.data.toList[i]'hlt' := ⟨_, rfl⟩
    have hb := byte_at s i hlt
    have hx1 := ext_one s i hlt
    have hd : s.data.toList.drop i = u :: s.data.toList.drop (i + 1) := by rw [hu]; exact List.drop_eq_getElem_cons hlt'
    rw [← hu] at hb hx1
    have c1 : decide ((i : Int) < (s.size : Int)) = true := by rw [decide_eq_true_iff]; omega
    have c2 : (0 : Int) ≤ (i : Int) := by omega
    have e1 : i64 ((i : Int) + 1) = ((i + 1 : Nat) : Int) := by rw [i64_id (by omega)]; omega
    have lq : (Q ++ [x]).length = Q.length + 1 := by simp
    by_cases h46 : u = 46
    · have c3 : ((u.toNat : Int) == 46) = true := by rw [h46]; rfl
      have r := dots_loop s hs k (i + 1) f (Q ++ [x]) [] (by omega) (by omega) (by rw [lq]; omega) (by simp)
      have eg : (Q ++ [x]) ++ glue [] (spl (s.data.toList.drop (i + 1))) = Q ++ glue x (spl (s.data.toList.drop i)) := by
        rw [hd, spl_cons, if_pos h46]
        show _ = Q ++ ((x ++ []) :: spl (s.data.toList.drop (i + 1)))
        rw [List.append_nil, List.append_assoc]
        cases hsp : spl (s.data.toList.drop (i + 1)) with
        | nil => exact absurd hsp (spl_ne _)
        | cons h t => rfl
      rw [eg] at r
      show (F77_l5 600).b _ _ ((F77_l5 600).L f) some = _
      obtain ⟨Lf, hL⟩ : ∃ Lf, Lf = (F77_l5 600).L f := ⟨_, rfl⟩
      rw [← hL] at r ⊢
      have b1 : (Q ++ [x]).length * 1 ≤ (cellsS (Q ++ [x])).length ∧ ((Q ++ [x]).length + 1) * 16 ≤ maxBytes := by rw [cellsS_len, lq]; unfold maxBytes; omega
      have e3 : (cellsS (Q ++ [x])).take ((Q ++ [x]).length * 1) ++ [[AV.v (Value.string (⟨#[]⟩ : ByteArray))]].flatten = cellsS (Q ++ [x] ++ [[]]) := by
        rw [Nat.mul_one, List.take_of_length_le (by rw [cellsS_len]; exact Nat.le_refl _)]
        simp [cellsS, mk8]
      have e4 : (Q ++ [x]).length + 1 = (Q ++ [x] ++ [[]]).length := by simp
      have b6 : (Q ++ [x] ++ [[]]).length * 16 ≤ maxBytes := by rw [← e4]; exact b1.2
      simp only [F77_l5, c1, c2, if_true, Int.toNat_natCast, hb, c3, List.length_cons, List.length_nil, Nat.zero_add, b1, b6, and_self, e3, cellsS_dat, e4, e1]
      exact r
    · have c3 : ((u.toNat : Int) == 46) = false := by
        rw [beq_eq_false_iff_ne]
        intro h
        apply h46
        have : u.toNat = 46 := by omega
        exact UInt8.toNat_inj.1 this
      have r := dots_loop s hs k (i + 1) f Q (x ++ [u]) (by omega) (by omega) (by omega) (by simp; omega)
      have eg : Q ++ glue (x ++ [u]) (spl (s.data.toList.drop (i + 1))) = Q ++ glue x (spl (s.data.toList.drop i)) := by
        rw [hd, spl_cons, if_neg h46]
        cases hsp : spl (s.data.toList.drop (i + 1)) with
        | nil => exact absurd hsp (spl_ne _)
        | cons h t => simp [glue]
      rw [eg] at r
      show (F77_l5 600).b _ _ ((F77_l5 600).L f) some = _
      obtain ⟨Lf, hL⟩ : ∃ Lf, Lf = (F77_l5 600).L f := ⟨_, rfl⟩
      rw [← hL] at r ⊢
      have e5 : i64 ((((Q ++ [x]).length : Nat) : Int) - 1) = ((Q.length : Nat) : Int) := by rw [lq, i64_id (by omega)]; omega
      have b2 : (0 : Int) ≤ ((Q.length : Nat) : Int) ∧ ((Q.length : Nat) : Int) < (((Q ++ [x]).length : Nat) : Int) := by rw [lq]; omega
      have g1 : (cellsS (Q ++ [x]))[(0 + Q.length) * 1]? = some (AV.v (.string (mk8 x))) := by
        rw [Nat.zero_add, Nat.mul_one]
        simp [cellsS]
      have b3 : (0 : Int) ≤ (i : Int) ∧ (i : Int) ≤ ((i + 1 : Nat) : Int) ∧ ((i + 1 : Nat) : Int) ≤ (s.size : Int) := by omega
      have b4 : (mk8 x).size + (mk8 [u]).size ≤ 9223372036854775807 := by
        have q1 : (mk8 x).size = x.length := by simp [mk8, ByteArray.size]
        have q2 : (mk8 [u]).size = 1 := rfl
        omega
      have b5 : (0 + Q.length) * 1 + 1 ≤ (cellsS (Q ++ [x])).length := by rw [cellsS_len, lq]; omega
      have e6 : (cellsS (Q ++ [x])).set ((0 + Q.length) * 1) (AV.v (.string (mk8 x ++ mk8 [u]))) = cellsS (Q ++ [x ++ [u]]) := by
        rw [Nat.zero_add, Nat.mul_one, mk8_app]
        simp [cellsS, List.set_append_right]
      have e7 : (Q ++ [x]).length = (Q ++ [x ++ [u]]).length := by simp
      simp only [F77_l5, c1, c2, if_true, Int.toNat_natCast, hb, c3, e5, b2, and_self, g1, e1, b3, hx1, b4, b5, e6, cellsS_dat]
      rw [e7]
      exact r
theorem split_ref (s : ByteArray) (hs : s.size ≤ 500) : F77_d 600 (s, 46) = some (rowsS ((spl s.data.toList).map mk8)) := by
  have r := dots_loop s hs s.size 0 600 [] [] (by omega) (by omega) (by simp) (by simp)
  have eg : glue [] (spl (s.data.toList.drop 0)) = spl s.data.toList := by
    rw [List.drop_zero]
    cases h : spl s.data.toList with
    | nil => exact absurd h (spl_ne _)
    | cons a b => rfl
  rw [List.nil_append, eg, List.nil_append] at r
  replace r : (F77_l5 600).L 600 (1, s, 46, 0, ([AV.v (Value.string (⟨#[]⟩ : ByteArray))].map dat0)) = _ := r
  have b : (spl s.data.toList).length * 1 ≤ (cellsS (spl s.data.toList)).length := by rw [cellsS_len]; omega
  have e : chunks ((cellsS (spl s.data.toList)).take ((spl s.data.toList).length * 1)) 1 (spl s.data.toList).length = rowsS ((spl s.data.toList).map mk8) := by
    rw [Nat.mul_one, List.take_of_length_le (by rw [cellsS_len]; exact Nat.le_refl _), chunksS]
  simp only [F77_d, FSpec.d, F77_s, F77_d5, r, b, if_true, e]
theorem spl_size : ∀ (l : List UInt8), ∀ p ∈ spl l, p.length ≤ l.length
  | [], p, h => by
    have : p = [] := by simpa [spl] using h
    subst this; simp
  | x :: r, p, h => by
    rw [spl_cons] at h
    split at h
    · rcases List.mem_cons.1 h with rfl | h
      · simp
      · have := spl_size r p h; simp; omega
    · have ih := spl_size r
      split at h
      · rename_i a t ha
        rw [ha] at ih
        rcases List.mem_cons.1 h with rfl | h
        · have := ih a List.mem_cons_self; simp; omega
        · have := ih p (List.mem_cons_of_mem _ h); simp; omega
      · rcases List.mem_cons.1 h with rfl | h
        · simp
        · cases h
theorem parse_both (s : ByteArray) (hs : s.size ≤ 500) : ∃ (a b c d : ByteArray) (e : Int), F73_d 600 s = some (a, b, c, d, e) ∧ F49_d 600 s = some (a, b, c, d, e) ∧ Small a ∧ Small b ∧ Small c ∧ Small d := by
  have h1 := split_own s (by omega)
  have h2 := split_ref s hs
  have hz : ∀ p ∈ (spl s.data.toList).map mk8, Small p := fun p hp => by
    obtain ⟨q, hq, rfl⟩ := List.mem_map.1 hp
    have := spl_size _ q hq
    have e1 : (mk8 q).size = q.length := by simp [mk8, ByteArray.size]
    have e2 : s.data.toList.length = s.size := by simp
    unfold Small
    omega
  obtain ⟨P, hP⟩ : ∃ P, P = (spl s.data.toList).map mk8 := ⟨_, rfl⟩
  rw [← hP] at h1 h2 hz
  have small0 : Small ⟨#[]⟩ := by unfold Small; decide
  by_cases h4 : P.length = 4
  · obtain ⟨a, b, c, d, rfl⟩ : ∃ a b c d, P = [a, b, c, d] := by
      match P, h4 with
      | [a, b, c, d], _ => exact ⟨a, b, c, d, rfl⟩
    have sa := hz a (by simp)
    have sb := hz b (by simp)
    have sc := hz c (by simp)
    have sd := hz d (by simp)
    have c4 : (((rowsS [a, b, c, d]).length : Int) != 4) = false := rfl
    have z0 : (0 : Int) ≤ 0 := by omega
    have z1 : (0 : Int) ≤ 1 := by omega
    have z2 : (0 : Int) ≤ 2 := by omega
    have z3 : (0 : Int) ≤ 3 := by omega
    have g0 : (rowsS [a, b, c, d])[(0 : Int).toNat]? = some [AV.v (.string a)] := rfl
    have g1 : (rowsS [a, b, c, d])[(1 : Int).toNat]? = some [AV.v (.string b)] := rfl
    have g2 : (rowsS [a, b, c, d])[(2 : Int).toNat]? = some [AV.v (.string c)] := rfl
    have g3 : (rowsS [a, b, c, d])[(3 : Int).toNat]? = some [AV.v (.string d)] := rfl
    have s1 := src_any sa sb sc sd
    have s2 := rsrc_any sa sb sc sd
    cases hv : sidB a b c d with
    | true =>
      rw [hv] at s1 s2
      exact ⟨a, b, c, d, 0, by simp only [F73_d, FSpec.d, F73_s, h1, c4, z0, z1, z2, z3, if_true, g0, g1, g2, g3, List.getElem?_cons_zero, s1, Bool.not_true], by simp only [F49_d, FSpec.d, F49_s, h2, c4, z0, z1, z2, z3, if_true, g0, g1, g2, g3, List.getElem?_cons_zero, s2, Bool.not_true], sa, sb, sc, sd⟩
    | false =>
      rw [hv] at s1 s2
      exact ⟨⟨#[]⟩, ⟨#[]⟩, ⟨#[]⟩, ⟨#[]⟩, 3, by simp only [F73_d, FSpec.d, F73_s, h1, c4, z0, z1, z2, z3, if_true, g0, g1, g2, g3, List.getElem?_cons_zero, s1, Bool.not_false], by simp only [F49_d, FSpec.d, F49_s, h2, c4, z0, z1, z2, z3, if_true, g0, g1, g2, g3, List.getElem?_cons_zero, s2, Bool.not_false], small0, small0, small0, small0⟩
  · have c4 : (((rowsS P).length : Int) != 4) = true := by rw [rowsS_len, bne_iff_ne]; omega
    exact ⟨⟨#[]⟩, ⟨#[]⟩, ⟨#[]⟩, ⟨#[]⟩, 3, by simp only [F73_d, FSpec.d, F73_s, h1, c4], by simp only [F49_d, FSpec.d, F49_s, h2, c4], small0, small0, small0, small0⟩
end Go.Proofs.YtdmedeaknnldcaaGreatDoor
/- Packets: both packages' Decode for any string. -/
namespace Go.Proofs.YtdmedeaknnldcaaGreatDoor
open Go.RowKit
set_option linter.unusedVariables false
set_option linter.unusedSimpArgs false
set_option linter.unnecessarySimpa false
theorem rgetg_step (s : ByteArray) (m w i f : Nat) (hm : m ≤ 1000000) (hi : i < w) (hw : w ≤ 7) (hs : m + i < s.size) : (F76_l13 600).L (f + 1) (s, (m : Int), (w : Int), gw (nums s) m i, (i : Int)) = (F76_l13 600).L f (s, (m : Int), (w : Int), gw (nums s) m (i + 1), ((i + 1 : Nat) : Int)) := by
  show (F76_l13 600).b _ _ ((F76_l13 600).L f) some = _
  obtain ⟨Lf, hL⟩ : ∃ Lf, Lf = (F76_l13 600).L f := ⟨_, rfl⟩
  rw [← hL]
  have ha := gw_rng (nums s) (nums_rng s) m i
  have hp := pow56 (i := i) (by omega)
  have hp2 := two_le (a := 8 * i) (b := 48) (by omega)
  have e48 : (2 : Int) ^ 48 = 281474976710656 := by decide
  have c1 : decide ((i : Int) < (w : Int)) = true := by rw [decide_eq_true_iff]; omega
  have e1 : i64 ((m : Int) + (i : Int)) = ((m + i : Nat) : Int) := by rw [i64_id (by omega)]; omega
  have c2 : (0 : Int) ≤ ((m + i : Nat) : Int) := by omega
  have e3 : i64 ((i : Int) + 1) = ((i + 1 : Nat) : Int) := by rw [i64_id (by omega)]; omega
  obtain ⟨u, hu, hv⟩ := byte_get s (m + i) hs
  have hr := num_rng s (m + i)
  have e8 : ((8 : Int)).toNat = 8 := rfl
  have e4 : shL .i64 (gw (nums s) m i) 8 = gw (nums s) m i * 2 ^ 8 := shL_ok (by omega) (by rw [e8]; omega)
  have e5 : IntKind.i64.wrap ((nums s).getD (m + i) 0) = (nums s).getD (m + i) 0 := i64_id (by omega)
  have e6 : bOr .i64 (gw (nums s) m i * 2 ^ 8) ((nums s).getD (m + i) 0) = gw (nums s) m i * 2 ^ 8 + (nums s).getD (m + i) 0 := bOr_ok (by omega) ha.1 (by omega) (by omega)
  simp only [F76_l13, c1, e1, c2, if_true, Int.toNat_natCast, hu, hv, e4, e5, e6, e3]
  exact if_pos trivial
theorem rgetg_loop (s : ByteArray) (m w : Nat) (hm : m ≤ 1000000) (hw : w ≤ 7) (hs : m + w ≤ s.size) : ∀ (k i f : Nat), k < f → i + k = w → (F76_l13 600).L f (s, (m : Int), (w : Int), gw (nums s) m i, (i : Int)) = some (gw (nums s) m w)
  | 0, i, f, hf, hk => by
    obtain ⟨g, rfl⟩ : ∃ g, f = g + 1 := ⟨f - 1, by omega⟩
    obtain rfl : i = w := by omega
    show (F76_l13 600).b _ _ ((F76_l13 600).L g) some = _
    have c0 : decide ((i : Int) < (i : Int)) = false := by rw [decide_eq_false_iff_not]; omega
    simp only [F76_l13, c0]
  | k + 1, i, f, hf, hk => by
    obtain ⟨g, rfl⟩ : ∃ g, f = g + 1 := ⟨f - 1, by omega⟩
    rw [rgetg_step s m w i g hm (by omega) hw (by omega)]
    exact rgetg_loop s m w hm hw hs k (i + 1) g (by omega) (by omega)
theorem rget_ok (s : ByteArray) (m w : Nat) (hw : 1 ≤ w ∧ w ≤ 7) (h : m + w ≤ s.size) (hs : s.size ≤ 1000) : F48_d 600 (s, (m : Int), (w : Int)) = some (gw (nums s) m w) := by
  have i1 : F42_d 600 ((w : Int), 1, 7) = some true := rin_yes (by omega)
  have c1 : decide ((m : Int) < 0) = false := by rw [decide_eq_false_iff_not]; omega
  have e1 : i64 ((s.size : Int) - (w : Int)) = (s.size : Int) - (w : Int) := i64_id (by omega)
  have c2 : decide ((m : Int) > (s.size : Int) - (w : Int)) = false := by rw [decide_eq_false_iff_not]; omega
  have r := rgetg_loop s m w (by omega) hw.2 h w 0 600 (by omega) (by omega)
  have r' : (F76_l13 600).L 600 (s, (m : Int), (w : Int), 0, 0) = some (gw (nums s) m w) := r
  have g : F76_d 600 (s, (m : Int), (w : Int)) = some (gw (nums s) m w, 0) := by simp only [F76_d, FSpec.d, F76_s, i1, Bool.not_true, c1, e1, c2, F76_d13, r']
  simp only [F48_d, FSpec.d, F48_s, g]
theorem small0 : Small ⟨#[]⟩ := by unfold Small; decide
theorem decode_both (y : ByteArray) (hy : y.size ≤ 10700) : ∃ (a b c d : ByteArray) (x5 x6 x7 x8 x9 x10 x11 : Int) (X : List Int) (e : Int), F20_d 600 y = some (a, b, c, d, x5, x6, x7, x8, x9, x10, x11, rowsI X, e) ∧ F21_d 600 y = some (a, b, c, d, x5, x6, x7, x8, x9, x10, x11, rowsI X, e) ∧ X.length ≤ 430 := by
  have zero : ∀ e : Int, F20_d 600 y = some (⟨#[]⟩, ⟨#[]⟩, ⟨#[]⟩, ⟨#[]⟩, 0, 0, 0, 0, 0, 0, 0, [], e) → F21_d 600 y = some (⟨#[]⟩, ⟨#[]⟩, ⟨#[]⟩, ⟨#[]⟩, 0, 0, 0, 0, 0, 0, 0, [], e) → ∃ (a b c d : ByteArray) (x5 x6 x7 x8 x9 x10 x11 : Int) (X : List Int) (e : Int), F20_d 600 y = some (a, b, c, d, x5, x6, x7, x8, x9, x10, x11, rowsI X, e) ∧ F21_d 600 y = some (a, b, c, d, x5, x6, x7, x8, x9, x10, x11, rowsI X, e) ∧ X.length ≤ 430 :=
    fun e h1 h2 => ⟨⟨#[]⟩, ⟨#[]⟩, ⟨#[]⟩, ⟨#[]⟩, 0, 0, 0, 0, 0, 0, 0, [], e, h1, h2, by simp⟩
  obtain ⟨n, le, l1, l2, l3, l4⟩ := len_both y (by omega)
  by_cases hle : le = 0
  case neg =>
    have z : (le != 0) = true := by rw [bne_iff_ne]; exact hle
    exact zero le (by simp only [F20_d, FSpec.d, F20_s, l1, z]) (by simp only [F21_d, FSpec.d, F21_s, l2, z])
  obtain ⟨nm, fr, H⟩ := l3 hle
  subst hle
  have hn := H.hn
  have h1 := H.hnm
  have h2 := H.hfr
  have z : ((0 : Int) != 0) = false := rfl
  by_cases c1 : (y.size : Int) < n
  · exact zero 4 (by simp only [F20_d, FSpec.d, F20_s, l1, z, decide_eq_true c1]) (by simp only [F21_d, FSpec.d, F21_s, l2, z, decide_eq_true c1])
  by_cases c2 : (y.size : Int) > n
  · exact zero 3 (by simp only [F20_d, FSpec.d, F20_s, l1, z, decide_eq_false c1, decide_eq_true c2]) (by simp only [F21_d, FSpec.d, F21_s, l2, z, decide_eq_false c1, decide_eq_true c2])
  have hz : y.size = 31 + nm + 64 * fr + 4 := by omega
  have hm : y.size ≤ maxLen := by unfold maxLen; omega
  have k1 : F45_d 600 y = some (check y) := if_pos hm
  have k2 : F47_d 600 y = some (check y) := if_pos hm
  cases hck : check y with
  | false =>
    rw [hck] at k1 k2
    exact zero 5 (by simp only [F20_d, FSpec.d, F20_s, l1, z, decide_eq_false c1, decide_eq_false c2, k1, Bool.not_false]) (by simp only [F21_d, FSpec.d, F21_s, l2, z, decide_eq_false c1, decide_eq_false c2, k2, Bool.not_false])
  | true =>
  rw [hck] at k1 k2
  obtain ⟨t, ht⟩ : ∃ t, t = y.extract 31 (31 + nm) := ⟨_, rfl⟩
  obtain ⟨q, hq⟩ : ∃ q, q = y.extract (31 + nm) (31 + nm + 64 * fr) := ⟨_, rfl⟩
  have tz : t.size ≤ 500 := by rw [ht, ext_size y _ _ (by omega)]; omega
  have qz : q.size ≤ 900000 := by rw [hq, ext_size y _ _ (by omega)]; omega
  obtain ⟨a, b, c, d, pe, p1, p2, sa, sb, sc, sd⟩ := parse_both t tz
  obtain ⟨g1, hg1⟩ : ∃ g, g = gw (nums y) 3 1 := ⟨_, rfl⟩
  obtain ⟨g2, hg2⟩ : ∃ g, g = gw (nums y) 4 2 := ⟨_, rfl⟩
  obtain ⟨g3, hg3⟩ : ∃ g, g = gw (nums y) 6 4 := ⟨_, rfl⟩
  obtain ⟨g4, hg4⟩ : ∃ g, g = gw (nums y) 10 7 := ⟨_, rfl⟩
  obtain ⟨g5, hg5⟩ : ∃ g, g = gw (nums y) 17 2 := ⟨_, rfl⟩
  obtain ⟨g6, hg6⟩ : ∃ g, g = gw (nums y) 19 2 := ⟨_, rfl⟩
  obtain ⟨g7, hg7⟩ : ∃ g, g = gw (nums y) 21 6 := ⟨_, rfl⟩
  obtain ⟨g8, hg8⟩ : ∃ g, g = gw (nums y) 27 2 := ⟨_, rfl⟩
  have n1 : F72_d 600 (1, y, 3) = some (g1, y, 4) := by rw [hg1]; exact number_ok y 3 1 (by omega) (by omega) (by omega)
  have n2 : F72_d 600 (2, y, 4) = some (g2, y, 6) := by rw [hg2]; exact number_ok y 4 2 (by omega) (by omega) (by omega)
  have n3 : F72_d 600 (4, y, 6) = some (g3, y, 10) := by rw [hg3]; exact number_ok y 6 4 (by omega) (by omega) (by omega)
  have n4 : F72_d 600 (7, y, 10) = some (g4, y, 17) := by rw [hg4]; exact number_ok y 10 7 (by omega) (by omega) (by omega)
  have n5 : F72_d 600 (2, y, 17) = some (g5, y, 19) := by rw [hg5]; exact number_ok y 17 2 (by omega) (by omega) (by omega)
  have n6 : F72_d 600 (2, y, 19) = some (g6, y, 21) := by rw [hg6]; exact number_ok y 19 2 (by omega) (by omega) (by omega)
  have n7 : F72_d 600 (6, y, 21) = some (g7, y, 27) := by rw [hg7]; exact number_ok y 21 6 (by omega) (by omega) (by omega)
  have n8 : F72_d 600 (2, y, 27) = some (g8, y, 29) := by rw [hg8]; exact number_ok y 27 2 (by omega) (by omega) (by omega)
  have n9 : F72_d 600 (1, y, 29) = some ((nm : Int), y, 30) := by rw [← H.g9]; exact number_ok y 29 1 (by omega) (by omega) (by omega)
  have n10 : F72_d 600 (1, y, 30) = some ((fr : Int), y, 31) := by rw [← H.g10]; exact number_ok y 30 1 (by omega) (by omega) (by omega)
  have t1 : F74_d 600 ((nm : Int), y, 31) = some (t, y, ((31 + nm : Nat) : Int)) := by rw [ht]; exact text_ok y 31 nm (by omega) (by omega)
  have e64 : i64 (64 * (fr : Int)) = ((64 * fr : Nat) : Int) := by rw [i64_id (by omega)]; omega
  have t2 : F74_d 600 (((64 * fr : Nat) : Int), y, ((31 + nm : Nat) : Int)) = some (q, y, ((31 + nm + 64 * fr : Nat) : Int)) := by rw [hq]; exact text_ok y (31 + nm) (64 * fr) (by omega) (by omega)
  have d1 : F75_d 600 (q, g8) = some (rowsI (decR q g8).1, (decR q g8).2) := dec_any q qz g8
  have d2 : F50_d 600 (q, g8) = some (rowsI (decR q g8).1, (decR q g8).2) := rdec_any q qz g8
  have dl := decR_len q g8
  obtain ⟨X, hX⟩ : ∃ X, X = (decR q g8).1 := ⟨_, rfl⟩
  obtain ⟨de, hde⟩ : ∃ de, de = (decR q g8).2 := ⟨_, rfl⟩
  rw [← hX, ← hde] at d1 d2
  rw [← hX] at dl
  obtain ⟨s, se, s1, s2, -, -⟩ := enc_both sa sb sc sd g2 g3 g4 g5 g6 g1 g7 X (by omega)
  have r1 : F48_d 600 (y, 4, 2) = some g2 := by rw [hg2]; exact rget_ok y 4 2 (by omega) (by omega) (by omega)
  have r2 : F48_d 600 (y, 6, 4) = some g3 := by rw [hg3]; exact rget_ok y 6 4 (by omega) (by omega) (by omega)
  have r3 : F48_d 600 (y, 10, 7) = some g4 := by rw [hg4]; exact rget_ok y 10 7 (by omega) (by omega) (by omega)
  have r4 : F48_d 600 (y, 17, 2) = some g5 := by rw [hg5]; exact rget_ok y 17 2 (by omega) (by omega) (by omega)
  have r5 : F48_d 600 (y, 19, 2) = some g6 := by rw [hg6]; exact rget_ok y 19 2 (by omega) (by omega) (by omega)
  have r6 : F48_d 600 (y, 3, 1) = some g1 := by rw [hg1]; exact rget_ok y 3 1 (by omega) (by omega) (by omega)
  have r7 : F48_d 600 (y, 21, 6) = some g7 := by rw [hg7]; exact rget_ok y 21 6 (by omega) (by omega) (by omega)
  have r8 : F48_d 600 (y, 27, 2) = some g8 := by rw [hg8]; exact rget_ok y 27 2 (by omega) (by omega) (by omega)
  obtain ⟨u, x1, y1⟩ := byteN H.g9 (by omega)
  have z29 : (0 : Int) ≤ 29 := by omega
  have t29 : (29 : Int).toNat = 29 := rfl
  have t31 : (31 : Int).toNat = 31 := rfl
  have e1 : IntKind.i64.wrap (nm : Int) = (nm : Int) := i64_id (by omega)
  have e2 : i64 (31 + (nm : Int)) = ((31 + nm : Nat) : Int) := by rw [i64_id (by omega)]; omega
  have e3 : i64 (n - 4) = ((31 + nm + 64 * fr : Nat) : Int) := by rw [i64_id (by omega)]; omega
  have b1 : (0 : Int) ≤ 31 ∧ (31 : Int) ≤ ((31 + nm : Nat) : Int) ∧ ((31 + nm : Nat) : Int) ≤ (y.size : Int) := by omega
  have b2 : (0 : Int) ≤ ((31 + nm : Nat) : Int) ∧ ((31 + nm : Nat) : Int) ≤ ((31 + nm + 64 * fr : Nat) : Int) ∧ ((31 + nm + 64 * fr : Nat) : Int) ≤ (y.size : Int) := by omega
  have rd : F46_d 600 y = some (a, b, c, d, g2, g3, g4, g5, g6, g1, g7, rowsI X, (pe == 0) && (de == 0)) := by
    cases hp : (pe == 0) with
    | true => simp only [F46_d, FSpec.d, F46_s, n1, n2, n3, n4, n5, n6, n7, n8, n9, n10, t1, p1, e64, t2, d1, hp, Bool.true_and]
    | false => simp only [F46_d, FSpec.d, F46_s, n1, n2, n3, n4, n5, n6, n7, n8, n9, n10, t1, p1, e64, t2, d1, hp, Bool.false_and]
  cases hp : (pe == 0) with
  | false =>
    have hp2 : (pe != 0) = true := by rw [bne, hp]; rfl
    rw [hp] at rd
    exact zero 3 (by simp only [F20_d, FSpec.d, F20_s, l1, z, decide_eq_false c1, decide_eq_false c2, k1, Bool.not_true, rd, s1, Bool.false_and, Bool.not_false])
      (by simp only [F21_d, FSpec.d, F21_s, l2, z, decide_eq_false c1, decide_eq_false c2, k2, Bool.not_true, r1, r2, r3, r4, r5, r6, r7, r8, z29, t29, t31, x1, y1, e1, e2, e3, b1, b2, and_self, if_true, Int.toNat_natCast, ← ht, p2, ← hq, d2, hp2])
  | true =>
  have hp2 : (pe != 0) = false := by rw [bne, hp]; rfl
  rw [hp] at rd
  cases hd0 : (de == 0) with
  | false =>
    have hd2 : (de != 0) = true := by rw [bne, hd0]; rfl
    rw [hd0] at rd
    exact zero 3 (by simp only [F20_d, FSpec.d, F20_s, l1, z, decide_eq_false c1, decide_eq_false c2, k1, Bool.not_true, rd, s1, Bool.true_and, Bool.not_false])
      (by simp only [F21_d, FSpec.d, F21_s, l2, z, decide_eq_false c1, decide_eq_false c2, k2, Bool.not_true, r1, r2, r3, r4, r5, r6, r7, r8, z29, t29, t31, x1, y1, e1, e2, e3, b1, b2, and_self, if_true, Int.toNat_natCast, ← ht, p2, ← hq, d2, hp2, hd2])
  | true =>
  have hd2 : (de != 0) = false := by rw [bne, hd0]; rfl
  rw [hd0] at rd
  cases hs0 : (se != 0) with
  | true =>
    exact zero 3 (by simp only [F20_d, FSpec.d, F20_s, l1, z, decide_eq_false c1, decide_eq_false c2, k1, Bool.not_true, rd, s1, Bool.true_and, hs0])
      (by simp only [F21_d, FSpec.d, F21_s, l2, z, decide_eq_false c1, decide_eq_false c2, k2, Bool.not_true, r1, r2, r3, r4, r5, r6, r7, r8, z29, t29, t31, x1, y1, e1, e2, e3, b1, b2, and_self, if_true, Int.toNat_natCast, ← ht, p2, ← hq, d2, hp2, hd2, s2, hs0])
  | false =>
  cases hs3 : (s.toList == y.toList) with
  | false =>
    exact zero 3 (by simp only [F20_d, FSpec.d, F20_s, l1, z, decide_eq_false c1, decide_eq_false c2, k1, Bool.not_true, rd, s1, Bool.true_and, hs0, hs3, Bool.not_false])
      (by simp only [F21_d, FSpec.d, F21_s, l2, z, decide_eq_false c1, decide_eq_false c2, k2, Bool.not_true, r1, r2, r3, r4, r5, r6, r7, r8, z29, t29, t31, x1, y1, e1, e2, e3, b1, b2, and_self, if_true, Int.toNat_natCast, ← ht, p2, ← hq, d2, hp2, hd2, s2, hs0, hs3, Bool.not_false])
  | true =>
    exact ⟨a, b, c, d, g2, g3, g4, g5, g6, g1, g7, X, 0, by simp only [F20_d, FSpec.d, F20_s, l1, z, decide_eq_false c1, decide_eq_false c2, k1, Bool.not_true, rd, s1, Bool.true_and, hs0, hs3],
      by simp only [F21_d, FSpec.d, F21_s, l2, z, decide_eq_false c1, decide_eq_false c2, k2, Bool.not_true, r1, r2, r3, r4, r5, r6, r7, r8, z29, t29, t31, x1, y1, e1, e2, e3, b1, b2, and_self, if_true, Int.toNat_natCast, ← ht, p2, ← hq, d2, hp2, hd2, s2, hs0, hs3], by omega⟩
end Go.Proofs.YtdmedeaknnldcaaGreatDoor
/- Packets: PacketExact. -/
namespace Go.Proofs.YtdmedeaknnldcaaGreatDoor
open Go.RowKit
set_option linter.unusedVariables false
set_option linter.unusedSimpArgs false
set_option linter.unnecessarySimpa false
/-- A packet, whatever it holds. -/
structure Pq where
  a : ByteArray
  b : ByteArray
  c : ByteArray
  d : ByteArray
  x5 : Int
  x6 : Int
  x7 : Int
  x8 : Int
  x9 : Int
  x10 : Int
  x11 : Int
  X : List Int
structure POk (q : Pq) : Prop where
  a : Small q.a
  b : Small q.b
  c : Small q.c
  d : Small q.d
  len : q.X.length ≤ 430
theorem rep421 : chunks ((List.replicate (421 : Int).toNat (AV.v (.int .i64 0))).take (((421 : Int).toNat) * 1)) 1 ((421 : Int).toNat) = rowsI (List.replicate 421 0) := by
  have h := chunksI (List.replicate 421 0)
  have e : (421 : Int).toNat = 421 := rfl
  rw [e, Nat.mul_one, List.take_of_length_le (by rw [List.length_replicate]; exact Nat.le_refl _)]
  have e2 : cellsI (List.replicate 421 (0 : Int)) = List.replicate 421 (AV.v (.int .i64 0)) := List.map_replicate
  rw [List.length_replicate, e2] at h
  exact h
theorem smallHZ : Small ⟨#[72, 90]⟩ := by unfold Small; decide
theorem odd_ok {q : Pq} (Q : POk q) {xs : List Int} {p : Int} (D : Dice xs p) : ∃ (q' : Pq) (p' : Int), F12_d 600 (q.a, q.b, q.c, q.d, q.x5, q.x6, q.x7, q.x8, q.x9, q.x10, q.x11, rowsI q.X, rowsI xs, p) = some (q'.a, q'.b, q'.c, q'.d, q'.x5, q'.x6, q'.x7, q'.x8, q'.x9, q'.x10, q'.x11, rowsI q'.X, rowsI xs, p') ∧ POk q' ∧ Dice xs p' := by
  obtain ⟨a, b, c, d, x5, x6, x7, x8, x9, x10, x11, X⟩ := q
  obtain ⟨sa, sb, sc, sd, hl⟩ := Q
  dsimp only at sa sb sc sd hl ⊢
  obtain ⟨v, p1, g1, r1, D1⟩ := next_ok 600 (n := 8) (by omega) D
  have ne : ∀ i j : Int, i ≠ j → (i == j) = false := fun i j h => beq_eq_false_iff_ne.2 h
  rcases (show v = 0 ∨ v = 1 ∨ v = 2 ∨ v = 3 ∨ v = 4 ∨ v = 5 ∨ v = 6 ∨ v = 7 by omega) with rfl | rfl | rfl | rfl | rfl | rfl | rfl | rfl
  · exact ⟨⟨a, b, c, ⟨#[72, 90]⟩, x5, x6, x7, x8, x9, x10, x11, X⟩, p1, by simp only [F12_d, FSpec.d, F12_s, g1, beq_self_eq_true], ⟨sa, sb, sc, smallHZ, hl⟩, D1⟩
  · obtain ⟨w, p2, g2, m2, D2⟩ := pick_ok 600 [-1, 65536] (by simp) D1
    replace g2 : F30_d 600 ([[AV.v (.int .i64 (-1))], [AV.v (.int .i64 65536)]], rowsI xs, p1) = _ := g2
    exact ⟨⟨a, b, c, d, w, x6, x7, x8, x9, x10, x11, X⟩, p2, by simp only [F12_d, FSpec.d, F12_s, g1, g2, beq_self_eq_true, ne 1 0 (by decide)], ⟨sa, sb, sc, sd, hl⟩, D2⟩
  · obtain ⟨w, p2, g2, m2, D2⟩ := pick_ok 600 [-1, 1073741825] (by simp) D1
    replace g2 : F30_d 600 ([[AV.v (.int .i64 (-1))], [AV.v (.int .i64 1073741825)]], rowsI xs, p1) = _ := g2
    exact ⟨⟨a, b, c, d, x5, w, x7, x8, x9, x10, x11, X⟩, p2, by simp only [F12_d, FSpec.d, F12_s, g1, g2, beq_self_eq_true, ne 2 0 (by decide), ne 2 1 (by decide)], ⟨sa, sb, sc, sd, hl⟩, D2⟩
  · obtain ⟨w, p2, g2, m2, D2⟩ := pick_ok 600 [-1, 9007199254740993] (by simp) D1
    replace g2 : F30_d 600 ([[AV.v (.int .i64 (-1))], [AV.v (.int .i64 9007199254740993)]], rowsI xs, p1) = _ := g2
    exact ⟨⟨a, b, c, d, x5, x6, w, x8, x9, x10, x11, X⟩, p2, by simp only [F12_d, FSpec.d, F12_s, g1, g2, beq_self_eq_true, ne 3 0 (by decide), ne 3 1 (by decide), ne 3 2 (by decide)], ⟨sa, sb, sc, sd, hl⟩, D2⟩
  · exact ⟨⟨a, b, c, d, x5, x6, x7, 2, 4, x10, x11, X⟩, p1, by simp only [F12_d, FSpec.d, F12_s, g1, beq_self_eq_true, ne 4 0 (by decide), ne 4 1 (by decide), ne 4 2 (by decide), ne 4 3 (by decide)], ⟨sa, sb, sc, sd, hl⟩, D1⟩
  · obtain ⟨w, p2, g2, m2, D2⟩ := pick_ok 600 [-1, 3] (by simp) D1
    replace g2 : F30_d 600 ([[AV.v (.int .i64 (-1))], [AV.v (.int .i64 3)]], rowsI xs, p1) = _ := g2
    exact ⟨⟨a, b, c, d, x5, x6, x7, x8, x9, w, x11, X⟩, p2, by simp only [F12_d, FSpec.d, F12_s, g1, g2, beq_self_eq_true, ne 5 0 (by decide), ne 5 1 (by decide), ne 5 2 (by decide), ne 5 3 (by decide), ne 5 4 (by decide)], ⟨sa, sb, sc, sd, hl⟩, D2⟩
  · obtain ⟨w, p2, g2, m2, D2⟩ := pick_ok 600 [-1, 1099511627777] (by simp) D1
    replace g2 : F30_d 600 ([[AV.v (.int .i64 (-1))], [AV.v (.int .i64 1099511627777)]], rowsI xs, p1) = _ := g2
    exact ⟨⟨a, b, c, d, x5, x6, x7, x8, x9, x10, w, X⟩, p2, by simp only [F12_d, FSpec.d, F12_s, g1, g2, beq_self_eq_true, ne 6 0 (by decide), ne 6 1 (by decide), ne 6 2 (by decide), ne 6 3 (by decide), ne 6 4 (by decide), ne 6 5 (by decide)], ⟨sa, sb, sc, sd, hl⟩, D2⟩
  · obtain ⟨w, p2, g2, r2, D2⟩ := next_ok 600 (n := 3) (by omega) D1
    have b1 : (0 : Int) ≤ 421 ∧ (421 : Int) ≤ 421 ∧ (421 : Int).toNat * 8 ≤ maxBytes := by decide
    have key : ∀ Z : List Int, Z.length ≤ 430 → ([[AV.v (.slice none 0 0)], [AV.list 1 [[AV.v (.int .i64 1073741824)]] none], [AV.list 1 (rowsI (List.replicate 421 0)) none]] : List (List AV))[w.toNat]? = some [AV.list 1 (rowsI Z) none] ∨ (Z = [] ∧ ([[AV.v (.slice none 0 0)], [AV.list 1 [[AV.v (.int .i64 1073741824)]] none], [AV.list 1 (rowsI (List.replicate 421 0)) none]] : List (List AV))[w.toNat]? = some [AV.v (.slice none 0 0)]) → ∃ (q' : Pq) (p' : Int), F12_d 600 (a, b, c, d, x5, x6, x7, x8, x9, x10, x11, rowsI X, rowsI xs, p) = some (q'.a, q'.b, q'.c, q'.d, q'.x5, q'.x6, q'.x7, q'.x8, q'.x9, q'.x10, q'.x11, rowsI q'.X, rowsI xs, p') ∧ POk q' ∧ Dice xs p' := fun Z hZ h => by
      refine ⟨⟨a, b, c, d, x5, x6, x7, x8, x9, x10, x11, Z⟩, p2, ?_, ⟨sa, sb, sc, sd, hZ⟩, D2⟩
      rcases h with h | ⟨rfl, h⟩
      · have hl1 : lstOf 1 (AV.list 1 (rowsI Z) none) = some (rowsI Z) := rfl
        simp only [F12_d, FSpec.d, F12_s, g1, g2, beq_self_eq_true, ne 7 0 (by decide), ne 7 1 (by decide), ne 7 2 (by decide), ne 7 3 (by decide), ne 7 4 (by decide), ne 7 5 (by decide), ne 7 6 (by decide), b1, and_self, if_true, r2.1, rep421, h, List.getElem?_cons_zero, hl1]
      · have hl1 : lstOf 1 (AV.v (.slice none 0 0)) = some (rowsI []) := rfl
        simp only [F12_d, FSpec.d, F12_s, g1, g2, beq_self_eq_true, ne 7 0 (by decide), ne 7 1 (by decide), ne 7 2 (by decide), ne 7 3 (by decide), ne 7 4 (by decide), ne 7 5 (by decide), ne 7 6 (by decide), b1, and_self, if_true, r2.1, rep421, h, List.getElem?_cons_zero, hl1]
    rcases (show w = 0 ∨ w = 1 ∨ w = 2 by omega) with rfl | rfl | rfl
    · exact key [] (by simp) (.inr ⟨rfl, rfl⟩)
    · exact key [1073741824] (by simp) (.inl rfl)
    · exact key (List.replicate 421 0) (by rw [List.length_replicate]; omega) (.inl rfl)
/-- A packet's cells. -/
def rowP (q : Pq) : List AV := [AV.v (.string q.a), AV.v (.string q.b), AV.v (.string q.c), AV.v (.string q.d), AV.v (.int .i64 q.x5), AV.v (.int .i64 q.x6), AV.v (.int .i64 q.x7), AV.v (.int .i64 q.x8), AV.v (.int .i64 q.x9), AV.v (.int .i64 q.x10), AV.v (.int .i64 q.x11), AV.list 1 (rowsI q.X) none]
theorem pk_loop (L : List Pq) (hL : ∀ q ∈ L, POk q) (hl : L.length ≤ 100) (x2 y1 y2 y3 y4 : ByteArray) (x5 x6 x7 x8 x9 x10 x11 : Int) (R S : List (List AV)) (p : Int) : ∀ (k i f : Nat), k < f → i + k = L.length →
    (F4_l10 600).L f (L.map rowP, x2, (L.length : Int), (i : Int), y1, y2, y3, y4, x5, x6, x7, x8, x9, x10, x11, R, S, p) = some (.inr (x2, y1, y2, y3, y4, x5, x6, x7, x8, x9, x10, x11, R, S, p))
  | 0, i, f, hf, hi => by
    obtain ⟨f, rfl⟩ : ∃ f', f = f' + 1 := ⟨f - 1, by omega⟩
    show (F4_l10 600).b _ _ ((F4_l10 600).L f) some = _
    have c : decide ((i : Int) < (L.length : Int)) = false := by rw [decide_eq_false_iff_not]; omega
    simp only [F4_l10, c]
  | k + 1, i, f, hf, hi => by
    obtain ⟨f, rfl⟩ : ∃ f', f = f' + 1 := ⟨f - 1, by omega⟩
    have hlt : i < L.length := by omega
    obtain ⟨sa, sb, sc, sd, hX⟩ := hL _ (List.getElem_mem hlt)
    obtain ⟨q, hq⟩ : ∃ q, q = L[i] := ⟨_, rfl⟩
    rw [← hq] at sa sb sc sd hX
    have g : (L.map rowP)[i]? = some [AV.v (.string q.a), AV.v (.string q.b), AV.v (.string q.c), AV.v (.string q.d), AV.v (.int .i64 q.x5), AV.v (.int .i64 q.x6), AV.v (.int .i64 q.x7), AV.v (.int .i64 q.x8), AV.v (.int .i64 q.x9), AV.v (.int .i64 q.x10), AV.v (.int .i64 q.x11), AV.list 1 (rowsI q.X) none] := by
      rw [List.getElem?_map, List.getElem?_eq_getElem hlt, ← hq]; rfl
    obtain ⟨s, e, s1, s2, -, -⟩ := enc_both sa sb sc sd q.x5 q.x6 q.x7 q.x8 q.x9 q.x10 q.x11 q.X hX
    obtain ⟨v, v1, v2, -⟩ := valid_any sa sb sc sd q.x5 q.x6 q.x7 q.x8 q.x9 q.x10 q.x11 q.X hX
    obtain ⟨a', b', c', d', z5, z6, z7, z8, z9, z10, z11, X', re, r1, r2, r3⟩ := rec_both sa sb sc sd q.x5 q.x6 q.x7 q.x8 q.x9 q.x10 q.x11 q.X hX
    have rs := recsame_ok (a := a') (b := b') (c := c') (d := d') (x5 := z5) (x6 := z6) (x7 := z7) (x8 := z8) (x9 := z9) (x10 := z10) (x11 := z11) (X := X') (by omega)
    have ih := pk_loop L hL hl x2 y1 y2 y3 y4 x5 x6 x7 x8 x9 x10 x11 R S p k (i + 1) f (by omega) (by omega)
    have c1 : decide ((i : Int) < (L.length : Int)) = true := by rw [decide_eq_true_iff]; omega
    have c2 : (0 : Int) ≤ (i : Int) := by omega
    have c4 : i64 ((i : Int) + 1) = ((i + 1 : Nat) : Int) := by rw [i64_id (by omega)]; omega
    have hl1 : lstOf 1 (AV.list 1 (rowsI q.X) none) = some (rowsI q.X) := rfl
    show (F4_l10 600).b _ _ ((F4_l10 600).L f) some = _
    obtain ⟨Lf, hLf⟩ : ∃ Lf, Lf = (F4_l10 600).L f := ⟨_, rfl⟩
    rw [← hLf] at ih ⊢
    simp only [F4_l10, c1, c2, if_true, Int.toNat_natCast, g, List.getElem?_cons_zero, List.getElem?_cons_succ, hl1, s1, s2, r1, r2, beq_self_eq_true, Bool.not_true, bne_self_eq_false, v1, v2, rs, c4]
    exact ih
theorem str_loop (L : List ByteArray) (hl : L.length ≤ 500) (R : List (List AV)) (x4 x5 : Int) : ∀ (k i f : Nat), k < f → i + k = L.length →
    (F4_l53 600).L f (rowsS L, rowsS L, R, x4, x5, (L.length : Int), (i : Int)) = some (.inr (R, x4, x5))
  | 0, i, f, hf, hi => by
    obtain ⟨f, rfl⟩ : ∃ f', f = f' + 1 := ⟨f - 1, by omega⟩
    show (F4_l53 600).b _ _ ((F4_l53 600).L f) some = _
    have c : decide ((i : Int) < (L.length : Int)) = false := by rw [decide_eq_false_iff_not]; omega
    simp only [F4_l53, c]
  | k + 1, i, f, hf, hi => by
    obtain ⟨f, rfl⟩ : ∃ f', f = f' + 1 := ⟨f - 1, by omega⟩
    have hlt : i < L.length := by omega
    have ih := str_loop L hl R x4 x5 k (i + 1) f (by omega) (by omega)
    have c1 : decide ((i : Int) < (L.length : Int)) = true := by rw [decide_eq_true_iff]; omega
    have c2 : (0 : Int) ≤ (i : Int) := by omega
    have c4 : i64 ((i : Int) + 1) = ((i + 1 : Nat) : Int) := by rw [i64_id (by omega)]; omega
    show (F4_l53 600).b _ _ ((F4_l53 600).L f) some = _
    obtain ⟨Lf, hLf⟩ : ∃ Lf, Lf = (F4_l53 600).L f := ⟨_, rfl⟩
    rw [← hLf] at ih ⊢
    simp only [F4_l53, c1, c2, if_true, Int.toNat_natCast, rowsS_get L i hlt, List.getElem?_cons_zero, beq_self_eq_true, Bool.not_true, c4]
    exact ih
theorem y_loop (Y : List ByteArray) (hl : Y.length ≤ 100) (hY : ∀ y ∈ Y, y.size ≤ 10700) : ∀ (k i f : Nat), k < f → i + k = Y.length →
    (F4_l34 600).L f (rowsS Y, (Y.length : Int), (i : Int)) = some (.inr ())
  | 0, i, f, hf, hi => by
    obtain ⟨f, rfl⟩ : ∃ f', f = f' + 1 := ⟨f - 1, by omega⟩
    show (F4_l34 600).b _ _ ((F4_l34 600).L f) some = _
    have c : decide ((i : Int) < (Y.length : Int)) = false := by rw [decide_eq_false_iff_not]; omega
    simp only [F4_l34, c]
  | k + 1, i, f, hf, hi => by
    obtain ⟨f, rfl⟩ : ∃ f', f = f' + 1 := ⟨f - 1, by omega⟩
    have hlt : i < Y.length := by omega
    have hsz := hY _ (List.getElem_mem hlt)
    have ih := y_loop Y hl hY k (i + 1) f (by omega) (by omega)
    obtain ⟨a, b, c, d, x5, x6, x7, x8, x9, x10, x11, X, e, d1, d2, d3⟩ := decode_both _ hsz
    obtain ⟨n, le, l1, l2, -, -⟩ := len_both Y[i] (by omega)
    obtain ⟨L, r, se, s1, s2, s3⟩ := split_both _ hsz
    have ps := pksame_ok (a := a) (b := b) (c := c) (d := d) (x5 := x5) (x6 := x6) (x7 := x7) (x8 := x8) (x9 := x9) (x10 := x10) (x11 := x11) (X := X) (by omega)
    have sl := str_loop L (by omega) (rowsS Y) (Y.length : Int) (i : Int) L.length 0 600 (by omega) (by omega)
    replace sl : (F4_l53 600).L 600 (rowsS L, rowsS L, rowsS Y, (Y.length : Int), (i : Int), (L.length : Int), 0) = _ := sl
    have c1 : decide ((i : Int) < (Y.length : Int)) = true := by rw [decide_eq_true_iff]; omega
    have c2 : (0 : Int) ≤ (i : Int) := by omega
    have c4 : i64 ((i : Int) + 1) = ((i + 1 : Nat) : Int) := by rw [i64_id (by omega)]; omega
    show (F4_l34 600).b _ _ ((F4_l34 600).L f) some = _
    obtain ⟨Lf, hLf⟩ : ∃ Lf, Lf = (F4_l34 600).L f := ⟨_, rfl⟩
    rw [← hLf] at ih ⊢
    simp only [F4_l34, c1, c2, if_true, Int.toNat_natCast, rowsS_get Y i hlt, List.getElem?_cons_zero, d1, d2, l1, l2, s1, s2, bne_self_eq_false, ps, Bool.not_true, beq_self_eq_true, rowsS_len, F4_d53, sl, c4]
    exact ih
set_option maxRecDepth 4000 in
theorem exact_law (t : List Int) (ht : ∀ x ∈ t, -9223372036854775808 ≤ x ∧ x ≤ 9223372036854775807) (raw : ByteArray) (q : Pq) (sa : Small q.a) (sb : Small q.b) (sc : Small q.c) (sd : Small q.d) : F4_d 600 (rowsI t, raw, q.a, q.b, q.c, q.d, q.x5, q.x6, q.x7, q.x8, q.x9, q.x10, q.x11, rowsI q.X) = some true := by
  by_cases hl : (t.length : Int) ≤ 500
  case neg => simp only [F4_d, FSpec.d, F4_s, light_ok, hl, decide_false, Bool.not_false, sane_ok]
  by_cases hr : (raw.size : Int) > 700
  case pos => simp only [F4_d, FSpec.d, F4_s, light_ok, hl, decide_true, Bool.not_true, hr, sane_ok]
  by_cases hx : (q.X.length : Int) > 300
  case pos => simp only [F4_d, FSpec.d, F4_s, light_ok, hl, decide_true, Bool.not_true, hr, decide_false, rowsI_len, hx, sane_ok]
  have D : Dice t 0 := ⟨ht, by omega, by omega, by omega⟩
  have hroll : F7_d 600 (rowsI t) = some (rowsI t, 0) := rfl
  obtain ⟨a, b, c, d, run, seq, start, num, den, clk, err, X, p1, g1, P, D1⟩ := packet_ok D
  have own := enc_ok' P
  have esz := enc_size a b c d run seq start num den clk err X
  have hn := P.src.n
  have hf := P.nf
  have js := joined_size a b c d
  have qa : Small a := by unfold Small; omega
  have qb : Small b := by unfold Small; omega
  have qc : Small c := by unfold Small; omega
  have qd : Small d := by unfold Small; omega
  have hXl := P.len
  obtain ⟨s, e, s1, s2, -, -⟩ := enc_both qa qb qc qd run seq start num den clk err X (by omega)
  rw [own] at s1
  injection s1 with s1
  injection s1 with s0 e0
  subst e0
  rw [s0] at esz
  obtain ⟨q2, p2, g2, Q2, D2⟩ := odd_ok (q := ⟨a, b, c, d, run, seq, start, num, den, clk, err, X⟩) ⟨qa, qb, qc, qd, by show X.length ≤ 430; omega⟩ D1
  dsimp only at g2
  have pl := pk_loop [⟨a, b, c, d, run, seq, start, num, den, clk, err, X⟩, q2, q] (fun z hz => by
    simp only [List.mem_cons, List.not_mem_nil, or_false] at hz
    rcases hz with rfl | rfl | rfl
    · exact ⟨qa, qb, qc, qd, by show X.length ≤ 430; omega⟩
    · exact Q2
    · exact ⟨sa, sb, sc, sd, by omega⟩) (by show 3 ≤ 100; omega) raw a b c d run seq start num den clk err (rowsI X) (rowsI t) p2 3 0 600 (by omega) rfl
  replace pl : (F4_l10 600).L 600 ([[AV.v (.string a), AV.v (.string b), AV.v (.string c), AV.v (.string d), AV.v (.int .i64 run), AV.v (.int .i64 seq), AV.v (.int .i64 start), AV.v (.int .i64 num), AV.v (.int .i64 den), AV.v (.int .i64 clk), AV.v (.int .i64 err), AV.list 1 (rowsI X) none],
    [AV.v (.string q2.a), AV.v (.string q2.b), AV.v (.string q2.c), AV.v (.string q2.d), AV.v (.int .i64 q2.x5), AV.v (.int .i64 q2.x6), AV.v (.int .i64 q2.x7), AV.v (.int .i64 q2.x8), AV.v (.int .i64 q2.x9), AV.v (.int .i64 q2.x10), AV.v (.int .i64 q2.x11), AV.list 1 (rowsI q2.X) none],
    [AV.v (.string q.a), AV.v (.string q.b), AV.v (.string q.c), AV.v (.string q.d), AV.v (.int .i64 q.x5), AV.v (.int .i64 q.x6), AV.v (.int .i64 q.x7), AV.v (.int .i64 q.x8), AV.v (.int .i64 q.x9), AV.v (.int .i64 q.x10), AV.v (.int .i64 q.x11), AV.list 1 (rowsI q.X) none]], raw, 3, 0, a, b, c, d, run, seq, start, num, den, clk, err, rowsI X, rowsI t, p2) = _ := pl
  obtain ⟨S, hS⟩ : ∃ S : Nat, S = s.size := ⟨_, rfl⟩
  have hS2 : 107 ≤ S ∧ S ≤ 562 := by omega
  have sI : (s.size : Int) = (S : Int) := by rw [hS]
  obtain ⟨k, p3, g3, r3, D3⟩ := next_ok 600 (n := (S : Int)) (by omega) D2
  obtain ⟨j, rfl⟩ : ∃ j : Nat, k = (j : Int) := ⟨k.toNat, by omega⟩
  obtain ⟨b8, p4, g4, r4, D4⟩ := next_ok 600 (n := 256) (by omega) D3
  have n8 : numsOf [[AV.v (.int .u8 (IntKind.u8.wrap b8))]] = some [IntKind.u8.wrap b8] := rfl
  obtain ⟨one, hone⟩ : ∃ o, o = strOfNums [IntKind.u8.wrap b8] := ⟨_, rfl⟩
  have onez : one.size = 1 := by rw [hone, strOf_size]; rfl
  have c1 : (0 : Int) ≤ (j : Int) ∧ (j : Int) ≤ (S : Int) := by omega
  have xj : (s.extract 0 j).size = j := ext_size s 0 j (by omega)
  have xk : (s.extract (j + 1) S).size = S - (j + 1) := ext_size s _ _ (by omega)
  have e1 : i64 ((j : Int) + 1) = ((j + 1 : Nat) : Int) := by rw [i64_id (by omega)]; omega
  have c2 : (0 : Int) ≤ ((j + 1 : Nat) : Int) ∧ ((j + 1 : Nat) : Int) ≤ (S : Int) := by omega
  have b1 : (s.extract 0 j).size + one.size ≤ 9223372036854775807 := by omega
  have b2 : (s.extract 0 j ++ one).size + (s.extract (j + 1) S).size ≤ 9223372036854775807 := by rw [ByteArray.size_append]; omega
  obtain ⟨ch, hch⟩ : ∃ ch, ch = (s.extract 0 j ++ one) ++ s.extract (j + 1) S := ⟨_, rfl⟩
  have chz : ch.size = S := by rw [hch, ByteArray.size_append, ByteArray.size_append]; omega
  have c3 : decide ((ch.size : Int) > 4) = true := by rw [decide_eq_true_iff]; omega
  have e2 : i64 ((ch.size : Int) - 4) = ((S - 4 : Nat) : Int) := by rw [i64_id (by omega)]; omega
  have c4 : (0 : Int) ≤ ((S - 4 : Nat) : Int) ∧ ((S - 4 : Nat) : Int) ≤ (ch.size : Int) := by omega
  have cz : (ch.extract 0 (S - 4)).size = S - 4 := ext_size ch _ _ (by omega)
  have cm : (ch.extract 0 (S - 4)).size + 4 ≤ maxLen := by unfold maxLen; omega
  have ag : F19_d 600 (ch.extract 0 (S - 4)) = some (appended (ch.extract 0 (S - 4))) := if_pos cm
  have agz := appended_size (ch.extract 0 (S - 4))
  have dz : (⟨#[120]⟩ : ByteArray).size = 1 := rfl
  have b3 : s.size + 1 ≤ 9223372036854775807 := by omega
  have b4 : s.size + raw.size ≤ 9223372036854775807 := by omega
  have b5 : S + 1 ≤ 9223372036854775807 := by omega
  have b6 : S + raw.size ≤ 9223372036854775807 := by omega
  have yl := y_loop [s, ch, appended (ch.extract 0 (S - 4)), s.extract 0 j, s ++ ⟨#[120]⟩, raw, s ++ raw] (by simp) (fun z hz => by
    simp only [List.mem_cons, List.not_mem_nil, or_false] at hz
    rcases hz with rfl | rfl | rfl | rfl | rfl | rfl | rfl
    · omega
    · omega
    · omega
    · omega
    · rw [ByteArray.size_append, dz]; omega
    · omega
    · rw [ByteArray.size_append]; omega) 7 0 600 (by omega) rfl
  replace yl : (F4_l34 600).L 600 ([[AV.v (.string s)], [AV.v (.string ch)], [AV.v (.string (appended (ch.extract 0 (S - 4))))], [AV.v (.string (s.extract 0 j))], [AV.v (.string (s ++ ⟨#[120]⟩))], [AV.v (.string raw)], [AV.v (.string (s ++ raw))]], 7, 0) = some (.inr ()) := yl
  have l3 : ∀ x y z : List AV, (([x, y, z].length : Nat) : Int) = 3 := fun _ _ _ => rfl
  have l7 : ∀ a b c d e f g : List AV, (([a, b, c, d, e, f, g].length : Nat) : Int) = 7 := fun _ _ _ _ _ _ _ => rfl
  have hr' : decide ((raw.size : Int) > 700) = false := decide_eq_false hr
  have hx' : decide ((q.X.length : Int) > 300) = false := decide_eq_false hx
  simp only [F4_d, FSpec.d, F4_s, light_ok, hl, decide_true, Bool.not_true, hr', rowsI_len, hx', hroll, g1, g2, l3, F4_d10, pl, s2, sI, g3, c1, and_self, if_true, g4, n8, Int.toNat_natCast, ← hone, b1, e1, c2, ← hS, b2, ← hch, c3, e2, c4, ag, dz, b3, b4, b5, b6, l7, F4_d34, yl, sane_ok]
end Go.Proofs.YtdmedeaknnldcaaGreatDoor
/- Packets that came in; PacketExact as a call. -/
namespace Go.Proofs.YtdmedeaknnldcaaGreatDoor
open Go.ChangeShapes Go.WideShapes Go.ChangeAt Go.RowKit Go.Deep
set_option linter.unusedVariables false
set_option linter.unusedSimpArgs false
set_option linter.unnecessarySimpa false
section
variable {H : Type} {enc : TypeId × Value → H} {w : World}
theorem cell_spot {P : Program} {r : Reach} {base : Nat} {t u e : TypeId} {fs : Array Field} {ts : List TypeId} {cs : Array Value} (hs : P.underlying t = some (.struct fs)) (hT : P.cellTypes P.depth t = some ts) (hn : P.cellsOf t = ts.length) (hv : Value.okWide P w r base t (.agg cs)) (i : Nat) (hi : ts[i]? = some u) (hu : P.underlying u = some (.slice e)) {a : Addr} {l c : Nat} (hc : cs[i]? = some (.slice (some a) l c)) : a.spot = none := by
  simp only [Value.okWide, hs] at hv
  obtain ⟨cs', h1, h2, ts', h3, -, h5⟩ := hv
  obtain rfl : cs = cs' := by injection h1
  obtain rfl : ts = ts' := by rw [hT] at h3; injection h3
  obtain ⟨u', h6, h7⟩ := h5 i _ hc
  have hlt : i < ts.length := (List.getElem?_eq_some_iff.1 hi).1
  rw [Nat.mod_eq_of_lt hlt, hi] at h6
  obtain rfl : u = u' := by injection h6
  simp [hu, Cell.okWide, Cell.ok, World.has] at h7
  exact h7.2.2.2.1
theorem sl_ints {P : Program} {t e : TypeId} {fuel : Nat} {v : Value} {x : DataW H × List MemPlace} (ht : P.underlying t = some (.slice e)) (he : P.underlying e = some (.int .i64)) (hc : P.cellsOf e = 1) (h : DataW.trod enc P w 0 (fun _ => true) true fuel t [v] = some x) (hs : ∀ a l c, v = .slice (some a) l c → a.spot = none) : IntsIn w v := by
  rcases open_ints ht he hc h with ⟨hcs, _⟩ | ⟨x, l, c, zs, hcs, _, hl, hm, hz, _, hcell, hwz⟩
  · injection hcs with hcs _
    subst hcs
    exact ints_nil w
  · injection hcs with hcs _
    subst hcs
    have hz2 : zs.length = c := by simpa using hz
    exact ints_of (zs := zs) (hs _ _ _ rfl) (by omega) (by omega) hm hcell hwz
structure Pv where
  a : ByteArray
  b : ByteArray
  c : ByteArray
  d : ByteArray
  x5 : Int
  x6 : Int
  x7 : Int
  x8 : Int
  x9 : Int
  x10 : Int
  x11 : Int
  past : Value
set_option maxRecDepth 4000 in
theorem packet_in {b0 : Nat} {v : Value} {d : DataW H} {p : List MemPlace} (hv : Value.okWide Tryz.prog w .any b0 40 v) (h : DataW.Trod enc Tryz.prog w 0 (fun _ => true) true 40 v d p) :
    ∃ r : Pv, v = .agg #[.string r.a, .string r.b, .string r.c, .string r.d, .int .i64 r.x5, .int .i64 r.x6, .int .i64 r.x7, .int .i64 r.x8, .int .i64 r.x9, .int .i64 r.x10, .int .i64 r.x11, r.past] ∧ IntsIn w r.past ∧ r.past.oneCell' = true ∧ (Small r.a ∧ Small r.b ∧ Small r.c ∧ Small r.d) := by
  obtain ⟨cs, rfl, h0⟩ := agg_in (n := 6) (ls := [.str, .str, .str, .str, .int .i64, .int .i64, .int .i64, .int .i64, .int .i64, .int .i64, .int .i64, .sl 22]) Tryz.underlying40 (by kernel_rfl) hv h
  obtain ⟨v0, s0, rfl, k0, h1⟩ := AllOk.cons h0
  obtain ⟨v1, s1, rfl, k1, h2⟩ := AllOk.cons h1
  obtain ⟨v2, s2, rfl, k2, h3⟩ := AllOk.cons h2
  obtain ⟨v3, s3, rfl, k3, h4⟩ := AllOk.cons h3
  obtain ⟨v4, s4, rfl, k4, h5⟩ := AllOk.cons h4
  obtain ⟨v5, s5, rfl, k5, h6⟩ := AllOk.cons h5
  obtain ⟨v6, s6, rfl, k6, h7⟩ := AllOk.cons h6
  obtain ⟨v7, s7, rfl, k7, h8⟩ := AllOk.cons h7
  obtain ⟨v8, s8, rfl, k8, h9⟩ := AllOk.cons h8
  obtain ⟨v9, s9, rfl, k9, h10⟩ := AllOk.cons h9
  obtain ⟨v10, s10, rfl, k10, h11⟩ := AllOk.cons h10
  obtain ⟨v11, s11, rfl, k11, h12⟩ := AllOk.cons h11
  obtain rfl := AllOk.nil h12
  obtain ⟨x0, rfl, z0⟩ := k0
  obtain ⟨x1, rfl, z1⟩ := k1
  obtain ⟨x2, rfl, z2⟩ := k2
  obtain ⟨x3, rfl, z3⟩ := k3
  obtain ⟨x4, rfl, -⟩ := k4
  obtain ⟨x5, rfl, -⟩ := k5
  obtain ⟨x6, rfl, -⟩ := k6
  obtain ⟨x7, rfl, -⟩ := k7
  obtain ⟨x8, rfl, -⟩ := k8
  obtain ⟨x9, rfl, -⟩ := k9
  obtain ⟨x10, rfl, -⟩ := k10
  obtain ⟨n, y, hy⟩ := k11
  have hin := sl_ints Tryz.underlying22 Tryz.underlying3 (by kernel_rfl) hy (fun a l c hvc => by
    subst hvc
    exact cell_spot (ts := [9, 9, 9, 9, 3, 3, 3, 3, 3, 3, 3, 22]) Tryz.underlying40 (by kernel_rfl) (by kernel_rfl) hv 11 rfl Tryz.underlying22 rfl)
  unfold maxLen at z0 z1 z2 z3
  refine ⟨⟨x0, x1, x2, x3, x4, x5, x6, x7, x8, x9, x10, v11⟩, rfl, hin, ?_, by unfold Small; omega, by unfold Small; omega, by unfold Small; omega, by unfold Small; omega⟩
  rcases DataW.trod_slice Tryz.underlying22 hy with ⟨hcs, -⟩ | ⟨a, len, cap, el, re, m, -, hcs, -⟩
  · injection hcs with hcs _
    subst hcs; rfl
  · injection hcs with hcs _
    subst hcs; rfl
end
set_option maxRecDepth 4000 in
/-- PacketExact returns true. -/
theorem packet_exact (a : Option Addr) (len cap : Nat) (raw : ByteArray) (r : Pv) (W : World) (hr : IntsIn W (.slice a len cap)) (hraw : raw.size ≤ 140737488351232) (hu : IntsIn W r.past) (ho : r.past.oneCell' = true) (hz : Small r.a ∧ Small r.b ∧ Small r.c ∧ Small r.d) (hgl : GlOk (memOf W) W [] (InT sig0 [])) :
    Calls Tryz.prog 4 #[.slice a len cap, .string raw, .agg #[.string r.a, .string r.b, .string r.c, .string r.d, .int .i64 r.x5, .int .i64 r.x6, .int .i64 r.x7, .int .i64 r.x8, .int .i64 r.x9, .int .i64 r.x10, .int .i64 r.x11, r.past]] W fun e w' => e = .returned (.bool true) ∧ Below W.heap.size W w' := by
  obtain ⟨xs, h1, h2, h3⟩ := hr
  obtain ⟨zs, k1, k2, k3⟩ := hu
  have ok := (F4_e 600).ok (rowsI xs, raw, r.a, r.b, r.c, r.d, r.x5, r.x6, r.x7, r.x8, r.x9, r.x10, r.x11, rowsI zs) true (exact_law xs h1 raw ⟨r.a, r.b, r.c, r.d, r.x5, r.x6, r.x7, r.x8, r.x9, r.x10, r.x11, zs⟩ hz.1 hz.2.1 hz.2.2.1 hz.2.2.2)
  refine CallOk.calls (args := [.list 1 (rowsI xs) none, .v (.string raw), .agg [.v (.string r.a), .v (.string r.b), .v (.string r.c), .v (.string r.d), .v (.int .i64 r.x5), .v (.int .i64 r.x6), .v (.int .i64 r.x7), .v (.int .i64 r.x8), .v (.int .i64 r.x9), .v (.int .i64 r.x10), .v (.int .i64 r.x11), .list 1 (rowsI zs) none]]) ok W _ rfl (fun n h h' => ?_) hgl
  have hn : n = 0 ∨ n = 1 ∨ n = 2 := by simp at h; omega
  rcases hn with rfl | rfl | rfl
  · exact h3 _ _
  · exact .v
  · refine .agg rfl (fun m hm => ?_) (fun m hm hm' => ?_)
    · have q : m = 0 ∨ m = 1 ∨ m = 2 ∨ m = 3 ∨ m = 4 ∨ m = 5 ∨ m = 6 ∨ m = 7 ∨ m = 8 ∨ m = 9 ∨ m = 10 ∨ m = 11 := by simp at hm; omega
      rcases q with rfl | rfl | rfl | rfl | rfl | rfl | rfl | rfl | rfl | rfl | rfl | rfl <;> first | exact ho | rfl
    · have q : m = 0 ∨ m = 1 ∨ m = 2 ∨ m = 3 ∨ m = 4 ∨ m = 5 ∨ m = 6 ∨ m = 7 ∨ m = 8 ∨ m = 9 ∨ m = 10 ∨ m = 11 := by simp at hm; omega
      rcases q with rfl | rfl | rfl | rfl | rfl | rfl | rfl | rfl | rfl | rfl | rfl | rfl <;> first | exact k3 _ _ | exact .v
end Go.Proofs.YtdmedeaknnldcaaGreatDoor
