/- Several texts as one (written by merge.py): PzA PzB PzS. -/
import Derived.Test.YtdmedeaknnldcaaGreatDoorPyB
import Derived.Test.YtdmedeaknnldcaaGreatDoorPkV
/- Packets: both packages' Valid for any packet. -/
namespace Go.Proofs.YtdmedeaknnldcaaGreatDoor
open Go.RowKit
set_option linter.unusedVariables false
set_option linter.unusedSimpArgs false
set_option linter.unnecessarySimpa false
theorem code_any {s : ByteArray} (lo hi : Int) (h : s.size ≤ 9223372036854775806) : F66_d 600 (s, lo, hi) = some (codeB s lo hi) := if_pos h
theorem rcode_any {s : ByteArray} (lo hi : Int) (h : s.size ≤ 9223372036854775806) : F69_d 600 (s, lo, hi) = some (codeB s lo hi) := if_pos h
/-- Whether a source is valid. -/
def sidB (a b c d : ByteArray) : Bool := codeB a 1 2 && (codeB b 1 5 && (codeB c 0 2 && (((c.size : Int) != 1) && codeB d 3 3)))
theorem codeB_size {s : ByteArray} {lo hi : Int} (h : codeB s lo hi = true) : lo ≤ (s.size : Int) ∧ (s.size : Int) ≤ hi := by
  unfold codeB at h
  simp only [Bool.and_eq_true, decide_eq_true_eq] at h
  exact h.2
theorem codeB_chars {s : ByteArray} {lo hi : Int} (h : codeB s lo hi = true) : s.data.toList.all okc = true := by
  unfold codeB at h
  simp only [Bool.and_eq_true] at h
  exact h.1
theorem sidB_size {a b c d : ByteArray} (h : sidB a b c d = true) : a.size ≤ 2 ∧ b.size ≤ 5 ∧ c.size ≤ 2 ∧ d.size ≤ 3 ∧ 1 ≤ a.size ∧ 1 ≤ b.size ∧ 3 ≤ d.size := by
  unfold sidB at h
  simp only [Bool.and_eq_true] at h
  have h1 := codeB_size h.1
  have h2 := codeB_size h.2.1
  have h3 := codeB_size h.2.2.1
  have h4 := codeB_size h.2.2.2.2
  omega
def Small (s : ByteArray) : Prop := s.size ≤ 9223372036854775806
theorem src_any {a b c d : ByteArray} (ha : Small a) (hb : Small b) (hc : Small c) (hd : Small d) : F37_d 600 (a, b, c, d) = some (sidB a b c d) := by
  have e1 := code_any 1 2 ha
  have e2 := code_any 1 5 hb
  have e3 := code_any 0 2 hc
  have e4 := code_any 3 3 hd
  unfold sidB
  simp only [F37_d, FSpec.d, F37_s, e1, e2, e3, e4]
  cases codeB a 1 2 <;> cases codeB b 1 5 <;> cases codeB c 0 2 <;> cases ((c.size : Int) != 1) <;> cases codeB d 3 3 <;> rfl
theorem empty_iff (c : ByteArray) : (c.toList == (⟨#[]⟩ : ByteArray).toList) = decide (c.size = 0) := by
  rw [ByteArray.toList_eq, ByteArray.toList_eq]
  have hs : c.size = c.data.toList.length := by simp
  rw [hs]
  cases h : c.data.toList with
  | nil => rfl
  | cons x r => rfl
theorem loc_eq (c : ByteArray) : (if c.size = 0 then true else codeB c 2 2) = (codeB c 0 2 && ((c.size : Int) != 1)) := by
  unfold codeB
  by_cases h0 : c.size = 0
  · rw [if_pos h0]
    have hl : c.data.toList = [] := List.length_eq_zero_iff.1 (by simpa using h0)
    rw [hl, h0]
    rfl
  · rw [if_neg h0]
    by_cases h1 : c.size = 1
    · rw [h1]
      cases c.data.toList.all okc <;> rfl
    · have e1 : ((c.size : Int) != 1) = true := by rw [bne_iff_ne]; omega
      have e2 : decide ((2 : Int) ≤ (c.size : Int)) = true := decide_eq_true (by omega)
      have e3 : decide ((0 : Int) ≤ (c.size : Int)) = true := decide_eq_true (by omega)
      rw [e1, e2, e3, Bool.and_true]
theorem rsrc_any {a b c d : ByteArray} (ha : Small a) (hb : Small b) (hc : Small c) (hd : Small d) : F40_d 600 (a, b, c, d) = some (sidB a b c d) := by
  have e1 := rcode_any 1 2 ha
  have e2 := rcode_any 1 5 hb
  have e3 := rcode_any 2 2 hc
  have e4 := rcode_any 3 3 hd
  have hl := loc_eq c
  have hs : sidB a b c d = (codeB a 1 2 && (codeB b 1 5 && ((codeB c 0 2 && ((c.size : Int) != 1)) && codeB d 3 3))) := by unfold sidB; rw [Bool.and_assoc (codeB c 0 2)]
  rw [hs, ← hl]
  simp only [F40_d, FSpec.d, F40_s, e1, e2, e3, e4, empty_iff]
  by_cases h0 : c.size = 0
  · rw [if_pos h0, decide_eq_true h0]
    cases codeB a 1 2 <;> cases codeB b 1 5 <;> cases codeB d 3 3 <;> rfl
  · rw [if_neg h0, decide_eq_false h0]
    cases codeB a 1 2 <;> cases codeB b 1 5 <;> cases codeB c 2 2 <;> cases codeB d 3 3 <;> rfl
/-! Rates. -/
theorem gcd_end (a : Int) (f : Nat) : (F68_l3 600).L (f + 1) (a, 0) = some a := rfl
theorem gcd_step (a b : Int) (hb : b ≠ 0) (f : Nat) : (F68_l3 600).L (f + 1) (a, b) = (F68_l3 600).L f (b, a.tmod b) := by
  show (F68_l3 600).b _ _ ((F68_l3 600).L f) some = _
  have c1 : (b != 0) = true := by rw [bne_iff_ne]; exact hb
  simp only [F68_l3, c1, if_neg hb]
theorem gcd_loop : ∀ (k : Nat) (a b : Int) (f : Nat), 0 ≤ a → 0 ≤ b → b < 2 ^ k → 2 * k + 1 ≤ f → ∃ g : Int, (F68_l3 600).L f (a, b) = some g
  | 0, a, b, f, ha, hb, hk, hf => by
    obtain ⟨f, rfl⟩ : ∃ f', f = f' + 1 := ⟨f - 1, by omega⟩
    have h1 : (2 : Int) ^ 0 = 1 := rfl
    obtain rfl : b = 0 := by omega
    exact ⟨a, gcd_end a f⟩
  | k + 1, a, b, f, ha, hb, hk, hf => by
    obtain ⟨f, rfl⟩ : ∃ f', f = f' + 2 := ⟨f - 2, by omega⟩
    by_cases h0 : b = 0
    · subst h0; exact ⟨a, gcd_end a _⟩
    · rw [gcd_step a b h0 (f + 1)]
      have r1 := Int.tmod_nonneg b ha
      have r2 := Int.tmod_lt_of_pos a (show 0 < b by omega)
      by_cases h1 : a.tmod b = 0
      · rw [h1]; exact ⟨b, gcd_end b _⟩
      · rw [gcd_step b (a.tmod b) h1 f]
        have q1 := Int.tmod_nonneg (a.tmod b) hb
        have q2 := Int.tmod_lt_of_pos b (show 0 < a.tmod b by omega)
        have q3 : b = (a.tmod b) * (b.tdiv (a.tmod b)) + b.tmod (a.tmod b) := (Int.mul_tdiv_add_tmod b (a.tmod b)).symm
        have q4 : 1 ≤ b.tdiv (a.tmod b) := by
          rw [Int.tdiv_eq_ediv_of_nonneg hb]
          exact (Int.le_ediv_iff_mul_le (by omega)).2 (by omega)
        have q5 : a.tmod b * 1 ≤ a.tmod b * b.tdiv (a.tmod b) := Int.mul_le_mul_of_nonneg_left q4 r1
        have hp : (2 : Int) ^ (k + 1) = 2 ^ k * 2 := Int.pow_succ 2 k
        exact gcd_loop k (a.tmod b) (b.tmod (a.tmod b)) f r1 q1 (by omega) (by omega)
theorem gcd_same (f : Nat) (x : Int × Int) : (F70_l3 600).L f x = (F68_l3 600).L f x := rfl
theorem rin67 (N : Nat) (x lo hi : Int) : F67_d N (x, lo, hi) = some (decide (lo ≤ x ∧ x ≤ hi)) := in_any N x lo hi
theorem rate_any (n d : Int) : ∃ v : Bool, F38_d 600 (n, d) = some v ∧ F41_d 600 (n, d) = some v ∧ (v = true → (1 ≤ n ∧ n ≤ 4096) ∧ (1 ≤ d ∧ d ≤ 4096)) := by
  by_cases h1 : 1 ≤ n ∧ n ≤ 4096
  · by_cases h2 : 1 ≤ d ∧ d ≤ 4096
    · have e13 : (2 : Int) ^ 13 = 8192 := by decide
      obtain ⟨g, hg⟩ := gcd_loop 13 n d 600 (by omega) (by omega) (by omega) (by omega)
      have hg2 : (F70_l3 600).L 600 (n, d) = some g := (gcd_same 600 _).trans hg
      refine ⟨g == 1, ?_, ?_, fun _ => ⟨h1, h2⟩⟩
      · have z : F68_d 600 (n, d) = some g := by
          simp only [F68_d, FSpec.d, F68_s, F68_d3, hg]
          try rfl
        simp only [F38_d, FSpec.d, F38_s, rin67, h1, h2, decide_true, and_self, z]
      · have z : F70_d 600 (n, d) = some g := by
          simp only [F70_d, FSpec.d, F70_s, F70_d3, hg2]
          try rfl
        simp only [F41_d, FSpec.d, F41_s, rin_any, h1, h2, decide_true, and_self, z]
    · refine ⟨false, ?_, ?_, fun h => by cases h⟩
      · simp only [F38_d, FSpec.d, F38_s, rin67, h1, h2, decide_true, decide_false, and_self]
      · simp only [F41_d, FSpec.d, F41_s, rin_any, h1, h2, decide_true, decide_false, and_self]
  · refine ⟨false, ?_, ?_, fun h => by cases h⟩
    · simp only [F38_d, FSpec.d, F38_s, rin67, h1, decide_false]
    · simp only [F41_d, FSpec.d, F41_s, rin_any, h1, decide_false]
/-- What a valid packet has. -/
structure VOk (a b c d : ByteArray) (run seq start num den clk err : Int) (X : List Int) (u : ByteArray) : Prop where
  src : sidB a b c d = true
  num : 1 ≤ num ∧ num ≤ 4096
  den : 1 ≤ den ∧ den ≤ 4096
  run : 0 ≤ run ∧ run ≤ 65535
  seq : 0 ≤ seq ∧ seq ≤ 1073741824
  start : 0 ≤ start ∧ start ≤ 9007199254740992
  clk : 0 ≤ clk ∧ clk ≤ 2
  err : 0 ≤ err ∧ err ≤ 1099511627776
  len : 1 ≤ X.length ∧ X.length ≤ 420
  enc : F34_d 600 (rowsI X) = some (u, 0)
  renc : F27_d 600 (rowsI X) = some (u, 0)
  usz : u.size ≤ 512
theorem valid_any {a b c d : ByteArray} (ha : Small a) (hb : Small b) (hc : Small c) (hd : Small d) (run seq start num den clk err : Int) (X : List Int) (hl : X.length ≤ 430) :
    ∃ v : Bool, F16_d 600 (a, b, c, d, run, seq, start, num, den, clk, err, rowsI X) = some v ∧ F17_d 600 (a, b, c, d, run, seq, start, num, den, clk, err, rowsI X) = some v ∧ (v = true → ∃ u, VOk a b c d run seq start num den clk err X u) := by
  have s1 := src_any ha hb hc hd
  have s2 := rsrc_any ha hb hc hd
  obtain ⟨r, r1, r2, r3⟩ := rate_any num den
  obtain ⟨u, e, u1, u2, u3⟩ := enc_any X hl
  have hnil : X.length = 0 → e ≠ 0 := fun h he => by
    have : X = [] := List.length_eq_zero_iff.1 h
    subst this
    subst he
    have q : F34_d 600 (rowsI []) = some (⟨#[]⟩, 1) := rfl
    rw [q] at u1
    injection u1 with u1
    injection u1 with _ u1
    exact absurd u1 (by decide)
  have no : ∀ p : Prop, (false = true → p) := fun p h => by cases h
  cases hs : sidB a b c d with
  | false =>
    rw [hs] at s1 s2
    exact ⟨false, by simp only [F16_d, FSpec.d, F16_s, s1, Bool.not_false], by simp only [F17_d, FSpec.d, F17_s, s2, Bool.not_false], no _⟩
  | true =>
  rw [hs] at s1 s2
  cases hr : r with
  | false =>
    rw [hr] at r1 r2
    exact ⟨false, by simp only [F16_d, FSpec.d, F16_s, s1, r1, Bool.not_true, Bool.not_false], by simp only [F17_d, FSpec.d, F17_s, s2, r2, Bool.not_true, Bool.not_false], no _⟩
  | true =>
  rw [hr] at r1 r2
  by_cases h1 : 0 ≤ run ∧ run ≤ 65535
  case neg => exact ⟨false, by simp only [F16_d, FSpec.d, F16_s, s1, r1, pin_no h1, Bool.not_true, Bool.not_false], by simp only [F17_d, FSpec.d, F17_s, s2, r2, rin_no h1, Bool.not_true, Bool.not_false], no _⟩
  by_cases h2 : 0 ≤ seq ∧ seq ≤ 1073741824
  case neg => exact ⟨false, by simp only [F16_d, FSpec.d, F16_s, s1, r1, pin_yes h1, pin_no h2, Bool.not_true, Bool.not_false], by simp only [F17_d, FSpec.d, F17_s, s2, r2, rin_yes h1, rin_no h2, Bool.not_true, Bool.not_false], no _⟩
  by_cases h3 : 0 ≤ start ∧ start ≤ 9007199254740992
  case neg => exact ⟨false, by simp only [F16_d, FSpec.d, F16_s, s1, r1, pin_yes h1, pin_yes h2, pin_no h3, Bool.not_true, Bool.not_false], by simp only [F17_d, FSpec.d, F17_s, s2, r2, rin_yes h1, rin_yes h2, rin_no h3, Bool.not_true, Bool.not_false], no _⟩
  by_cases h4 : 0 ≤ clk ∧ clk ≤ 2
  case neg => exact ⟨false, by simp only [F16_d, FSpec.d, F16_s, s1, r1, pin_yes h1, pin_yes h2, pin_yes h3, pin_no h4, Bool.not_true, Bool.not_false], by simp only [F17_d, FSpec.d, F17_s, s2, r2, rin_yes h1, rin_yes h2, rin_yes h3, rin_no h4, Bool.not_true, Bool.not_false], no _⟩
  by_cases h5 : 0 ≤ err ∧ err ≤ 1099511627776
  case neg => exact ⟨false, by simp only [F16_d, FSpec.d, F16_s, s1, r1, pin_yes h1, pin_yes h2, pin_yes h3, pin_yes h4, pin_no h5, Bool.not_true, Bool.not_false], by simp only [F17_d, FSpec.d, F17_s, s2, r2, rin_yes h1, rin_yes h2, rin_yes h3, rin_yes h4, rin_no h5, Bool.not_true, Bool.not_false], no _⟩
  by_cases h6 : X.length ≤ 420
  case neg =>
    have c1 : decide ((X.length : Int) > 420) = true := by rw [decide_eq_true_iff]; omega
    have c2 : ¬ ((1 : Int) ≤ (X.length : Int) ∧ (X.length : Int) ≤ 420) := by omega
    exact ⟨false, by simp only [F16_d, FSpec.d, F16_s, s1, r1, pin_yes h1, pin_yes h2, pin_yes h3, pin_yes h4, pin_yes h5, Bool.not_true, rowsI_len, c1], by simp only [F17_d, FSpec.d, F17_s, s2, r2, rin_yes h1, rin_yes h2, rin_yes h3, rin_yes h4, rin_yes h5, rowsI_len, rin_no c2, Bool.not_true, Bool.not_false], no _⟩
  have c1 : decide ((X.length : Int) > 420) = false := by rw [decide_eq_false_iff_not]; omega
  by_cases h7 : X.length = 0
  · have c2 : ¬ ((1 : Int) ≤ (X.length : Int) ∧ (X.length : Int) ≤ 420) := by omega
    have he : (e == 0) = false := beq_eq_false_iff_ne.2 (hnil h7)
    exact ⟨false, by simp only [F16_d, FSpec.d, F16_s, s1, r1, pin_yes h1, pin_yes h2, pin_yes h3, pin_yes h4, pin_yes h5, Bool.not_true, rowsI_len, c1, u1, he], by simp only [F17_d, FSpec.d, F17_s, s2, r2, rin_yes h1, rin_yes h2, rin_yes h3, rin_yes h4, rin_yes h5, rowsI_len, rin_no c2, Bool.not_true, Bool.not_false], no _⟩
  · have c2 : (1 : Int) ≤ (X.length : Int) ∧ (X.length : Int) ≤ 420 := by omega
    refine ⟨e == 0, by simp only [F16_d, FSpec.d, F16_s, s1, r1, pin_yes h1, pin_yes h2, pin_yes h3, pin_yes h4, pin_yes h5, Bool.not_true, rowsI_len, c1, u1], by simp only [F17_d, FSpec.d, F17_s, s2, r2, rin_yes h1, rin_yes h2, rin_yes h3, rin_yes h4, rin_yes h5, rowsI_len, rin_yes c2, Bool.not_true, u2], fun he => ⟨u, ?_⟩⟩
    have he : e = 0 := beq_iff_eq.1 he
    subst he
    exact ⟨hs, (r3 hr).1, (r3 hr).2, h1, h2, h3, h4, h5, by omega, u1, u2, by omega⟩
end Go.Proofs.YtdmedeaknnldcaaGreatDoor
/- Packets: both packages' Encode and Record for any packet. -/
namespace Go.Proofs.YtdmedeaknnldcaaGreatDoor
open Go.RowKit
set_option linter.unusedVariables false
set_option linter.unusedSimpArgs false
set_option linter.unnecessarySimpa false
theorem rputg_loop (n : Int) : ∀ (w f : Nat) (l : List Int), w < f → w ≤ 7 → l.length + w ≤ 900100 → (F28_l9 600).L f (rows8 l, n, (w : Int) - 1) = some (rows8 (l ++ beP w n))
  | 0, f, l, hf, hw, hl => by
    obtain ⟨g, rfl⟩ : ∃ g, f = g + 1 := ⟨f - 1, by omega⟩
    show (F28_l9 600).b _ _ ((F28_l9 600).L g) some = _
    have c0 : decide ((((0 : Nat) : Int) - 1) ≥ 0) = false := by rw [decide_eq_false_iff_not]; omega
    simp only [F28_l9, c0, beP, List.append_nil]
  | w + 1, f, l, hf, hw, hl => by
    obtain ⟨g, rfl⟩ : ∃ g, f = g + 1 := ⟨f - 1, by omega⟩
    have e : (((w + 1 : Nat) : Int) - 1) = ((w : Nat) : Int) := by omega
    rw [e, rput_step l (by omega) n w g (by omega), rputg_loop n w g _ (by omega) (by omega) (by simp; omega), List.append_assoc]
    rfl
theorem rput_lim : ∀ w : Nat, w < 8 → 1 ≤ w → IntKind.u64.wrap (i64 (8 * (w : Int))) = 8 * (w : Int) ∧ shL .i64 1 (8 * (w : Int)) = 2 ^ (8 * w) ∧ i64 ((w : Int) - 1) = (w : Int) - 1 := by
  intro w h1 h2
  rcases (show w = 1 ∨ w = 2 ∨ w = 3 ∨ w = 4 ∨ w = 5 ∨ w = 6 ∨ w = 7 by omega) with rfl | rfl | rfl | rfl | rfl | rfl | rfl <;> exact ⟨by kernel_rfl, by kernel_rfl, by kernel_rfl⟩
theorem rpute_ok (s : ByteArray) (hs : s.size ≤ 900000) {n : Int} (w : Nat) (hw : 1 ≤ w ∧ w ≤ 7) (hn : 0 ≤ n ∧ n < 2 ^ (8 * w)) : F28_d 600 (s, n, (w : Int)) = some (s ++ strOfNums (beP w n), 0) := by
  obtain ⟨e1, e2, e3⟩ := rput_lim w (by omega) hw.1
  have c : ¬ ((8 * (w : Int)) < 0) := by omega
  have i1 : F42_d 600 ((w : Int), 1, 7) = some true := rin_yes (by omega)
  have i2 : decide (n < 0) = false := by rw [decide_eq_false_iff_not]; omega
  have i3 : decide (n ≥ 2 ^ (8 * w)) = false := by rw [decide_eq_false_iff_not]; omega
  have hl := nums_len s
  have r := rputg_loop n w 600 (nums s) (by omega) hw.2 (by omega)
  simp only [F28_d, FSpec.d, F28_s, i1, Bool.not_true, e1, c, if_false, i2, e2, i3, e3, bytesL_eq, F28_d9, r, numsOf_rows8, strOf_app, strOf_nums]
theorem rfld_loop (v1 w1 v2 w2 v3 w3 v4 w4 v5 w5 v6 w6 v7 w7 v8 w8 v9 w9 v10 w10 v11 w11 : Int)
    (hL : ∀ q ∈ [(v1, w1), (v2, w2), (v3, w3), (v4, w4), (v5, w5), (v6, w6), (v7, w7), (v8, w8), (v9, w9), (v10, w10), (v11, w11)], FOk q) (nm dt : ByteArray) : ∀ (k i f : Nat) (out : ByteArray), k < f → i + k = 11 → out.size + 7 * k ≤ 800000 →
    (F9_l11 600).L f (nm, dt, out, v1, w1, v2, w2, v3, w3, v4, w4, v5, w5, v6, w6, v7, w7, v8, w8, v9, w9, v10, w10, v11, w11, (i : Int)) = some (nm, dt, out ++ strOfNums (fbs ([(v1, w1), (v2, w2), (v3, w3), (v4, w4), (v5, w5), (v6, w6), (v7, w7), (v8, w8), (v9, w9), (v10, w10), (v11, w11)].drop i)))
  | 0, i, f, out, hf, hi, ho => by
    obtain ⟨f, rfl⟩ : ∃ f', f = f' + 1 := ⟨f - 1, by omega⟩
    obtain rfl : i = 11 := by omega
    show (F9_l11 600).b _ _ ((F9_l11 600).L f) some = _
    have c : decide (((11 : Nat) : Int) < 11) = false := rfl
    have e2 : out ++ strOfNums (fbs ([(v1, w1), (v2, w2), (v3, w3), (v4, w4), (v5, w5), (v6, w6), (v7, w7), (v8, w8), (v9, w9), (v10, w10), (v11, w11)].drop 11)) = out := by
      apply ByteArray.ext
      show (out ++ strOfNums []).data = _
      simp [strOfNums]
    simp only [F9_l11, c, e2]
  | k + 1, i, f, out, hf, hi, ho => by
    obtain ⟨f, rfl⟩ : ∃ f', f = f' + 1 := ⟨f - 1, by omega⟩
    obtain ⟨L, hLL⟩ : ∃ L, L = [(v1, w1), (v2, w2), (v3, w3), (v4, w4), (v5, w5), (v6, w6), (v7, w7), (v8, w8), (v9, w9), (v10, w10), (v11, w11)] := ⟨_, rfl⟩
    have hlt : i < L.length := by rw [hLL]; show i < 11; omega
    have g : [AV.v (.int .i64 v1), AV.v (.int .i64 w1), AV.v (.int .i64 v2), AV.v (.int .i64 w2), AV.v (.int .i64 v3), AV.v (.int .i64 w3), AV.v (.int .i64 v4), AV.v (.int .i64 w4), AV.v (.int .i64 v5), AV.v (.int .i64 w5), AV.v (.int .i64 v6), AV.v (.int .i64 w6), AV.v (.int .i64 v7), AV.v (.int .i64 w7), AV.v (.int .i64 v8), AV.v (.int .i64 w8), AV.v (.int .i64 v9), AV.v (.int .i64 w9), AV.v (.int .i64 v10), AV.v (.int .i64 w10), AV.v (.int .i64 v11), AV.v (.int .i64 w11)][i * 2]? = some (AV.v (.int .i64 (L[i]).1)) ∧ [AV.v (.int .i64 v1), AV.v (.int .i64 w1), AV.v (.int .i64 v2), AV.v (.int .i64 w2), AV.v (.int .i64 v3), AV.v (.int .i64 w3), AV.v (.int .i64 v4), AV.v (.int .i64 w4), AV.v (.int .i64 v5), AV.v (.int .i64 w5), AV.v (.int .i64 v6), AV.v (.int .i64 w6), AV.v (.int .i64 v7), AV.v (.int .i64 w7), AV.v (.int .i64 v8), AV.v (.int .i64 w8), AV.v (.int .i64 v9), AV.v (.int .i64 w9), AV.v (.int .i64 v10), AV.v (.int .i64 w10), AV.v (.int .i64 v11), AV.v (.int .i64 w11)][i * 2 + 1]? = some (AV.v (.int .i64 (L[i]).2)) := by
      subst hLL
      rcases (show i = 0 ∨ i = 1 ∨ i = 2 ∨ i = 3 ∨ i = 4 ∨ i = 5 ∨ i = 6 ∨ i = 7 ∨ i = 8 ∨ i = 9 ∨ i = 10 by omega) with rfl | rfl | rfl | rfl | rfl | rfl | rfl | rfl | rfl | rfl | rfl <;> exact ⟨rfl, rfl⟩
    have r0 := rfld_loop v1 w1 v2 w2 v3 w3 v4 w4 v5 w5 v6 w6 v7 w7 v8 w8 v9 w9 v10 w10 v11 w11 hL nm dt k (i + 1) f
    rw [← hLL] at hL r0 ⊢
    obtain ⟨h1, h2, h3⟩ := hL _ (List.getElem_mem hlt)
    have ew : (((L[i]).2.toNat : Nat) : Int) = (L[i]).2 := Int.toNat_of_nonneg (by omega)
    have pu := rpute_ok out (by omega) (n := (L[i]).1) (L[i]).2.toNat (by omega) ⟨h2, h3⟩
    rw [ew] at pu
    have hsz : (out ++ strOfNums (beP (L[i]).2.toNat (L[i]).1)).size + 7 * k ≤ 800000 := by
      rw [ByteArray.size_append, strOf_size, beP_len]; omega
    have r1 := r0 (out ++ strOfNums (beP (L[i]).2.toNat (L[i]).1)) (by omega) (by omega) hsz
    have ed : L.drop i = L[i] :: L.drop (i + 1) := List.drop_eq_getElem_cons hlt
    have ea : out ++ strOfNums (beP (L[i]).2.toNat (L[i]).1) ++ strOfNums (fbs (L.drop (i + 1))) = out ++ strOfNums (fbs (L.drop i)) := by
      rw [ed, fbs_cons, strOf_app]
      exact ByteArray.append_assoc
    rw [ea] at r1
    have c1 : decide ((i : Int) < 11) = true := by rw [decide_eq_true_iff]; omega
    have c2 : (0 : Int) ≤ (i : Int) ∧ (i : Int) < 11 := by omega
    have c4 : i64 ((i : Int) + 1) = ((i + 1 : Nat) : Int) := by rw [i64_id (by omega)]; omega
    show (F9_l11 600).b _ _ ((F9_l11 600).L f) some = _
    obtain ⟨Lf, hL2⟩ : ∃ Lf, Lf = (F9_l11 600).L f := ⟨_, rfl⟩
    rw [← hL2] at r1 ⊢
    simp only [F9_l11, c1, c2, and_self, if_true, Int.toNat_natCast, g.1, g.2, pu, c4]
    exact r1
theorem joined_eq (a b c d : ByteArray) : joined [a, b, c, d] = ((((((a ++ dot) ++ b) ++ dot) ++ c) ++ dot) ++ d) := by
  apply ByteArray.ext
  apply Array.toList_inj.1
  show (Lib.join ([a, b, c, d].map (·.data.toList)) dot.data.toList).toArray.toList = _
  simp [Lib.join]
theorem joined_size (a b c d : ByteArray) : (joined [a, b, c, d]).size = a.size + b.size + c.size + d.size + 3 := by
  have h : dot.size = 1 := rfl
  rw [joined_eq]
  simp only [ByteArray.size_append, h]
  omega
theorem enc_both {a b c d : ByteArray} (ha : Small a) (hb : Small b) (hc : Small c) (hd : Small d) (run seq start num den clk err : Int) (X : List Int) (hl : X.length ≤ 430) :
    ∃ (s : ByteArray) (e : Int), F13_d 600 (a, b, c, d, run, seq, start, num, den, clk, err, rowsI X) = some (s, e) ∧ F9_d 600 (a, b, c, d, run, seq, start, num, den, clk, err, rowsI X) = some (s, e) ∧ s.size ≤ 570 ∧ (e = 0 → 4 ≤ s.size) := by
  obtain ⟨v, v1, v2, v3⟩ := valid_any ha hb hc hd run seq start num den clk err X hl
  cases hv : v with
  | false =>
    rw [hv] at v1 v2
    exact ⟨⟨#[]⟩, 1, by simp only [F13_d, FSpec.d, F13_s, v1, Bool.not_false], by simp only [F9_d, FSpec.d, F9_s, v2, Bool.not_false], by decide, fun h => by cases h⟩
  | true =>
  rw [hv] at v1 v2
  obtain ⟨u, V⟩ := v3 hv
  have hsz := sidB_size V.src
  have js := joined_size a b c d
  obtain ⟨fr, hfr⟩ : ∃ fr : Nat, fr = u.size / 64 := ⟨_, rfl⟩
  have usz := V.usz
  have fr8 : fr ≤ 8 := by omega
  have e64 : i64 ((u.size : Int).tdiv 64) = (fr : Int) := by
    have : (u.size : Int).tdiv 64 = ((u.size / 64 : Nat) : Int) := rfl
    rw [this, ← hfr]
    exact i64_id (by omega)
  have rl : (((rowsI X).length : Nat) : Int) = (X.length : Int) := by rw [rowsI_len]
  have s1 := src_any ha hb hc hd
  have s2 := rsrc_any ha hb hc hd
  rw [V.src] at s1 s2
  obtain ⟨nm, hnm⟩ : ∃ nm, nm = joined [a, b, c, d] := ⟨_, rfl⟩
  have nms : nm.size ≤ 15 := by rw [hnm]; omega
  have f1 : F33_d 600 (a, b, c, d) = some (nm, 0) := by
    have e : (joined [(a, b, c, d).1, (a, b, c, d).2.1, (a, b, c, d).2.2.1, (a, b, c, d).2.2.2]).size ≤ 140737488355328 := by show (joined [a, b, c, d]).size ≤ _; omega
    simp only [F33_d, FSpec.d, F33_s, s1]
    refine (if_pos e).trans ?_
    rw [hnm]
  have dz : (⟨#[46]⟩ : ByteArray).size = 1 := rfl
  have f2 : F26_d 600 (a, b, c, d) = some (nm, 0) := by
    have b1 : a.size + 1 ≤ 9223372036854775807 := by omega
    have b2 : (a ++ (⟨#[46]⟩ : ByteArray)).size + b.size ≤ 9223372036854775807 := by rw [ByteArray.size_append, dz]; omega
    have b3 : ((a ++ (⟨#[46]⟩ : ByteArray)) ++ b).size + 1 ≤ 9223372036854775807 := by rw [ByteArray.size_append, ByteArray.size_append, dz]; omega
    have b4 : (((a ++ (⟨#[46]⟩ : ByteArray)) ++ b) ++ (⟨#[46]⟩ : ByteArray)).size + c.size ≤ 9223372036854775807 := by rw [ByteArray.size_append, ByteArray.size_append, ByteArray.size_append, dz]; omega
    have b5 : ((((a ++ (⟨#[46]⟩ : ByteArray)) ++ b) ++ (⟨#[46]⟩ : ByteArray)) ++ c).size + 1 ≤ 9223372036854775807 := by rw [ByteArray.size_append, ByteArray.size_append, ByteArray.size_append, ByteArray.size_append, dz]; omega
    have b6 : (((((a ++ (⟨#[46]⟩ : ByteArray)) ++ b) ++ (⟨#[46]⟩ : ByteArray)) ++ c) ++ (⟨#[46]⟩ : ByteArray)).size + d.size ≤ 9223372036854775807 := by rw [ByteArray.size_append, ByteArray.size_append, ByteArray.size_append, ByteArray.size_append, ByteArray.size_append, dz]; omega
    simp only [F26_d, FSpec.d, F26_s, s2, Bool.not_true, dz, b1, b2, b3, b4, b5, b6, if_true]
    rw [hnm, joined_eq]
    rfl
  obtain ⟨L, hL⟩ : ∃ L : List (Int × Int), L = [(clk, 1), (run, 2), (seq, 4), (start, 7), (num, 2), (den, 2), (err, 6), ((X.length : Int), 2), ((nm.size : Int), 1), ((fr : Int), 1)] := ⟨_, rfl⟩
  have p1 : (2 : Int) ^ (8 * (1 : Int).toNat) = 256 := by decide
  have p2 : (2 : Int) ^ (8 * (2 : Int).toNat) = 65536 := by decide
  have p4 : (2 : Int) ^ (8 * (4 : Int).toNat) = 4294967296 := by decide
  have p6 : (2 : Int) ^ (8 * (6 : Int).toNat) = 281474976710656 := by decide
  have p7 : (2 : Int) ^ (8 * (7 : Int).toNat) = 72057594037927936 := by decide
  obtain ⟨-, h1, h2, h3, h4, h5, h6, h7, h8, ve, vre, -⟩ := V
  have ok1 : ∀ q ∈ (((1 : Int), (1 : Int)) :: L), FOk q := by
    intro q hq
    simp only [hL, List.mem_cons, List.not_mem_nil, or_false] at hq
    rcases hq with rfl | rfl | rfl | rfl | rfl | rfl | rfl | rfl | rfl | rfl | rfl <;> refine ⟨by omega, ?_⟩ <;> simp only [p1, p2, p4, p6, p7] <;> omega
  have ok : ∀ q ∈ L, FOk q := fun q hq => ok1 q (List.mem_cons_of_mem _ hq)
  have l10 : L.length = 10 := by rw [hL]; rfl
  have r := fld_loop L ok (by omega) nm u 10 0 600 ⟨#[83, 78, 1]⟩ (by omega) (by omega) (by show 3 + 7 * 10 ≤ 800000; omega)
  rw [l10, List.drop_zero] at r
  rw [hL] at ok1
  have rr := rfld_loop 1 1 clk 1 run 2 seq 4 start 7 num 2 den 2 err 6 (X.length : Int) 2 (nm.size : Int) 1 (fr : Int) 1 ok1 nm u 11 0 600 ⟨#[83, 78]⟩ (by omega) (by omega) (by show 2 + 7 * 11 ≤ 800000; omega)
  rw [List.drop_zero, ← hL] at rr
  have hh : (⟨#[83, 78]⟩ : ByteArray) ++ strOfNums (fbs (((1 : Int), (1 : Int)) :: L)) = (⟨#[83, 78, 1]⟩ : ByteArray) ++ strOfNums (fbs L) := by
    rw [fbs_cons, strOf_app, ← ByteArray.append_assoc]
    have : (⟨#[83, 78]⟩ : ByteArray) ++ strOfNums (beP (((1 : Int), (1 : Int))).2.toNat (((1 : Int), (1 : Int))).1) = (⟨#[83, 78, 1]⟩ : ByteArray) := by kernel_rfl
    rw [this]
  rw [hh] at rr
  obtain ⟨hdr, hhd⟩ : ∃ hd, hd = (⟨#[83, 78, 1]⟩ : ByteArray) ++ strOfNums (fbs L) := ⟨_, rfl⟩
  rw [← hhd] at r rr
  have hhs : hdr.size = 31 := by
    rw [hhd, ByteArray.size_append, strOf_size, fbs_len, hL]; rfl
  have b1 : hdr.size + nm.size ≤ 9223372036854775807 := by omega
  have b2 : (hdr ++ nm).size + u.size ≤ 9223372036854775807 := by rw [ByteArray.size_append]; omega
  have bsz : (hdr ++ nm ++ u).size + 4 ≤ 562 := by rw [ByteArray.size_append, ByteArray.size_append]; omega
  have cm : (hdr ++ nm ++ u).size + 4 ≤ maxLen := by unfold maxLen; omega
  have cr : F36_d 600 (hdr ++ nm ++ u) = some (appended (hdr ++ nm ++ u)) := if_pos cm
  have cr2 : F19_d 600 (hdr ++ nm ++ u) = some (appended (hdr ++ nm ++ u)) := if_pos cm
  have asz := appended_size (hdr ++ nm ++ u)
  refine ⟨appended (hdr ++ nm ++ u), 0, ?_, ?_, by omega, fun _ => by omega⟩
  · rw [hL] at r
    replace r : (F13_l11 600).L 600 ([[AV.v (.int .i64 clk), AV.v (.int .i64 1)], [AV.v (.int .i64 run), AV.v (.int .i64 2)], [AV.v (.int .i64 seq), AV.v (.int .i64 4)], [AV.v (.int .i64 start), AV.v (.int .i64 7)], [AV.v (.int .i64 num), AV.v (.int .i64 2)], [AV.v (.int .i64 den), AV.v (.int .i64 2)], [AV.v (.int .i64 err), AV.v (.int .i64 6)], [AV.v (.int .i64 (X.length : Int)), AV.v (.int .i64 2)], [AV.v (.int .i64 (nm.size : Int)), AV.v (.int .i64 1)], [AV.v (.int .i64 (fr : Int)), AV.v (.int .i64 1)]], nm, u, ⟨#[83, 78, 1]⟩, 10, 0) = some (nm, u, hdr) := r
    have l10' : (([[AV.v (.int .i64 clk), AV.v (.int .i64 1)], [AV.v (.int .i64 run), AV.v (.int .i64 2)], [AV.v (.int .i64 seq), AV.v (.int .i64 4)], [AV.v (.int .i64 start), AV.v (.int .i64 7)], [AV.v (.int .i64 num), AV.v (.int .i64 2)], [AV.v (.int .i64 den), AV.v (.int .i64 2)], [AV.v (.int .i64 err), AV.v (.int .i64 6)], [AV.v (.int .i64 (X.length : Int)), AV.v (.int .i64 2)], [AV.v (.int .i64 (nm.size : Int)), AV.v (.int .i64 1)], [AV.v (.int .i64 (fr : Int)), AV.v (.int .i64 1)]].length : Nat) : Int) = 10 := rfl
    simp only [F13_d, FSpec.d, F13_s, v1, Bool.not_true, f1, ve, rl, e64, l10', F13_d11, r, b1, b2, if_true, cr]
  · replace rr : (F9_l11 600).L 600 (nm, u, ⟨#[83, 78]⟩, 1, 1, clk, 1, run, 2, seq, 4, start, 7, num, 2, den, 2, err, 6, (X.length : Int), 2, (nm.size : Int), 1, (fr : Int), 1, 0) = some (nm, u, hdr) := rr
    simp only [F9_d, FSpec.d, F9_s, v2, Bool.not_true, f2, vre, rl, e64, F9_d11, rr, b1, b2, if_true, cr2]
end Go.Proofs.YtdmedeaknnldcaaGreatDoor
/- Packets: PacketStream. -/
namespace Go.Proofs.YtdmedeaknnldcaaGreatDoor
open Go.RowKit
set_option linter.unusedVariables false
set_option linter.unusedSimpArgs false
set_option linter.unnecessarySimpa false
/-- A header's fixed parts. -/
structure Hd (s : ByteArray) (nm n : Nat) : Prop where
  sz : 31 ≤ s.size
  mag : s.extract 0 3 = ⟨#[83, 78, 1]⟩
  g9 : gw (nums s) 29 1 = (nm : Int)
  g10 : gw (nums s) 30 1 = (n : Int)
theorem gw1 (l : List Int) (m : Nat) : gw l m 1 = l.getD m 0 := by
  show 0 * 256 + l.getD (m + 0) 0 = _
  rw [Nat.add_zero]; omega
theorem getD_take (l : List Int) (m k : Nat) (h : m < k) : (l.take k).getD m 0 = l.getD m 0 := by
  rw [List.getD_eq_getElem?_getD, List.getD_eq_getElem?_getD, List.getElem?_take, if_pos h]
theorem Hd.of_take {s t : ByteArray} {nm n : Nat} (h : Hd s nm n) (ht : 31 ≤ t.size) (e : (nums t).take 31 = (nums s).take 31) : Hd t nm n := by
  refine ⟨ht, ?_, ?_, ?_⟩
  · apply nums_inj
    rw [← h.mag, nums_ext, nums_ext, List.drop_zero, List.drop_zero]
    have e2 : ((nums t).take 31).take 3 = ((nums s).take 31).take 3 := by rw [e]
    rwa [List.take_take, List.take_take] at e2
  · rw [← h.g9, gw1, gw1, ← getD_take (nums t) 29 31 (by omega), ← getD_take (nums s) 29 31 (by omega), e]
  · rw [← h.g10, gw1, gw1, ← getD_take (nums t) 30 31 (by omega), ← getD_take (nums s) 30 31 (by omega), e]
theorem hd_length {s : ByteArray} {nm n : Nat} (N : Hd s nm n) (hz : s.size ≤ 100000) (hn : 8 ≤ nm ∧ nm ≤ 15) (hf : 1 ≤ n ∧ n ≤ 8) : F22_d 600 s = some (31 + (nm : Int) + 64 * (n : Int) + 4, 0) := by
  have h31 := N.sz
  obtain ⟨u1, x1, y1⟩ := byteN N.g9 (by omega)
  obtain ⟨u2, x2, y2⟩ := byteN N.g10 (by omega)
  have c0 : decide ((s.size : Int) < 31) = false := by rw [decide_eq_false_iff_not]; omega
  have z29 : (0 : Int) ≤ 29 := by omega
  have z30 : (0 : Int) ≤ 30 := by omega
  have z3 : (0 : Int) ≤ 3 ∧ (3 : Int) ≤ (s.size : Int) := by omega
  have t29 : (29 : Int).toNat = 29 := rfl
  have t30 : (30 : Int).toNat = 30 := rfl
  have t3 : (3 : Int).toNat = 3 := rfl
  have e1 : IntKind.i64.wrap (nm : Int) = (nm : Int) := i64_id (by omega)
  have e2 : IntKind.i64.wrap (n : Int) = (n : Int) := i64_id (by omega)
  have e3 : i64 (31 + (nm : Int)) = 31 + (nm : Int) := i64_id (by omega)
  have e4 : i64 (64 * (n : Int)) = 64 * (n : Int) := i64_id (by omega)
  have e5 : i64 (31 + (nm : Int) + 64 * (n : Int)) = 31 + (nm : Int) + 64 * (n : Int) := i64_id (by omega)
  have e6 : i64 (31 + (nm : Int) + 64 * (n : Int) + 4) = 31 + (nm : Int) + 64 * (n : Int) + 4 := i64_id (by omega)
  have p1 : F39_d 600 ((nm : Int), 8, 15) = some true := pin_yes (by omega)
  have p2 : F39_d 600 ((n : Int), 1, 8) = some true := pin_yes (by omega)
  simp only [F22_d, FSpec.d, F22_s, c0, z29, z30, z3, t29, t30, t3, x1, x2, y1, y2, and_self, if_true, N.mag, beq_self_eq_true, Bool.not_true, e1, e2, e3, e4, e5, e6, p1, p2]
/-- An encoding, as far as cutting a stream apart goes. -/
structure Ek (s : ByteArray) (nm n : Nat) : Prop where
  hd : Hd s nm n
  sz : s.size = 31 + nm + 64 * n + 4
  hn : 8 ≤ nm ∧ nm ≤ 15
  hf : 1 ≤ n ∧ n ≤ 8
def EkOk (s : ByteArray) : Prop := ∃ nm n, Ek s nm n
theorem Ek.len {s : ByteArray} {nm n : Nat} (E : Ek s nm n) {t : ByteArray} (ht : 31 ≤ t.size) (hz : t.size ≤ 100000) (e : (nums t).take 31 = (nums s).take 31) : F22_d 600 t = some ((s.size : Int), 0) := by
  have h := hd_length (E.hd.of_take ht e) hz E.hn E.hf
  rw [h, E.sz]
  have : (31 : Int) + (nm : Int) + 64 * (n : Int) + 4 = ((31 + nm + 64 * n + 4 : Nat) : Int) := by omega
  rw [this]
theorem EkOk.sz {s : ByteArray} (h : EkOk s) : 107 ≤ s.size ∧ s.size ≤ 562 := by
  obtain ⟨nm, n, E⟩ := h
  have := E.sz
  have := E.hn
  have := E.hf
  omega
def cat : List ByteArray → ByteArray
  | [] => ⟨#[]⟩
  | e :: r => e ++ cat r
theorem bext {a b : ByteArray} (h : nums a = nums b) : a = b := nums_inj h
theorem nums_nil : nums (⟨#[]⟩ : ByteArray) = [] := rfl
theorem nums_cat : ∀ L : List ByteArray, nums (cat L) = (L.map nums).flatten
  | [] => rfl
  | e :: r => by
    show nums (e ++ cat r) = _
    rw [nums_app, nums_cat r]
    rfl
theorem cat_snoc (L : List ByteArray) (s : ByteArray) : cat (L ++ [s]) = cat L ++ s := by
  apply bext
  rw [nums_cat, nums_app, nums_cat, List.map_append, List.flatten_append]
  simp
theorem nums_length (a : ByteArray) : (nums a).length = a.size := nums_len a
theorem ext_left (a b : ByteArray) : (a ++ b).extract 0 a.size = a := by
  apply bext
  rw [nums_ext, nums_app, List.drop_zero, List.take_left' (nums_len a)]
theorem ext_right (a b : ByteArray) : (a ++ b).extract a.size (a ++ b).size = b := by
  apply bext
  rw [nums_ext, nums_app, ByteArray.size_append, List.take_of_length_le (by rw [List.length_append, nums_len, nums_len]; exact Nat.le_refl _), List.drop_left' (nums_len a)]
theorem rowsS_len (l : List ByteArray) : (rowsS l).length = l.length := by simp [rowsS]
theorem rowsS_snoc (l : List ByteArray) (s : ByteArray) : rowsS l ++ [[AV.v (.string s)]] = rowsS (l ++ [s]) := by simp [rowsS]
theorem cut_step (L : List ByteArray) (hl : L.length ≤ 1000) {e : ByteArray} (he : EkOk e) (r : ByteArray) (hr : r.size ≤ 10000) (f : Nat) : (F11_l3 600).L (f + 1) (rowsS L, e ++ r) = (F11_l3 600).L f (rowsS (L ++ [e]), r) := by
  have hz := he.sz
  obtain ⟨nm, n, E⟩ := he
  have hs : (e ++ r).size = e.size + r.size := ByteArray.size_append
  have l := E.len (t := e ++ r) (by omega) (by omega) (by rw [nums_app, List.take_append_of_le_length (by rw [nums_len]; omega)])
  have z1 : ((0 : Int) == 3) = false := rfl
  have z2 : ((0 : Int) != 0) = false := rfl
  have c1 : decide (((e ++ r).size : Int) < (e.size : Int)) = false := by rw [decide_eq_false_iff_not]; omega
  have c2 : (0 : Int) ≤ (e.size : Int) ∧ (e.size : Int) ≤ ((e ++ r).size : Int) := by omega
  have b : ((rowsS L).length + 1) * 16 ≤ maxBytes := by rw [rowsS_len]; unfold maxBytes; omega
  show (F11_l3 600).b _ _ ((F11_l3 600).L f) some = _
  obtain ⟨Lf, hL⟩ : ∃ Lf, Lf = (F11_l3 600).L f := ⟨_, rfl⟩
  rw [← hL]
  simp only [F11_l3, l, z1, z2, c1, c2, and_self, if_true, Int.toNat_natCast, ext_left, ext_right, List.length_cons, List.length_nil, Nat.zero_add, b, rowsS_snoc]
  try exact if_pos trivial
theorem cut_short (R : List (List AV)) (y : ByteArray) (h : y.size < 31) (f : Nat) : (F11_l3 600).L (f + 1) (R, y) = some (R, y, 0) := by
  have c0 : decide ((y.size : Int) < 31) = true := by rw [decide_eq_true_iff]; omega
  have l : F22_d 600 y = some (0, 4) := by simp only [F22_d, FSpec.d, F22_s, c0]
  have z1 : ((4 : Int) == 3) = false := rfl
  have z2 : ((4 : Int) != 0) = true := rfl
  show (F11_l3 600).b _ _ ((F11_l3 600).L f) some = _
  simp only [F11_l3, l, z1, z2]
theorem cut_part (R : List (List AV)) {e : ByteArray} (he : EkOk e) (k : Nat) (hk : k < e.size) (r : ByteArray) (f : Nat) : (F11_l3 600).L (f + 1) (R, (e ++ r).extract 0 k) = some (R, (e ++ r).extract 0 k, 0) := by
  have hz := he.sz
  have hs : (e ++ r).size = e.size + r.size := ByteArray.size_append
  have es : ((e ++ r).extract 0 k).size = k := ext_size _ 0 k (by omega)
  by_cases h31 : k < 31
  · exact cut_short R _ (by omega) f
  · obtain ⟨nm, n, E⟩ := he
    have l := E.len (t := (e ++ r).extract 0 k) (by omega) (by omega) (by
      rw [nums_ext, List.drop_zero, nums_app, List.take_append_of_le_length (by rw [nums_len]; omega), List.take_take, Nat.min_eq_left (by omega)])
    have z1 : ((0 : Int) == 3) = false := rfl
    have z2 : ((0 : Int) != 0) = false := rfl
    have c1 : decide ((((e ++ r).extract 0 k).size : Int) < (e.size : Int)) = true := by rw [decide_eq_true_iff]; omega
    show (F11_l3 600).b _ _ ((F11_l3 600).L f) some = _
    simp only [F11_l3, l, z1, z2, c1]
theorem cat_size : ∀ L : List ByteArray, (∀ e ∈ L, EkOk e) → (cat L).size ≤ 562 * L.length
  | [], _ => Nat.le_refl _
  | e :: r, h => by
    show (e ++ cat r).size ≤ _
    have h1 := (h e List.mem_cons_self).sz
    have h2 := cat_size r fun x hx => h x (List.mem_cons_of_mem _ hx)
    rw [ByteArray.size_append, List.length_cons]
    omega
theorem cut_all : ∀ (Es : List ByteArray) (L : List ByteArray) (f : Nat), (∀ e ∈ Es, EkOk e) → Es.length ≤ 10 → L.length + Es.length ≤ 100 → Es.length < f → (F11_l3 600).L f (rowsS L, cat Es) = some (rowsS (L ++ Es), ⟨#[]⟩, 0)
  | [], L, f, hE, h1, h2, hf => by
    obtain ⟨f, rfl⟩ : ∃ f', f = f' + 1 := ⟨f - 1, by omega⟩
    rw [List.append_nil]
    exact cut_short _ _ (by show 0 < 31; omega) f
  | e :: r, L, f, hE, h1, h2, hf => by
    obtain ⟨f, rfl⟩ : ∃ f', f = f' + 1 := ⟨f - 1, by omega⟩
    have hr := cat_size r fun x hx => hE x (List.mem_cons_of_mem _ hx)
    simp only [List.length_cons] at h1 h2 hf
    show (F11_l3 600).L (f + 1) (rowsS L, e ++ cat r) = _
    rw [cut_step L (by omega) (hE e List.mem_cons_self) (cat r) (by omega) f]
    have ih := cut_all r (L ++ [e]) f (fun x hx => hE x (List.mem_cons_of_mem _ hx)) (by omega) (by simp; omega) (by omega)
    rw [List.append_assoc] at ih
    exact ih
theorem cut_pre : ∀ (Es : List ByteArray) (L : List ByteArray) (f k : Nat), (∀ e ∈ Es, EkOk e) → Es.length ≤ 10 → L.length + Es.length ≤ 100 → Es.length < f → k ≤ (cat Es).size →
    ∃ (j : Nat) (rst : ByteArray), (F11_l3 600).L f (rowsS L, (cat Es).extract 0 k) = some (rowsS (L ++ Es.take j), rst, 0) ∧ rst ++ (cat Es).extract k (cat Es).size = cat (Es.drop j) ∧ j ≤ Es.length
  | [], L, f, k, hE, h1, h2, hf, hk => by
    obtain ⟨f, rfl⟩ : ∃ f', f = f' + 1 := ⟨f - 1, by omega⟩
    have hk0 : k = 0 := by have : (cat []).size = 0 := rfl
                           omega
    subst hk0
    refine ⟨0, (cat []).extract 0 0, ?_, by rfl, Nat.le_refl _⟩
    rw [List.take_nil, List.append_nil]
    exact cut_short _ _ (by show 0 < 31; omega) f
  | e :: r, L, f, k, hE, h1, h2, hf, hk => by
    obtain ⟨f, rfl⟩ : ∃ f', f = f' + 1 := ⟨f - 1, by omega⟩
    have he := hE e List.mem_cons_self
    have hr := cat_size r fun x hx => hE x (List.mem_cons_of_mem _ hx)
    have hes := he.sz
    simp only [List.length_cons] at h1 h2 hf
    have hc : cat (e :: r) = e ++ cat r := rfl
    have hcs : (cat (e :: r)).size = e.size + (cat r).size := by rw [hc, ByteArray.size_append]
    by_cases hke : k < e.size
    · refine ⟨0, (e ++ cat r).extract 0 k, ?_, ?_, Nat.zero_le _⟩
      · rw [List.take_zero, List.append_nil, hc]
        exact cut_part _ he k hke (cat r) f
      · rw [List.drop_zero, hc]
        apply bext
        rw [nums_app, nums_ext, nums_ext, List.drop_zero]
        have : (nums (e ++ cat r)).take (e ++ cat r).size = nums (e ++ cat r) := List.take_of_length_le (by rw [nums_len]; exact Nat.le_refl _)
        rw [this, List.take_append_drop]
    · have hp : (cat (e :: r)).extract 0 k = e ++ (cat r).extract 0 (k - e.size) := by
        apply bext
        rw [nums_app, nums_ext, nums_ext, List.drop_zero, List.drop_zero, hc, nums_app, List.take_append, List.take_of_length_le (by rw [nums_len]; omega), nums_len]
      have hq : (cat (e :: r)).extract k (cat (e :: r)).size = (cat r).extract (k - e.size) (cat r).size := by
        apply bext
        rw [nums_ext, nums_ext, List.take_of_length_le (by rw [nums_len]; exact Nat.le_refl _), List.take_of_length_le (by rw [nums_len]; exact Nat.le_refl _), hc, nums_app, List.drop_append, List.drop_of_length_le (by rw [nums_len]; omega), nums_len, List.nil_append]
      obtain ⟨j, rst, i1, i2, i3⟩ := cut_pre r (L ++ [e]) f (k - e.size) (fun x hx => hE x (List.mem_cons_of_mem _ hx)) (by omega) (by simp; omega) (by omega) (by omega)
      refine ⟨j + 1, rst, ?_, ?_, by simp; omega⟩
      · rw [hp, cut_step L (by omega) he _ (by have : ((cat r).extract 0 (k - e.size)).size = k - e.size := ext_size _ _ _ (by omega)
                                               omega) f]
        rw [List.append_assoc] at i1
        exact i1
      · rw [hq, i2]
        rfl
theorem stream_loop {xs : List Int} (at_ : Int) : ∀ (k f : Nat) (Es : List ByteArray) (p : Int), k < f → (∀ e ∈ Es, EkOk e) → Es.length + k ≤ 10 → Dice xs p →
    ∃ Es' : List ByteArray, (F3_l11 600).L f (rowsS Es, at_, cat Es, (k : Int), rowsI xs, p) = some (rowsS Es', at_, cat Es') ∧ (∀ e ∈ Es', EkOk e) ∧ Es'.length ≤ 10
  | 0, f, Es, p, hf, hE, hl, D => by
    obtain ⟨f, rfl⟩ : ∃ f', f = f' + 1 := ⟨f - 1, by omega⟩
    refine ⟨Es, ?_, hE, by omega⟩
    show (F3_l11 600).b _ _ ((F3_l11 600).L f) some = _
    have c : decide (((0 : Nat) : Int) > 0) = false := rfl
    simp only [F3_l11, c]
  | k + 1, f, Es, p, hf, hE, hl, D => by
    obtain ⟨f, rfl⟩ : ∃ f', f = f' + 1 := ⟨f - 1, by omega⟩
    obtain ⟨a, b, c, d, run, seq, start, num, den, clk, err, X, p1, g1, P, D1⟩ := packet_ok D
    have own := enc_ok' P
    have esz := enc_size a b c d run seq start num den clk err X
    have hn := P.src.n
    have hf2 := P.nf
    have js := joined_size a b c d
    have N : EncN (enc a b c d run seq start num den clk err X) a b c d run seq start num den clk err X := encN P _ rfl
    have qa : Small a := by unfold Small; omega
    have qb : Small b := by unfold Small; omega
    have qc : Small c := by unfold Small; omega
    have qd : Small d := by unfold Small; omega
    have hXl := P.len
    obtain ⟨s, e, s1, s2, -, -⟩ := enc_both qa qb qc qd run seq start num den clk err X (by omega)
    rw [own] at s1
    injection s1 with s1
    injection s1 with s0 e0
    subst e0
    rw [s0] at esz N
    have hek : EkOk s := ⟨_, _, ⟨by omega, N.mag, N.g9, N.g10⟩, esz, hn, hf2⟩
    have hcs := cat_size Es hE
    obtain ⟨Es', r1, r2, r3⟩ := stream_loop at_ k f (Es ++ [s]) p1 (by omega) (fun x hx => by
      rcases List.mem_append.1 hx with hx | hx
      · exact hE x hx
      · have : x = s := by simpa using hx
        subst this; exact hek) (by simp; omega) D1
    refine ⟨Es', ?_, r2, r3⟩
    rw [cat_snoc] at r1
    show (F3_l11 600).b _ _ ((F3_l11 600).L f) some = _
    obtain ⟨Lf, hL⟩ : ∃ Lf, Lf = (F3_l11 600).L f := ⟨_, rfl⟩
    rw [← hL] at r1 ⊢
    have c1 : decide (((k + 1 : Nat) : Int) > 0) = true := by rw [decide_eq_true_iff]; omega
    have c2 : (cat Es).size + s.size ≤ 9223372036854775807 := by omega
    have b : ((rowsS Es).length + 1) * 16 ≤ maxBytes := by rw [rowsS_len]; unfold maxBytes; omega
    have e1 : i64 (((k + 1 : Nat) : Int) - 1) = (k : Int) := by rw [i64_id (by omega)]; omega
    simp only [F3_l11, c1, g1, s2, c2, if_true, List.length_cons, List.length_nil, Nat.zero_add, b, rowsS_snoc, e1]
    exact r1
theorem want_loop (L : List ByteArray) (hl : L.length ≤ 500) : ∀ (k i f : Nat), k < f → i + k = L.length →
    (F3_l30 600).L f (rowsS L, rowsS L, rowsS L, (L.length : Int), (i : Int)) = some (.inr ())
  | 0, i, f, hf, hi => by
    obtain ⟨f, rfl⟩ : ∃ f', f = f' + 1 := ⟨f - 1, by omega⟩
    show (F3_l30 600).b _ _ ((F3_l30 600).L f) some = _
    have c : decide ((i : Int) < (L.length : Int)) = false := by rw [decide_eq_false_iff_not]; omega
    simp only [F3_l30, c]
  | k + 1, i, f, hf, hi => by
    obtain ⟨f, rfl⟩ : ∃ f', f = f' + 1 := ⟨f - 1, by omega⟩
    have hlt : i < L.length := by omega
    have ih := want_loop L hl k (i + 1) f (by omega) (by omega)
    have c1 : decide ((i : Int) < (L.length : Int)) = true := by rw [decide_eq_true_iff]; omega
    have c2 : (0 : Int) ≤ (i : Int) := by omega
    have c4 : i64 ((i : Int) + 1) = ((i + 1 : Nat) : Int) := by rw [i64_id (by omega)]; omega
    show (F3_l30 600).b _ _ ((F3_l30 600).L f) some = _
    obtain ⟨Lf, hLf⟩ : ∃ Lf, Lf = (F3_l30 600).L f := ⟨_, rfl⟩
    rw [← hLf] at ih ⊢
    simp only [F3_l30, c1, c2, if_true, Int.toNat_natCast, rowsS_get L i hlt, List.getElem?_cons_zero, beq_self_eq_true, Bool.not_true, c4]
    exact ih
theorem stream_law (t : List Int) (ht : ∀ x ∈ t, -9223372036854775808 ≤ x ∧ x ≤ 9223372036854775807) (at_ : Int) (hat : 0 ≤ at_ ∧ at_ ≤ 65535) : F3_d 600 (rowsI t, at_) = some true := by
  by_cases hl : (t.length : Int) ≤ 500
  case neg => simp only [F3_d, FSpec.d, F3_s, light_ok, hl, decide_false, Bool.not_false, sane_ok]
  have D : Dice t 0 := ⟨ht, by omega, by omega, by omega⟩
  have hroll : F7_d 600 (rowsI t) = some (rowsI t, 0) := rfl
  obtain ⟨v, p1, g1, r1, D1⟩ := next_ok 600 (n := 4) (by omega) D
  obtain ⟨m, rfl⟩ : ∃ m : Nat, v = (m : Int) := ⟨v.toNat, by omega⟩
  obtain ⟨Es, q1, q2, q3⟩ := stream_loop at_ m 600 [] p1 (by omega) (by simp) (by simp; omega) D1
  replace q1 : (F3_l11 600).L 600 (([] : List (List AV)), at_, (⟨#[]⟩ : ByteArray), (m : Int), rowsI t, p1) = _ := q1
  obtain ⟨s, hs⟩ : ∃ s, s = cat Es := ⟨_, rfl⟩
  have hcs := cat_size Es q2
  rw [← hs] at q1 hcs
  obtain ⟨S, hS⟩ : ∃ S : Nat, S = s.size := ⟨_, rfl⟩
  have e1 : i64 ((s.size : Int) + 1) = ((S + 1 : Nat) : Int) := by rw [i64_id (by omega)]; omega
  have c0 : ¬ (((S + 1 : Nat) : Int) = 0) := by omega
  have w1 : IntKind.i64.wrap at_ = at_ := i64_id (by omega)
  obtain ⟨k, hk⟩ : ∃ k : Nat, at_.tmod ((S + 1 : Nat) : Int) = (k : Int) := ⟨(at_.tmod ((S + 1 : Nat) : Int)).toNat, by have := Int.tmod_nonneg ((S + 1 : Nat) : Int) hat.1; omega⟩
  have hk2 : k ≤ S := by
    have := Int.tmod_lt_of_pos at_ (show (0 : Int) < ((S + 1 : Nat) : Int) by omega)
    omega
  have c1 : (0 : Int) ≤ (k : Int) ∧ (k : Int) ≤ (s.size : Int) := by omega
  have full := cut_all Es [] 600 q2 q3 (by simp; omega) (by omega)
  rw [List.nil_append, ← hs] at full
  have d1 : F11_d 600 s = some (rowsS Es, ⟨#[]⟩, 0) := by
    replace full : (F11_l3 600).L 600 (([] : List (List AV)), s) = some (rowsS Es, ⟨#[]⟩, 0) := full
    simp only [F11_d, FSpec.d, F11_s, F11_d3, full]
  obtain ⟨j, rst, u1, u2, u3⟩ := cut_pre Es [] 600 k q2 q3 (by simp; omega) (by omega) (by rw [← hs]; omega)
  rw [List.nil_append, ← hs] at u1
  rw [← hs] at u2
  have d2 : F11_d 600 (s.extract 0 k) = some (rowsS (Es.take j), rst, 0) := by
    replace u1 : (F11_l3 600).L 600 (([] : List (List AV)), s.extract 0 k) = some (rowsS (Es.take j), rst, 0) := u1
    simp only [F11_d, FSpec.d, F11_s, F11_d3, u1]
  have dr := cut_all (Es.drop j) [] 600 (fun x hx => q2 x (List.mem_of_mem_drop hx)) (by simp; omega) (by simp; omega) (by simp; omega)
  rw [List.nil_append] at dr
  have d3 : F11_d 600 (cat (Es.drop j)) = some (rowsS (Es.drop j), ⟨#[]⟩, 0) := by
    replace dr : (F11_l3 600).L 600 (([] : List (List AV)), cat (Es.drop j)) = some (rowsS (Es.drop j), ⟨#[]⟩, 0) := dr
    simp only [F11_d, FSpec.d, F11_s, F11_d3, dr]
  have uz : rst.size + (s.extract k s.size).size ≤ 9223372036854775807 := by
    have h1 : (rst ++ s.extract k s.size).size = (cat (Es.drop j)).size := by rw [u2]
    rw [ByteArray.size_append] at h1
    have h2 := cat_size (Es.drop j) (fun x hx => q2 x (List.mem_of_mem_drop hx))
    have h3 : (Es.drop j).length ≤ 10 := by simp; omega
    omega
  have z : ((0 : Int) != 0) = false := rfl
  have lt : ((Es.take j).length : Int) + ((Es.drop j).length : Int) = (Es.length : Int) := by simp; omega
  have el : i64 (((rowsS (Es.take j)).length : Int) + ((rowsS (Es.drop j)).length : Int)) = (Es.length : Int) := by rw [rowsS_len, rowsS_len, lt, i64_id (by omega)]
  have lz : ((rowsS Es).length : Int) = (Es.length : Int) := by rw [rowsS_len]
  have bz : ((Es.length : Int) != (Es.length : Int)) = false := by simp
  have b1 : (rowsS (Es.take j)).length * 16 ≤ maxBytes := by rw [rowsS_len]; simp only [List.length_take]; unfold maxBytes; omega
  have b2 : ((rowsS (Es.take j)).length + (rowsS (Es.drop j)).length) * 16 ≤ maxBytes := by rw [rowsS_len, rowsS_len]; simp only [List.length_take, List.length_drop]; unfold maxBytes; omega
  have both : rowsS (Es.take j) ++ rowsS (Es.drop j) = rowsS Es := by
    show (Es.take j).map _ ++ (Es.drop j).map _ = _
    rw [← List.map_append, List.take_append_drop]
    rfl
  have wl := want_loop Es (by omega) Es.length 0 600 (by omega) (by omega)
  replace wl : (F3_l30 600).L 600 (rowsS Es, rowsS Es, rowsS Es, (Es.length : Int), 0) = some (.inr ()) := wl
  simp only [F3_d, FSpec.d, F3_s, light_ok, hl, decide_true, Bool.not_true, hroll, g1, F3_d11, q1, e1, c0, if_false, d1, w1, hk, c1, and_self, if_true, Int.toNat_natCast, d2, uz, u2, d3, z, beq_self_eq_true, lz, bz, el, b1, b2, both, F3_d30, wl, sane_ok]
/-- PacketStream returns true. -/
theorem packet_stream (a : Option Addr) (len cap : Nat) (x : Int) (W : World) (w : IntsIn W (.slice a len cap)) (hx : 0 ≤ x ∧ x ≤ 65535) (hgl : GlOk (memOf W) W [] (InT sig0 [])) : Calls Tryz.prog 3 #[.slice a len cap, .int .u16 x] W fun e w' => e = .returned (.bool true) ∧ Below W.heap.size W w' := by
  obtain ⟨xs, hb, hl, hr⟩ := w
  refine CallOk.calls ((F3_e 600).ok (rowsI xs, x) true (stream_law xs hb x hx)) W _ rfl (fun i h h' => ?_) hgl
  rcases (show i = 0 ∨ i = 1 by have : i < 2 := h'; omega) with rfl | rfl
  · exact hr _ _
  · exact .v
end Go.Proofs.YtdmedeaknnldcaaGreatDoor
