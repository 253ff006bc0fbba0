/- Natural numbers, the plain law: the dice, the chapter's examples; NatTexts. -/
import Derived.Test.YtlpebecbipjoaaaDoorNaG
namespace Go.Proofs.YtlpebecbipjoaaaDoor
set_option linter.unusedVariables false
set_option linter.unusedSimpArgs false
set_option linter.unnecessarySimpa false
open Go.Op (bytesLess)
structure Dice (xs : List Int) (p : Int) : Prop where
  b : ∀ x ∈ xs, -9223372036854775808 ≤ x ∧ x ≤ 9223372036854775807
  l : xs.length ≤ 500
  p0 : 0 ≤ p
  p1 : p ≤ 500
theorem next_ok (N : Nat) {n : Int} {xs : List Int} {p : Int} (hn : 1 ≤ n ∧ n ≤ 1000000) (D : Dice xs p) : ∃ v p', F27_d N (n, rowsI xs, p) = some (v, rowsI xs, p') ∧ (0 ≤ v ∧ v < n) ∧ Dice xs p' := by
  obtain ⟨b, l, p0, p1⟩ := D
  simp only [F27_d, FSpec.d, F27_s]
  by_cases h : p ≥ ((rowsI xs).length : Int)
  · simp only [h, decide_true]
    exact ⟨0, p, rfl, by omega, ⟨b, l, p0, p1⟩⟩
  · have h1 : ¬ n < 1 := by omega
    have h2 : p.toNat < xs.length := by rw [rowsI_len] at h; omega
    have h3 : ¬ n = 0 := by omega
    simp only [h, decide_false, h1, p0, if_true, rowsI_get xs _ h2, List.getElem?_cons_zero, h3, if_false]
    have hb := b _ (List.getElem_mem h2)
    have hp : i64 (p + 1) = p + 1 := i64_id (by omega)
    by_cases hneg : (xs[p.toNat]).tmod n < 0
    · simp only [hneg, decide_true, hp]
      have t1 : -n < (xs[p.toNat]).tmod n := by
        have := Int.tmod_lt_of_pos (-xs[p.toNat]) (show 0 < n by omega)
        rw [Int.neg_tmod] at this
        omega
      rw [i64_id (by omega)]
      exact ⟨_, _, rfl, by omega, ⟨b, l, by omega, by rw [rowsI_len] at h; omega⟩⟩
    · simp only [hneg, decide_false, hp]
      have t1 := Int.tmod_lt_of_pos xs[p.toNat] (show 0 < n by omega)
      exact ⟨_, _, rfl, by omega, ⟨b, l, by omega, by rw [rowsI_len] at h; omega⟩⟩
theorem pick_ok (N : Nat) (O : List Int) {xs : List Int} {p : Int} (hO : 1 ≤ O.length ∧ O.length ≤ 1000) (D : Dice xs p) : ∃ v p', F28_d N (rowsI O, rowsI xs, p) = some (v, rowsI xs, p') ∧ v ∈ O ∧ Dice xs p' := by
  simp only [F28_d, FSpec.d, F28_s]
  obtain ⟨v, p', h1, h2, h3⟩ := next_ok N (n := (O.length : Int)) (by omega) D
  rw [rowsI_len, h1]
  have h4 : v.toNat < O.length := by omega
  simp only [h2.1, if_true, rowsI_get O _ h4, List.getElem?_cons_zero]
  exact ⟨_, _, rfl, List.getElem_mem h4, h3⟩
theorem nat_loop {xs : List Int} : ∀ (k f : Nat) (acc : List Int) (p : Int), k < f → acc.length + k ≤ 100 → Dg acc → Dice xs p → ∃ acc' p', (F10_l5 600).L f (rowsI acc, (k : Int), rowsI xs, p) = some (rowsI acc', rowsI xs, p') ∧ acc'.length = acc.length + k ∧ Dg acc' ∧ Dice xs p'
  | 0, f, acc, p, hf, hl, hd, D => by
    obtain ⟨f, rfl⟩ : ∃ f', f = f' + 1 := ⟨f - 1, by omega⟩
    refine ⟨acc, p, ?_, rfl, hd, D⟩
    show (F10_l5 600).b _ _ ((F10_l5 600).L f) some = _
    generalize (F10_l5 600).L f = Lf
    simp only [F10_l5, decide_eq_false (show ¬ (((0 : Nat) : Int) > 0) by omega)]
  | k + 1, f, acc, p, hf, hl, hd, D => by
    obtain ⟨f, rfl⟩ : ∃ f', f = f' + 1 := ⟨f - 1, by omega⟩
    obtain ⟨v, p1, h1, h2, h3⟩ := next_ok 600 (n := 1000) (by omega) D
    obtain ⟨w, p2, g1, g2, g3⟩ := pick_ok 600 [0, 1, 1073741823, v, 536870912] (by simp) h3
    have hw : 0 ≤ w ∧ w < 1073741824 := by
      simp only [List.mem_cons, List.not_mem_nil, or_false] at g2
      omega
    obtain ⟨acc', p', e1, e2, e3, e4⟩ := nat_loop k f (acc ++ [w]) p2 (by omega) (by simp; omega) (hd.app (Dg.one hw)) g3
    refine ⟨acc', p', ?_, by rw [e2]; simp; omega, e3, e4⟩
    show (F10_l5 600).b _ _ ((F10_l5 600).L f) some = _
    generalize (F10_l5 600).L f = Lf at e1 ⊢
    have g4 : i64 (((k + 1 : Nat) : Int) - 1) = (k : Int) := by rw [i64_id (by omega)]; omega
    have hs := room (rowsI acc).length (by rw [rowsI_len]; omega) w
    have g1' : F28_d 600 ([[AV.v (.int .i64 0)], [AV.v (.int .i64 1)], [AV.v (.int .i64 1073741823)], [AV.v (.int .i64 v)], [AV.v (.int .i64 536870912)]], rowsI xs, p1) = some (w, rowsI xs, p2) := g1
    simp only [F10_l5, decide_eq_true (show (((k + 1 : Nat) : Int) > 0) by omega), h1, g1', g4, rowsI_snoc]
    exact (if_pos hs).trans e1
theorem ntrim_loop (rx : List (List AV)) (p : Int) : ∀ (k f : Nat) (xs : List Int), xs.length = k → k ≤ 100000 → k < f → (F10_l13 600).L f (rowsI xs, rx, p) = some (rowsI (trimZ xs), rx, p)
  | 0, f, xs, hl, _, hf => by
    obtain ⟨f, rfl⟩ : ∃ f', f = f' + 1 := ⟨f - 1, by omega⟩
    obtain rfl : xs = [] := List.length_eq_zero_iff.1 hl
    show (F10_l13 600).b _ _ ((F10_l13 600).L f) some = _
    generalize (F10_l13 600).L f = Lf
    rfl
  | k + 1, f, xs, hl, hk, hf => by
    obtain ⟨f, rfl⟩ : ∃ f', f = f' + 1 := ⟨f - 1, by omega⟩
    obtain ⟨ys, x, rfl, hy⟩ := snoc_of hl
    have r := ntrim_loop rx p k f ys hy (by omega) (by omega)
    show (F10_l13 600).b _ _ ((F10_l13 600).L f) some = _
    generalize (F10_l13 600).L f = Lf at r ⊢
    have e1 : i64 (((ys ++ [x]).length : Int) - 1) = (k : Int) := by rw [hl, i64_id (by omega)]; omega
    have e2 : decide (((ys ++ [x]).length : Int) > 0) = true := by rw [decide_eq_true_iff]; omega
    have e3 : ((rowsI (ys ++ [x]))[((k : Int)).toNat]? : Option (List AV)) = some [AV.v (.int .i64 x)] := by
      rw [show ((k : Int)).toNat = k by omega, rowsI_get _ k (by omega)]
      simp [← hy]
    have e4 : (rowsI (ys ++ [x])).take ((k : Int)).toNat = rowsI ys := by
      rw [show ((k : Int)).toNat = k by omega, rowsI_take, ← hy]; simp
    have h0 : (0 : Int) ≤ (k : Int) := by omega
    have h1 : (0 : Int) ≤ (k : Int) ∧ (k : Int) ≤ ((ys ++ [x]).length : Int) := by omega
    by_cases hx : x = 0
    · have c : (x == 0) = true := by simp [hx]
      simp only [F10_l13, rowsI_len, e1, e2, e3, List.getElem?_cons_zero, c, e4]
      subst hx
      rw [trimZ_snoc0]
      exact (if_pos h0).trans ((if_pos trivial).trans ((if_pos h1).trans r))
    · have c : (x == 0) = false := by simp [hx]
      simp only [F10_l13, rowsI_len, e1, e2, e3, List.getElem?_cons_zero, c]
      have : trimZ (ys ++ [x]) = ys ++ [x] := trim_id (by simp [NoZ]; exact hx)
      rw [this]
      exact (if_pos h0).trans (if_pos trivial)
/-- A number of the dice. -/
theorem nat_ok {xs : List Int} {p : Int} {m : Nat} (hm : m ≤ 50) (D : Dice xs p) : ∃ V p', F10_d 600 ((m : Int), rowsI xs, p) = some (rowsI (nf V), rowsI xs, p') ∧ V < Bs ^ m ∧ Dice xs p' := by
  have e : i64 ((m : Int) + 1) = ((m + 1 : Nat) : Int) := by rw [i64_id (by omega)]; omega
  obtain ⟨v, p1, h1, h2, h3⟩ := next_ok 600 (n := ((m + 1 : Nat) : Int)) (by omega) D
  obtain ⟨k, rfl⟩ := Int.eq_ofNat_of_zero_le h2.1
  obtain ⟨acc, p2, g1, g2, g3, g4⟩ := nat_loop k 600 [] p1 (by omega) (by simp; omega) Dg.nil h3
  have L1 : F10_d5 600 (([] : List (List AV)), (k : Int), rowsI xs, p1) = some (rowsI acc, rowsI xs, p2) := g1
  have hk : acc.length = k := by rw [g2]; simp
  have L2 : F10_d13 600 (rowsI acc, rowsI xs, p2) = some (rowsI (nf (vv acc)), rowsI xs, p2) := by
    have := ntrim_loop (rowsI xs) p2 acc.length 600 acc rfl (by omega) (by omega)
    rw [trim_nf g3] at this
    exact this
  refine ⟨vv acc, p2, ?_, ?_, g4⟩
  · simp only [F10_d, FSpec.d, F10_s, e, h1, L1, L2]
  · have := vv_lt g3
    rw [hk] at this
    exact Nat.lt_of_lt_of_le this (Nat.pow_le_pow_right (by decide) (by omega))
theorem roll_ok (xs : List Int) : F9_d 600 (rowsI xs) = some (rowsI xs, 0) := rfl
theorem light_ok (xs : List Int) : F7_d 600 (rowsI xs) = some (decide ((xs.length : Int) ≤ 500)) := by simp only [F7_d, FSpec.d, F7_s, rowsI_len]
theorem nf_two60 : nf 1152921504606846976 = [0, 0, 1] := by
  rw [nf_pos (by decide), nf_pos (by decide), nf_pos (by decide)]
  simp [nf_zero]
theorem nf_two30 : nf 1073741824 = [0, 1] := by
  rw [nf_pos (by decide), nf_pos (by decide)]
  simp [nf_zero]
theorem dec_two60 : Lib.decDigits 1152921504606846976 = [49, 49, 53, 50, 57, 50, 49, 53, 48, 52, 54, 48, 54, 56, 52, 54, 57, 55, 54] := by
  rw [Lib.decDigits_eq, Lib.nDigits_unique 18 _ (by decide) (by decide)]
  decide
theorem sane_ok : F8_d 600 () = some true := by
  have P : F12_d 600 (⟨#[49, 49, 53, 50, 57, 50, 49, 53, 48, 52, 54, 48, 54, 56, 52, 54, 57, 55, 54]⟩ : ByteArray) = some (rowsI [0, 0, 1], 0) := by
    have := parse_dec (V := 1152921504606846976) (by decide)
    rw [dec_two60, nf_two60] at this
    exact this
  have T : F11_d 600 ([[AV.v (.int .i64 0)], [AV.v (.int .i64 0)], [AV.v (.int .i64 1)]]) = some ((⟨#[49, 49, 53, 50, 57, 50, 49, 53, 48, 52, 54, 48, 54, 56, 52, 54, 57, 55, 54]⟩ : ByteArray), 0) := by
    have := text_ok (a := [0, 0, 1]) ⟨by simp, by intro x hx; simp at hx; omega, by simp [NoZ]⟩
    rw [show vv [0, 0, 1] = 1152921504606846976 from rfl, dec_two60] at this
    exact this
  have F : F17_d 600 1073741824 = some (rowsI [0, 1], 0) := by
    have := from_ok (n := 1073741824) (by omega)
    rw [show ((1073741824 : Int)).toNat = 1073741824 from rfl, nf_two30] at this
    exact this
  have S1 : F14_d 600 (rowsI [0, 0, 1], [[AV.v (.int .i64 0)], [AV.v (.int .i64 0)], [AV.v (.int .i64 1)]]) = some true := by
    have := same_ok (a := [0, 0, 1]) (b := [0, 0, 1]) (by simp)
    exact this.trans (by simp)
  have S2 : F14_d 600 (rowsI [0, 1], [[AV.v (.int .i64 0)], [AV.v (.int .i64 1)]]) = some true := by
    have := same_ok (a := [0, 1]) (b := [0, 1]) (by simp)
    exact this.trans (by simp)
  have z : ((0 : Int) == 0) = true := rfl
  simp only [F8_d, FSpec.d, F8_s, P, T, F, z, S1, S2, beq_self_eq_true]
theorem cmpV_lt (A B : Nat) : decide (cmpV A B < 0) = decide (A < B) := by
  unfold cmpV cmpI
  by_cases h : A < B
  · rw [if_pos (by omega), decide_eq_true h]; rfl
  · rw [if_neg (by omega), decide_eq_false h]
    split <;> rfl
theorem cmpV_eq (A B : Nat) : (cmpV A B == 0) = decide (A = B) := by
  unfold cmpV cmpI
  by_cases h : A < B
  · rw [if_pos (by omega), decide_eq_false (by omega)]; rfl
  · rw [if_neg (by omega)]
    by_cases h2 : A > B
    · rw [if_pos (by omega), decide_eq_false (by omega)]; rfl
    · rw [if_neg (by omega), decide_eq_true (by omega)]; rfl
theorem bytes_irr : ∀ l : List UInt8, bytesLess l l = false
  | [] => rfl
  | c :: r => by simp only [bytesLess]; rw [bytes_irr r]; simp
theorem bytes_asym : ∀ a b : List UInt8, bytesLess a b = true → bytesLess b a = false
  | [], [], h => by cases h
  | [], _ :: _, _ => rfl
  | _ :: _, [], h => by cases h
  | p :: a, q :: b, h => by
    simp only [bytesLess, Bool.or_eq_true, Bool.and_eq_true, decide_eq_true_eq, beq_iff_eq] at h
    simp only [bytesLess, Bool.or_eq_false_iff, Bool.and_eq_false_iff, decide_eq_false_iff_not]
    rcases h with h | ⟨rfl, h2⟩
    · refine ⟨fun e => ?_, .inl ?_⟩
      · rw [UInt8.lt_iff_toNat_lt] at h e; omega
      · rw [beq_eq_false_iff_ne]; intro e; subst e
        rw [UInt8.lt_iff_toNat_lt] at h; omega
    · refine ⟨fun e => ?_, .inr (bytes_asym a b h2)⟩
      rw [UInt8.lt_iff_toNat_lt] at e; omega
/-- Of two decimal numerals of one length the lesser number's comes first. -/
theorem dec_order {A B : Nat} (h : (Lib.decDigits A).length = (Lib.decDigits B).length) : bytesLess (Lib.decDigits A) (Lib.decDigits B) = decide (A < B) := by
  rw [Lib.decDigits_length, Lib.decDigits_length] at h
  have hA := Lib.lt_pow_nDigits A
  have hB := Lib.lt_pow_nDigits B
  rw [dec_pad, dec_pad, h]
  rw [h] at hA
  rcases Nat.lt_trichotomy A B with q | q | q
  · rw [pad_less _ q hB, decide_eq_true q]
  · subst q; rw [bytes_irr]; simp
  · rw [bytes_asym _ _ (pad_less _ q hA), decide_eq_false (by omega)]
theorem dec_longer {A B : Nat} (h : (Lib.decDigits A).length < (Lib.decDigits B).length) : A < B := by
  rw [Lib.decDigits_length, Lib.decDigits_length] at h
  have hA := Lib.lt_pow_nDigits A
  have hp := Lib.nDigits_pos A
  rcases Nat.eq_zero_or_pos B with z | z
  · subst z; rw [Lib.nDigits_small (by omega : 0 < 10)] at h; omega
  · have hB := dec_lo B z
    have : 10 ^ Lib.nDigits A ≤ 10 ^ (Lib.nDigits B - 1) := Nat.pow_le_pow_right (by omega) (by omega)
    omega
theorem dec_inj {A B : Nat} (h : Lib.decDigits A = Lib.decDigits B) : A = B := by rw [← pv_dec A, ← pv_dec B, h]
theorem texts_law {xs : List Int} (hb : ∀ x ∈ xs, -9223372036854775808 ≤ x ∧ x ≤ 9223372036854775807) : F3_d 600 (rowsI xs) = some true := by
  by_cases hl : (xs.length : Int) ≤ 500
  · obtain ⟨A, p1, a1, a2, a3⟩ := nat_ok (xs := xs) (p := 0) (m := 8) (by omega) ⟨hb, by omega, by omega, by omega⟩
    obtain ⟨B, p2, b1, b2, b3⟩ := nat_ok (m := 8) (by omega) a3
    have a64 : A < Bs ^ 64 := Nat.lt_of_lt_of_le a2 (Nat.pow_le_pow_right (by decide) (by omega))
    have b64 : B < Bs ^ 64 := Nat.lt_of_lt_of_le b2 (Nat.pow_le_pow_right (by decide) (by omega))
    have TA := text_ok (VN.nf a64)
    have TB := text_ok (VN.nf b64)
    have PA := parse_dec a64
    have C := cmpX_ok (VN.nf a64) (VN.nf b64)
    rw [vv_nf] at TA TB C
    rw [vv_nf] at C
    have S := same_ok (a := nf A) (b := nf A) (by have := (VN.nf a64).1; omega)
    have z : ((0 : Int) != 0) = false := rfl
    have hpos := Lib.nDigits_pos A
    have ne : (Lib.decDigits A == []) = false := by
      rw [beq_eq_false_iff_ne]; intro e
      have := Lib.decDigits_length A
      rw [e] at this; simp at this; omega
    have z0 : (⟨#[]⟩ : ByteArray).toList = [] := by rw [ByteArray.toList_eq]
    have a1' : F10_d 600 (8, rowsI xs, 0) = some (rowsI (nf A), rowsI xs, p1) := a1
    have b1' : F10_d 600 (8, rowsI xs, p1) = some (rowsI (nf B), rowsI xs, p2) := b1
    have S' : F14_d 600 (rowsI (nf A), rowsI (nf A)) = some true := S.trans (by simp)
    -- the last part
    have last : (match (((BB (Lib.decDigits A)).size : Int) != ((BB (Lib.decDigits B)).size : Int)) with
        | true => (match ((decide (cmpV A B < 0)) == (decide (((BB (Lib.decDigits A)).size : Int) < ((BB (Lib.decDigits B)).size : Int)))) with | true => (match F8_d 600 () with | some y12 => some y12 | none => none) | false => some false)
        | false => (match ((decide (cmpV A B < 0)) == (Go.Op.bytesLess (BB (Lib.decDigits A)).toList (BB (Lib.decDigits B)).toList)) with | true => (match ((cmpV A B == 0) == ((BB (Lib.decDigits A)).toList == (BB (Lib.decDigits B)).toList)) with | true => (match F8_d 600 () with | some y13 => some y13 | none => none) | false => some false) | false => some false)) = some true := by
      rw [BB_list, BB_list, BB_size, BB_size, cmpV_lt, cmpV_eq, sane_ok]
      by_cases hlen : (Lib.decDigits A).length = (Lib.decDigits B).length
      · have c : (((Lib.decDigits A).length : Int) != ((Lib.decDigits B).length : Int)) = false := by rw [hlen]; simp
        have c2 : (Lib.decDigits A == Lib.decDigits B) = decide (A = B) := by
          by_cases h : A = B
          · subst h; simp
          · rw [decide_eq_false h, beq_eq_false_iff_ne]
            exact fun e => h (dec_inj e)
        rw [c, dec_order hlen, c2]
        simp
      · have c : (((Lib.decDigits A).length : Int) != ((Lib.decDigits B).length : Int)) = true := by rw [bne_iff_ne]; omega
        have c2 : decide (((Lib.decDigits A).length : Int) < ((Lib.decDigits B).length : Int)) = decide (A < B) := by
          rcases Nat.lt_or_gt_of_ne hlen with q | q
          · have := dec_longer q
            rw [decide_eq_true (by omega), decide_eq_true this]
          · have := dec_longer q
            rw [decide_eq_false (by omega), decide_eq_false (by omega)]
        rw [c, c2]
        simp
    by_cases hone : (Lib.decDigits A).length = 1
    · have c1 : decide (((BB (Lib.decDigits A)).size : Int) > 1) = false := by rw [BB_size, decide_eq_false_iff_not]; omega
      simp only [F3_d, FSpec.d, F3_s, light_ok, decide_eq_true hl, Bool.not_true, roll_ok, a1', b1', TA, TB, PA, C, z, S', BB_list, z0, ne, c1]
      simp only [BB_list] at last
      exact last
    · have c1 : decide (((BB (Lib.decDigits A)).size : Int) > 1) = true := by
        rw [BB_size, decide_eq_true_iff, Lib.decDigits_length]
        rw [Lib.decDigits_length] at hone
        omega
      have hA0 : 0 < A := by
        rcases Nat.eq_zero_or_pos A with q | q
        · subst q
          rw [Lib.decDigits_length, Lib.nDigits_small (by omega)] at hone
          exact absurd rfl hone
        · exact q
      obtain ⟨ch, r, e, hch⟩ := dec_head hA0
      have g0 : (BB (Lib.decDigits A))[((0 : Int)).toNat]? = some ch := by
        rw [e]; exact BB_get (ch :: r) 0 (by simp)
      have c48 : ((ch.toNat : Int) == 48) = false := by
        rw [beq_eq_false_iff_ne]
        intro e2
        apply hch
        apply UInt8.toNat_inj.1
        show ch.toNat = 48
        omega
      simp only [F3_d, FSpec.d, F3_s, light_ok, decide_eq_true hl, Bool.not_true, roll_ok, a1', b1', TA, TB, PA, C, z, S', BB_list, z0, ne, c1, g0, c48]
      simp only [BB_list] at last
      exact (if_pos (show (0 : Int) ≤ 0 by omega)).trans last
  · simp only [F3_d, FSpec.d, F3_s, light_ok, decide_eq_false hl, Bool.not_false, sane_ok]
end Go.Proofs.YtlpebecbipjoaaaDoor
