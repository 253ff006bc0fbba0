/- Natural numbers, the plain law: the dice, the chapter's examples; NatTexts. -/
import Derived.Test.YtlpebecbipjoaaaGreatDoorNaG
namespace Go.Proofs.YtlpebecbipjoaaaGreatDoor
set_option linter.unusedVariables false
set_option linter.unusedSimpArgs false
set_option linter.unnecessarySimpa false
open Go.Op (bytesLess)
theorem nf_two60 : nf 1152921504606846976 = [0, 0, 1] := by
  rw [nf_pos (by decide), nf_pos (by decide), nf_pos (by decide)]
  simp [nf_zero]
theorem nf_two30 : nf 1073741824 = [0, 1] := by
  rw [nf_pos (by decide), nf_pos (by decide)]
  simp [nf_zero]
theorem dec_two60 : Lib.decDigits 1152921504606846976 = [49, 49, 53, 50, 57, 50, 49, 53, 48, 52, 54, 48, 54, 56, 52, 54, 57, 55, 54] := by
  rw [Lib.decDigits_eq, Lib.nDigits_unique 18 _ (by decide) (by decide)]
  decide
theorem sane_ok : F5_d 600 () = some true := by
  have P : F27_d 600 (⟨#[49, 49, 53, 50, 57, 50, 49, 53, 48, 52, 54, 48, 54, 56, 52, 54, 57, 55, 54]⟩ : ByteArray) = some (rowsI [0, 0, 1], 0) := by
    have := parse_dec (V := 1152921504606846976) (by decide)
    rw [dec_two60, nf_two60] at this
    exact this
  have T : F23_d 600 ([[AV.v (.int .i64 0)], [AV.v (.int .i64 0)], [AV.v (.int .i64 1)]]) = some ((⟨#[49, 49, 53, 50, 57, 50, 49, 53, 48, 52, 54, 48, 54, 56, 52, 54, 57, 55, 54]⟩ : ByteArray), 0) := by
    have := text_ok (a := [0, 0, 1]) ⟨by simp, by intro x hx; simp at hx; omega, by simp [NoZ]⟩
    rw [show vv [0, 0, 1] = 1152921504606846976 from rfl, dec_two60] at this
    exact this
  have F : F38_d 600 1073741824 = some (rowsI [0, 1], 0) := by
    have := from_ok (n := 1073741824) (by omega)
    rw [show ((1073741824 : Int)).toNat = 1073741824 from rfl, nf_two30] at this
    exact this
  have S1 : F15_d 600 (rowsI [0, 0, 1], [[AV.v (.int .i64 0)], [AV.v (.int .i64 0)], [AV.v (.int .i64 1)]]) = some true := by
    have := same_ok (a := [0, 0, 1]) (b := [0, 0, 1]) (by simp)
    exact this.trans (by simp)
  have S2 : F15_d 600 (rowsI [0, 1], [[AV.v (.int .i64 0)], [AV.v (.int .i64 1)]]) = some true := by
    have := same_ok (a := [0, 1]) (b := [0, 1]) (by simp)
    exact this.trans (by simp)
  have z : ((0 : Int) == 0) = true := rfl
  simp only [F5_d, FSpec.d, F5_s, P, T, F, z, S1, S2, beq_self_eq_true]
theorem cmpV_lt (A B : Nat) : decide (cmpV A B < 0) = decide (A < B) := by
  unfold cmpV cmpI
  by_cases h : A < B
  · rw [if_pos (by omega), decide_eq_true h]; rfl
  · rw [if_neg (by omega), decide_eq_false h]
    split <;> rfl
theorem cmpV_eq (A B : Nat) : (cmpV A B == 0) = decide (A = B) := by
  unfold cmpV cmpI
  by_cases h : A < B
  · rw [if_pos (by omega), decide_eq_false (by omega)]; rfl
  · rw [if_neg (by omega)]
    by_cases h2 : A > B
    · rw [if_pos (by omega), decide_eq_false (by omega)]; rfl
    · rw [if_neg (by omega), decide_eq_true (by omega)]; rfl
theorem bytes_irr : ∀ l : List UInt8, bytesLess l l = false
  | [] => rfl
  | c :: r => by simp only [bytesLess]; rw [bytes_irr r]; simp
theorem bytes_asym : ∀ a b : List UInt8, bytesLess a b = true → bytesLess b a = false
  | [], [], h => by cases h
  | [], _ :: _, _ => rfl
  | _ :: _, [], h => by cases h
  | p :: a, q :: b, h => by
    simp only [bytesLess, Bool.or_eq_true, Bool.and_eq_true, decide_eq_true_eq, beq_iff_eq] at h
    simp only [bytesLess, Bool.or_eq_false_iff, Bool.and_eq_false_iff, decide_eq_false_iff_not]
    rcases h with h | ⟨rfl, h2⟩
    · refine ⟨fun e => ?_, .inl ?_⟩
      · rw [UInt8.lt_iff_toNat_lt] at h e; omega
      · rw [beq_eq_false_iff_ne]; intro e; subst e
        rw [UInt8.lt_iff_toNat_lt] at h; omega
    · refine ⟨fun e => ?_, .inr (bytes_asym a b h2)⟩
      rw [UInt8.lt_iff_toNat_lt] at e; omega
/-- Of two decimal numerals of one length the lesser number's comes first. -/
theorem dec_order {A B : Nat} (h : (Lib.decDigits A).length = (Lib.decDigits B).length) : bytesLess (Lib.decDigits A) (Lib.decDigits B) = decide (A < B) := by
  rw [Lib.decDigits_length, Lib.decDigits_length] at h
  have hA := Lib.lt_pow_nDigits A
  have hB := Lib.lt_pow_nDigits B
  rw [dec_pad, dec_pad, h]
  rw [h] at hA
  rcases Nat.lt_trichotomy A B with q | q | q
  · rw [pad_less _ q hB, decide_eq_true q]
  · subst q; rw [bytes_irr]; simp
  · rw [bytes_asym _ _ (pad_less _ q hA), decide_eq_false (by omega)]
theorem dec_longer {A B : Nat} (h : (Lib.decDigits A).length < (Lib.decDigits B).length) : A < B := by
  rw [Lib.decDigits_length, Lib.decDigits_length] at h
  have hA := Lib.lt_pow_nDigits A
  have hp := Lib.nDigits_pos A
  rcases Nat.eq_zero_or_pos B with z | z
  · subst z; rw [Lib.nDigits_small (by omega : 0 < 10)] at h; omega
  · have hB := dec_lo B z
    have : 10 ^ Lib.nDigits A ≤ 10 ^ (Lib.nDigits B - 1) := Nat.pow_le_pow_right (by omega) (by omega)
    omega
theorem dec_inj {A B : Nat} (h : Lib.decDigits A = Lib.decDigits B) : A = B := by rw [← pv_dec A, ← pv_dec B, h]
end Go.Proofs.YtlpebecbipjoaaaGreatDoor
