/- Natural numbers, the plain law: NatAlgebra, NatFractions. -/
import Derived.Test.YtlpebecbipjoaaaGreatDoorNaH
namespace Go.Proofs.YtlpebecbipjoaaaGreatDoor
set_option linter.unusedVariables false
set_option linter.unusedSimpArgs false
set_option linter.unnecessarySimpa false
theorem lim_small {V : Nat} (h : V < Bs ^ 64) : limR V = (rowsI (nf V), 0) := by unfold limR; rw [if_pos h]
theorem addN {A B : Nat} (ha : A < Bs ^ 64) (hb : B < Bs ^ 64) (hs : A + B < Bs ^ 64) : F9_d 600 (rowsI (nf A), rowsI (nf B)) = some (rowsI (nf (A + B)), 0) := by
  have := add_ok (VN.nf ha) (VN.nf hb)
  rw [vv_nf, vv_nf, lim_small hs] at this
  exact this
theorem subN {A B : Nat} (ha : A < Bs ^ 64) (hb : B < Bs ^ 64) (hs : B ≤ A) : F11_d 600 (rowsI (nf A), rowsI (nf B)) = some (rowsI (nf (A - B)), 0) := by
  have := sub_ok (VN.nf ha) (VN.nf hb)
  rw [vv_nf, vv_nf, if_neg (by omega)] at this
  exact this
theorem mulN {A B : Nat} (ha : A < Bs ^ 64) (hb : B < Bs ^ 64) (hs : A * B < Bs ^ 64) : F13_d 600 (rowsI (nf A), rowsI (nf B)) = some (rowsI (nf (A * B)), 0) := by
  have := mulx_ok (VN.nf ha) (VN.nf hb)
  rw [vv_nf, vv_nf, lim_small hs] at this
  exact this
theorem divN {A : Nat} (ha : A < Bs ^ 64) {d : Int} (hd : 1 ≤ d ∧ d < 1073741824) : F19_d 600 (rowsI (nf A), d) = some (rowsI (nf (A / d.toNat)), ((A % d.toNat : Nat) : Int), 0) := by
  have := divs_ok (VN.nf ha) hd
  rw [vv_nf] at this
  exact this
theorem sameN {A B : Nat} (ha : A < Bs ^ 64) : F15_d 600 (rowsI (nf A), rowsI (nf B)) = some (decide (A = B)) := by
  have := same_ok (a := nf A) (b := nf B) (by have := (VN.nf ha).1; omega)
  rw [this]
  congr 1
  by_cases h : A = B
  · subst h; simp
  · have h2 : nf A ≠ nf B := fun e => h (by rw [← vv_nf A, ← vv_nf B, e])
    rw [decide_eq_false h, decide_eq_false h2]
theorem pw {a b k : Nat} {A : Nat} (h : A < Bs ^ a) (hk : a ≤ k) : A < Bs ^ k := Nat.lt_of_lt_of_le h (Nat.pow_le_pow_right (by decide) hk)
theorem pw_add {a k : Nat} {A B : Nat} (h : A < Bs ^ a) (h' : B < Bs ^ a) (hk : a + 1 ≤ k) : A + B < Bs ^ k := by
  refine pw (a := a + 1) (b := 0) ?_ hk
  rw [bs_pow]
  generalize Bs ^ a = P at *
  omega
theorem pw_mul {a b k : Nat} {A B : Nat} (h : A < Bs ^ a) (h' : B < Bs ^ b) (hk : a + b ≤ k) : A * B < Bs ^ k := by
  refine pw (a := a + b) (b := 0) ?_ hk
  rw [Nat.pow_add]
  exact Nat.mul_lt_mul'' h h'
/-! Fractions. -/
theorem vfN {A B : Nat} (ha : A < Bs ^ 64) (hb : B < Bs ^ 64) (hB : 0 < B) : F36_d 600 (rowsI (nf A), rowsI (nf B)) = some true := by
  have hne : (0 : Int) < ((nf B).length : Int) := by
    rw [nf_pos (by omega)]; simp
  simp only [F36_d, FSpec.d, F36_s, valid_ok (VN.nf ha), valid_ok (VN.nf hb), rowsI_len, decide_eq_true (show (((nf B).length : Int) > 0) from hne)]
theorem mulL {A B : Nat} (ha : A < Bs ^ 64) (hb : B < Bs ^ 64) : F47_d 600 (rowsI (nf A), rowsI (nf B)) = some (rowsI (nf (A * B))) := by
  have := mul_ok (nf_dg A) (nf_dg B) (by have h1 := (VN.nf ha).1; have h2 := (VN.nf hb).1; omega)
  rw [vv_nf, vv_nf] at this
  exact this
theorem cmpN {A B : Nat} (ha : A < Bs ^ 128) : F44_d 600 (rowsI (nf A), rowsI (nf B)) = some (cmpV A B) := by
  have := cmp_ok (nf_dg A) (nf_dg B) (nf_noz A) (nf_noz B) (by have := (nf_len 128 A).2 ha; omega)
  rw [vv_nf, vv_nf] at this
  exact this
theorem crossN {A B C D : Nat} (ha : A < Bs ^ 64) (hb : B < Bs ^ 64) (hc : C < Bs ^ 64) (hd : D < Bs ^ 64) : F59_d 600 (rowsI (nf A), rowsI (nf B), rowsI (nf C), rowsI (nf D)) = some (cmpV (A * D) (C * B)) := by
  simp only [F59_d, FSpec.d, F59_s, mulL ha hd, mulL hc hb, cmpN (pw_mul ha hd (show 64 + 64 ≤ 128 by omega))]
theorem eqN {A B C D : Nat} (ha : A < Bs ^ 64) (hb : B < Bs ^ 64) (hc : C < Bs ^ 64) (hd : D < Bs ^ 64) (hB : 0 < B) (hD : 0 < D) : F31_d 600 (rowsI (nf A), rowsI (nf B), rowsI (nf C), rowsI (nf D)) = some (decide (A * D = C * B), 0) := by
  simp only [F31_d, FSpec.d, F31_s, vfN ha hb hB, vfN hc hd hD, Bool.not_true, crossN ha hb hc hd, cmpV_eq]
theorem lessN {A B C D : Nat} (ha : A < Bs ^ 64) (hb : B < Bs ^ 64) (hc : C < Bs ^ 64) (hd : D < Bs ^ 64) (hB : 0 < B) (hD : 0 < D) : F29_d 600 (rowsI (nf A), rowsI (nf B), rowsI (nf C), rowsI (nf D)) = some (decide (A * D < C * B), 0) := by
  simp only [F29_d, FSpec.d, F29_s, vfN ha hb hB, vfN hc hd hD, Bool.not_true, crossN ha hb hc hd, cmpV_lt]
theorem limN {V : Nat} (h : V < Bs ^ 64) : F42_d 600 (rowsI (nf V)) = some (rowsI (nf V), 0) := by
  have := lim_ok (xs := nf V) (by have := (VN.nf h).1; omega) (nf_dg V)
  rw [vv_nf, lim_small h] at this
  exact this
theorem timesN {A B C D : Nat} (ha : A < Bs ^ 64) (hb : B < Bs ^ 64) (hc : C < Bs ^ 64) (hd : D < Bs ^ 64) (hB : 0 < B) (hD : 0 < D) (h1 : A * C < Bs ^ 64) (h2 : B * D < Bs ^ 64) : F33_d 600 (rowsI (nf A), rowsI (nf B), rowsI (nf C), rowsI (nf D)) = some (rowsI (nf (A * C)), rowsI (nf (B * D)), 0) := by
  have z : ((0 : Int) != 0) = false := rfl
  simp only [F33_d, FSpec.d, F33_s, vfN ha hb hB, vfN hc hd hD, Bool.not_true, mulL ha hc, mulL hb hd, limN h1, limN h2, z]
end Go.Proofs.YtlpebecbipjoaaaGreatDoor
