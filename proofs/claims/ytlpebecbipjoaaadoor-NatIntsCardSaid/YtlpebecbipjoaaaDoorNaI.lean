/- Natural numbers, the plain law: NatAlgebra, NatFractions. -/
import Derived.Test.YtlpebecbipjoaaaDoorNaH
namespace Go.Proofs.YtlpebecbipjoaaaDoor
set_option linter.unusedVariables false
set_option linter.unusedSimpArgs false
set_option linter.unnecessarySimpa false
theorem lim_small {V : Nat} (h : V < Bs ^ 64) : limR V = (rowsI (nf V), 0) := by unfold limR; rw [if_pos h]
theorem addN {A B : Nat} (ha : A < Bs ^ 64) (hb : B < Bs ^ 64) (hs : A + B < Bs ^ 64) : F16_d 600 (rowsI (nf A), rowsI (nf B)) = some (rowsI (nf (A + B)), 0) := by
  have := add_ok (VN.nf ha) (VN.nf hb)
  rw [vv_nf, vv_nf, lim_small hs] at this
  exact this
theorem subN {A B : Nat} (ha : A < Bs ^ 64) (hb : B < Bs ^ 64) (hs : B ≤ A) : F24_d 600 (rowsI (nf A), rowsI (nf B)) = some (rowsI (nf (A - B)), 0) := by
  have := sub_ok (VN.nf ha) (VN.nf hb)
  rw [vv_nf, vv_nf, if_neg (by omega)] at this
  exact this
theorem mulN {A B : Nat} (ha : A < Bs ^ 64) (hb : B < Bs ^ 64) (hs : A * B < Bs ^ 64) : F23_d 600 (rowsI (nf A), rowsI (nf B)) = some (rowsI (nf (A * B)), 0) := by
  have := mulx_ok (VN.nf ha) (VN.nf hb)
  rw [vv_nf, vv_nf, lim_small hs] at this
  exact this
theorem divN {A : Nat} (ha : A < Bs ^ 64) {d : Int} (hd : 1 ≤ d ∧ d < 1073741824) : F25_d 600 (rowsI (nf A), d) = some (rowsI (nf (A / d.toNat)), ((A % d.toNat : Nat) : Int), 0) := by
  have := divs_ok (VN.nf ha) hd
  rw [vv_nf] at this
  exact this
theorem sameN {A B : Nat} (ha : A < Bs ^ 64) : F14_d 600 (rowsI (nf A), rowsI (nf B)) = some (decide (A = B)) := by
  have := same_ok (a := nf A) (b := nf B) (by have := (VN.nf ha).1; omega)
  rw [this]
  congr 1
  by_cases h : A = B
  · subst h; simp
  · have h2 : nf A ≠ nf B := fun e => h (by rw [← vv_nf A, ← vv_nf B, e])
    rw [decide_eq_false h, decide_eq_false h2]
theorem add1 {A B : Nat} (ha : A < Bs ^ 64) (hb : B < Bs ^ 64) (hs : A + B < Bs ^ 64) : F21_d 600 (rowsI (nf A), rowsI (nf B)) = some (rowsI (nf (A + B))) := by
  simp only [F21_d, FSpec.d, F21_s, addN ha hb hs]
theorem mul1 {A B : Nat} (ha : A < Bs ^ 64) (hb : B < Bs ^ 64) (hs : A * B < Bs ^ 64) : F22_d 600 (rowsI (nf A), rowsI (nf B)) = some (rowsI (nf (A * B))) := by
  simp only [F22_d, FSpec.d, F22_s, mulN ha hb hs]
theorem pw {a b k : Nat} {A : Nat} (h : A < Bs ^ a) (hk : a ≤ k) : A < Bs ^ k := Nat.lt_of_lt_of_le h (Nat.pow_le_pow_right (by decide) hk)
theorem pw_add {a k : Nat} {A B : Nat} (h : A < Bs ^ a) (h' : B < Bs ^ a) (hk : a + 1 ≤ k) : A + B < Bs ^ k := by
  refine pw (a := a + 1) (b := 0) ?_ hk
  rw [bs_pow]
  generalize Bs ^ a = P at *
  omega
theorem pw_mul {a b k : Nat} {A B : Nat} (h : A < Bs ^ a) (h' : B < Bs ^ b) (hk : a + b ≤ k) : A * B < Bs ^ k := by
  refine pw (a := a + b) (b := 0) ?_ hk
  rw [Nat.pow_add]
  exact Nat.mul_lt_mul'' h h'
theorem algebra_law {xs : List Int} (hb : ∀ x ∈ xs, -9223372036854775808 ≤ x ∧ x ≤ 9223372036854775807) {n : Int} (hn : 0 ≤ n ∧ n ≤ 65535) : F5_d 600 (rowsI xs, n) = some true := by
  by_cases hl : (xs.length : Int) ≤ 500
  · obtain ⟨A, p1, a1, a2, a3⟩ := nat_ok (xs := xs) (p := 0) (m := 6) (by omega) ⟨hb, by omega, by omega, by omega⟩
    obtain ⟨B, p2, b1, b2, b3⟩ := nat_ok (m := 6) (by omega) a3
    obtain ⟨C, p3, c1, c2, c3⟩ := nat_ok (m := 6) (by omega) b3
    have a1' : F10_d 600 (6, rowsI xs, 0) = some (rowsI (nf A), rowsI xs, p1) := a1
    have b1' : F10_d 600 (6, rowsI xs, p1) = some (rowsI (nf B), rowsI xs, p2) := b1
    have c1' : F10_d 600 (6, rowsI xs, p2) = some (rowsI (nf C), rowsI xs, p3) := c1
    obtain ⟨k, hk⟩ : ∃ k : Nat, n = (k : Int) := ⟨n.toNat, by omega⟩
    subst hk
    have ek : IntKind.i64.wrap (k : Int) = (k : Int) := i64_id (by omega)
    have ek2 : i64 (1 + (k : Int)) = ((1 + k : Nat) : Int) := by rw [i64_id (by omega)]; omega
    have A64 := pw (b := 0) a2 (show 6 ≤ 64 by omega)
    have B64 := pw (b := 0) b2 (show 6 ≤ 64 by omega)
    have C64 := pw (b := 0) c2 (show 6 ≤ 64 by omega)
    have AB7 := pw_add a2 b2 (show 6 + 1 ≤ 7 by omega)
    have BA7 := pw_add b2 a2 (show 6 + 1 ≤ 7 by omega)
    have BC7 := pw_add b2 c2 (show 6 + 1 ≤ 7 by omega)
    have AmB := pw_mul a2 b2 (show 6 + 6 ≤ 12 by omega)
    have BmA := pw_mul b2 a2 (show 6 + 6 ≤ 12 by omega)
    have BmC := pw_mul b2 c2 (show 6 + 6 ≤ 12 by omega)
    have AmC := pw_mul a2 c2 (show 6 + 6 ≤ 12 by omega)
    have s1 := add1 A64 B64 (pw (b := 0) AB7 (by omega))
    have s2 := add1 B64 A64 (pw (b := 0) BA7 (by omega))
    have s3 := subN (pw (b := 0) AB7 (show 7 ≤ 64 by omega)) B64 (by omega)
    have d1 := divN A64 (d := ((1 + k : Nat) : Int)) (by omega)
    rw [Int.toNat_natCast] at d1
    have f1 := from_ok (n := ((1 + k : Nat) : Int)) (by omega)
    rw [Int.toNat_natCast] at f1
    have hmod := Nat.mod_lt A (show 0 < 1 + k by omega)
    have f2 := from_ok (n := ((A % (1 + k) : Nat) : Int)) (by omega)
    rw [Int.toNat_natCast] at f2
    have m1 := mul1 A64 B64 (pw (b := 0) AmB (by omega))
    have m2 := mul1 B64 A64 (pw (b := 0) BmA (by omega))
    have s4 := add1 B64 C64 (pw (b := 0) BC7 (by omega))
    have a17 : A + (B + C) < Bs ^ 8 := pw_add (pw (b := 0) a2 (show 6 ≤ 7 by omega)) BC7 (by omega)
    have s5 := add1 A64 (pw (b := 0) BC7 (show 7 ≤ 64 by omega)) (pw (b := 0) a17 (by omega))
    have s6 := add1 (pw (b := 0) AB7 (show 7 ≤ 64 by omega)) C64 (by rw [Nat.add_assoc]; exact pw (b := 0) a17 (by omega))
    have m3 := mul1 B64 C64 (pw (b := 0) BmC (by omega))
    have t1 : A * (B * C) < Bs ^ 18 := pw_mul a2 BmC (by omega)
    have m4 := mul1 A64 (pw (b := 0) BmC (show 12 ≤ 64 by omega)) (pw (b := 0) t1 (by omega))
    have m5 := mul1 (pw (b := 0) AmB (show 12 ≤ 64 by omega)) C64 (by rw [Nat.mul_assoc]; exact pw (b := 0) t1 (by omega))
    have t2 : A * (B + C) < Bs ^ 13 := pw_mul a2 BC7 (by omega)
    have m6 := mul1 A64 (pw (b := 0) BC7 (show 7 ≤ 64 by omega)) (pw (b := 0) t2 (by omega))
    have m7 := mul1 A64 C64 (pw (b := 0) AmC (by omega))
    have s7 := add1 (pw (b := 0) AmB (show 12 ≤ 64 by omega)) (pw (b := 0) AmC (show 12 ≤ 64 by omega)) (by rw [← Nat.mul_add]; exact pw (b := 0) t2 (by omega))
    have hq : A / (1 + k) * (1 + k) ≤ A := Nat.div_mul_le_self ..
    have k64 : 1 + k < Bs ^ 64 := pw (a := 1) (b := 0) (by
      show 1 + k < Bs ^ 1
      rw [Nat.pow_one]; show 1 + k < 1073741824; omega) (by omega)
    have r64 : A % (1 + k) < Bs ^ 64 := Nat.lt_trans hmod k64
    have q64 : A / (1 + k) < Bs ^ 64 := Nat.lt_of_le_of_lt (Nat.div_le_self ..) A64
    have m8 := mul1 q64 k64 (Nat.lt_of_le_of_lt hq A64)
    have hdm : A / (1 + k) * (1 + k) + A % (1 + k) = A := by rw [Nat.mul_comm]; exact Nat.div_add_mod A (1 + k)
    have s8 := add1 (Nat.lt_of_le_of_lt hq A64) r64 (by rw [hdm]; exact A64)
    rw [hdm] at s8
    rw [Nat.add_sub_cancel] at s3
    have e1 := sameN (B := A) A64
    have e2 := sameN (B := B + A) (pw (b := 0) AB7 (show 7 ≤ 64 by omega))
    have e3 := sameN (B := B * A) (pw (b := 0) AmB (show 12 ≤ 64 by omega))
    have e4 := sameN (B := A + B + C) (pw (b := 0) a17 (show 8 ≤ 64 by omega))
    have e5 := sameN (B := A * B * C) (pw (b := 0) t1 (show 18 ≤ 64 by omega))
    have e6 := sameN (B := A * B + A * C) (pw (b := 0) t2 (show 13 ≤ 64 by omega))
    rw [decide_eq_true rfl] at e1
    rw [decide_eq_true (Nat.add_comm A B)] at e2
    rw [decide_eq_true (Nat.mul_comm A B)] at e3
    rw [decide_eq_true (Nat.add_assoc A B C).symm] at e4
    rw [decide_eq_true (Nat.mul_assoc A B C).symm] at e5
    rw [decide_eq_true (Nat.mul_add A B C)] at e6
    have z : ((0 : Int) == 0) = true := rfl
    simp only [F5_d, FSpec.d, F5_s, light_ok, decide_eq_true hl, Bool.not_true, roll_ok, a1', b1', c1', ek, ek2, s1, s2, s3, d1, f1, f2, z, e1, e2, m1, m2, e3, s4, s5, s6, e4, m3, m4, m5, e5, m6, m7, s7, e6, decide_eq_true (show (((A % (1 + k) : Nat) : Int) < ((1 + k : Nat) : Int)) by omega), m8, s8, sane_ok]
  · simp only [F5_d, FSpec.d, F5_s, light_ok, decide_eq_false hl, Bool.not_false, sane_ok]
/-! Fractions. -/
theorem vfN {A B : Nat} (ha : A < Bs ^ 64) (hb : B < Bs ^ 64) (hB : 0 < B) : F40_d 600 (rowsI (nf A), rowsI (nf B)) = some true := by
  have hne : (0 : Int) < ((nf B).length : Int) := by
    rw [nf_pos (by omega)]; simp
  simp only [F40_d, FSpec.d, F40_s, valid_ok (VN.nf ha), valid_ok (VN.nf hb), rowsI_len, decide_eq_true (show (((nf B).length : Int) > 0) from hne)]
theorem mulL {A B : Nat} (ha : A < Bs ^ 64) (hb : B < Bs ^ 64) : F41_d 600 (rowsI (nf A), rowsI (nf B)) = some (rowsI (nf (A * B))) := by
  have := mul_ok (nf_dg A) (nf_dg B) (by have h1 := (VN.nf ha).1; have h2 := (VN.nf hb).1; omega)
  rw [vv_nf, vv_nf] at this
  exact this
theorem cmpN {A B : Nat} (ha : A < Bs ^ 128) : F38_d 600 (rowsI (nf A), rowsI (nf B)) = some (cmpV A B) := by
  have := cmp_ok (nf_dg A) (nf_dg B) (nf_noz A) (nf_noz B) (by have := (nf_len 128 A).2 ha; omega)
  rw [vv_nf, vv_nf] at this
  exact this
theorem crossN {A B C D : Nat} (ha : A < Bs ^ 64) (hb : B < Bs ^ 64) (hc : C < Bs ^ 64) (hd : D < Bs ^ 64) : F42_d 600 (rowsI (nf A), rowsI (nf B), rowsI (nf C), rowsI (nf D)) = some (cmpV (A * D) (C * B)) := by
  simp only [F42_d, FSpec.d, F42_s, mulL ha hd, mulL hc hb, cmpN (pw_mul ha hd (show 64 + 64 ≤ 128 by omega))]
theorem eqN {A B C D : Nat} (ha : A < Bs ^ 64) (hb : B < Bs ^ 64) (hc : C < Bs ^ 64) (hd : D < Bs ^ 64) (hB : 0 < B) (hD : 0 < D) : F19_d 600 (rowsI (nf A), rowsI (nf B), rowsI (nf C), rowsI (nf D)) = some (decide (A * D = C * B), 0) := by
  simp only [F19_d, FSpec.d, F19_s, vfN ha hb hB, vfN hc hd hD, Bool.not_true, crossN ha hb hc hd, cmpV_eq]
theorem lessN {A B C D : Nat} (ha : A < Bs ^ 64) (hb : B < Bs ^ 64) (hc : C < Bs ^ 64) (hd : D < Bs ^ 64) (hB : 0 < B) (hD : 0 < D) : F20_d 600 (rowsI (nf A), rowsI (nf B), rowsI (nf C), rowsI (nf D)) = some (decide (A * D < C * B), 0) := by
  simp only [F20_d, FSpec.d, F20_s, vfN ha hb hB, vfN hc hd hD, Bool.not_true, crossN ha hb hc hd, cmpV_lt]
theorem limN {V : Nat} (h : V < Bs ^ 64) : F36_d 600 (rowsI (nf V)) = some (rowsI (nf V), 0) := by
  have := lim_ok (xs := nf V) (by have := (VN.nf h).1; omega) (nf_dg V)
  rw [vv_nf, lim_small h] at this
  exact this
theorem timesN {A B C D : Nat} (ha : A < Bs ^ 64) (hb : B < Bs ^ 64) (hc : C < Bs ^ 64) (hd : D < Bs ^ 64) (hB : 0 < B) (hD : 0 < D) (h1 : A * C < Bs ^ 64) (h2 : B * D < Bs ^ 64) : F18_d 600 (rowsI (nf A), rowsI (nf B), rowsI (nf C), rowsI (nf D)) = some (rowsI (nf (A * C)), rowsI (nf (B * D)), 0) := by
  have z : ((0 : Int) != 0) = false := rfl
  simp only [F18_d, FSpec.d, F18_s, vfN ha hb hB, vfN hc hd hD, Bool.not_true, mulL ha hc, mulL hb hd, limN h1, limN h2, z]
theorem nf_one : nf 1 = [1] := by
  rw [nf_pos (by decide)]
  simp [nf_zero]
theorem addone {A : Nat} (h : A + 1 < Bs ^ 64) : F15_d 600 (rowsI (nf A), [[AV.v (.int .i64 1)]]) = some (rowsI (nf (A + 1)), [[AV.v (.int .i64 1)]]) := by
  have := addN (A := A) (B := 1) (by omega) (by
    have : (1 : Nat) < Bs ^ 64 := by decide
    exact this) h
  rw [nf_one] at this
  have h2 : F16_d 600 (rowsI (nf A), [[AV.v (.int .i64 1)]]) = some (rowsI (nf (A + 1)), 0) := this
  simp only [F15_d, FSpec.d, F15_s, h2]
theorem fractions_law {xs : List Int} (hb : ∀ x ∈ xs, -9223372036854775808 ≤ x ∧ x ≤ 9223372036854775807) {n : Int} (hn : 0 ≤ n ∧ n ≤ 65535) : F4_d 600 (rowsI xs, n) = some true := by
  by_cases hl : (xs.length : Int) ≤ 500
  · obtain ⟨A, p1, a1, a2, a3⟩ := nat_ok (xs := xs) (p := 0) (m := 4) (by omega) ⟨hb, by omega, by omega, by omega⟩
    obtain ⟨B, p2, b1, b2, b3⟩ := nat_ok (m := 4) (by omega) a3
    obtain ⟨C, p3, c1, c2, c3⟩ := nat_ok (m := 4) (by omega) b3
    obtain ⟨D, p4, d1, d2, d3⟩ := nat_ok (m := 4) (by omega) c3
    have a1' : F10_d 600 (4, rowsI xs, 0) = some (rowsI (nf A), rowsI xs, p1) := a1
    have b1' : F10_d 600 (4, rowsI xs, p1) = some (rowsI (nf B), rowsI xs, p2) := b1
    have c1' : F10_d 600 (4, rowsI xs, p2) = some (rowsI (nf C), rowsI xs, p3) := c1
    have d1' : F10_d 600 (4, rowsI xs, p3) = some (rowsI (nf D), rowsI xs, p4) := d1
    obtain ⟨k, hk⟩ : ∃ k : Nat, n = (k : Int) := ⟨n.toNat, by omega⟩
    subst hk
    have ek : IntKind.i64.wrap (k : Int) = (k : Int) := i64_id (by omega)
    have ek2 : i64 (1 + (k : Int)) = ((1 + k : Nat) : Int) := by rw [i64_id (by omega)]; omega
    have f1 := from_ok (n := ((1 + k : Nat) : Int)) (by omega)
    rw [Int.toNat_natCast] at f1
    have hB1 := pw_add b2 (B := 1) (Nat.lt_of_lt_of_le (by decide : 1 < Bs ^ 4) (Nat.le_refl _)) (show 4 + 1 ≤ 5 by omega)
    have hD1 := pw_add d2 (B := 1) (Nat.lt_of_lt_of_le (by decide : 1 < Bs ^ 4) (Nat.le_refl _)) (show 4 + 1 ≤ 5 by omega)
    have hk1 : 1 + k < Bs ^ 1 := by
      rw [Nat.pow_one]; show 1 + k < 1073741824; omega
    have hk2 : 1 + k + 1 < Bs ^ 1 := by
      rw [Nat.pow_one]; show 1 + k + 1 < 1073741824; omega
    have A64 := pw (b := 0) a2 (show 4 ≤ 64 by omega)
    have C64 := pw (b := 0) c2 (show 4 ≤ 64 by omega)
    have B64 := pw (b := 0) hB1 (show 5 ≤ 64 by omega)
    have D64 := pw (b := 0) hD1 (show 5 ≤ 64 by omega)
    have K64 := pw (b := 0) hk1 (show 1 ≤ 64 by omega)
    have L64 := pw (b := 0) hk2 (show 1 ≤ 64 by omega)
    have o1 := addone B64
    have o2 := addone D64
    have o3 := addone L64
    have AK := pw_mul a2 hk1 (show 4 + 1 ≤ 64 by omega)
    have BK := pw_mul hB1 hk1 (show 5 + 1 ≤ 64 by omega)
    have BL := pw_mul hB1 hk2 (show 5 + 1 ≤ 64 by omega)
    have w := timesN A64 B64 K64 K64 (by omega) (by omega) AK BK
    have hBK : 0 < (B + 1) * (1 + k) := Nat.mul_pos (by omega) (by omega)
    have hBL : 0 < (B + 1) * (1 + k + 1) := Nat.mul_pos (by omega) (by omega)
    have q1 := eqN A64 B64 AK BK (by omega) hBK
    have q2 := lessN A64 B64 C64 D64 (by omega) (by omega)
    have q3 := lessN AK BK C64 D64 hBK (by omega)
    have q4 := lessN C64 D64 A64 B64 (by omega) (by omega)
    have q5 := eqN A64 B64 C64 D64 (by omega) (by omega)
    have v := timesN A64 B64 K64 L64 (by omega) (by omega) AK BL
    have q6 := lessN AK BL A64 B64 hBL (by omega)
    have e1 : A * ((B + 1) * (1 + k)) = A * (1 + k) * (B + 1) := by rw [Nat.mul_comm (B + 1), Nat.mul_assoc]
    have e3 : decide (A * (1 + k) * (D + 1) < C * ((B + 1) * (1 + k))) = decide (A * (D + 1) < C * (B + 1)) := by
      have x1 : A * (1 + k) * (D + 1) = (1 + k) * (A * (D + 1)) := by rw [Nat.mul_comm A, Nat.mul_assoc]
      have x2 : C * ((B + 1) * (1 + k)) = (1 + k) * (C * (B + 1)) := by rw [← Nat.mul_assoc, Nat.mul_comm]
      rw [x1, x2]
      by_cases h : A * (D + 1) < C * (B + 1)
      · rw [decide_eq_true h, decide_eq_true (Nat.mul_lt_mul_of_pos_left h (by omega))]
      · rw [decide_eq_false h, decide_eq_false (fun h2 => h (Nat.lt_of_mul_lt_mul_left h2))]
    have e6 : decide (A * (1 + k) * (B + 1) < A * ((B + 1) * (1 + k + 1))) = decide (((nf A).length : Int) > 0) := by
      have x1 : A * (1 + k) * (B + 1) = (A * (B + 1)) * (1 + k) := by rw [Nat.mul_assoc, Nat.mul_comm (1 + k), ← Nat.mul_assoc]
      have x2 : A * ((B + 1) * (1 + k + 1)) = (A * (B + 1)) * (1 + k) + A * (B + 1) := by rw [← Nat.mul_assoc, Nat.mul_add, Nat.mul_one]
      rw [x1, x2]
      rcases Nat.eq_zero_or_pos A with z | z
      · subst z
        rw [nf_zero]; simp
      · have : 0 < A * (B + 1) := Nat.mul_pos z (by omega)
        rw [decide_eq_true (by omega), nf_pos (by omega)]
        simp
    rw [decide_eq_true e1] at q1
    rw [e3] at q3
    rw [e6] at q6
    have z : ((0 : Int) != 0) = false := rfl
    have q5' : decide (A * (D + 1) = C * (B + 1)) = (!decide (A * (D + 1) < C * (B + 1)) && !decide (C * (B + 1) < A * (D + 1))) := by
      generalize A * (D + 1) = P
      generalize C * (B + 1) = Q
      by_cases h1 : P < Q
      · simp [h1]; omega
      · by_cases h2 : Q < P
        · simp [h2]; omega
        · have : P = Q := by omega
          simp [this]
    have q45 : ¬ (A * (D + 1) < C * (B + 1) ∧ C * (B + 1) < A * (D + 1)) := by omega
    rw [q5'] at q5
    generalize hX : decide (A * (D + 1) < C * (B + 1)) = X at *
    generalize hY : decide (C * (B + 1) < A * (D + 1)) = Y at *
    have hxy : X = true → Y = true → False := fun h1 h2 => by
      rw [h1, decide_eq_true_iff] at hX
      rw [h2, decide_eq_true_iff] at hY
      omega
    clear hX hY e3 e6 q5' q45
    generalize hZ : decide (((nf A).length : Int) > 0) = Z at *
    have hA : decide (((rowsI (nf A)).length : Int) > 0) = Z := by rw [rowsI_len]; exact hZ
    cases X
    · cases Y
      · simp only [F4_d, FSpec.d, F4_s, light_ok, decide_eq_true hl, Bool.not_true, Bool.not_false, roll_ok, a1', b1', c1', d1', o1, o2, o3, ek, ek2, f1, w, q1, q2, q3, q4, q5, v, q6, z, beq_self_eq_true, Bool.and_self, Bool.and_true, Bool.true_and, hA, sane_ok]
      · simp only [F4_d, FSpec.d, F4_s, light_ok, decide_eq_true hl, Bool.not_true, Bool.not_false, roll_ok, a1', b1', c1', d1', o1, o2, o3, ek, ek2, f1, w, q1, q2, q3, q4, q5, v, q6, z, beq_self_eq_true, Bool.and_self, Bool.and_false, Bool.true_and, hA, sane_ok]
    · cases Y
      · simp only [F4_d, FSpec.d, F4_s, light_ok, decide_eq_true hl, Bool.not_true, Bool.not_false, roll_ok, a1', b1', c1', d1', o1, o2, o3, ek, ek2, f1, w, q1, q2, q3, q4, q5, v, q6, z, beq_self_eq_true, Bool.and_self, Bool.false_and, Bool.and_true, hA, sane_ok]
      · exact (hxy rfl rfl).elim
  · simp only [F4_d, FSpec.d, F4_s, light_ok, decide_eq_false hl, Bool.not_false, sane_ok]
end Go.Proofs.YtlpebecbipjoaaaDoor
