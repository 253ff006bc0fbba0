/- Natural numbers, the plain law: NatInts. -/
import Derived.Test.YtlpebecbipjoaaaDoorNaW
namespace Go.Proofs.YtlpebecbipjoaaaDoor
open Go.RowKit
set_option linter.unusedVariables false
set_option linter.unusedSimpArgs false
set_option linter.unnecessarySimpa false
theorem u64_id {x : Int} (h : 0 ≤ x ∧ x < 18446744073709551616) : IntKind.u64.wrap x = x := by
  show x % 18446744073709551616 = x
  omega
theorem intN {V : Nat} (h : V < Bs ^ 64) : F26_d 600 (rowsI (nf V)) = some (if V > 4611686018427387904 then (0, 2) else ((V : Int), 0)) := by
  rw [intR (by have := (VN.nf h).1; omega)]
  unfold intV
  rw [if_pos (VN.nf h), vv_nf]
theorem ints_law {a b c : Int} (ha : 0 ≤ a ∧ a ≤ 4294967295) (hb : 0 ≤ b ∧ b ≤ 4294967295) (hc : 0 ≤ c ∧ c ≤ 65535) : F6_d 600 (a, b, c) = some true := by
  obtain ⟨A, rfl⟩ := Int.eq_ofNat_of_zero_le ha.1
  obtain ⟨B, rfl⟩ := Int.eq_ofNat_of_zero_le hb.1
  obtain ⟨C, rfl⟩ := Int.eq_ofNat_of_zero_le hc.1
  have hAB : A * B ≤ 4294967295 * 4294967295 := Nat.mul_le_mul (by omega) (by omega)
  have big : ∀ {x : Nat}, x ≤ 18446744073709551616 → x < Bs ^ 64 := fun {x} hx => by
    have h3 : (18446744073709551616 : Nat) < Bs ^ 64 := by decide
    omega
  have A64 : A < Bs ^ 64 := big (by omega)
  have B64 : B < Bs ^ 64 := big (by omega)
  have S64 : A + B < Bs ^ 64 := big (by omega)
  have M64 : A * B < Bs ^ 64 := big (by omega)
  have Q64 : A / (1 + C) < Bs ^ 64 := Nat.lt_of_le_of_lt (Nat.div_le_self ..) A64
  have hq := Nat.div_le_self A (1 + C)
  have wA : IntKind.i64.wrap (A : Int) = (A : Int) := i64_id (by omega)
  have wB : IntKind.i64.wrap (B : Int) = (B : Int) := i64_id (by omega)
  have wC : IntKind.i64.wrap (C : Int) = (C : Int) := i64_id (by omega)
  have w1 : i64 (1 + (C : Int)) = ((1 + C : Nat) : Int) := by rw [i64_id (by omega)]; omega
  have f1 := from_ok (n := (A : Int)) (by omega)
  have f2 := from_ok (n := (B : Int)) (by omega)
  rw [Int.toNat_natCast] at f1 f2
  have s1 := addN A64 B64 S64
  have m1 := mulN A64 B64 M64
  have d1 := divN A64 (d := ((1 + C : Nat) : Int)) (by omega)
  rw [Int.toNat_natCast] at d1
  have td : ((A : Int)).tdiv ((1 + C : Nat) : Int) = ((A / (1 + C) : Nat) : Int) := by rw [Int.tdiv_eq_ediv_of_nonneg (by omega)]; simp
  have tm : ((A : Int)).tmod ((1 + C : Nat) : Int) = ((A % (1 + C) : Nat) : Int) := by rw [Int.tmod_eq_emod_of_nonneg (by omega)]; simp
  generalize hQ : A / (1 + C) = Q at *
  generalize hR : A % (1 + C) = R at *
  clear hQ hR
  have i1 := intN S64
  rw [if_neg (by omega)] at i1
  have i2 := intN Q64
  rw [if_neg (by omega)] at i2
  have i3 := intN M64
  have wS : i64 ((A : Int) + (B : Int)) = ((A + B : Nat) : Int) := by rw [i64_id (by omega)]; omega
  have wQ : i64 (((Q : Nat) : Int)) = ((Q : Nat) : Int) := i64_id (by omega)
  have uA : IntKind.u64.wrap (A : Int) = (A : Int) := u64_id (by omega)
  have uB : IntKind.u64.wrap (B : Int) = (B : Int) := u64_id (by omega)
  have eM : (A : Int) * (B : Int) = ((A * B : Nat) : Int) := by simp
  have uM : IntKind.u64.wrap ((A : Int) * (B : Int)) = ((A * B : Nat) : Int) := by rw [eM]; exact u64_id (by omega)
  have z : ((0 : Int) != 0) = false := rfl
  have zz : ((2 : Int) != 2) = false := rfl
  have ne : ∀ x : Int, (x != x) = false := fun x => by simp
  have hd0 : ¬ (((1 + C : Nat) : Int) = 0) := by omega
  have CX := cmpX_ok (VN.nf A64) (VN.nf B64)
  rw [vv_nf, vv_nf] at CX
  have cLt : A < B → cmpV A B = -1 := fun h => by unfold cmpV cmpI; rw [if_pos (by omega)]
  have cGt : A > B → cmpV A B = 1 := fun h => by unfold cmpV cmpI; rw [if_neg (by omega), if_pos (by omega)]
  have cEq : A = B → cmpV A B = 0 := fun h => by unfold cmpV cmpI; rw [if_neg (by omega), if_neg (by omega)]
  have o1 : ((1 : Int) == 1) = true := rfl
  have o2 : ((-1 : Int) == -1) = true := rfl
  have o3 : ((0 : Int) == 0) = true := rfl
  clear A64 B64 S64 M64 Q64 hq
  generalize hM : A * B = M at *
  by_cases hbig : M > 4611686018427387904
  · rw [if_pos hbig] at i3
    have c1 : decide (((M : Nat) : Int) ≤ 4611686018427387904) = false := by rw [decide_eq_false_iff_not]; omega
    rcases Nat.lt_trichotomy A B with h | h | h
    · rw [cLt h] at CX
      simp only [F6_d, FSpec.d, F6_s, wA, wB, wC, w1, f1, f2, s1, m1, i1, d1, i2, i3, z, zz, wS, td, tm, wQ, ne, uA, uB, uM, c1, decide_eq_true (show (A : Int) < (B : Int) by omega), decide_eq_false (show ¬ (A : Int) > (B : Int) by omega), CX, o2, sane_ok]
      exact (if_neg hd0).trans (if_neg hd0)
    · rw [cEq h] at CX
      simp only [F6_d, FSpec.d, F6_s, wA, wB, wC, w1, f1, f2, s1, m1, i1, d1, i2, i3, z, zz, wS, td, tm, wQ, ne, uA, uB, uM, c1, decide_eq_false (show ¬ (A : Int) < (B : Int) by omega), decide_eq_false (show ¬ (A : Int) > (B : Int) by omega), CX, o3, sane_ok]
      exact (if_neg hd0).trans (if_neg hd0)
    · rw [cGt h] at CX
      simp only [F6_d, FSpec.d, F6_s, wA, wB, wC, w1, f1, f2, s1, m1, i1, d1, i2, i3, z, zz, wS, td, tm, wQ, ne, uA, uB, uM, c1, decide_eq_false (show ¬ (A : Int) < (B : Int) by omega), decide_eq_true (show (A : Int) > (B : Int) by omega), CX, o1, sane_ok]
      exact (if_neg hd0).trans (if_neg hd0)
  · rw [if_neg hbig] at i3
    have c1 : decide (((M : Nat) : Int) ≤ 4611686018427387904) = true := by rw [decide_eq_true_iff]; omega
    have wM : IntKind.i64.wrap ((M : Nat) : Int) = ((M : Nat) : Int) := i64_id (by omega)
    rcases Nat.lt_trichotomy A B with h | h | h
    · rw [cLt h] at CX
      simp only [F6_d, FSpec.d, F6_s, wA, wB, wC, w1, f1, f2, s1, m1, i1, d1, i2, i3, z, zz, wS, td, tm, wQ, ne, uA, uB, uM, wM, c1, decide_eq_true (show (A : Int) < (B : Int) by omega), decide_eq_false (show ¬ (A : Int) > (B : Int) by omega), CX, o2, sane_ok]
      exact (if_neg hd0).trans (if_neg hd0)
    · rw [cEq h] at CX
      simp only [F6_d, FSpec.d, F6_s, wA, wB, wC, w1, f1, f2, s1, m1, i1, d1, i2, i3, z, zz, wS, td, tm, wQ, ne, uA, uB, uM, wM, c1, decide_eq_false (show ¬ (A : Int) < (B : Int) by omega), decide_eq_false (show ¬ (A : Int) > (B : Int) by omega), CX, o3, sane_ok]
      exact (if_neg hd0).trans (if_neg hd0)
    · rw [cGt h] at CX
      simp only [F6_d, FSpec.d, F6_s, wA, wB, wC, w1, f1, f2, s1, m1, i1, d1, i2, i3, z, zz, wS, td, tm, wQ, ne, uA, uB, uM, wM, c1, decide_eq_false (show ¬ (A : Int) < (B : Int) by omega), decide_eq_true (show (A : Int) > (B : Int) by omega), CX, o1, sane_ok]
      exact (if_neg hd0).trans (if_neg hd0)
/-- NatInts returns true. -/
theorem nat_ints (a b c : Int) (ha : 0 ≤ a ∧ a ≤ 4294967295) (hb : 0 ≤ b ∧ b ≤ 4294967295) (hc : 0 ≤ c ∧ c ≤ 65535) (W : World) (hgl : GlOk (memOf W) W [] (InT sig0 [])) : Calls Tryd.prog 6 #[.int .u32 a, .int .u32 b, .int .u16 c] W fun e w' => e = .returned (.bool true) ∧ Below W.heap.size W w' := by
  refine CallOk.calls ((F6_e 600).ok (a, b, c) true (ints_law ha hb hc)) W _ rfl (fun i h h' => ?_) hgl
  rcases (show i = 0 ∨ i = 1 ∨ i = 2 by have : i < 3 := h'; omega) with rfl | rfl | rfl
  · exact .v
  · exact .v
  · exact .v
end Go.Proofs.YtlpebecbipjoaaaDoor
