/- ClockExact, the plain law: the loops of the law. -/
import Derived.Test.YtecoemdhnphmdaaCkXC
namespace Go.Proofs.Ytecoemdhnphmdaa
open Go.RowKit
set_option linter.unusedVariables false
set_option linter.unusedSimpArgs false
set_option linter.unnecessarySimpa false
theorem ints_loop (J : List Int) (hl : J.length ≤ 300) : ∀ (k i f : Nat), k < f → i + k = J.length → (F25_l8 600).L f (rowsI J, rowsI J, (J.length : Int), (i : Int)) = some (.inr ())
  | 0, i, f, hf, hi => by
    obtain ⟨f, rfl⟩ : ∃ f', f = f' + 1 := ⟨f - 1, by omega⟩
    show (F25_l8 600).b _ _ ((F25_l8 600).L f) some = _
    have c : decide ((i : Int) < (J.length : Int)) = false := by rw [decide_eq_false_iff_not]; omega
    simp only [F25_l8, c]
  | k + 1, i, f, hf, hi => by
    obtain ⟨f, rfl⟩ : ∃ f', f = f' + 1 := ⟨f - 1, by omega⟩
    have hlt : i < J.length := by omega
    have c1 : decide ((i : Int) < (J.length : Int)) = true := by rw [decide_eq_true_iff]; omega
    have c2 : (0 : Int) ≤ (i : Int) := by omega
    have c4 : i64 ((i : Int) + 1) = ((i + 1 : Nat) : Int) := by rw [i64_id (by omega)]; omega
    have r1 := ints_loop J hl k (i + 1) f (by omega) (by omega)
    show (F25_l8 600).b _ _ ((F25_l8 600).L f) some = _
    obtain ⟨Lf, hL⟩ : ∃ Lf, Lf = (F25_l8 600).L f := ⟨_, rfl⟩
    rw [← hL] at r1 ⊢
    simp only [F25_l8, c1, c2, if_true, Int.toNat_natCast, rowsI_get J i hlt, List.getElem?_cons_zero, bne_self_eq_false, c4]
    exact r1
theorem ints_any (J : List Int) (hl : J.length ≤ 300) : F25_d 600 (rowsI J, rowsI J) = some true := by
  have r := ints_loop J hl J.length 0 600 (by omega) (by omega)
  replace r : (F25_l8 600).L 600 (rowsI J, rowsI J, (J.length : Int), 0) = some (.inr ()) := r
  simp only [F25_d, FSpec.d, F25_s, F25_d8, rowsI_len, bne_self_eq_false, r]
theorem rsame_ok (r : Rc) (hl : r.S.length ≤ 5) : F22_d 600 (r.s1, r.s2, r.s3, r.s4, r.st, r.fi, r.a, r.b, r.er, r.ru, r.se, rowsI r.S, r.s1, r.s2, r.s3, r.s4, r.st, r.fi, r.a, r.b, r.er, r.ru, r.se, rowsI r.S) = some true := same_ok _ _ _ _ _ _ _ _ _ _ _ _ hl

theorem l85_loop (x1 : (List (List AV))) (x2 : (List (List AV))) (x3 : (List (List AV))) (x5 : Int) (x6 : Int) (x7 : Int) (x8 : Int) (x9 : Int) (x10 : Int) (x11 : Int) (x12 : Int) (x13 : Int) (x16 : ByteArray) (x17 : ByteArray) (x18 : ByteArray) (x19 : ByteArray) (x20 : Int) (x21 : Int) (x22 : Int) (x23 : Int) (x24 : Int) (x25 : Int) (x26 : Int) (x27 : (List (List AV))) (x28 : (List (List AV))) (x29 : Int) (Z : List Int) (hZ : Z.length ≤ 10) : ∀ (k i f : Nat), k < f → i + k = Z.length → (F9_l85 600).L f (x1, x2, x3, rowsI Z, x5, x6, x7, x8, x9, x10, x11, x12, x13, (Z.length : Int), (i : Int), x16, x17, x18, x19, x20, x21, x22, x23, x24, x25, x26, x27, x28, x29) = some (.inr (x1, x2, x3, x5, x6, x7, x8, x10, x11, x12, x13, x16, x17, x18, x19, x20, x21, x22, x23, x24, x25, x26, x27, x28, x29))
  | 0, i, f, hf, hi => by
    obtain ⟨f, rfl⟩ : ∃ f', f = f' + 1 := ⟨f - 1, by omega⟩
    show (F9_l85 600).b _ _ ((F9_l85 600).L f) some = _
    have c : decide ((i : Int) < (Z.length : Int)) = false := by rw [decide_eq_false_iff_not]; omega
    simp only [F9_l85, c]
  | k + 1, i, f, hf, hi => by
    obtain ⟨f, rfl⟩ : ∃ f', f = f' + 1 := ⟨f - 1, by omega⟩
    have r1 := l85_loop x1 x2 x3 x5 x6 x7 x8 x9 x10 x11 x12 x13 x16 x17 x18 x19 x20 x21 x22 x23 x24 x25 x26 x27 x28 x29 Z hZ k (i + 1) f (by omega) (by omega)
    show (F9_l85 600).b _ _ ((F9_l85 600).L f) some = _
    obtain ⟨Lf, hL⟩ : ∃ Lf, Lf = (F9_l85 600).L f := ⟨_, rfl⟩
    rw [← hL] at r1 ⊢
    have hlt : i < Z.length := by omega
    have c1 : decide ((i : Int) < (Z.length : Int)) = true := by rw [decide_eq_true_iff]; omega
    have c2 : (0 : Int) ≤ (i : Int) := by omega
    have c4 : i64 ((i : Int) + 1) = ((i + 1 : Nat) : Int) := by rw [i64_id (by omega)]; omega
    obtain ⟨v, v1, v2⟩ := ela_any x9 Z[i]
    simp only [F9_l85, c1, c2, if_true, Int.toNat_natCast, rowsI_get Z i hlt, List.getElem?_cons_zero, v1, v2, bne_self_eq_false, c4]
    exact r1
theorem l66_loop {A : List An} (hl : A.length ≤ 300) (x2 : (List (List AV))) (x3 : (List (List AV))) (x4 : (List (List AV))) (x5 : Int) (x6 : Int) (x7 : Int) (x8 : Int) (x9 : Int) (x10 : Int) (x12 : Int) (x13 : Int) (x14 : Int) (x15 : Int) (x16 : Int) (x17 : Int) (x18 : ByteArray) (x19 : ByteArray) (x20 : ByteArray) (x21 : ByteArray) (x22 : Int) (x23 : Int) (x24 : Int) (x25 : Int) (x26 : Int) (x27 : Int) (x28 : Int) (x29 : (List (List AV))) (x30 : (List (List AV))) (x31 : Int) : ∀ (k i f : Nat), k < f → i + k = 3 → (F9_l66 600).L f (rowsA A, x2, x3, x4, x5, x6, x7, x8, x9, x10, (i : Int), x12, x13, x14, x15, x16, x17, x18, x19, x20, x21, x22, x23, x24, x25, x26, x27, x28, x29, x30, x31) = some (.inr (rowsA A, x2, x3, x4, x5, x6, x7, x8, x9, x12, x13, x14, x15, x16, x17, x18, x19, x20, x21, x22, x23, x24, x25, x26, x27, x28, x29, x30, x31))
  | k, i, f, hf, hi => by
    obtain ⟨f, rfl⟩ : ∃ f', f = f' + 1 := ⟨f - 1, by omega⟩
    by_cases hlt : i < A.length
    · have c0 : decide ((i : Int) < (A.length : Int)) = true := by rw [decide_eq_true_iff]; omega
      cases k with
      | zero =>
        have c1 : decide ((i : Int) < 3) = false := by rw [decide_eq_false_iff_not]; omega
        show (F9_l66 600).b _ _ ((F9_l66 600).L f) some = _
        simp only [F9_l66, rowsA_len, c0, c1]
      | succ k =>
        have r1 := l66_loop hl x2 x3 x4 x5 x6 x7 x8 x9 x10 x12 x13 x14 x15 x16 x17 x18 x19 x20 x21 x22 x23 x24 x25 x26 x27 x28 x29 x30 x31 k (i + 1) f (by omega) (by omega)
        show (F9_l66 600).b _ _ ((F9_l66 600).L f) some = _
        obtain ⟨Lf, hL⟩ : ∃ Lf, Lf = (F9_l66 600).L f := ⟨_, rfl⟩
        rw [← hL] at r1 ⊢
        have c1 : decide ((i : Int) < 3) = true := by rw [decide_eq_true_iff]; omega
        have c2 : (0 : Int) ≤ (i : Int) := by omega
        have c3 : (0 : Int) ≤ 0 := by omega
        have c3' : (0 : Int).toNat = 0 := rfl
        have h0 : 0 < A.length := by omega
        have c4 : i64 ((i : Int) + 1) = ((i + 1 : Nat) : Int) := by rw [i64_id (by omega)]; omega
        obtain ⟨v, v1, v2⟩ := From_any A[i] x9 x10
        have a1 := agrees_any A[0] A[i] x9
        have a2 := ragrees_any A[0] A[i] x9
        simp only [F9_l66, rowsA_len, c0, c1, c2, c3, c3', if_true, Int.toNat_natCast, rowsA_get A i hlt, rowsA_get A 0 h0, List.getElem?_cons_zero, List.getElem?_cons_succ, v1, v2, a1, a2, bne_self_eq_false, beq_self_eq_true, Bool.not_true, c4]
        exact r1
    · have c0 : decide ((i : Int) < (A.length : Int)) = false := by rw [decide_eq_false_iff_not]; omega
      show (F9_l66 600).b _ _ ((F9_l66 600).L f) some = _
      simp only [F9_l66, rowsA_len, c0]
theorem l51_loop {A : List An} (hl : A.length ≤ 300) (x2 : (List (List AV))) (x3 : (List (List AV))) (x5 : Int) (x6 : Int) (x7 : Int) (x8 : Int) (x9 : Int) (x10 : Int) (x11 : Int) (x12 : Int) (x13 : Int) (x16 : ByteArray) (x17 : ByteArray) (x18 : ByteArray) (x19 : ByteArray) (x20 : Int) (x21 : Int) (x22 : Int) (x23 : Int) (x24 : Int) (x25 : Int) (x26 : Int) (x27 : (List (List AV))) (x28 : (List (List AV))) (x29 : Int) (Z : List Int) (hZ : Z.length ≤ 10) : ∀ (k i f : Nat), k < f → i + k = Z.length → (F9_l51 600).L f (rowsA A, x2, x3, rowsI Z, x5, x6, x7, x8, x9, x10, x11, x12, x13, (Z.length : Int), (i : Int), x16, x17, x18, x19, x20, x21, x22, x23, x24, x25, x26, x27, x28, x29) = some (.inr (rowsA A, x2, x3, x5, x6, x7, x8, x9, x10, x11, x12, x13, x16, x17, x18, x19, x20, x21, x22, x23, x24, x25, x26, x27, x28, x29))
  | 0, i, f, hf, hi => by
    obtain ⟨f, rfl⟩ : ∃ f', f = f' + 1 := ⟨f - 1, by omega⟩
    show (F9_l51 600).b _ _ ((F9_l51 600).L f) some = _
    have c : decide ((i : Int) < (Z.length : Int)) = false := by rw [decide_eq_false_iff_not]; omega
    simp only [F9_l51, c]
  | k + 1, i, f, hf, hi => by
    obtain ⟨f, rfl⟩ : ∃ f', f = f' + 1 := ⟨f - 1, by omega⟩
    have r1 := l51_loop hl x2 x3 x5 x6 x7 x8 x9 x10 x11 x12 x13 x16 x17 x18 x19 x20 x21 x22 x23 x24 x25 x26 x27 x28 x29 Z hZ k (i + 1) f (by omega) (by omega)
    show (F9_l51 600).b _ _ ((F9_l51 600).L f) some = _
    obtain ⟨Lf, hL⟩ : ∃ Lf, Lf = (F9_l51 600).L f := ⟨_, rfl⟩
    rw [← hL] at r1 ⊢
    have hlt : i < Z.length := by omega
    have c1 : decide ((i : Int) < (Z.length : Int)) = true := by rw [decide_eq_true_iff]; omega
    have c2 : (0 : Int) ≤ (i : Int) := by omega
    have c4 : i64 ((i : Int) + 1) = ((i + 1 : Nat) : Int) := by rw [i64_id (by omega)]; omega
    obtain ⟨v, v1, v2⟩ := cor_any hl x9 Z[i]
    have q := l66_loop hl x2 x3 (rowsI Z) x5 x6 x7 x8 x9 Z[i] x10 x11 x12 x13 (Z.length : Int) (i : Int) x16 x17 x18 x19 x20 x21 x22 x23 x24 x25 x26 x27 x28 x29 3 0 600 (by omega) (by omega)
    replace q : (F9_l66 600).L 600 (rowsA A, x2, x3, rowsI Z, x5, x6, x7, x8, x9, Z[i], 0, x10, x11, x12, x13, (Z.length : Int), (i : Int), x16, x17, x18, x19, x20, x21, x22, x23, x24, x25, x26, x27, x28, x29) = _ := q
    simp only [F9_l51, c1, c2, if_true, Int.toNat_natCast, rowsI_get Z i hlt, List.getElem?_cons_zero, v1, v2, bne_self_eq_false, F9_d66, q, c4]
    exact r1
theorem l35_loop {A : List An} (hl : A.length ≤ 300) (x2 : List (List AV)) (x4 x5 x6 x7 x8 x9 : Int) (s1 s2 s3 s4 : ByteArray) {st fi a b : Int} (er ru se : Int) {S : List Int} (hS : 1 ≤ S.length ∧ S.length ≤ 5) (h : F54_d 600 (a, b) = some true) (ha : 0 < a ∧ a ≤ 3) (hb : 0 < b ∧ b ≤ 3) (hs : st ≤ 1000000) {xs : List Int} (Ms : List Int) (hM : Ms.length ≤ 10) : ∀ (k i f : Nat) (p : Int), k < f → i + k = Ms.length → Dice xs p →
    ∃ p', (F9_l35 600).L f (rowsA A, x2, rowsI Ms, x4, x5, x6, x7, x8, x9, (Ms.length : Int), (i : Int), s1, s2, s3, s4, st, fi, a, b, er, ru, se, rowsI S, rowsI xs, p) = some (.inr (x2, x4, x5, x6, x7, x8, x9, s1, s2, s3, s4, st, fi, a, b, er, ru, se, rowsI S, rowsI xs, p')) ∧ Dice xs p'
  | 0, i, f, p, hf, hi, D => by
    obtain ⟨f, rfl⟩ : ∃ f', f = f' + 1 := ⟨f - 1, by omega⟩
    refine ⟨p, ?_, D⟩
    show (F9_l35 600).b _ _ ((F9_l35 600).L f) some = _
    have c : decide ((i : Int) < (Ms.length : Int)) = false := by rw [decide_eq_false_iff_not]; omega
    simp only [F9_l35, c]
  | k + 1, i, f, p, hf, hi, D => by
    obtain ⟨f, rfl⟩ : ∃ f', f = f' + 1 := ⟨f - 1, by omega⟩
    have hlt : i < Ms.length := by omega
    obtain ⟨m, hm⟩ : ∃ m, m = Ms[i] := ⟨_, rfl⟩
    have c1 : decide ((i : Int) < (Ms.length : Int)) = true := by rw [decide_eq_true_iff]; omega
    have c2 : (0 : Int) ≤ (i : Int) := by omega
    have c4 : i64 ((i : Int) + 1) = ((i + 1 : Nat) : Int) := by rw [i64_id (by omega)]; omega
    obtain ⟨J, e, j1, j2, jl, -, -⟩ := jumps_any hl m
    obtain ⟨n1, p1, g1, g2, D1⟩ := next_ok 600 (n := 90000) (by omega) D
    obtain ⟨n2, p2, g3, g4, D2⟩ := next_ok 600 (n := 60) (by omega) D1
    have q1 := l51_loop hl x2 (rowsI Ms) x4 x5 x6 x7 m x8 x9 (Ms.length : Int) (i : Int) s1 s2 s3 s4 st fi a b er ru se (rowsI S) (rowsI xs) p2 [x5, n1, i64 (1000 * n2), 0, 9007199254740992] (by simp) 5 0 600 (by omega) rfl
    replace q1 : F9_d51 600 (rowsA A, x2, rowsI Ms, [[(AV.v (.int .i64 x5))], [(AV.v (.int .i64 n1))], [(AV.v (.int .i64 (i64 (1000 * n2))))], [(AV.v (.int .i64 0))], [(AV.v (.int .i64 9007199254740992))]], x4, x5, x6, x7, m, x8, x9, (Ms.length : Int), (i : Int), (([[(AV.v (.int .i64 x5))], [(AV.v (.int .i64 n1))], [(AV.v (.int .i64 (i64 (1000 * n2))))], [(AV.v (.int .i64 0))], [(AV.v (.int .i64 9007199254740992))]].length : Nat) : Int), 0, s1, s2, s3, s4, st, fi, a, b, er, ru, se, rowsI S, rowsI xs, p2) = _ := q1
    obtain ⟨r, e2, k1, k2, kl⟩ := app_any hl m s1 s2 s3 s4 (fi := fi) er ru se hS h ha hb hs
    obtain ⟨n3, p3, g5, g6, D3⟩ := next_ok 600 (n := 100000) (by omega) D2
    have q2 := l85_loop (rowsA A) x2 (rowsI Ms) x4 x5 x6 x7 m x8 x9 (Ms.length : Int) (i : Int) s1 s2 s3 s4 st fi a b er ru se (rowsI S) (rowsI xs) p3 [x6, n3, 9007199254740992] (by simp) 3 0 600 (by omega) rfl
    replace q2 : F9_d85 600 (rowsA A, x2, rowsI Ms, [[(AV.v (.int .i64 x6))], [(AV.v (.int .i64 n3))], [(AV.v (.int .i64 9007199254740992))]], x4, x5, x6, x7, m, x8, x9, (Ms.length : Int), (i : Int), (([[(AV.v (.int .i64 x6))], [(AV.v (.int .i64 n3))], [(AV.v (.int .i64 9007199254740992))]].length : Nat) : Int), 0, s1, s2, s3, s4, st, fi, a, b, er, ru, se, rowsI S, rowsI xs, p3) = _ := q2
    obtain ⟨p', r1, D'⟩ := l35_loop hl x2 x4 x5 x6 x7 x8 x9 s1 s2 s3 s4 (fi := fi) er ru se hS h ha hb hs Ms hM k (i + 1) f p3 (by omega) (by omega) D3
    refine ⟨p', ?_, D'⟩
    show (F9_l35 600).b _ _ ((F9_l35 600).L f) some = _
    obtain ⟨Lf, hL⟩ : ∃ Lf, Lf = (F9_l35 600).L f := ⟨_, rfl⟩
    rw [← hL] at r1 ⊢
    simp only [F9_l35, c1, c2, if_true, Int.toNat_natCast, rowsI_get Ms i hlt, ← hm, List.getElem?_cons_zero, j1, j2, bne_self_eq_false, ints_any J jl, Bool.not_true, valid_any hl, rvalid_any hl, beq_self_eq_true, g1, g3, q1, k1, k2, rsame_ok r kl, g5, q2, c4]
    exact r1
end Go.Proofs.Ytecoemdhnphmdaa
