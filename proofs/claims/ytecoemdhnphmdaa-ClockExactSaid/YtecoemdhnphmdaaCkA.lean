/- ClockRecords, the plain law: the dice, without memory. -/
import Derived.Test.YtecoemdhnphmdaaCkU
namespace Go.Proofs.Ytecoemdhnphmdaa
set_option linter.unusedVariables false
set_option linter.unusedSimpArgs false
set_option linter.unnecessarySimpa false
def rowsI (xs : List Int) : List (List AV) := xs.map fun x => [I x]
def rowsA (l : List (Int × Int × Int)) : List (List AV) := l.map fun a => [I a.1, I a.2.1, I a.2.2]
theorem i64_id {x : Int} (h : -9223372036854775808 ≤ x ∧ x ≤ 9223372036854775807) : i64 x = x := IntWalk.i64_in _ (by omega)
theorem rowsI_len (xs : List Int) : (rowsI xs).length = xs.length := by simp [rowsI]
theorem rowsI_get (xs : List Int) (k : Nat) (h : k < xs.length) : (rowsI xs)[k]? = some [I xs[k]] := by simp [rowsI, h]
theorem rowsA_len (xs : List (Int × Int × Int)) : (rowsA xs).length = xs.length := by simp [rowsA]
theorem rowsA_get (xs : List (Int × Int × Int)) (k : Nat) (h : k < xs.length) : (rowsA xs)[k]? = some [I xs[k].1, I xs[k].2.1, I xs[k].2.2] := by simp [rowsA, h]
structure Dice (xs : List Int) (p : Int) : Prop where
  b : ∀ x ∈ xs, -9223372036854775808 ≤ x ∧ x ≤ 9223372036854775807
  l : xs.length ≤ 500
  p0 : 0 ≤ p
  p1 : p ≤ 500
theorem next_ok (N : Nat) {n : Int} {xs : List Int} {p : Int} (hn : 1 ≤ n ∧ n ≤ 1000000) (D : Dice xs p) : ∃ v p', F18_d N (n, rowsI xs, p) = some (v, rowsI xs, p') ∧ (0 ≤ v ∧ v < n) ∧ Dice xs p' := by
  obtain ⟨b, l, p0, p1⟩ := D
  simp only [F18_d, FSpec.d, F18_s]
  by_cases h : p ≥ ((rowsI xs).length : Int)
  · simp only [h, decide_true]
    exact ⟨0, p, rfl, by omega, ⟨b, l, p0, p1⟩⟩
  · have h1 : ¬ n < 1 := by omega
    have h2 : p.toNat < xs.length := by rw [rowsI_len] at h; omega
    have h3 : ¬ n = 0 := by omega
    simp only [h, decide_false, h1, p0, if_true, rowsI_get xs _ h2, List.getElem?_cons_zero, h3, if_false]
    have hb := b _ (List.getElem_mem h2)
    have hp : i64 (p + 1) = p + 1 := i64_id (by omega)
    by_cases hneg : (xs[p.toNat]).tmod n < 0
    · simp only [hneg, decide_true, hp]
      have t1 : -n < (xs[p.toNat]).tmod n := by
        have := Int.tmod_lt_of_pos (-xs[p.toNat]) (show 0 < n by omega)
        rw [Int.neg_tmod] at this
        omega
      rw [i64_id (by omega)]
      exact ⟨_, _, rfl, by omega, ⟨b, l, by omega, by rw [rowsI_len] at h; omega⟩⟩
    · simp only [hneg, decide_false, hp]
      have t1 := Int.tmod_lt_of_pos xs[p.toNat] (show 0 < n by omega)
      exact ⟨_, _, rfl, by omega, ⟨b, l, by omega, by rw [rowsI_len] at h; omega⟩⟩
theorem pick_ok (N : Nat) (O : List Int) {xs : List Int} {p : Int} (hO : 1 ≤ O.length ∧ O.length ≤ 1000) (D : Dice xs p) : ∃ v p', F23_d N (rowsI O, rowsI xs, p) = some (v, rowsI xs, p') ∧ v ∈ O ∧ Dice xs p' := by
  simp only [F23_d, FSpec.d, F23_s]
  obtain ⟨v, p', h1, h2, h3⟩ := next_ok N (n := (O.length : Int)) (by omega) D
  rw [rowsI_len, h1]
  have h4 : v.toNat < O.length := by omega
  simp only [h2.1, if_true, rowsI_get O _ h4, List.getElem?_cons_zero]
  exact ⟨_, _, rfl, List.getElem_mem h4, h3⟩
theorem rec_loop (N : Nat) (c3 : ByteArray) (c4 : ByteArray) (c5 : ByteArray) (c6 : ByteArray) (c7 : Int) (c8 : Int) (c9 : Int) (c10 : Int) (c11 : Int) (c12 : Int) (c13 : Int) (c14 : List (List AV)) (c15 : ByteArray) (c16 : ByteArray) (c17 : ByteArray) (c18 : ByteArray) (c19 : Int) (c20 : Int) (c21 : Int) (c22 : Int) (c23 : Int) (c24 : Int) (c25 : Int) {xs : List Int} : ∀ (k f : Nat) (p : Int) (acc : List Int), k < f → acc.length + k ≤ 1000 → Dice xs p → ∃ (zs : List Int) (p' : Int), (F19_l6 N).L f ((k : Int), rowsI xs, p, c3, c4, c5, c6, c7, c8, c9, c10, c11, c12, c13, c14, c15, c16, c17, c18, c19, c20, c21, c22, c23, c24, c25, rowsI acc) = some (rowsI xs, p', c3, c4, c5, c6, c7, c8, c9, c10, c11, c12, c13, c14, c15, c16, c17, c18, c19, c20, c21, c22, c23, c24, c25, rowsI (acc ++ zs)) ∧ zs.length = k ∧ Dice xs p'
  | 0, f, p, acc, hf, ha, D => by
    obtain ⟨f, rfl⟩ : ∃ f', f = f' + 1 := ⟨f - 1, by omega⟩
    refine ⟨[], p, ?_, rfl, D⟩
    show (F19_l6 N).b _ _ ((F19_l6 N).L f) some = _
    simp only [F19_l6]
    simp
  | k + 1, f, p, acc, hf, ha, D => by
    obtain ⟨f, rfl⟩ : ∃ f', f = f' + 1 := ⟨f - 1, by omega⟩
    obtain ⟨v, p1, h1, h2, h3⟩ := next_ok N (n := 4) (by omega) D
    obtain ⟨zs, p', e1, e2, e3⟩ := rec_loop N c3 c4 c5 c6 c7 c8 c9 c10 c11 c12 c13 c14 c15 c16 c17 c18 c19 c20 c21 c22 c23 c24 c25 k f p1 (acc ++ [v]) (by omega) (by simp; omega) h3
    refine ⟨v :: zs, p', ?_, by simp [e2], e3⟩
    show (F19_l6 N).b _ _ ((F19_l6 N).L f) some = _
    obtain ⟨Lf, hL⟩ : ∃ Lf, Lf = (F19_l6 N).L f := ⟨_, rfl⟩
    rw [← hL] at e1 ⊢
    simp only [F19_l6]
    have hk : decide (((k + 1 : Nat) : Int) > 0) = true := by simp
    have hb : ((rowsI acc).length + [[(AV.v (.int .i64 v))]].length) * 8 ≤ maxBytes := by
      rw [rowsI_len]; unfold maxBytes; simp; omega
    have hi : i64 (((k + 1 : Nat) : Int) - 1) = (k : Int) := by rw [i64_id (by omega)]; omega
    have hr : rowsI acc ++ [[(AV.v (.int .i64 v))]] = rowsI (acc ++ [v]) := by simp [rowsI]
    simp only [hk, h1, hb, if_true, hi, hr]
    rw [e1]
    simp
theorem new_ok (num den : Int) (hn : num = 1 ∨ num = 2 ∨ num = 3) (hd : den = 1 ∨ den = 3) : ∃ a b, F40_d 600 (num, den) = some (a, b, 0) ∧ F54_d 600 (a, b) = some true ∧ 0 < a ∧ a ≤ 3 ∧ 0 < b ∧ b ≤ 3 := by
  rcases hn with rfl | rfl | rfl <;> rcases hd with rfl | rfl
  · exact ⟨1, 1, by kernel_rfl, by kernel_rfl, by omega, by omega, by omega, by omega⟩
  · exact ⟨1, 3, by kernel_rfl, by kernel_rfl, by omega, by omega, by omega, by omega⟩
  · exact ⟨2, 1, by kernel_rfl, by kernel_rfl, by omega, by omega, by omega, by omega⟩
  · exact ⟨2, 3, by kernel_rfl, by kernel_rfl, by omega, by omega, by omega, by omega⟩
  · exact ⟨3, 1, by kernel_rfl, by kernel_rfl, by omega, by omega, by omega, by omega⟩
  · exact ⟨1, 1, by kernel_rfl, by kernel_rfl, by omega, by omega, by omega, by omega⟩
theorem sane_ok : F11_d 600 () = some true := by kernel_rfl
theorem rec_ok (s1 s2 s3 s4 : ByteArray) {xs : List Int} {p : Int} (D : Dice xs p) : ∃ (start first a b error run seq : Int) (smp : List Int) (p' : Int), F19_d 600 (s1, s2, s3, s4, 5, rowsI xs, p) = some (s1, s2, s3, s4, start, first, a, b, error, run, seq, rowsI smp, rowsI xs, p') ∧ F54_d 600 (a, b) = some true ∧ (0 < a ∧ a ≤ 3) ∧ (0 < b ∧ b ≤ 3) ∧ (0 ≤ error ∧ error ≤ 500) ∧ (1 ≤ smp.length ∧ smp.length ≤ 5) ∧ Dice xs p' := by
  obtain ⟨n1, p1, h1, m1, D1⟩ := pick_ok 600 [1, 2, 2, 3] (by simp) D
  replace h1 : F23_d 600 ([[AV.v (.int .i64 1)], [AV.v (.int .i64 2)], [AV.v (.int .i64 2)], [AV.v (.int .i64 3)]], rowsI xs, p) = some (n1, rowsI xs, p1) := h1
  obtain ⟨n2, p2, h2, m2, D2⟩ := pick_ok 600 [1, 1, 1, 3] (by simp) D1
  replace h2 : F23_d 600 ([[AV.v (.int .i64 1)], [AV.v (.int .i64 1)], [AV.v (.int .i64 1)], [AV.v (.int .i64 3)]], rowsI xs, p1) = some (n2, rowsI xs, p2) := h2
  obtain ⟨a, b, h3, h3b, a0, a1, b0, b1⟩ := new_ok n1 n2 (by simp at m1; omega) (by simp at m2; omega)
  obtain ⟨n4, p4, h4, m4, D4⟩ := next_ok 600 (n := 40) (by omega) D2
  obtain ⟨n5, p5, h5, m5, D5⟩ := pick_ok 600 [0, 0, 3] (by simp) D4
  replace h5 : F23_d 600 ([[AV.v (.int .i64 0)], [AV.v (.int .i64 0)], [AV.v (.int .i64 3)]], rowsI xs, p4) = some (n5, rowsI xs, p5) := h5
  obtain ⟨n6, p6, h6, m6, D6⟩ := pick_ok 600 [0, 0, 10, 500] (by simp) D5
  replace h6 : F23_d 600 ([[AV.v (.int .i64 0)], [AV.v (.int .i64 0)], [AV.v (.int .i64 10)], [AV.v (.int .i64 500)]], rowsI xs, p5) = some (n6, rowsI xs, p6) := h6
  obtain ⟨n7, p7, h7, m7, D7⟩ := next_ok 600 (n := 2) (by omega) D6
  obtain ⟨n8, p8, h8, m8, D8⟩ := next_ok 600 (n := 6) (by omega) D7
  obtain ⟨n9, p9, h9, m9, D9⟩ := next_ok 600 (n := 5) (by omega) D8
  have e9 : i64 (1 + n9) = ((1 + n9.toNat : Nat) : Int) := by rw [i64_id (by omega)]; omega
  obtain ⟨zs, p', l1, l2, l3⟩ := rec_loop 600 ⟨#[]⟩ ⟨#[]⟩ ⟨#[]⟩ ⟨#[]⟩ 0 0 0 0 0 0 0 [] s1 s2 s3 s4 (i64 (1000000000000 + (i64 (250000 * n4)))) n5 a b n6 n7 n8 (1 + n9.toNat) 600 p9 [] (by omega) (by simp; omega) D9
  refine ⟨i64 (1000000000000 + (i64 (250000 * n4))), n5, a, b, n6, n7, n8, zs, p', ?_, h3b, ⟨a0, a1⟩, ⟨b0, b1⟩, by simp at m6; omega, by omega, l3⟩
  simp only [F19_d, FSpec.d, F19_s, h1, h2, h3, h4, h5, h6, h7, h8, h9, e9, F19_d6]
  replace l1 : (F19_l6 600).L 600 (((1 + n9.toNat : Nat) : Int), rowsI xs, p9, ⟨#[]⟩, ⟨#[]⟩, ⟨#[]⟩, ⟨#[]⟩, 0, 0, 0, 0, 0, 0, 0, [], s1, s2, s3, s4, (i64 (1000000000000 + (i64 (250000 * n4)))), n5, a, b, n6, n7, n8, ([] : List (List AV))) = _ := l1
  simp only [l1]
  rfl
theorem source_ok {xs : List Int} {p : Int} (D : Dice xs p) : ∃ (s1 s2 s3 s4 : ByteArray) (p' : Int), F20_d 600 (rowsI xs, p) = some (s1, s2, s3, s4, rowsI xs, p') ∧ Dice xs p' := by
  obtain ⟨n1, p1, h1, m1, D1⟩ := next_ok 600 (n := 3) (by omega) D
  obtain ⟨n2, p2, h2, m2, D2⟩ := next_ok 600 (n := 4) (by omega) D1
  obtain ⟨n3, p3, h3, m3, D3⟩ := next_ok 600 (n := 3) (by omega) D2
  obtain ⟨n4, p4, h4, m4, D4⟩ := next_ok 600 (n := 3) (by omega) D3
  have c1 : n1 = 0 ∨ n1 = 1 ∨ n1 = 2 := by omega
  have c2 : n2 = 0 ∨ n2 = 1 ∨ n2 = 2 ∨ n2 = 3 := by omega
  have c3 : n3 = 0 ∨ n3 = 1 ∨ n3 = 2 := by omega
  have c4 : n4 = 0 ∨ n4 = 1 ∨ n4 = 2 := by omega
  obtain ⟨g1, q1⟩ : ∃ s, [[(AV.v (.string (⟨#[71, 82]⟩ : ByteArray)))], [(AV.v (.string (⟨#[88]⟩ : ByteArray)))], [(AV.v (.string (⟨#[55, 65]⟩ : ByteArray)))]][n1.toNat]? = some [AV.v (.string s)] := by
    rcases c1 with rfl | rfl | rfl <;> exact ⟨_, rfl⟩
  obtain ⟨g2, q2⟩ : ∃ s, [[(AV.v (.string (⟨#[70, 85, 82]⟩ : ByteArray)))], [(AV.v (.string (⟨#[65]⟩ : ByteArray)))], [(AV.v (.string (⟨#[65, 66, 67, 68, 69]⟩ : ByteArray)))], [(AV.v (.string (⟨#[70, 85]⟩ : ByteArray)))]][n2.toNat]? = some [AV.v (.string s)] := by
    rcases c2 with rfl | rfl | rfl | rfl <;> exact ⟨_, rfl⟩
  obtain ⟨g3, q3⟩ : ∃ s, [[(AV.v (.string (⟨#[]⟩ : ByteArray)))], [(AV.v (.string (⟨#[48, 48]⟩ : ByteArray)))], [(AV.v (.string (⟨#[49, 48]⟩ : ByteArray)))]][n3.toNat]? = some [AV.v (.string s)] := by
    rcases c3 with rfl | rfl | rfl <;> exact ⟨_, rfl⟩
  obtain ⟨g4, q4⟩ : ∃ s, [[(AV.v (.string (⟨#[72, 72, 90]⟩ : ByteArray)))], [(AV.v (.string (⟨#[72, 72, 78]⟩ : ByteArray)))], [(AV.v (.string (⟨#[66, 72, 90]⟩ : ByteArray)))]][n4.toNat]? = some [AV.v (.string s)] := by
    rcases c4 with rfl | rfl | rfl <;> exact ⟨_, rfl⟩
  refine ⟨g1, g2, g3, g4, p4, ?_, D4⟩
  simp only [F20_d, FSpec.d, F20_s, h1, h2, h3, h4, q1, q2, q3, q4, m1.1, m2.1, m3.1, m4.1, if_true, List.getElem?_cons_zero]
end Go.Proofs.Ytecoemdhnphmdaa
