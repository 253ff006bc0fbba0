/- Natural numbers, the dice, without memory. -/
import Derived.Test.YtlpebecbipjoaaaGreatDoorNeD
namespace Go.Proofs.YtlpebecbipjoaaaGreatDoor
open Go.RowKit
set_option linter.unusedVariables false
set_option linter.unusedSimpArgs false
set_option linter.unnecessarySimpa false
structure Dice (xs : List Int) (p : Int) : Prop where
  b : ∀ x ∈ xs, -9223372036854775808 ≤ x ∧ x ≤ 9223372036854775807
  l : xs.length ≤ 500
  p0 : 0 ≤ p
  p1 : p ≤ 500
theorem next_ok (N : Nat) {n : Int} {xs : List Int} {p : Int} (hn : 1 ≤ n ∧ n ≤ 1000000) (D : Dice xs p) : ∃ v p', F18_d N (n, rowsI xs, p) = some (v, rowsI xs, p') ∧ (0 ≤ v ∧ v < n) ∧ Dice xs p' := by
  obtain ⟨b, l, p0, p1⟩ := D
  simp only [F18_d, FSpec.d, F18_s]
  by_cases h : p ≥ ((rowsI xs).length : Int)
  · simp only [h, decide_true]
    exact ⟨0, p, rfl, by omega, ⟨b, l, p0, p1⟩⟩
  · have h1 : ¬ n < 1 := by omega
    have h2 : p.toNat < xs.length := by rw [rowsI_len] at h; omega
    have h3 : ¬ n = 0 := by omega
    simp only [h, decide_false, h1, p0, if_true, rowsI_get xs _ h2, List.getElem?_cons_zero, h3, if_false]
    have hb := b _ (List.getElem_mem h2)
    have hp : i64 (p + 1) = p + 1 := i64_id (by omega)
    by_cases hneg : (xs[p.toNat]).tmod n < 0
    · simp only [hneg, decide_true, hp]
      have t1 : -n < (xs[p.toNat]).tmod n := by
        have := Int.tmod_lt_of_pos (-xs[p.toNat]) (show 0 < n by omega)
        rw [Int.neg_tmod] at this
        omega
      rw [i64_id (by omega)]
      exact ⟨_, _, rfl, by omega, ⟨b, l, by omega, by rw [rowsI_len] at h; omega⟩⟩
    · simp only [hneg, decide_false, hp]
      have t1 := Int.tmod_lt_of_pos xs[p.toNat] (show 0 < n by omega)
      exact ⟨_, _, rfl, by omega, ⟨b, l, by omega, by rw [rowsI_len] at h; omega⟩⟩
theorem pick_ok (N : Nat) (O : List Int) {xs : List Int} {p : Int} (hO : 1 ≤ O.length ∧ O.length ≤ 1000) (D : Dice xs p) : ∃ v p', F8_d N (rowsI O, rowsI xs, p) = some (v, rowsI xs, p') ∧ v ∈ O ∧ Dice xs p' := by
  simp only [F8_d, FSpec.d, F8_s]
  obtain ⟨v, p', h1, h2, h3⟩ := next_ok N (n := (O.length : Int)) (by omega) D
  rw [rowsI_len, h1]
  have h4 : v.toNat < O.length := by omega
  simp only [h2.1, if_true, rowsI_get O _ h4, List.getElem?_cons_zero]
  exact ⟨_, _, rfl, List.getElem_mem h4, h3⟩
theorem nat_loop {xs : List Int} : ∀ (k f : Nat) (acc : List Int) (p : Int), k < f → acc.length + k ≤ 100 → Dg acc → Dice xs p → ∃ acc' p', (F7_l5 600).L f (rowsI acc, (k : Int), rowsI xs, p) = some (rowsI acc', rowsI xs, p') ∧ acc'.length = acc.length + k ∧ Dg acc' ∧ Dice xs p'
  | 0, f, acc, p, hf, hl, hd, D => by
    obtain ⟨f, rfl⟩ : ∃ f', f = f' + 1 := ⟨f - 1, by omega⟩
    refine ⟨acc, p, ?_, rfl, hd, D⟩
    show (F7_l5 600).b _ _ ((F7_l5 600).L f) some = _
    generalize (F7_l5 600).L f = Lf
    simp only [F7_l5, decide_eq_false (show ¬ (((0 : Nat) : Int) > 0) by omega)]
  | k + 1, f, acc, p, hf, hl, hd, D => by
    obtain ⟨f, rfl⟩ : ∃ f', f = f' + 1 := ⟨f - 1, by omega⟩
    obtain ⟨v, p1, h1, h2, h3⟩ := next_ok 600 (n := 1000) (by omega) D
    obtain ⟨w, p2, g1, g2, g3⟩ := pick_ok 600 [0, 1, 1073741823, v, 536870912] (by simp) h3
    have hw : 0 ≤ w ∧ w < 1073741824 := by
      simp only [List.mem_cons, List.not_mem_nil, or_false] at g2
      omega
    obtain ⟨acc', p', e1, e2, e3, e4⟩ := nat_loop k f (acc ++ [w]) p2 (by omega) (by simp; omega) (hd.app (Dg.one hw)) g3
    refine ⟨acc', p', ?_, by rw [e2]; simp; omega, e3, e4⟩
    show (F7_l5 600).b _ _ ((F7_l5 600).L f) some = _
    generalize (F7_l5 600).L f = Lf at e1 ⊢
    have g4 : i64 (((k + 1 : Nat) : Int) - 1) = (k : Int) := by rw [i64_id (by omega)]; omega
    have hs := room (rowsI acc).length (by rw [rowsI_len]; omega) w
    have g1' : F8_d 600 ([[AV.v (.int .i64 0)], [AV.v (.int .i64 1)], [AV.v (.int .i64 1073741823)], [AV.v (.int .i64 v)], [AV.v (.int .i64 536870912)]], rowsI xs, p1) = some (w, rowsI xs, p2) := g1
    simp only [F7_l5, decide_eq_true (show (((k + 1 : Nat) : Int) > 0) by omega), h1, g1', g4, rowsI_snoc]
    exact (if_pos hs).trans e1
theorem ntrim_loop (rx : List (List AV)) (p : Int) : ∀ (k f : Nat) (xs : List Int), xs.length = k → k ≤ 100000 → k < f → (F7_l13 600).L f (rowsI xs, rx, p) = some (rowsI (trimZ xs), rx, p)
  | 0, f, xs, hl, _, hf => by
    obtain ⟨f, rfl⟩ : ∃ f', f = f' + 1 := ⟨f - 1, by omega⟩
    obtain rfl : xs = [] := List.length_eq_zero_iff.1 hl
    show (F7_l13 600).b _ _ ((F7_l13 600).L f) some = _
    generalize (F7_l13 600).L f = Lf
    rfl
  | k + 1, f, xs, hl, hk, hf => by
    obtain ⟨f, rfl⟩ : ∃ f', f = f' + 1 := ⟨f - 1, by omega⟩
    obtain ⟨ys, x, rfl, hy⟩ := snoc_of hl
    have r := ntrim_loop rx p k f ys hy (by omega) (by omega)
    show (F7_l13 600).b _ _ ((F7_l13 600).L f) some = _
    generalize (F7_l13 600).L f = Lf at r ⊢
    have e1 : i64 (((ys ++ [x]).length : Int) - 1) = (k : Int) := by rw [hl, i64_id (by omega)]; omega
    have e2 : decide (((ys ++ [x]).length : Int) > 0) = true := by rw [decide_eq_true_iff]; omega
    have e3 : ((rowsI (ys ++ [x]))[((k : Int)).toNat]? : Option (List AV)) = some [AV.v (.int .i64 x)] := by
      rw [show ((k : Int)).toNat = k by omega, rowsI_get _ k (by omega)]
      simp [← hy]
    have e4 : (rowsI (ys ++ [x])).take ((k : Int)).toNat = rowsI ys := by
      rw [show ((k : Int)).toNat = k by omega, rowsI_take, ← hy]; simp
    have h0 : (0 : Int) ≤ (k : Int) := by omega
    have h1 : (0 : Int) ≤ (k : Int) ∧ (k : Int) ≤ ((ys ++ [x]).length : Int) := by omega
    by_cases hx : x = 0
    · have c : (x == 0) = true := by simp [hx]
      simp only [F7_l13, rowsI_len, e1, e2, e3, List.getElem?_cons_zero, c, e4]
      subst hx
      rw [trimZ_snoc0]
      exact (if_pos h0).trans ((if_pos trivial).trans ((if_pos h1).trans r))
    · have c : (x == 0) = false := by simp [hx]
      simp only [F7_l13, rowsI_len, e1, e2, e3, List.getElem?_cons_zero, c]
      have : trimZ (ys ++ [x]) = ys ++ [x] := trim_id (by simp [NoZ]; exact hx)
      rw [this]
      exact (if_pos h0).trans (if_pos trivial)
theorem nat_ok {xs : List Int} {p : Int} {m : Nat} (hm : m ≤ 50) (D : Dice xs p) : ∃ V p', F7_d 600 ((m : Int), rowsI xs, p) = some (rowsI (nf V), rowsI xs, p') ∧ V < Bs ^ m ∧ Dice xs p' := by
  have e : i64 ((m : Int) + 1) = ((m + 1 : Nat) : Int) := by rw [i64_id (by omega)]; omega
  obtain ⟨v, p1, h1, h2, h3⟩ := next_ok 600 (n := ((m + 1 : Nat) : Int)) (by omega) D
  obtain ⟨k, rfl⟩ := Int.eq_ofNat_of_zero_le h2.1
  obtain ⟨acc, p2, g1, g2, g3, g4⟩ := nat_loop k 600 [] p1 (by omega) (by simp; omega) Dg.nil h3
  have L1 : F7_d5 600 (([] : List (List AV)), (k : Int), rowsI xs, p1) = some (rowsI acc, rowsI xs, p2) := g1
  have hk : acc.length = k := by rw [g2]; simp
  have L2 : F7_d13 600 (rowsI acc, rowsI xs, p2) = some (rowsI (nf (vv acc)), rowsI xs, p2) := by
    have := ntrim_loop (rowsI xs) p2 acc.length 600 acc rfl (by omega) (by omega)
    rw [trim_nf g3] at this
    exact this
  refine ⟨vv acc, p2, ?_, ?_, g4⟩
  · simp only [F7_d, FSpec.d, F7_s, e, h1, L1, L2]
  · have := vv_lt g3
    rw [hk] at this
    exact Nat.lt_of_lt_of_le this (Nat.pow_le_pow_right (by decide) (by omega))
theorem roll_ok (xs : List Int) : F6_d 600 (rowsI xs) = some (rowsI xs, 0) := rfl
theorem light_ok (xs : List Int) : F4_d 600 (rowsI xs) = some (decide ((xs.length : Int) ≤ 500)) := by simp only [F4_d, FSpec.d, F4_s, rowsI_len]
end Go.Proofs.YtlpebecbipjoaaaGreatDoor
