/- The detector, plain laws: the dice, without memory. -/
import Derived.Test.YtaiadjadgpgnmaaDetT
namespace Go.Proofs.Ytaiadjadgpgnmaa
set_option linter.unusedVariables false
set_option linter.unusedSimpArgs false
set_option linter.unnecessarySimpa false
def rowsI (xs : List Int) : List (List AV) := xs.map fun x => [I x]
theorem i64_id {x : Int} (h : -9223372036854775808 ≤ x ∧ x ≤ 9223372036854775807) : i64 x = x := IntWalk.i64_in _ (by omega)
theorem rowsI_len (xs : List Int) : (rowsI xs).length = xs.length := by simp [rowsI]
theorem rowsI_get (xs : List Int) (k : Nat) (h : k < xs.length) : (rowsI xs)[k]? = some [I xs[k]] := by simp [rowsI, h]
theorem rowsI_app (xs ys : List Int) : rowsI xs ++ rowsI ys = rowsI (xs ++ ys) := by simp [rowsI]
theorem rowsI_snoc (xs : List Int) (y : Int) : rowsI xs ++ [[AV.v (.int .i64 y)]] = rowsI (xs ++ [y]) := by simp [rowsI]
theorem rowsI_take (xs : List Int) (n : Nat) : (rowsI xs).take n = rowsI (xs.take n) := by simp [rowsI]
theorem rowsI_drop (xs : List Int) (n : Nat) : (rowsI xs).drop n = rowsI (xs.drop n) := by simp [rowsI]
structure Dice (xs : List Int) (p : Int) : Prop where
  b : ∀ x ∈ xs, -9223372036854775808 ≤ x ∧ x ≤ 9223372036854775807
  l : xs.length ≤ 500
  p0 : 0 ≤ p
  p1 : p ≤ 500
theorem next_ok (N : Nat) {n : Int} {xs : List Int} {p : Int} (hn : 1 ≤ n ∧ n ≤ 1000) (D : Dice xs p) : ∃ v p', F19_d N (n, rowsI xs, p) = some (v, rowsI xs, p') ∧ (0 ≤ v ∧ v < n) ∧ Dice xs p' := by
  obtain ⟨b, l, p0, p1⟩ := D
  simp only [F19_d, FSpec.d, F19_s]
  by_cases h : p ≥ ((rowsI xs).length : Int)
  · simp only [h, decide_true]
    exact ⟨0, p, rfl, by omega, ⟨b, l, p0, p1⟩⟩
  · have h1 : ¬ n < 1 := by omega
    have h2 : p.toNat < xs.length := by rw [rowsI_len] at h; omega
    have h3 : ¬ n = 0 := by omega
    simp only [h, decide_false, h1, p0, if_true, rowsI_get xs _ h2, List.getElem?_cons_zero, h3, if_false]
    have hb := b _ (List.getElem_mem h2)
    have hp : i64 (p + 1) = p + 1 := i64_id (by omega)
    by_cases hneg : (xs[p.toNat]).tmod n < 0
    · simp only [hneg, decide_true, hp]
      have t1 : -n < (xs[p.toNat]).tmod n := by
        have := Int.tmod_lt_of_pos (-xs[p.toNat]) (show 0 < n by omega)
        rw [Int.neg_tmod] at this
        omega
      rw [i64_id (by omega)]
      exact ⟨_, _, rfl, by omega, ⟨b, l, by omega, by rw [rowsI_len] at h; omega⟩⟩
    · simp only [hneg, decide_false, hp]
      have t1 := Int.tmod_lt_of_pos xs[p.toNat] (show 0 < n by omega)
      exact ⟨_, _, rfl, by omega, ⟨b, l, by omega, by rw [rowsI_len] at h; omega⟩⟩
theorem pick_ok (N : Nat) (O : List Int) {xs : List Int} {p : Int} (hO : 1 ≤ O.length ∧ O.length ≤ 1000) (D : Dice xs p) : ∃ v p', F23_d N (rowsI O, rowsI xs, p) = some (v, rowsI xs, p') ∧ v ∈ O ∧ Dice xs p' := by
  simp only [F23_d, FSpec.d, F23_s]
  obtain ⟨v, p', h1, h2, h3⟩ := next_ok N (n := (O.length : Int)) (by omega) D
  rw [rowsI_len, h1]
  have h4 : v.toNat < O.length := by omega
  simp only [h2.1, if_true, rowsI_get O _ h4, List.getElem?_cons_zero]
  exact ⟨_, _, rfl, List.getElem_mem h4, h3⟩
/-- A valid detector. -/
structure DtOk (S L a b : Int) : Prop where
  s1 : 1 ≤ S
  sl : S < L
  l1 : L ≤ 512
  b1 : 1 ≤ b
  ba : b ≤ a
  a1 : a ≤ 10000
theorem valid_ok {S L a b : Int} (h : DtOk S L a b) (N : Nat) : F25_d N (S, L, a, b) = some true := by
  obtain ⟨h1, h2, h3, h4, h5, h6⟩ := h
  have g1 : S ≥ 1 := h1
  have g4 : b ≥ 1 := h4
  simp only [F25_d, FSpec.d, F25_s, g1, h2, h3, g4, h5, h6, decide_true]
theorem det_ok {xs : List Int} {p : Int} (D : Dice xs p) : ∃ S L a b p', F11_d 600 (rowsI xs, p) = some (S, L, a, b, rowsI xs, p') ∧ DtOk S L a b ∧ (S ≤ 3 ∧ L ≤ 9 ∧ a ≤ 220 ∧ 50 ≤ b) ∧ Dice xs p' := by
  obtain ⟨n1, p1, h1, m1, D1⟩ := next_ok 600 (n := 3) (by omega) D
  obtain ⟨n2, p2, h2, m2, D2⟩ := pick_ok 600 [50, 100, 120] (by simp) D1
  replace h2 : F23_d 600 ([[AV.v (.int .i64 50)], [AV.v (.int .i64 100)], [AV.v (.int .i64 120)]], rowsI xs, p1) = some (n2, rowsI xs, p2) := h2
  obtain ⟨n3, p3, h3, m3, D3⟩ := next_ok 600 (n := 6) (by omega) D2
  obtain ⟨n4, p4, h4, m4, D4⟩ := pick_ok 600 [0, 50, 100] (by simp) D3
  replace h4 : F23_d 600 ([[AV.v (.int .i64 0)], [AV.v (.int .i64 50)], [AV.v (.int .i64 100)]], rowsI xs, p3) = some (n4, rowsI xs, p4) := h4
  simp at m2 m4
  have e1 : i64 (1 + n1) = 1 + n1 := i64_id (by omega)
  have e2 : i64 (1 + n1 + 1) = 1 + n1 + 1 := i64_id (by omega)
  have e3 : i64 (1 + n1 + 1 + n3) = 1 + n1 + 1 + n3 := i64_id (by omega)
  have e4 : i64 (n2 + n4) = n2 + n4 := i64_id (by omega)
  refine ⟨1 + n1, 1 + n1 + 1 + n3, n2 + n4, n2, p4, ?_, ⟨by omega, by omega, by omega, by omega, by omega, by omega⟩, by omega, D4⟩
  simp only [F11_d, FSpec.d, F11_s, h1, h2, h3, h4, e1, e2, e3, e4]
def Small (w : List Int) : Prop := ∀ v ∈ w, -79 ≤ v ∧ v ≤ 79
theorem Small.snoc {w : List Int} {v : Int} (h : Small w) (hv : -79 ≤ v ∧ v ≤ 79) : Small (w ++ [v]) := fun x hx => by
  rcases List.mem_append.1 hx with hx | hx
  · exact h x hx
  · simp at hx; subst hx; exact hv
theorem wave_loop {xs : List Int} : ∀ (k f : Nat) (p l : Int) (acc : List Int), k < f → acc.length + k ≤ 1000 → (0 ≤ l ∧ l ≤ 6) → Small acc → Dice xs p → ∃ (zs : List Int) (p' : Int), (F12_l6 600).L f (rowsI acc, l, (k : Int), rowsI xs, p) = some (rowsI (acc ++ zs), rowsI xs, p') ∧ zs.length = k ∧ Small (acc ++ zs) ∧ Dice xs p'
  | 0, f, p, l, acc, hf, ha, hl, hs, D => by
    obtain ⟨f, rfl⟩ : ∃ f', f = f' + 1 := ⟨f - 1, by omega⟩
    refine ⟨[], p, ?_, rfl, by simpa using hs, D⟩
    show (F12_l6 600).b _ _ ((F12_l6 600).L f) some = _
    simp only [F12_l6]
    simp
  | k + 1, f, p, l, acc, hf, ha, hl, hs, D => by
    obtain ⟨f, rfl⟩ : ∃ f', f = f' + 1 := ⟨f - 1, by omega⟩
    have step : ∃ v l' p', (-79 ≤ v ∧ v ≤ 79) ∧ (0 ≤ l' ∧ l' ≤ 6) ∧ Dice xs p' ∧ ∀ Lf : (F12_l6 600).X → Option (F12_l6 600).Y, (F12_l6 600).b (rowsI acc, l, ((k + 1 : Nat) : Int), rowsI xs, p) _ Lf some = Lf (rowsI (acc ++ [v]), l', (k : Int), rowsI xs, p') := by
      have hk : decide (((k + 1 : Nat) : Int) > 0) = true := by simp
      have hb : ∀ v, ((rowsI acc).length + [[(AV.v (.int .i64 v))]].length) * 8 ≤ maxBytes := fun v => by
        rw [rowsI_len]; unfold maxBytes; simp; omega
      have hi : i64 (((k + 1 : Nat) : Int) - 1) = (k : Int) := by rw [i64_id (by omega)]; omega
      have quiet : ∀ y, 0 ≤ y ∧ y < 5 → i64 (y - 2) = y - 2 := fun y hy => i64_id (by omega)
      have loud : ∀ y z, 0 ≤ y ∧ y < 60 → 0 ≤ z ∧ z < 2 → (-79 ≤ i64 (i64 (y + 20) * i64 (1 - i64 (2 * z))) ∧ i64 (i64 (y + 20) * i64 (1 - i64 (2 * z))) ≤ 79) := fun y z hy hz => by
        have c : z = 0 ∨ z = 1 := by omega
        rw [i64_id (x := y + 20) (by omega)]
        rcases c with rfl | rfl
        · rw [show i64 (1 - i64 (2 * 0)) = 1 by rw [i64_id (x := 2 * 0) (by omega)]; exact i64_id (by omega), i64_id (by omega)]
          omega
        · rw [show i64 (1 - i64 (2 * 1)) = -1 by rw [i64_id (x := 2 * 1) (by omega)]; exact i64_id (by omega), i64_id (by omega)]
          omega
      by_cases h0 : l = 0
      · subst h0
        obtain ⟨a, p1, h1, m1, D1⟩ := next_ok 600 (n := 7) (by omega) D
        by_cases h2 : a = 0
        · subst h2
          obtain ⟨b, p2, h3, m3, D2⟩ := next_ok 600 (n := 6) (by omega) D1
          obtain ⟨c, p3, h4, m4, D3⟩ := next_ok 600 (n := 5) (by omega) D2
          obtain ⟨d, p4, h5, m5, D4⟩ := next_ok 600 (n := 60) (by omega) D3
          obtain ⟨e, p5, h6, m6, D5⟩ := next_ok 600 (n := 2) (by omega) D4
          have e1 : i64 (1 + b) = 1 + b := i64_id (by omega)
          have e2 : i64 (1 + b - 1) = b := by rw [i64_id (by omega)]; omega
          have c1 : decide (1 + b > 0) = true := by simp; omega
          refine ⟨_, b, p5, loud d e m5 m6, by omega, D5, fun Lf => ?_⟩
          simp only [F12_l6, hk, beq_self_eq_true, h1, h3, h4, h5, h6, e1, e2, c1, hb, if_true, hi, rowsI_snoc]
          exact if_pos trivial
        · obtain ⟨c, p3, h4, m4, D3⟩ := next_ok 600 (n := 5) (by omega) D1
          have c0 : (a == 0) = false := by simp [h2]
          have c1 : decide ((0 : Int) > 0) = false := rfl
          refine ⟨c - 2, 0, p3, by omega, by omega, D3, fun Lf => ?_⟩
          simp only [F12_l6, hk, beq_self_eq_true, h1, h4, c0, c1, quiet c m4, hb, if_true, hi, rowsI_snoc]
          exact if_pos trivial
      · have c0 : (l == 0) = false := by simp [h0]
        have c1 : decide (l > 0) = true := by simp; omega
        obtain ⟨c, p3, h4, m4, D3⟩ := next_ok 600 (n := 5) (by omega) D
        obtain ⟨d, p4, h5, m5, D4⟩ := next_ok 600 (n := 60) (by omega) D3
        obtain ⟨e, p5, h6, m6, D5⟩ := next_ok 600 (n := 2) (by omega) D4
        have e2 : i64 (l - 1) = l - 1 := i64_id (by omega)
        refine ⟨_, l - 1, p5, loud d e m5 m6, by omega, D5, fun Lf => ?_⟩
        simp only [F12_l6, hk, c0, h4, c1, h5, h6, e2, hb, if_true, hi, rowsI_snoc]
        exact if_pos trivial
    obtain ⟨v, l', p', hv, hl', D', hst⟩ := step
    obtain ⟨zs, q, e1, e2, e3, e4⟩ := wave_loop k f p' l' (acc ++ [v]) (by omega) (by simp; omega) hl' (hs.snoc hv) D'
    refine ⟨v :: zs, q, ?_, by simp [e2], by simpa using e3, e4⟩
    show (F12_l6 600).b _ _ ((F12_l6 600).L f) some = _
    rw [hst, e1, List.append_assoc]
    rfl
theorem wave_ok {n : Int} {xs : List Int} {p : Int} (hn : 1 ≤ n ∧ n ≤ 60) (D : Dice xs p) : ∃ (w : List Int) (p' : Int), F12_d 600 (n, rowsI xs, p) = some (rowsI w, rowsI xs, p') ∧ (1 ≤ w.length ∧ (w.length : Int) ≤ n) ∧ Small w ∧ Dice xs p' := by
  obtain ⟨a, p1, h1, m1, D1⟩ := next_ok 600 (n := n) (by omega) D
  obtain ⟨zs, q, e1, e2, e3, e4⟩ := wave_loop (1 + a.toNat) 600 p1 0 [] (by omega) (by simp; omega) (by omega) (fun _ h => by cases h) D1
  have e : i64 (1 + a) = ((1 + a.toNat : Nat) : Int) := by rw [i64_id (by omega)]; omega
  replace e1 : (F12_l6 600).L 600 (([] : List (List AV)), 0, ((1 + a.toNat : Nat) : Int), rowsI xs, p1) = _ := e1
  refine ⟨zs, q, ?_, by omega, by simpa using e3, e4⟩
  simp only [F12_d, FSpec.d, F12_s, h1, F12_d6, e, e1, List.nil_append]
end Go.Proofs.Ytaiadjadgpgnmaa
