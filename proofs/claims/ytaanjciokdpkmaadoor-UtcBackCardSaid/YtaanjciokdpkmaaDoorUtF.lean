/- Utc, the plain law: the dice and their tables of leap seconds, without memory. -/
import Derived.Test.YtaanjciokdpkmaaDoorUtE
namespace Go.Proofs.YtaanjciokdpkmaaDoor
set_option linter.unusedVariables false
set_option linter.unusedSimpArgs false
set_option linter.unnecessarySimpa false
def rowsI (xs : List Int) : List (List AV) := xs.map fun x => [AV.v (.int .i64 x)]
theorem rowsI_len (xs : List Int) : (rowsI xs).length = xs.length := by simp [rowsI]
theorem rowsI_get (xs : List Int) (k : Nat) (h : k < xs.length) : (rowsI xs)[k]? = some [AV.v (.int .i64 xs[k])] := by simp [rowsI, h]
structure Dice (xs : List Int) (p : Int) : Prop where
  b : ∀ x ∈ xs, -9223372036854775808 ≤ x ∧ x ≤ 9223372036854775807
  l : xs.length ≤ 500
  p0 : 0 ≤ p
  p1 : p ≤ 500
theorem next_ok (N : Nat) {n : Int} {xs : List Int} {p : Int} (hn : 1 ≤ n ∧ n ≤ 1000000) (D : Dice xs p) : ∃ v p', F19_d N (n, rowsI xs, p) = some (v, rowsI xs, p') ∧ (0 ≤ v ∧ v < n) ∧ Dice xs p' := by
  obtain ⟨b, l, p0, p1⟩ := D
  simp only [F19_d, FSpec.d, F19_s]
  by_cases h : p ≥ ((rowsI xs).length : Int)
  · simp only [h, decide_true]
    exact ⟨0, p, rfl, by omega, ⟨b, l, p0, p1⟩⟩
  · have h1 : ¬ n < 1 := by omega
    have h2 : p.toNat < xs.length := by rw [rowsI_len] at h; omega
    have h3 : ¬ n = 0 := by omega
    simp only [h, decide_false, h1, p0, if_true, rowsI_get xs _ h2, List.getElem?_cons_zero, h3, if_false]
    have hb := b _ (List.getElem_mem h2)
    have hp : i64 (p + 1) = p + 1 := i64_id (by omega)
    by_cases hneg : (xs[p.toNat]).tmod n < 0
    · simp only [hneg, decide_true, hp]
      have t1 : -n < (xs[p.toNat]).tmod n := by
        have := Int.tmod_lt_of_pos (-xs[p.toNat]) (show 0 < n by omega)
        rw [Int.neg_tmod] at this
        omega
      rw [i64_id (by omega)]
      exact ⟨_, _, rfl, by omega, ⟨b, l, by omega, by rw [rowsI_len] at h; omega⟩⟩
    · simp only [hneg, decide_false, hp]
      have t1 := Int.tmod_lt_of_pos xs[p.toNat] (show 0 < n by omega)
      exact ⟨_, _, rfl, by omega, ⟨b, l, by omega, by rw [rowsI_len] at h; omega⟩⟩
theorem pick_ok (N : Nat) (O : List Int) {xs : List Int} {p : Int} (hO : 1 ≤ O.length ∧ O.length ≤ 1000) (D : Dice xs p) : ∃ v p', F25_d N (rowsI O, rowsI xs, p) = some (v, rowsI xs, p') ∧ v ∈ O ∧ Dice xs p' := by
  simp only [F25_d, FSpec.d, F25_s]
  obtain ⟨v, p', h1, h2, h3⟩ := next_ok N (n := (O.length : Int)) (by omega) D
  rw [rowsI_len, h1]
  have h4 : v.toNat < O.length := by omega
  simp only [h2.1, if_true, rowsI_get O _ h4, List.getElem?_cons_zero]
  exact ⟨_, _, rfl, List.getElem_mem h4, h3⟩
/-- A table of leap seconds from its days. -/
def lp (ds : List Int) : List Int := ds.mapIdx fun i d => 86400 * d + (i : Int)
theorem lp_len (ds : List Int) : (lp ds).length = ds.length := by simp [lp]
theorem lp_snoc (ds : List Int) (d : Int) : lp (ds ++ [d]) = lp ds ++ [86400 * d + (ds.length : Int)] := by simp [lp]
theorem lp_get (ds : List Int) (i : Nat) (h : i < (lp ds).length) : (lp ds)[i] = 86400 * ds[i]'(by rw [lp_len] at h; exact h) + (i : Int) := by simp [lp]
theorem rowsI_snoc (xs : List Int) (y : Int) : rowsI xs ++ [[AV.v (.int .i64 y)]] = rowsI (xs ++ [y]) := by simp [rowsI]
structure Good (ds : List Int) : Prop where
  len : ds.length ≤ 4
  inc : ds.Pairwise (· < ·)
  rng : ∀ d ∈ ds, 1 ≤ d ∧ d ≤ 1460
theorem leaps_loop (N : Nat) {xs : List Int} : ∀ (k f : Nat) (ds : List Int) (day p : Int), k < f → ds.length + k ≤ 4 → ds.Pairwise (· < ·) → (∀ d ∈ ds, 1 ≤ d ∧ d ≤ day) → 0 ≤ day ∧ day ≤ 365 * ds.length → Dice xs p → ∃ ds' p', (F15_l6 N).L f (rowsI (lp ds), day, (k : Int), rowsI xs, p) = some (rowsI (lp ds'), rowsI xs, p') ∧ Good ds' ∧ Dice xs p'
  | 0, f, ds, day, p, hf, hl, hi, hd, hr, D => by
    obtain ⟨f, rfl⟩ : ∃ f', f = f' + 1 := ⟨f - 1, by omega⟩
    refine ⟨ds, p, ?_, ⟨by omega, hi, fun d h => by have := hd d h; omega⟩, D⟩
    show (F15_l6 N).b _ _ ((F15_l6 N).L f) some = _
    generalize (F15_l6 N).L f = Lf
    simp only [F15_l6, decide_eq_false (show ¬ ((0 : Nat) : Int) > 0 by omega)]
  | k + 1, f, ds, day, p, hf, hl, hi, hd, hr, D => by
    obtain ⟨f, rfl⟩ : ∃ f', f = f' + 1 := ⟨f - 1, by omega⟩
    obtain ⟨v, p1, h1, h2, h3⟩ := pick_ok N [1, 1, 2, 10, 365] (by decide) D
    have hv : 1 ≤ v ∧ v ≤ 365 := by simp at h2; omega
    have hlen : ((ds ++ [day + v]).length : Int) = ds.length + 1 := by simp
    obtain ⟨ds', p', e1, e2, e3⟩ := leaps_loop N k f (ds ++ [day + v]) (day + v) p1 (by omega) (by simp; omega) (by
      rw [List.pairwise_append]
      refine ⟨hi, by simp, fun a ha b hb => ?_⟩
      obtain rfl : b = day + v := by simpa using hb
      have := hd a ha
      omega) (fun d h => by
      rcases List.mem_append.1 h with h | h
      · have := hd d h; omega
      · obtain rfl : d = day + v := by simpa using h
        omega) (by rw [hlen]; omega) h3
    refine ⟨ds', p', ?_, e2, e3⟩
    show (F15_l6 N).b _ _ ((F15_l6 N).L f) some = _
    generalize (F15_l6 N).L f = Lf at e1 ⊢
    have g1 : i64 (day + v) = day + v := i64_id (by omega)
    have g2 : i64 (86400 * (day + v)) = 86400 * (day + v) := i64_id (by omega)
    have g3 : i64 (86400 * (day + v) + (ds.length : Int)) = 86400 * (day + v) + (ds.length : Int) := i64_id (by omega)
    have g4 : i64 (((k + 1 : Nat) : Int) - 1) = (k : Int) := by
      rw [show (((k + 1 : Nat) : Int) - 1) = (k : Int) by omega]
      exact i64_id (by omega)
    have h1' : F25_d N ([[AV.v (.int .i64 1)], [AV.v (.int .i64 1)], [AV.v (.int .i64 2)], [AV.v (.int .i64 10)], [AV.v (.int .i64 365)]], rowsI xs, p) = some (v, rowsI xs, p1) := h1
    simp only [F15_l6, decide_eq_true (show ((k + 1 : Nat) : Int) > 0 by omega), h1', g1, g2, rowsI_len, lp_len, g3, g4, rowsI_snoc]
    rw [← lp_snoc]
    have hs : (ds.length + [[AV.v (.int .i64 (86400 * (day + v) + (ds.length : Int)))]].length) * 8 ≤ maxBytes := by
      have : 1000 ≤ maxBytes := by decide
      simp
      omega
    exact (if_pos hs).trans e1
theorem leaps_ok {xs : List Int} {p : Int} (D : Dice xs p) : ∃ ds p', F15_d 600 (rowsI xs, p) = some (rowsI (lp ds), rowsI xs, p') ∧ Good ds ∧ Dice xs p' := by
  obtain ⟨v, p1, h1, h2, h3⟩ := next_ok 600 (n := 5) (by omega) D
  obtain ⟨ds, p', e1, e2, e3⟩ := leaps_loop 600 v.toNat 600 [] 0 p1 (by omega) (by simp; omega) (by simp) (fun d h => by cases h) (by simp) h3
  have e1' : F15_d6 600 (([] : List (List AV)), 0, v, rowsI xs, p1) = some (rowsI (lp ds), rowsI xs, p') := by
    rw [show v = ((v.toNat : Nat) : Int) by omega]
    exact e1
  refine ⟨ds, p', ?_, e2, e3⟩
  simp only [F15_d, FSpec.d, F15_s, h1, e1']
end Go.Proofs.YtaanjciokdpkmaaDoor
