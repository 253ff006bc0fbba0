/- Steim, the plain law: the dice, samples, lists compared; the law SteimBack. -/
import Derived.Test.YtdmedeaknnldcaaDoorStH
import Derived.Test.YtdmedeaknnldcaaDoorPkU
namespace Go.Proofs.YtdmedeaknnldcaaDoor
open Go.RowKit
set_option linter.unusedVariables false
set_option linter.unusedSimpArgs false
set_option linter.unnecessarySimpa false
structure Dice (xs : List Int) (p : Int) : Prop where
  b : ∀ x ∈ xs, -9223372036854775808 ≤ x ∧ x ≤ 9223372036854775807
  l : xs.length ≤ 500
  p0 : 0 ≤ p
  p1 : p ≤ 500
theorem next_ok (N : Nat) {n : Int} {xs : List Int} {p : Int} (hn : 1 ≤ n ∧ n ≤ 1000000) (D : Dice xs p) : ∃ v p', F15_d N (n, rowsI xs, p) = some (v, rowsI xs, p') ∧ (0 ≤ v ∧ v < n) ∧ Dice xs p' := by
  obtain ⟨b, l, p0, p1⟩ := D
  simp only [F15_d, FSpec.d, F15_s]
  by_cases h : p ≥ ((rowsI xs).length : Int)
  · simp only [h, decide_true]
    exact ⟨0, p, rfl, by omega, ⟨b, l, p0, p1⟩⟩
  · have h1 : ¬ n < 1 := by omega
    have h2 : p.toNat < xs.length := by rw [rowsI_len] at h; omega
    have h3 : ¬ n = 0 := by omega
    simp only [h, decide_false, h1, p0, if_true, rowsI_get xs _ h2, List.getElem?_cons_zero, h3, if_false]
    have hb := b _ (List.getElem_mem h2)
    have hp : i64 (p + 1) = p + 1 := i64_id (by omega)
    by_cases hneg : (xs[p.toNat]).tmod n < 0
    · simp only [hneg, decide_true, hp]
      have t1 : -n < (xs[p.toNat]).tmod n := by
        have := Int.tmod_lt_of_pos (-xs[p.toNat]) (show 0 < n by omega)
        rw [Int.neg_tmod] at this
        omega
      rw [i64_id (by omega)]
      exact ⟨_, _, rfl, by omega, ⟨b, l, by omega, by rw [rowsI_len] at h; omega⟩⟩
    · simp only [hneg, decide_false, hp]
      have t1 := Int.tmod_lt_of_pos xs[p.toNat] (show 0 < n by omega)
      exact ⟨_, _, rfl, by omega, ⟨b, l, by omega, by rw [rowsI_len] at h; omega⟩⟩
theorem pick_ok (N : Nat) (O : List Int) {xs : List Int} {p : Int} (hO : 1 ≤ O.length ∧ O.length ≤ 1000) (D : Dice xs p) : ∃ v p', F19_d N (rowsI O, rowsI xs, p) = some (v, rowsI xs, p') ∧ v ∈ O ∧ Dice xs p' := by
  simp only [F19_d, FSpec.d, F19_s]
  obtain ⟨v, p', h1, h2, h3⟩ := next_ok N (n := (O.length : Int)) (by omega) D
  rw [rowsI_len, h1]
  have h4 : v.toNat < O.length := by omega
  simp only [h2.1, if_true, rowsI_get O _ h4, List.getElem?_cons_zero]
  exact ⟨_, _, rfl, List.getElem_mem h4, h3⟩

theorem light_ok (N : Nat) (xs : List Int) : F6_d N (rowsI xs) = some (decide ((xs.length : Int) ≤ 500)) := by
  simp only [F6_d, FSpec.d, F6_s, rowsI_len]
def clm (x : Int) : Int := if 1073741823 < (if -1073741823 > x then -1073741823 else x) then 1073741823 else (if -1073741823 > x then -1073741823 else x)
theorem clm_smp (x : Int) : Smp (clm x) := by
  unfold clm Smp
  split <;> split <;> omega
theorem smp_loop {xs : List Int} : ∀ (k f : Nat) (p v : Int) (acc : List Int), k < f → acc.length + k ≤ 400 → Dice xs p → Smp v → (∀ x ∈ acc, Smp x) →
    ∃ (X : List Int) (p' : Int), (F21_l6 600).L f (rowsI acc, v, (k : Int), rowsI xs, p) = some (rowsI X, rowsI xs, p') ∧ X.length = acc.length + k ∧ (∀ x ∈ X, Smp x) ∧ Dice xs p'
  | 0, f, p, v, acc, hf, hl, D, hv, ha => by
    obtain ⟨f, rfl⟩ : ∃ f', f = f' + 1 := ⟨f - 1, by omega⟩
    refine ⟨acc, p, ?_, rfl, ha, D⟩
    show (F21_l6 600).b _ _ ((F21_l6 600).L f) some = _
    have c : decide (((0 : Nat) : Int) > 0) = false := rfl
    simp only [F21_l6, c]
  | k + 1, f, p, v, acc, hf, hl, D, hv, ha => by
    obtain ⟨f, rfl⟩ : ∃ f', f = f' + 1 := ⟨f - 1, by omega⟩
    have hk : decide (((k + 1 : Nat) : Int) > 0) = true := by rw [decide_eq_true_iff]; omega
    have hi : i64 (((k + 1 : Nat) : Int) - 1) = (k : Int) := by rw [i64_id (by omega)]; omega
    have hb : ((rowsI acc).length + 1) * 8 ≤ maxBytes := by rw [rowsI_len]; unfold maxBytes; omega
    obtain ⟨c, p1, g1, m1, D1⟩ := next_ok 600 (n := 10) (by omega) D
    have key : ∀ (p2 u : Int), Dice xs p2 → Smp u → ∃ (X : List Int) (p' : Int), (F21_l6 600).L f (rowsI (acc ++ [u]), u, (k : Int), rowsI xs, p2) = some (rowsI X, rowsI xs, p') ∧ X.length = acc.length + (k + 1) ∧ (∀ x ∈ X, Smp x) ∧ Dice xs p' := fun p2 u D2 hu => by
      obtain ⟨X, p', r1, r2, r3, r4⟩ := smp_loop k f p2 u (acc ++ [u]) (by omega) (by simp; omega) D2 hu (fun x hx => by
        rcases List.mem_append.1 hx with h | h
        · exact ha x h
        · rw [List.mem_singleton.1 h]; exact hu)
      exact ⟨X, p', r1, by rw [r2]; simp; omega, r3, r4⟩
    have fin : ∃ (X : List Int) (p' : Int), (F21_l6 600).b (rowsI acc, v, ((k + 1 : Nat) : Int), rowsI xs, p) _ ((F21_l6 600).L f) some = some (rowsI X, rowsI xs, p') ∧ X.length = acc.length + (k + 1) ∧ (∀ x ∈ X, Smp x) ∧ Dice xs p' := by
      obtain ⟨Lf, hL⟩ : ∃ Lf, Lf = (F21_l6 600).L f := ⟨_, rfl⟩
      rw [← hL] at key ⊢
      by_cases h0 : c = 0
      · subst h0
        obtain ⟨w, p2, g2, m2, D2⟩ := pick_ok 600 [127, 128, -128, -129, 300] (by simp) D1
        replace g2 : F19_d 600 ([[(AV.v (.int .i64 127))], [(AV.v (.int .i64 128))], [(AV.v (.int .i64 (-128)))], [(AV.v (.int .i64 (-129)))], [(AV.v (.int .i64 300))]], rowsI xs, p1) = some (w, rowsI xs, p2) := g2
        have hu := clm_smp (i64 (v + w))
        have q := key p2 _ D2 hu
        unfold clm at q
        simp only [F21_l6, hk, g1, beq_self_eq_true, g2, List.length_cons, List.length_nil, Nat.zero_add, hb, if_true, rowsI_snoc, hi]
        exact q
      · have b0 : (c == 0) = false := beq_eq_false_iff_ne.2 h0
        by_cases h1 : c = 1
        · subst h1
          obtain ⟨w, p2, g2, m2, D2⟩ := pick_ok 600 [32767, 32768, -32768, -32769] (by simp) D1
          replace g2 : F19_d 600 ([[(AV.v (.int .i64 32767))], [(AV.v (.int .i64 32768))], [(AV.v (.int .i64 (-32768)))], [(AV.v (.int .i64 (-32769)))]], rowsI xs, p1) = some (w, rowsI xs, p2) := g2
          have hu := clm_smp (i64 (v + w))
          have q := key p2 _ D2 hu
          unfold clm at q
          simp only [F21_l6, hk, g1, b0, beq_self_eq_true, g2, List.length_cons, List.length_nil, Nat.zero_add, hb, if_true, rowsI_snoc, hi]
          exact q
        · have b1 : (c == 1) = false := beq_eq_false_iff_ne.2 h1
          by_cases h2 : c = 2
          · subst h2
            obtain ⟨w, p2, g2, m2, D2⟩ := pick_ok 600 [0, 1073741823, -1073741823, 536870912] (by simp) D1
            replace g2 : F19_d 600 ([[(AV.v (.int .i64 0))], [(AV.v (.int .i64 1073741823))], [(AV.v (.int .i64 (-1073741823)))], [(AV.v (.int .i64 536870912))]], rowsI xs, p1) = some (w, rowsI xs, p2) := g2
            have hu := clm_smp w
            have q := key p2 _ D2 hu
            unfold clm at q
            simp only [F21_l6, hk, g1, b0, b1, beq_self_eq_true, g2, List.length_cons, List.length_nil, Nat.zero_add, hb, if_true, rowsI_snoc, hi]
            exact q
          · have b2 : (c == 2) = false := beq_eq_false_iff_ne.2 h2
            obtain ⟨w, p2, g2, m2, D2⟩ := next_ok 600 (n := 9) (by omega) D1
            have hu := clm_smp (i64 (v + i64 (w - 4)))
            have q := key p2 _ D2 hu
            unfold clm at q
            simp only [F21_l6, hk, g1, b0, b1, b2, g2, List.length_cons, List.length_nil, Nat.zero_add, hb, if_true, rowsI_snoc, hi]
            exact q
    exact fin
theorem samples_ok {n : Int} (hn : 1 ≤ n ∧ n ≤ 200) {xs : List Int} {p : Int} (D : Dice xs p) : ∃ (X : List Int) (p' : Int), F21_d 600 (n, rowsI xs, p) = some (rowsI X, rowsI xs, p') ∧ (1 ≤ X.length ∧ (X.length : Int) ≤ n) ∧ (∀ x ∈ X, Smp x) ∧ Dice xs p' := by
  obtain ⟨v, p1, g1, m1, D1⟩ := pick_ok 600 [0, 5, -100, 1000] (by simp) D
  replace g1 : F19_d 600 ([[(AV.v (.int .i64 0))], [(AV.v (.int .i64 5))], [(AV.v (.int .i64 (-100)))], [(AV.v (.int .i64 1000))]], rowsI xs, p) = some (v, rowsI xs, p1) := g1
  obtain ⟨c, p2, g2, m2, D2⟩ := next_ok 600 (n := n) (by omega) D1
  have e1 : i64 (1 + c) = ((1 + c.toNat : Nat) : Int) := by rw [i64_id (by omega)]; omega
  have hv : Smp v := by unfold Smp; simp at m1; omega
  obtain ⟨X, p', r1, r2, r3, r4⟩ := smp_loop (xs := xs) (1 + c.toNat) 600 p2 v [] (by omega) (by simp; omega) D2 hv (by simp)
  replace r1 : (F21_l6 600).L 600 (([] : List (List AV)), v, ((1 + c.toNat : Nat) : Int), rowsI xs, p2) = _ := r1
  simp only [List.length_nil, Nat.zero_add] at r2
  refine ⟨X, p', ?_, by omega, r3, r4⟩
  simp only [F21_d, FSpec.d, F21_s, g1, g2, e1, F21_d6, r1]
theorem same_loop (S : List Int) : ∀ (k i f : Nat), k < f → i + k = S.length → S.length ≤ 590 → (F29_l8 600).L f (rowsI S, rowsI S, (i : Int)) = some (.inr ())
  | 0, i, f, hf, hi, hl => by
    obtain ⟨f, rfl⟩ : ∃ f', f = f' + 1 := ⟨f - 1, by omega⟩
    show (F29_l8 600).b _ _ ((F29_l8 600).L f) some = _
    have : decide ((i : Int) < (S.length : Int)) = false := by rw [decide_eq_false_iff_not]; omega
    simp only [F29_l8, rowsI_len, this]
  | k + 1, i, f, hf, hi, hl => by
    obtain ⟨f, rfl⟩ : ∃ f', f = f' + 1 := ⟨f - 1, by omega⟩
    have hlt : i < S.length := by omega
    have c1 : decide ((i : Int) < (S.length : Int)) = true := by rw [decide_eq_true_iff]; omega
    have c2 : (0 : Int) ≤ (i : Int) := by omega
    have c4 : i64 ((i : Int) + 1) = ((i + 1 : Nat) : Int) := by rw [i64_id (by omega)]; omega
    have r1 := same_loop S k (i + 1) f (by omega) (by omega) hl
    show (F29_l8 600).b _ _ ((F29_l8 600).L f) some = _
    obtain ⟨Lf, hL⟩ : ∃ Lf, Lf = (F29_l8 600).L f := ⟨_, rfl⟩
    rw [← hL] at r1 ⊢
    simp only [F29_l8, rowsI_len, c1, c2, if_true, Int.toNat_natCast, rowsI_get S i hlt, List.getElem?_cons_zero, bne_self_eq_false, c4]
    exact r1
theorem same_ok (S : List Int) (hl : S.length ≤ 590) : F29_d 600 (rowsI S, rowsI S) = some true := by
  have r := same_loop S S.length 0 600 (by omega) (by omega) hl
  replace r : (F29_l8 600).L 600 (rowsI S, rowsI S, 0) = some (.inr ()) := r
  simp only [F29_d, FSpec.d, F29_s, bne_self_eq_false, F29_d8, r]
/-- Decoding the encoding of samples. -/
theorem nfr_rng (w : Nat) (h : w ≤ 104) : 1 ≤ nfr w ∧ nfr w ≤ 8 ∧ w + 2 ≤ 15 * nfr w := by
  unfold nfr
  omega
theorem back (X : List Int) (hX : ∀ x ∈ X, Smp x) (hl : 1 ≤ X.length ∧ X.length ≤ 104) (m : Nat) (hm : 1 ≤ m ∧ m ≤ X.length) : F23_d 600 (rowsI X) = some (FS (nfr (wX X).length) (lX X), 0) ∧ F45_d 600 (FS (nfr (wX X).length) (lX X), (m : Int)) = some (if X.getD (m - 1) 0 = X.getLastD 0 then (rowsI (X.take m), 0) else (rowsI [], 11)) := by
  have h0 : X ≠ [] := fun e => by rw [e] at hl; simp at hl
  have hw := (wX_len X).1
  have hn := nfr_rng (wX X).length (by omega)
  refine ⟨enc_ok X (by omega) h0 hX hn.2.1, ?_⟩
  have hlast : Fit32 (X.getLastD 0) := by
    have hl1 : X.length - 1 < X.length := by omega
    have el : X.getLastD 0 = X[X.length - 1] := by
      rw [List.getLastD_eq_getLast?, List.getLast?_eq_getElem?, List.getElem?_eq_getElem hl1]; rfl
    have := hX _ (List.getElem_mem hl1)
    rw [el]
    unfold Smp at this
    unfold Fit32
    omega
  have d := dec_frames X hX h0 (by omega) (nfr (wX X).length) ⟨hn.1, hn.2.1⟩ hn.2.2 (X.getLastD 0 % 4294967296) (by omega) m hm (by omega)
  rw [sgn32_mod hlast] at d
  rw [dec_any _ (by rw [FS_size]; omega)]
  have e : lX X = (0, X.headD 0 % 4294967296) :: (0, X.getLastD 0 % 4294967296) :: wX X := rfl
  rw [e, d]
  split <;> rfl
theorem getLast_at (X : List Int) (h : 1 ≤ X.length) : X.getD (X.length - 1) 0 = X.getLastD 0 := by
  have hl1 : X.length - 1 < X.length := by omega
  rw [List.getLastD_eq_getLast?, List.getLast?_eq_getElem?, List.getElem?_eq_getElem hl1, List.getD_eq_getElem?_getD, List.getElem?_eq_getElem hl1]
end Go.Proofs.YtdmedeaknnldcaaDoor
