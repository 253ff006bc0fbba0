/- Utc, the plain law: the search in a table, without memory. -/
import Derived.Test.YtaanjciokdpkmaaDoorUtG
namespace Go.Proofs.YtaanjciokdpkmaaDoor
set_option linter.unusedVariables false
set_option linter.unusedSimpArgs false
set_option linter.unnecessarySimpa false
theorem lp_take (ds : List Int) (m : Nat) : lp (ds.take m) = (lp ds).take m := by
  apply List.ext_getElem
  · simp [lp_len]
  · intro i h1 h2
    rw [lp_get, List.getElem_take, List.getElem_take, lp_get]
theorem Good.take {ds : List Int} (G : Good ds) (m : Nat) : Good (ds.take m) :=
  ⟨by have := G.len; simp; omega, G.inc.sublist (List.take_sublist _ _), fun d h => G.rng d (List.mem_of_mem_take h)⟩
theorem lp_inc {ds : List Int} (G : Good ds) {i j : Nat} (hij : i < j) (hj : j < (lp ds).length) : (lp ds)[i] + 86401 ≤ (lp ds)[j] := by
  obtain ⟨c, c1, c2, c3, c4⟩ := Good.at ds G i (by omega)
  obtain ⟨d, d1, d2, d3, d4⟩ := Good.at ds G j hj
  obtain ⟨a1, a2⟩ := List.getElem?_eq_some_iff.1 c4
  obtain ⟨b1, b2⟩ := List.getElem?_eq_some_iff.1 d4
  have := List.pairwise_iff_getElem.1 G.inc i j a1 b1 hij
  omega
theorem half_fin : ∀ s : Fin 16, IntKind.i64.wrap (shR .u64 (IntKind.u64.wrap (i64 (s.val : Int))) (1 : Int)) = ((s.val / 2 : Nat) : Int) := by decide
theorem half {a b : Nat} (h : a + b < 16) : IntKind.i64.wrap (shR .u64 (IntKind.u64.wrap (i64 ((a : Int) + (b : Int)))) (1 : Int)) = (((a + b) / 2 : Nat) : Int) := by
  have := half_fin ⟨a + b, h⟩
  rw [show ((a : Int) + (b : Int)) = ((a + b : Nat) : Int) by omega]
  exact this
theorem nan_ok (N : Nat) (a : Int) : F49_d N a = some false := by
  simp only [F49_d, FSpec.d, F49_s, bne_self_eq_false]
theorem nan_ok2 (N : Nat) (a : Int) : F47_d N a = some false := by
  simp only [F47_d, FSpec.d, F47_s, bne_self_eq_false]
theorem less_ok (N : Nat) (a b : Int) : F46_d N (a, b) = some (decide (a < b)) := by
  simp only [F46_d, FSpec.d, F46_s, nan_ok]
theorem bs_loop {ds : List Int} (G : Good ds) (x : Int) : ∀ (k f i j : Nat), j - i ≤ k → k < f → i ≤ j → j ≤ ds.length → (∀ q (h : q < (lp ds).length), q < i → (lp ds)[q] < x) → (∀ q (h : q < (lp ds).length), j ≤ q → x ≤ (lp ds)[q]) → ∃ p : Nat, (F41_l5 600).L f (rowsI (lp ds), x, (ds.length : Int), (i : Int), (j : Int)) = some (rowsI (lp ds), x, (ds.length : Int), (p : Int)) ∧ p ≤ ds.length ∧ (∀ q (h : q < (lp ds).length), q < p → (lp ds)[q] < x) ∧ (∀ q (h : q < (lp ds).length), p ≤ q → x ≤ (lp ds)[q]) := by
  intro k
  induction k with
  | zero =>
    intro f i j hk hf hij hj h1 h2
    obtain ⟨f, rfl⟩ : ∃ f', f = f' + 1 := ⟨f - 1, by omega⟩
    obtain rfl : i = j := by omega
    refine ⟨i, ?_, hj, h1, h2⟩
    show (F41_l5 600).b _ _ ((F41_l5 600).L f) some = _
    generalize (F41_l5 600).L f = Lf
    simp only [F41_l5, decide_eq_false (show ¬ (i : Int) < (i : Int) by omega)]
  | succ k ih =>
    intro f i j hk hf hij hj h1 h2
    obtain ⟨f, rfl⟩ : ∃ f', f = f' + 1 := ⟨f - 1, by omega⟩
    by_cases hlt : i < j
    · have hlen := G.len
      have hm : (i + j) / 2 < (lp ds).length := by rw [lp_len]; omega
      have hr : ((rowsI (lp ds))[((((i + j) / 2 : Nat) : Int)).toNat]? : Option (List AV)) = some [AV.v (.int .i64 ((lp ds)[(i + j) / 2]))] := by
        rw [show ((((i + j) / 2 : Nat) : Int)).toNat = (i + j) / 2 by omega, rowsI_get _ _ hm]
      have h0 : (0 : Int) ≤ (((i + j) / 2 : Nat) : Int) := by omega
      by_cases hx : (lp ds)[(i + j) / 2] < x
      · obtain ⟨p, r, r1, r2, r3⟩ := ih f ((i + j) / 2 + 1) j (by omega) (by omega) (by omega) hj (fun q h hq => by
          rcases Nat.lt_or_ge q ((i + j) / 2) with hq' | hq'
          · have := lp_inc G hq' hm; omega
          · obtain rfl : q = (i + j) / 2 := by omega
            exact hx) h2
        refine ⟨p, ?_, r1, r2, r3⟩
        show (F41_l5 600).b _ _ ((F41_l5 600).L f) some = _
        generalize (F41_l5 600).L f = Lf at r ⊢
        simp only [F41_l5, decide_eq_true (show (i : Int) < (j : Int) by omega), half (show i + j < 16 by omega), hr, List.getElem?_cons_zero, less_ok, decide_eq_true hx]
        rw [i64_id (by omega), show ((((i + j) / 2 : Nat) : Int) + 1) = (((i + j) / 2 + 1 : Nat) : Int) by omega]
        exact (if_pos h0).trans ((if_pos trivial).trans r)
      · obtain ⟨p, r, r1, r2, r3⟩ := ih f i ((i + j) / 2) (by omega) (by omega) (by omega) (by omega) h1 (fun q h hq => by
          rcases Nat.lt_or_ge ((i + j) / 2) q with hq' | hq'
          · have := lp_inc G hq' h; omega
          · obtain rfl : q = (i + j) / 2 := by omega
            omega)
        refine ⟨p, ?_, r1, r2, r3⟩
        show (F41_l5 600).b _ _ ((F41_l5 600).L f) some = _
        generalize (F41_l5 600).L f = Lf at r ⊢
        simp only [F41_l5, decide_eq_true (show (i : Int) < (j : Int) by omega), half (show i + j < 16 by omega), hr, List.getElem?_cons_zero, less_ok, decide_eq_false hx]
        exact (if_pos h0).trans ((if_pos trivial).trans r)
    · obtain rfl : i = j := by omega
      refine ⟨i, ?_, hj, h1, h2⟩
      show (F41_l5 600).b _ _ ((F41_l5 600).L f) some = _
      generalize (F41_l5 600).L f = Lf
      simp only [F41_l5, decide_eq_false (show ¬ (i : Int) < (i : Int) by omega)]
/-- The search in a table: how many leap seconds lie ahead of a second; whether it is one. -/
theorem bs_ok {ds : List Int} (G : Good ds) (x : Int) : ∃ (p : Nat) (b : Bool), F41_d 600 (rowsI (lp ds), x) = some ((p : Int), b) ∧ p ≤ (lp ds).length ∧ (∀ q (h : q < (lp ds).length), q < p → (lp ds)[q] < x) ∧ (∀ q (h : q < (lp ds).length), p ≤ q → x ≤ (lp ds)[q]) ∧ (b = true ↔ ∃ h : p < (lp ds).length, (lp ds)[p] = x) := by
  have hlen := G.len
  obtain ⟨p, r, r1, r2, r3⟩ := bs_loop G x ds.length 600 0 ds.length (by omega) (by omega) (by omega) (by omega) (fun q h hq => by omega) (fun q h hq => by rw [lp_len] at h; omega)
  have r' : F41_d5 600 (rowsI (lp ds), x, (ds.length : Int), 0, (ds.length : Int)) = some (rowsI (lp ds), x, (ds.length : Int), (p : Int)) := r
  have h0 : (0 : Int) ≤ (p : Int) := by omega
  by_cases hp : p < ds.length
  · have hp' : p < (lp ds).length := by rw [lp_len]; exact hp
    have hr : ((rowsI (lp ds))[((p : Int)).toNat]? : Option (List AV)) = some [AV.v (.int .i64 ((lp ds)[p]))] := by
      rw [show ((p : Int)).toNat = p by omega, rowsI_get _ _ hp']
    by_cases he : (lp ds)[p] = x
    · refine ⟨p, true, ?_, by rw [lp_len]; exact r1, r2, r3, by simp [hp', he]⟩
      have e1 : ((lp ds)[p] == x) = true := beq_iff_eq.2 he
      simp only [F41_d, FSpec.d, F41_s, rowsI_len, lp_len, r', decide_eq_true (show (p : Int) < (ds.length : Int) by omega), hr, List.getElem?_cons_zero, e1, h0, if_true]
    · refine ⟨p, false, ?_, by rw [lp_len]; exact r1, r2, r3, by simp [hp', he]⟩
      have e1 : ((lp ds)[p] == x) = false := beq_eq_false_iff_ne.2 he
      simp only [F41_d, FSpec.d, F41_s, rowsI_len, lp_len, r', decide_eq_true (show (p : Int) < (ds.length : Int) by omega), hr, List.getElem?_cons_zero, e1, h0, if_true, nan_ok2]
  · refine ⟨p, false, ?_, by rw [lp_len]; exact r1, r2, r3, ⟨fun h => (by cases h), fun ⟨h, _⟩ => absurd (show p < ds.length by rw [lp_len] at h; exact h) hp⟩⟩
    simp only [F41_d, FSpec.d, F41_s, rowsI_len, lp_len, r', decide_eq_false (show ¬ (p : Int) < (ds.length : Int) by omega)]
end Go.Proofs.YtaanjciokdpkmaaDoor
