/- Utc, the plain law: tables that are valid, without memory. -/
import Derived.Test.YtaanjciokdpkmaaDoorUtF
namespace Go.Proofs.YtaanjciokdpkmaaDoor
set_option linter.unusedVariables false
set_option linter.unusedSimpArgs false
set_option linter.unnecessarySimpa false
theorem Good.at (ds : List Int) (G : Good ds) (i : Nat) (h : i < (lp ds).length) : ∃ d, (lp ds)[i] = 86400 * d + (i : Int) ∧ 1 ≤ d ∧ d ≤ 1460 ∧ ds[i]? = some d := by
  have h' : i < ds.length := by rw [lp_len] at h; exact h
  exact ⟨ds[i], lp_get ds i h, (G.rng _ (List.getElem_mem h')).1, (G.rng _ (List.getElem_mem h')).2, List.getElem?_eq_getElem h'⟩
theorem valid_loop {ds : List Int} (G : Good ds) : ∀ (k f i : Nat), i + k = ds.length → k < f → (F26_l4 600).L f (rowsI (lp ds), rowsI (lp ds), (ds.length : Int), (i : Int)) = some (.inr (rowsI (lp ds)))
  | 0, f, i, hk, hf => by
    obtain ⟨f, rfl⟩ : ∃ f', f = f' + 1 := ⟨f - 1, by omega⟩
    show (F26_l4 600).b _ _ ((F26_l4 600).L f) some = _
    generalize (F26_l4 600).L f = Lf
    simp only [F26_l4, decide_eq_false (show ¬ (i : Int) < (ds.length : Int) by omega)]
  | k + 1, f, i, hk, hf => by
    obtain ⟨f, rfl⟩ : ∃ f', f = f' + 1 := ⟨f - 1, by omega⟩
    have hlen := G.len
    have hi : i < (lp ds).length := by rw [lp_len]; omega
    obtain ⟨d, h1, h2, h3, h4⟩ := Good.at ds G i hi
    have r := valid_loop G k f (i + 1) (by omega) (by omega)
    rw [show ((i + 1 : Nat) : Int) = (i : Int) + 1 by omega] at r
    show (F26_l4 600).b _ _ ((F26_l4 600).L f) some = _
    generalize (F26_l4 600).L f = Lf at r ⊢
    have e1 : i64 (86400 * d + (i : Int) - (i : Int)) = 86400 * d := by
      rw [i64_id (by omega)]; omega
    have e2 : ((86400 * d).tmod 86400 != 0) = false := by
      rw [Int.mul_tmod_right]; rfl
    have e3 : i64 ((i : Int) + 1) = (i : Int) + 1 := i64_id (by omega)
    have hr : ((rowsI (lp ds))[((i : Int)).toNat]? : Option (List AV)) = some [AV.v (.int .i64 (86400 * d + (i : Int)))] := by
      rw [show ((i : Int)).toNat = i by omega, rowsI_get _ i hi, h1]
    simp only [F26_l4, decide_eq_true (show (i : Int) < (ds.length : Int) by omega), hr, List.getElem?_cons_zero, in_ok, decide_eq_true (show 1 ≤ 86400 * d + (i : Int) ∧ 86400 * d + (i : Int) ≤ 9007199254 by omega), Bool.not_true, e1, e2, e3]
    have h0 : (0 : Int) ≤ (i : Int) := by omega
    by_cases hz : i = 0
    · simp only [decide_eq_false (show ¬ (i : Int) > 0 by omega)]
      exact (if_pos h0).trans ((if_pos trivial).trans r)
    · have hj : i - 1 < (lp ds).length := by omega
      obtain ⟨c, c1, c2, c3, c4⟩ := Good.at ds G (i - 1) hj
      have hlt : c < d := by
        obtain ⟨a1, a2⟩ := List.getElem?_eq_some_iff.1 c4
        obtain ⟨b1, b2⟩ := List.getElem?_eq_some_iff.1 h4
        have := List.pairwise_iff_getElem.1 G.inc (i - 1) i a1 b1 (by omega)
        omega
      have g1 : i64 ((i : Int) - 1) = ((i - 1 : Nat) : Int) := by
        rw [i64_id (by omega)]; omega
      have hr2 : ((rowsI (lp ds))[(((i - 1 : Nat) : Int)).toNat]? : Option (List AV)) = some [AV.v (.int .i64 (86400 * c + ((i - 1 : Nat) : Int)))] := by
        rw [show (((i - 1 : Nat) : Int)).toNat = i - 1 by omega, rowsI_get _ (i - 1) hj, c1]
      have g2 : i64 (86400 * c + ((i - 1 : Nat) : Int) - ((i - 1 : Nat) : Int)) = 86400 * c := by
        rw [i64_id (by omega)]; omega
      simp only [decide_eq_true (show (i : Int) > 0 by omega), g1, hr2, List.getElem?_cons_zero, g2, decide_eq_false (show ¬ 86400 * d ≤ 86400 * c by omega)]
      have h00 : (0 : Int) ≤ ((i - 1 : Nat) : Int) := by omega
      exact (if_pos h0).trans ((if_pos trivial).trans ((if_pos h00).trans ((if_pos trivial).trans r)))
theorem valid_ok {ds : List Int} (G : Good ds) : F26_d 600 (rowsI (lp ds)) = some true := by
  have L : F26_d4 600 (rowsI (lp ds), rowsI (lp ds), (ds.length : Int), 0) = some (.inr (rowsI (lp ds))) := valid_loop G ds.length 600 0 (by omega) (by have := G.len; omega)
  have := G.len
  simp only [F26_d, FSpec.d, F26_s, rowsI_len, lp_len, L, decide_eq_true (show (ds.length : Int) ≤ 64 by omega)]
end Go.Proofs.YtaanjciokdpkmaaDoor
