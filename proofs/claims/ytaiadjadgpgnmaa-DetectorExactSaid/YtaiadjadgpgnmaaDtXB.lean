/- DetectorExact, the plain law: Run, Ratio, Start of both packages. -/
import Derived.Test.YtaiadjadgpgnmaaDtXA
namespace Go.Proofs.Ytaiadjadgpgnmaa
open Go.RowKit
set_option linter.unusedVariables false
set_option linter.unusedSimpArgs false
set_option linter.unnecessarySimpa false
theorem rstep_ok {S L a b : Int} (h : DtOk S L a b) {z : List Int} (hz : ∀ v ∈ z, Abs v) (hzl : z.length ≤ 1000000) {i : Nat} (hi : i < z.length) (hL : L ≤ i + 1) {base : Int} (hb : 0 ≤ base) (t : Trg) (E : List Trg) :
    ∃ (e : Trg) (fl : Bool), F44_d 600 (S, L, a, b, rowsI z, (i : Int), base + (i : Int), t.1, t.2.1, t.2.2) = some ((stp S L a b z base i (t, E)).1.1, (stp S L a b z base i (t, E)).1.2.1, (stp S L a b z base i (t, E)).1.2.2, e.1, e.2.1, e.2.2, fl) ∧ (stp S L a b z base i (t, E)).2 = if fl then E ++ [e] else E := by
  have ⟨g1, g2, g3, g4, g5, g6⟩ := h
  have ws := W_in hz (n := S.toNat) (i := i) (by omega) hi
  have wl := W_in hz (n := L.toNat) (i := i) (by omega) hi
  have ra := rreach_ok h (p := a) (by omega) ws wl 600
  have rb := rreach_ok h (p := b) (by omega) ws wl 600
  have hv := hz _ (List.getElem_mem hi)
  unfold Abs at hv
  have hge : base + (i : Int) + 1 ≥ L := by omega
  have hd : z.getD i 0 = z[i] := by simp [List.getD, hi]
  have su := sums_ok h hz hzl hi hL
  have c2 : (0 : Int) ≤ (i : Int) := by omega
  obtain ⟨o, f, p⟩ := t
  by_cases c : o ≥ 0
  · have c1 : decide (o < 0) = false := by rw [decide_eq_false_iff_not]; omega
    cases r : reachB S L b (W z S.toNat i) (W z L.toNat i) with
    | true =>
      refine ⟨(0, 0, 0), false, ?_, ?_⟩
      · unfold stp tr1 tr2
        simp only [F44_d, FSpec.d, F44_s, su, c1, rb, r, Bool.not_true, c2, if_true, Int.toNat_natCast, rowsI_get z i hi, List.getElem?_cons_zero, hge, c, hd]
      · unfold stp tr1
        simp only [hge, if_true, c, r]
        rfl
    | false =>
      refine ⟨(o, base + (i : Int), p), true, ?_, ?_⟩
      · unfold stp tr1 tr2
        simp only [F44_d, FSpec.d, F44_s, su, c1, rb, r, Bool.not_false, tail_ok, hge, c, if_true, Bool.false_eq_true, if_false]
        rfl
      · unfold stp tr1
        simp only [hge, if_true, c, r, Bool.false_eq_true, if_false]
  · have c1 : decide (o < 0) = true := by rw [decide_eq_true_iff]; omega
    cases r : reachB S L a (W z S.toNat i) (W z L.toNat i) with
    | true =>
      refine ⟨(0, 0, 0), false, ?_, ?_⟩
      · have c3 : base + (i : Int) ≥ 0 := by omega
        have c4 : (if z[i] > 0 then z[i] else 0) = z[i] := by split <;> omega
        unfold stp tr1 tr2
        simp only [F44_d, FSpec.d, F44_s, su, c1, ra, r, c2, if_true, Int.toNat_natCast, rowsI_get z i hi, List.getElem?_cons_zero, hge, c, if_false, hd, c3, c4]
      · unfold stp tr1
        simp only [hge, if_true, c, r, if_false]
        rfl
    | false =>
      refine ⟨(0, 0, 0), false, ?_, ?_⟩
      · unfold stp tr1 tr2
        simp only [F44_d, FSpec.d, F44_s, su, c1, ra, r, hge, c, if_true, if_false, Bool.false_eq_true]
      · unfold stp tr1
        simp only [hge, if_true, c, r, if_false, Bool.false_eq_true]
theorem rrun_loop {S L a b : Int} (h : DtOk S L a b) {z : List Int} (hz : ∀ v ∈ z, Abs v) (hzl : z.length ≤ 1000) : ∀ (m i fu : Nat) (q : Trg × List Trg), m < fu → m = z.length - i → L ≤ i + 1 → q.2.length + m ≤ 100000 →
    (F24_l18 600).L fu (rowsT q.2, rowsI z, (i : Int), S, L, a, b, q.1.1, q.1.2.1, q.1.2.2) = some (rowsT (runT S L a b z 0 m i q).2, (runT S L a b z 0 m i q).1.1, (runT S L a b z 0 m i q).1.2.1, (runT S L a b z 0 m i q).1.2.2)
  | 0, i, fu, q, hf, hi, hL, hE => by
    obtain ⟨f, rfl⟩ : ∃ f', fu = f' + 1 := ⟨fu - 1, by omega⟩
    show (F24_l18 600).b _ _ ((F24_l18 600).L f) some = _
    have c : decide ((i : Int) < (z.length : Int)) = false := by rw [decide_eq_false_iff_not]; omega
    simp only [F24_l18, rowsI_len, c, runT]
  | m + 1, i, fu, q, hf, hi, hL, hE => by
    obtain ⟨f, rfl⟩ : ∃ f', fu = f' + 1 := ⟨fu - 1, by omega⟩
    have hlt : i < z.length := by omega
    obtain ⟨e, fl, s1, s2⟩ := rstep_ok h hz (by omega) hlt hL (base := 0) (by omega) q.1 q.2
    rw [Int.zero_add] at s1
    have hE2 : (stp S L a b z 0 i (q.1, q.2)).2.length ≤ q.2.length + 1 := by
      rw [s2]; split <;> simp
    change (stp S L a b z 0 i q).2.length ≤ q.2.length + 1 at hE2
    have r := rrun_loop h hz hzl m (i + 1) f (stp S L a b z 0 i q) (by omega) (by omega) (by omega) (by omega)
    have c1 : decide ((i : Int) < (z.length : Int)) = true := by rw [decide_eq_true_iff]; omega
    have e2 : i64 ((i : Int) + 1) = ((i + 1 : Nat) : Int) := by rw [i64_id (by omega)]; omega
    show (F24_l18 600).b _ _ ((F24_l18 600).L f) some = _
    obtain ⟨Lf, hLf⟩ : ∃ Lf, Lf = (F24_l18 600).L f := ⟨_, rfl⟩
    rw [← hLf] at r ⊢
    change _ = if fl then q.2 ++ [e] else q.2 at s2
    unfold runT
    change F44_d 600 _ = some ((stp S L a b z 0 i q).1.1, (stp S L a b z 0 i q).1.2.1, (stp S L a b z 0 i q).1.2.2, _) at s1
    change (stp S L a b z 0 i q).2 = _ at s2
    have hb : ((rowsT q.2).length + [[AV.v (.int .i64 e.1), AV.v (.int .i64 e.2.1), AV.v (.int .i64 e.2.2)]].length) * 24 ≤ maxBytes := by
      rw [rowsT_len]; unfold maxBytes; simp; omega
    rw [s2] at r
    cases fl with
    | true =>
      simp only [F24_l18, rowsI_len, c1, s1, hb, if_true, rowsT_snoc, e2]
      exact r
    | false =>
      simp only [F24_l18, rowsI_len, c1, s1, e2]
      exact r
/-- Ahead of a long window nothing opens. -/
theorem runT_quiet {S L a b : Int} {z : List Int} {base : Int} : ∀ (m i : Nat) (q : Trg × List Trg), q.1.1 < 0 → base + i + m < L → runT S L a b z base m i q = q
  | 0, i, q, h, hb => rfl
  | m + 1, i, q, h, hb => by
    have e : stp S L a b z base i q = q := by
      have c1 : ¬ base + (i : Int) + 1 ≥ L := by omega
      have c2 : ¬ q.1.1 ≥ 0 := by omega
      unfold stp tr1 tr2
      simp only [c1, c2, if_false]
    unfold runT
    rw [e]
    exact runT_quiet m (i + 1) q h (by omega)
def runV (S L a b : Int) (xs : List Int) : List Trg × Int :=
  if DtOk S L a b then (if xs.all smpB then (outs S L a b (xs.map ab), 0) else ([], 2)) else ([], 1)
theorem run_any (S L a b : Int) {xs : List Int} (hl : xs.length ≤ 590) : F13_d 600 (S, L, a, b, rowsI xs) = some (rowsT (runV S L a b xs).1, (runV S L a b xs).2) := by
  have c1 : decide ((xs.length : Int) > 65536) = false := by rw [decide_eq_false_iff_not]; omega
  unfold runV
  by_cases h : DtOk S L a b
  · rw [if_pos h]
    cases g : xs.all smpB with
    | true => exact run_ok h (all_smp g) hl
    | false =>
      have d := decide_eq_true h
      simp only [F13_d, FSpec.d, F13_s, valid_any, d, Bool.not_true, rowsI_len, c1, cont_any xs hl, g, Bool.not_false]
      rfl
  · rw [if_neg h]
    have d := decide_eq_false h
    simp only [F13_d, FSpec.d, F13_s, valid_any, d, Bool.not_false]
    rfl
theorem abs_row {xs : List Int} (hx : ∀ x ∈ xs, Smp x) : ∀ v ∈ xs.map ab, Abs v := fun v hv => by
  obtain ⟨x, hx', rfl⟩ := List.mem_map.1 hv
  exact (hx x hx').ab
theorem rrun_ok {S L a b : Int} (h : DtOk S L a b) {xs : List Int} (hx : ∀ x ∈ xs, Smp x) (hl : xs.length ≤ 590) : F24_d 600 (S, L, a, b, rowsI xs) = some (rowsT (outs S L a b (xs.map ab)), 0) := by
  have ⟨g1, g2, g3, g4, g5, g6⟩ := h
  have c1 : decide ((xs.length : Int) > 65536) = false := by rw [decide_eq_false_iff_not]; omega
  have g : xs.all smpB = true := List.all_eq_true.2 fun x hx' => decide_eq_true (hx x hx')
  have e1 : i64 (L - 1) = ((L.toNat - 1 : Nat) : Int) := by rw [i64_id (by omega)]; omega
  have zl : (xs.map ab).length = xs.length := by simp
  have r := rrun_loop h (abs_row hx) (by omega) _ (L.toNat - 1) 600 none0 (by omega) rfl (by omega) (by simp [none0]; omega)
  have hq : outs S L a b (xs.map ab) = closed (runT S L a b (xs.map ab) 0 ((xs.map ab).length - (L.toNat - 1)) (L.toNat - 1) none0) := by
    unfold outs
    by_cases c : (xs.map ab).length ≤ L.toNat - 1
    · rw [runT_quiet (xs.map ab).length 0 none0 (by simp [none0]) (by omega), show (xs.map ab).length - (L.toNat - 1) = 0 by omega]
      rfl
    · obtain ⟨m, hm⟩ : ∃ m, (xs.map ab).length = (L.toNat - 1) + m := ⟨(xs.map ab).length - (L.toNat - 1), by omega⟩
      rw [hm, runT_add, runT_quiet (L.toNat - 1) 0 none0 (by simp [none0]) (by omega), Nat.zero_add, show L.toNat - 1 + m - (L.toNat - 1) = m by omega]
  have hlen := runT_len S L a b (xs.map ab) 0 ((xs.map ab).length - (L.toNat - 1)) (L.toNat - 1) none0
  rw [hq]
  obtain ⟨⟨⟨o, f, p⟩, E⟩, hT⟩ : ∃ q, q = runT S L a b (xs.map ab) 0 ((xs.map ab).length - (L.toNat - 1)) (L.toNat - 1) none0 := ⟨_, rfl⟩
  rw [← hT] at hlen r ⊢
  simp only [none0, List.length_nil] at hlen
  replace r : (F24_l18 600).L 600 ([], rowsI (xs.map ab), ((L.toNat - 1 : Nat) : Int), S, L, a, b, -1, 0, 0) = _ := r
  simp only [F24_d, FSpec.d, F24_s, rvalid_any, decide_eq_true h, Bool.not_true, rowsI_len, c1, rng_any xs hl, g, absl_ok xs hl hx, tail_ok, e1, F24_d18, r]
  unfold closed
  by_cases g : o ≥ 0
  · have b1 : (E.length + [[AV.v (.int .i64 o), AV.v (.int .i64 f), AV.v (.int .i64 p)]].length) * 24 ≤ maxBytes := by unfold maxBytes; simp; omega
    have c2 : decide (((E ++ [(o, f, p)]).length : Int) > 1024) = false := by rw [decide_eq_false_iff_not, List.length_append, List.length_singleton]; omega
    simp only [g, decide_true, if_true, rowsT_snoc, rowsT_len, c2, b1]
  · have c2 : decide ((E.length : Int) > 1024) = false := by rw [decide_eq_false_iff_not]; omega
    simp only [g, decide_false, if_false, rowsT_len, c2]
theorem rrun_any (S L a b : Int) {xs : List Int} (hl : xs.length ≤ 590) : F24_d 600 (S, L, a, b, rowsI xs) = some (rowsT (runV S L a b xs).1, (runV S L a b xs).2) := by
  have c1 : decide ((xs.length : Int) > 65536) = false := by rw [decide_eq_false_iff_not]; omega
  unfold runV
  by_cases h : DtOk S L a b
  · rw [if_pos h]
    cases g : xs.all smpB with
    | true => exact rrun_ok h (all_smp g) hl
    | false =>
      have d := decide_eq_true h
      simp only [F24_d, FSpec.d, F24_s, rvalid_any, d, Bool.not_true, rowsI_len, c1, rng_any xs hl, g, Bool.not_false]
      rfl
  · rw [if_neg h]
    have d := decide_eq_false h
    simp only [F24_d, FSpec.d, F24_s, rvalid_any, d, Bool.not_false]
    rfl
/-! Ratio. -/
def ratV (S L a b : Int) (xs : List Int) (i : Int) : Int × Int × Int :=
  if DtOk S L a b then (if xs.all smpB then (if L - 1 ≤ i ∧ i ≤ (xs.length : Int) - 1 then (W (xs.map ab) S.toNat i.toNat, W (xs.map ab) L.toNat i.toNat, 0) else (0, 0, 2)) else (0, 0, 2)) else (0, 0, 1)
theorem psum {z : List Int} {j k : Nat} (h : k ≤ j) : ((z.take j).drop k).sum = P z j - P z k := by
  have e : (z.take j).take k ++ (z.take j).drop k = z.take j := List.take_append_drop ..
  have := congrArg List.sum e
  rw [List.sum_append, List.take_take, Nat.min_eq_left h] at this
  unfold P
  omega
theorem rat_any (S L a b : Int) {xs : List Int} (hl : xs.length ≤ 590) (i : Int) : F16_d 600 (S, L, a, b, rowsI xs, i) = some (ratV S L a b xs i) := by
  have c1 : decide ((xs.length : Int) > 65536) = false := by rw [decide_eq_false_iff_not]; omega
  unfold ratV
  by_cases h : DtOk S L a b
  · rw [if_pos h]
    have ⟨g1, g2, g3, g4, g5, g6⟩ := h
    have d := decide_eq_true h
    have e1 : i64 (L - 1) = L - 1 := i64_id (by omega)
    have e2 : i64 ((xs.length : Int) - 1) = (xs.length : Int) - 1 := i64_id (by omega)
    cases g : xs.all smpB with
    | true =>
      by_cases c : L - 1 ≤ i ∧ i ≤ (xs.length : Int) - 1
      · obtain ⟨n, rfl⟩ : ∃ n : Nat, i = n := ⟨i.toNat, by omega⟩
        have e3 : i64 ((n : Int) + 1) = ((n + 1 : Nat) : Int) := by rw [i64_id (by omega)]; omega
        have e4 : i64 ((n : Int) - S) = (n : Int) - S := i64_id (by omega)
        have e5 : i64 ((n : Int) - S + 1) = ((n + 1 - S.toNat : Nat) : Int) := by rw [i64_id (by omega)]; omega
        have e6 : i64 ((n : Int) - L) = (n : Int) - L := i64_id (by omega)
        have e7 : i64 ((n : Int) - L + 1) = ((n + 1 - L.toNat : Nat) : Int) := by rw [i64_id (by omega)]; omega
        have b1 : (0 : Int) ≤ ((n + 1 - S.toNat : Nat) : Int) ∧ ((n + 1 - S.toNat : Nat) : Int) ≤ ((n + 1 : Nat) : Int) ∧ ((n + 1 : Nat) : Int) ≤ (xs.length : Int) := by omega
        have b2 : (0 : Int) ≤ ((n + 1 - L.toNat : Nat) : Int) ∧ ((n + 1 - L.toNat : Nat) : Int) ≤ ((n + 1 : Nat) : Int) ∧ ((n + 1 : Nat) : Int) ≤ (xs.length : Int) := by omega
        have s : ∀ k : Nat, F38_d 600 (rowsI ((xs.take (n + 1)).drop (n + 1 - k))) = some (W (xs.map ab) k n) := fun k => by
          rw [sum_ok _ (by rw [List.length_drop, List.length_take]; omega) (fun x hx' => all_smp g x (List.mem_of_mem_take (List.mem_of_mem_drop hx')))]
          rw [List.map_drop, List.map_take, psum (by omega)]
          rfl
        have dc := decide_eq_true c
        simp only [F16_d, FSpec.d, F16_s, valid_any, d, Bool.not_true, rowsI_len, c1, cont_any xs hl, g, in_any, e1, e2, dc, e3, e4, e5, e6, e7, Int.toNat_natCast, rowsI_take, rowsI_drop, s]
        rw [if_pos b1, if_pos b2, if_pos c]
        rfl
      · have dc := decide_eq_false c
        simp only [F16_d, FSpec.d, F16_s, valid_any, d, Bool.not_true, rowsI_len, c1, cont_any xs hl, g, in_any, e1, e2, dc, Bool.not_false]
        rw [if_neg c]
        rfl
    | false =>
      simp only [F16_d, FSpec.d, F16_s, valid_any, d, Bool.not_true, rowsI_len, c1, cont_any xs hl, g, Bool.not_false]
      rfl
  · rw [if_neg h]
    simp only [F16_d, FSpec.d, F16_s, valid_any, decide_eq_false h, Bool.not_false]
theorem rrat_any (S L a b : Int) {xs : List Int} (hl : xs.length ≤ 590) (i : Int) : F27_d 600 (S, L, a, b, rowsI xs, i) = some (ratV S L a b xs i) := by
  have c1 : decide ((xs.length : Int) > 65536) = false := by rw [decide_eq_false_iff_not]; omega
  unfold ratV
  by_cases h : DtOk S L a b
  · rw [if_pos h]
    have ⟨g1, g2, g3, g4, g5, g6⟩ := h
    have d := decide_eq_true h
    have e1 : i64 (L - 1) = L - 1 := i64_id (by omega)
    have e2 : i64 ((xs.length : Int) - 1) = (xs.length : Int) - 1 := i64_id (by omega)
    cases g : xs.all smpB with
    | true =>
      have zl : (xs.map ab).length = xs.length := by simp
      by_cases c : L - 1 ≤ i ∧ i ≤ (xs.length : Int) - 1
      · obtain ⟨n, rfl⟩ : ∃ n : Nat, i = n := ⟨i.toNat, by omega⟩
        have dc := decide_eq_true c
        have su := sums_ok h (abs_row (all_smp g)) (by omega) (i := n) (by omega) (by omega)
        simp only [F27_d, FSpec.d, F27_s, rvalid_any, d, Bool.not_true, rowsI_len, c1, rng_any xs hl, g, rin_any, e1, e2, dc, absl_ok xs hl (all_smp g), su]
        rw [if_pos c]
        rfl
      · have dc := decide_eq_false c
        simp only [F27_d, FSpec.d, F27_s, rvalid_any, d, Bool.not_true, rowsI_len, c1, rng_any xs hl, g, rin_any, e1, e2, dc, Bool.not_false]
        rw [if_neg c]
        rfl
    | false =>
      simp only [F27_d, FSpec.d, F27_s, rvalid_any, d, Bool.not_true, rowsI_len, c1, rng_any xs hl, g, Bool.not_false]
      rfl
  · rw [if_neg h]
    simp only [F27_d, FSpec.d, F27_s, rvalid_any, decide_eq_false h, Bool.not_false]
/-! Start. -/
theorem start_any (S L a b : Int) : F18_d 600 (S, L, a, b) = some (if DtOk S L a b then (S, L, a, b, [], 0, -1, 0, 0, 0) else (0, 0, 0, 0, [], 0, 0, 0, 0, 1)) := by
  by_cases h : DtOk S L a b
  · rw [if_pos h, start_ok h]
  · rw [if_neg h]
    simp only [F18_d, FSpec.d, F18_s, valid_any, decide_eq_false h, Bool.not_false]
theorem rstart_any (S L a b : Int) : F28_d 600 (S, L, a, b) = some (if DtOk S L a b then (S, L, a, b, [], 0, -1, 0, 0, 0) else (0, 0, 0, 0, [], 0, 0, 0, 0, 1)) := by
  by_cases h : DtOk S L a b
  · rw [if_pos h]
    simp only [F28_d, FSpec.d, F28_s, rvalid_any, decide_eq_true h, Bool.not_true, tail_ok]
  · rw [if_neg h]
    simp only [F28_d, FSpec.d, F28_s, rvalid_any, decide_eq_false h, Bool.not_false]
/-! Same, SameWatch. -/
theorem samei_loop (N : Nat) (E : List Int) (hE : E.length ≤ 1000) : ∀ (k i f : Nat), k < f → i + k = E.length → (F46_l8 N).L f (rowsI E, rowsI E, (i : Int)) = some (.inr ())
  | 0, i, f, hf, hi => by
    obtain ⟨f, rfl⟩ : ∃ f', f = f' + 1 := ⟨f - 1, by omega⟩
    show (F46_l8 N).b _ _ ((F46_l8 N).L f) some = _
    have c : decide ((i : Int) < (E.length : Int)) = false := by rw [decide_eq_false_iff_not]; omega
    simp only [F46_l8, rowsI_len, c]
  | k + 1, i, f, hf, hi => by
    obtain ⟨f, rfl⟩ : ∃ f', f = f' + 1 := ⟨f - 1, by omega⟩
    have hlt : i < E.length := by omega
    have c1 : decide ((i : Int) < (E.length : Int)) = true := by rw [decide_eq_true_iff]; omega
    have c2 : (0 : Int) ≤ (i : Int) := by omega
    have c4 : i64 ((i : Int) + 1) = ((i + 1 : Nat) : Int) := by rw [i64_id (by omega)]; omega
    have r1 := samei_loop N E hE k (i + 1) f (by omega) (by omega)
    show (F46_l8 N).b _ _ ((F46_l8 N).L f) some = _
    obtain ⟨Lf, hL⟩ : ∃ Lf, Lf = (F46_l8 N).L f := ⟨_, rfl⟩
    rw [← hL] at r1 ⊢
    simp only [F46_l8, rowsI_len, c1, c2, if_true, Int.toNat_natCast, rowsI_get E i hlt, List.getElem?_cons_zero, bne_self_eq_false, c4]
    exact r1
theorem samei_ok (E : List Int) (hE : E.length ≤ 590) : F46_d 600 (rowsI E, rowsI E) = some true := by
  have r := samei_loop 600 E (by omega) E.length 0 600 (by omega) (by omega)
  replace r : (F46_l8 600).L 600 (rowsI E, rowsI E, 0) = some (.inr ()) := r
  simp only [F46_d, FSpec.d, F46_s, bne_self_eq_false, F46_d8, r]
theorem samew_ok (S L a b : Int) (pa : List Int) (hl : pa.length ≤ 590) (c o f p : Int) : F29_d 600 (S, L, a, b, rowsI pa, c, o, f, p, S, L, a, b, rowsI pa, c, o, f, p) = some true := by
  simp only [F29_d, FSpec.d, F29_s, beq_self_eq_true, Bool.and_self, samei_ok pa hl]
end Go.Proofs.Ytaiadjadgpgnmaa
