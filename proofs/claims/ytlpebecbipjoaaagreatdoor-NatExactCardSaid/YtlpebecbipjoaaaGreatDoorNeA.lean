/- Natural numbers, the document's functions: Valid, Add, compare, Sub, without memory. -/
import Derived.Test.YtlpebecbipjoaaaGreatDoorNeU
namespace Go.Proofs.YtlpebecbipjoaaaGreatDoor
open Go.RowKit
set_option linter.unusedVariables false
set_option linter.unusedSimpArgs false
set_option linter.unnecessarySimpa false
theorem rin_ok (N : Nat) (a b c : Int) : F50_d N (a, b, c) = some (decide (b ≤ a ∧ a ≤ c)) := by
  simp only [F50_d, FSpec.d, F50_s]
  by_cases h1 : a ≥ b
  · by_cases h2 : a ≤ c
    · simp [h1, h2]
    · simp [h1, h2]
  · have : ¬ b ≤ a := h1
    simp [h1, this]
theorem rval_loop (l : List Int) (hl : l.length ≤ 100000) : ∀ (k i f : Nat), k < f → i + k = l.length → (F26_l4 600).L f (rowsI l, (i : Int)) = some (.inr (rowsI l)) ∧ Dg (l.drop i) ∨ (F26_l4 600).L f (rowsI l, (i : Int)) = some (.inl (rowsI l, false)) ∧ ¬ Dg (l.drop i)
  | 0, i, f, hf, hi => by
    obtain ⟨f, rfl⟩ : ∃ f', f = f' + 1 := ⟨f - 1, by omega⟩
    have c : decide ((i : Int) < (l.length : Int)) = false := by rw [decide_eq_false_iff_not]; omega
    refine .inl ⟨?_, by rw [List.drop_of_length_le (by omega)]; exact Dg.nil⟩
    show (F26_l4 600).b _ _ ((F26_l4 600).L f) some = _
    simp only [F26_l4, rowsI_len, c]
  | k + 1, i, f, hf, hi => by
    obtain ⟨f, rfl⟩ : ∃ f', f = f' + 1 := ⟨f - 1, by omega⟩
    have hlt : i < l.length := by omega
    have c1 : decide ((i : Int) < (l.length : Int)) = true := by rw [decide_eq_true_iff]; omega
    have c2 : (0 : Int) ≤ (i : Int) := by omega
    have c4 : i64 ((i : Int) + 1) = ((i + 1 : Nat) : Int) := by rw [i64_id (by omega)]; omega
    have hd : l.drop i = l[i] :: l.drop (i + 1) := List.drop_eq_getElem_cons hlt
    by_cases h : 0 ≤ l[i] ∧ l[i] ≤ 1073741823
    · have st : (F26_l4 600).L (f + 1) (rowsI l, (i : Int)) = (F26_l4 600).L f (rowsI l, ((i + 1 : Nat) : Int)) := by
        show (F26_l4 600).b _ _ ((F26_l4 600).L f) some = _
        obtain ⟨Lf, hL⟩ : ∃ Lf, Lf = (F26_l4 600).L f := ⟨_, rfl⟩
        rw [← hL]
        simp only [F26_l4, rowsI_len, c1, c2, if_true, Int.toNat_natCast, rowsI_get l i hlt, List.getElem?_cons_zero, rin_ok, decide_eq_true h, Bool.not_true, c4]
        exact if_pos trivial
      have r := rval_loop l hl k (i + 1) f (by omega) (by omega)
      rw [st, hd]
      rcases r with ⟨r1, r2⟩ | ⟨r1, r2⟩
      · refine .inl ⟨r1, fun x hx => ?_⟩
        rcases List.mem_cons.1 hx with e | e
        · rw [e]; omega
        · exact r2 x e
      · exact .inr ⟨r1, fun e => r2 e.cons.2⟩
    · refine .inr ⟨?_, by rw [hd]; exact fun e => h (by have := e.cons.1; omega)⟩
      show (F26_l4 600).b _ _ ((F26_l4 600).L f) some = _
      simp only [F26_l4, rowsI_len, c1, c2, if_true, Int.toNat_natCast, rowsI_get l i hlt, List.getElem?_cons_zero, rin_ok, decide_eq_false h, Bool.not_false]
open Classical in
theorem rvalid_any (l : List Int) (hl : l.length ≤ 590) : F26_d 600 (rowsI l) = some (decide (VN l)) := by
  rcases rval_loop l (by omega) l.length 0 600 (by omega) (by omega) with ⟨h1, h2⟩ | ⟨h1, h2⟩
  · have L : F26_d4 600 (rowsI l, 0) = some (.inr (rowsI l)) := h1
    have h2 : Dg l := h2
    by_cases h64 : l.length ≤ 64
    · have c0 : decide ((l.length : Int) ≤ 64) = true := by rw [decide_eq_true_iff]; omega
      rcases Nat.eq_zero_or_pos l.length with h0 | h0
      · obtain rfl : l = [] := List.length_eq_zero_iff.1 h0
        have hv : VN [] := ⟨by simp, Dg.nil, by simp [NoZ]⟩
        have cz : (((([] : List Int).length : Nat) : Int) == 0) = true := rfl
        simp only [F26_d, FSpec.d, F26_s, L, rowsI_len, c0, cz, decide_eq_true hv]
      · obtain ⟨k, hk⟩ : ∃ k, l.length = k + 1 := ⟨l.length - 1, by omega⟩
        obtain ⟨ys, x, rfl, hy⟩ := snoc_of hk
        have e1 : i64 (((ys ++ [x]).length : Int) - 1) = (k : Int) := by rw [hk, i64_id (by omega)]; omega
        have cz : (((ys ++ [x]).length : Int) == 0) = false := by rw [beq_eq_false_iff_ne]; omega
        have e3 : ((rowsI (ys ++ [x]))[((k : Int)).toNat]? : Option (List AV)) = some [AV.v (.int .i64 x)] := by
          rw [show ((k : Int)).toNat = k by omega, rowsI_get _ k (by omega)]
          simp [← hy]
        have h1 : (0 : Int) ≤ (k : Int) := by omega
        have hv : VN (ys ++ [x]) ↔ x ≠ 0 := ⟨fun e hx => e.2.2 (by simp [hx]), fun e => ⟨h64, h2, by simp [NoZ]; exact e⟩⟩
        have hb : (x != 0) = decide (VN (ys ++ [x])) := by
          by_cases hx : x = 0
          · rw [decide_eq_false (fun e => hv.1 e hx)]; simp [hx]
          · rw [decide_eq_true (hv.2 hx)]; simp [hx]
        simp only [F26_d, FSpec.d, F26_s, L, rowsI_len, c0, cz, e1, e3, List.getElem?_cons_zero, hb]
        exact (if_pos h1).trans (if_pos trivial)
    · have c0 : decide ((l.length : Int) ≤ 64) = false := by rw [decide_eq_false_iff_not]; omega
      have hv : ¬ VN l := fun e => h64 e.1
      simp only [F26_d, FSpec.d, F26_s, L, rowsI_len, c0, decide_eq_false hv]
  · have L : F26_d4 600 (rowsI l, 0) = some (.inl (rowsI l, false)) := h1
    have hv : ¬ VN l := fun e => h2 e.2.1
    simp only [F26_d, FSpec.d, F26_s, L, decide_eq_false hv]
theorem rvalid_ok {l : List Int} (h : VN l) : F26_d 600 (rowsI l) = some true := (rvalid_any l (by have := h.1; omega)).trans (by simp [h])
theorem rvalid_no {l : List Int} (hl : l.length ≤ 590) (h : ¬ VN l) : F26_d 600 (rowsI l) = some false := (rvalid_any l hl).trans (by simp [h])
theorem valid_no {l : List Int} (hl : l.length ≤ 590) (h : ¬ VN l) : F25_d 600 (rowsI l) = some false := (valid_any l hl).trans (by simp [h])
theorem noz_of {out : List Int} (hd : Dg out) (h : ∀ n, out.length = n + 1 → Bs ^ n ≤ vv out) : NoZ out := by
  intro e
  rcases Nat.eq_zero_or_pos out.length with h0 | h0
  · rw [List.length_eq_zero_iff.1 h0] at e; cases e
  · obtain ⟨k, hk⟩ : ∃ k, out.length = k + 1 := ⟨out.length - 1, by omega⟩
    have h1 := h k hk
    obtain ⟨ys, x, rfl, hy⟩ := snoc_of hk
    simp at e
    subst e
    have hlt := vv_lt (a := ys) (fun y hy => hd y (by simp [hy]))
    rw [vv_app] at h1
    rw [hy] at hlt
    have : vv [0] = 0 := rfl
    rw [this, Nat.mul_zero, Nat.add_zero] at h1
    omega
theorem VN.low {a : List Int} (h : VN a) {k : Nat} (hk : a.length = k + 1) : Bs ^ k ≤ vv a := by
  rcases Nat.lt_or_ge (vv a) (Bs ^ k) with q | q
  · have := (nf_len k (vv a)).2 q
    rw [nf_vv h.2.1 h.2.2] at this
    omega
  · exact q
theorem rlim_ok {V : Nat} : F43_d 600 (rowsI (nf V)) = some (limR V) := by
  unfold limR
  by_cases hV : V < Bs ^ 64
  · have hl := (nf_len 64 V).2 hV
    simp only [F43_d, FSpec.d, F43_s, rowsI_len, decide_eq_false (show ¬ (((nf V).length : Int) > 64) by omega)]
    rw [if_pos hV]
  · have hl : ¬ (nf V).length ≤ 64 := fun e => hV ((nf_len 64 V).1 e)
    simp only [F43_d, FSpec.d, F43_s, rowsI_len, decide_eq_true (show (((nf V).length : Int) > 64) by omega)]
    rw [if_neg hV]
theorem dgt_out {a : List Int} {i : Nat} (h : ¬ i < a.length) : dgt a i = 0 := by
  unfold dgt
  rw [List.getD_eq_getElem?_getD, List.getElem?_eq_none (by omega)]; rfl
theorem rcond {o a b : List (List AV)} {c i : Int} : F10_d12 600 (o, a, b, c, i) = some (if i < (a.length : Int) ∨ i < (b.length : Int) ∨ c > 0 then .inl (o, a, b, c, i) else .inr (o, a, b, c, i)) := by
  show (F10_l12 600).b _ _ ((F10_l12 600).L 599) some = _
  generalize (F10_l12 600).L 599 = Lf
  by_cases h1 : i < (a.length : Int)
  · simp only [F10_l12, decide_eq_true h1]
    exact congrArg some (if_pos (.inl h1)).symm
  · by_cases h2 : i < (b.length : Int)
    · simp only [F10_l12, decide_eq_false h1, decide_eq_true h2]
      exact congrArg some (if_pos (.inr (.inl h2))).symm
    · by_cases h3 : c > 0
      · simp only [F10_l12, decide_eq_false h1, decide_eq_false h2, decide_eq_true h3]
        exact congrArg some (if_pos (.inr (.inr h3))).symm
      · simp only [F10_l12, decide_eq_false h1, decide_eq_false h2, decide_eq_false h3]
        exact congrArg some (if_neg (fun h => by rcases h with h | h | h <;> contradiction)).symm
theorem add_step {v P c s x y p q W : Nat} (hv : v + P * c = W) (hs : s = c + x + y) (he : s = p + 1073741824 * q) : v + P * p + P * 1073741824 * q = W + P * x + P * y := by
  have e3 : p + 1073741824 * q = c + x + y := by omega
  have e4 : P * p + P * 1073741824 * q = P * c + P * x + P * y := by
    have := congrArg (P * ·) e3
    simp only [Nat.mul_add, ← Nat.mul_assoc] at this
    exact this
  omega
theorem radd_round {a b out : List Int} {c : Int} {i f : Nat} (ha : Dg a) (hb : Dg b) (hc : 0 ≤ c ∧ c ≤ 1) (hi : i ≤ 500) (ho : out.length ≤ 500) (h : i < a.length ∨ i < b.length ∨ c > 0) :
    (F10_l10 600).L (f + 1) (rowsI out, rowsI a, rowsI b, c, (i : Int)) = (F10_l10 600).L f (rowsI (out ++ [(c + (dgt a i + dgt b i)) % 1073741824]), rowsI a, rowsI b, (c + (dgt a i + dgt b i)) / 1073741824, ((i + 1 : Nat) : Int)) := by
  have ra := dgt_rng ha i
  have rb := dgt_rng hb i
  have R := rcond (o := rowsI out) (a := rowsI a) (b := rowsI b) (c := c) (i := (i : Int))
  rw [if_pos (by rw [rowsI_len, rowsI_len]; rcases h with h | h | h; exact .inl (by omega); exact .inr (.inl (by omega)); exact .inr (.inr h))] at R
  show (F10_l10 600).b _ _ ((F10_l10 600).L f) some = _
  generalize (F10_l10 600).L f = Lf
  have h0 : (0 : Int) ≤ (i : Int) := by omega
  have e4 : i64 ((i : Int) + 1) = ((i + 1 : Nat) : Int) := by rw [i64_id (by omega)]; omega
  by_cases hia : i < a.length
  · have ga : ((rowsI a)[((i : Int)).toNat]? : Option (List AV)) = some [AV.v (.int .i64 (dgt a i))] := by rw [show ((i : Int)).toNat = i by omega, rowsI_get _ i hia, dgt_get a i hia]
    by_cases hib : i < b.length
    · have gb : ((rowsI b)[((i : Int)).toNat]? : Option (List AV)) = some [AV.v (.int .i64 (dgt b i))] := by rw [show ((i : Int)).toNat = i by omega, rowsI_get _ i hib, dgt_get b i hib]
      generalize dgt a i = x at *
      generalize dgt b i = y at *
      have e1 : i64 (c + x) = c + x := i64_id (by omega)
      have e2 : i64 (c + x + y) = c + (x + y) := by rw [i64_id (by omega)]; omega
      have e3 : (c + (x + y)).tmod 1073741824 = (c + (x + y)) % 1073741824 := Int.tmod_eq_emod_of_nonneg (by omega)
      have e5 : i64 ((c + (x + y)).tdiv 1073741824) = (c + (x + y)) / 1073741824 := by rw [Int.tdiv_eq_ediv_of_nonneg (by omega)]; exact i64_id (by omega)
      have hs := room (rowsI out).length (by rw [rowsI_len]; omega) ((c + (x + y)) % 1073741824)
      simp only [F10_l10, R, rowsI_len, decide_eq_true (show ((i : Int) < (a.length : Int)) by omega), ga, List.getElem?_cons_zero, decide_eq_true (show ((i : Int) < (b.length : Int)) by omega), gb, e1, e2, e3, e4, e5, rowsI_snoc]
      rw [rowsI_len] at hs
      exact (if_pos h0).trans ((if_pos trivial).trans ((if_pos h0).trans ((if_pos trivial).trans (if_pos hs))))
    · rw [dgt_out hib] at *
      generalize dgt a i = x at *
      have e1 : i64 (c + x) = c + (x + 0) := by rw [i64_id (by omega)]; omega
      have e3 : (c + (x + 0)).tmod 1073741824 = (c + (x + 0)) % 1073741824 := Int.tmod_eq_emod_of_nonneg (by omega)
      have e5 : i64 ((c + (x + 0)).tdiv 1073741824) = (c + (x + 0)) / 1073741824 := by rw [Int.tdiv_eq_ediv_of_nonneg (by omega)]; exact i64_id (by omega)
      have hs := room (rowsI out).length (by rw [rowsI_len]; omega) ((c + (x + 0)) % 1073741824)
      simp only [F10_l10, R, rowsI_len, decide_eq_true (show ((i : Int) < (a.length : Int)) by omega), ga, List.getElem?_cons_zero, decide_eq_false (show ¬ ((i : Int) < (b.length : Int)) by omega), e1, e3, e4, e5, rowsI_snoc]
      rw [rowsI_len] at hs
      exact (if_pos h0).trans ((if_pos trivial).trans (if_pos hs))
  · rw [dgt_out hia] at *
    by_cases hib : i < b.length
    · have gb : ((rowsI b)[((i : Int)).toNat]? : Option (List AV)) = some [AV.v (.int .i64 (dgt b i))] := by rw [show ((i : Int)).toNat = i by omega, rowsI_get _ i hib, dgt_get b i hib]
      generalize dgt b i = y at *
      have e2 : i64 (c + y) = c + (0 + y) := by rw [i64_id (by omega)]; omega
      have e3 : (c + (0 + y)).tmod 1073741824 = (c + (0 + y)) % 1073741824 := Int.tmod_eq_emod_of_nonneg (by omega)
      have e5 : i64 ((c + (0 + y)).tdiv 1073741824) = (c + (0 + y)) / 1073741824 := by rw [Int.tdiv_eq_ediv_of_nonneg (by omega)]; exact i64_id (by omega)
      have hs := room (rowsI out).length (by rw [rowsI_len]; omega) ((c + (0 + y)) % 1073741824)
      simp only [F10_l10, R, rowsI_len, decide_eq_false (show ¬ ((i : Int) < (a.length : Int)) by omega), decide_eq_true (show ((i : Int) < (b.length : Int)) by omega), gb, List.getElem?_cons_zero, e2, e3, e4, e5, rowsI_snoc]
      rw [rowsI_len] at hs
      exact (if_pos h0).trans ((if_pos trivial).trans (if_pos hs))
    · rw [dgt_out hib] at *
      have ec : c + (0 + 0) = c := by omega
      rw [ec]
      have e3 : c.tmod 1073741824 = c % 1073741824 := Int.tmod_eq_emod_of_nonneg (by omega)
      have e5 : i64 (c.tdiv 1073741824) = c / 1073741824 := by rw [Int.tdiv_eq_ediv_of_nonneg (by omega)]; exact i64_id (by omega)
      have hs := room (rowsI out).length (by rw [rowsI_len]; omega) (c % 1073741824)
      simp only [F10_l10, R, rowsI_len, decide_eq_false (show ¬ ((i : Int) < (a.length : Int)) by omega), decide_eq_false (show ¬ ((i : Int) < (b.length : Int)) by omega), e3, e4, e5, rowsI_snoc]
      rw [rowsI_len] at hs
      exact if_pos hs
theorem radd_loop {a b : List Int} (ha : VN a) (hb : VN b) (m : Nat) (hm : m = max a.length b.length) : ∀ (k f i : Nat) (out : List Int) (c : Int), i + k = m + 1 → k < f → out.length = i → Dg out → (0 ≤ c ∧ c ≤ 1) → (i ≤ m ∨ c = 0 ∧ Bs ^ m ≤ vv out) → vv out + Bs ^ i * c.toNat = vv (a.take i) + vv (b.take i) → ∃ (out' : List Int), (F10_l10 600).L f (rowsI out, rowsI a, rowsI b, c, (i : Int)) = some (rowsI out') ∧ Dg out' ∧ NoZ out' ∧ vv out' = vv a + vv b ∧ out'.length ≤ 65 := by
  have h1 := ha.1
  have h2 := hb.1
  have hma : a.length ≤ m := by omega
  have hmb : b.length ≤ m := by omega
  have hm64 : m ≤ 64 := by omega
  intro k
  induction k with
  | zero =>
    intro f i out c hi hf hl hd hc hcase hv
    obtain ⟨f, rfl⟩ : ∃ f', f = f' + 1 := ⟨f - 1, by omega⟩
    have hi' : i = m + 1 := by omega
    subst hi'
    obtain ⟨rfl, hlow⟩ : c = 0 ∧ Bs ^ m ≤ vv out := by rcases hcase with q | q; omega; exact q
    rw [List.take_of_length_le (by omega), List.take_of_length_le (by omega)] at hv
    have hv' : vv out = vv a + vv b := by
      rw [show (0 : Int).toNat = 0 from rfl, Nat.mul_zero, Nat.add_zero] at hv
      exact hv
    refine ⟨out, ?_, hd, noz_of hd (fun n hn => ?_), hv', by omega⟩
    · have R := rcond (o := rowsI out) (a := rowsI a) (b := rowsI b) (c := 0) (i := ((m + 1 : Nat) : Int))
      rw [if_neg (by rw [rowsI_len, rowsI_len]; omega)] at R
      show (F10_l10 600).b _ _ ((F10_l10 600).L f) some = _
      generalize (F10_l10 600).L f = Lf
      simp only [F10_l10, R]
    · have : n = m := by omega
      subst this; exact hlow
  | succ k ih =>
    intro f i out c hi hf hl hd hc hcase hv
    obtain ⟨f, rfl⟩ : ∃ f', f = f' + 1 := ⟨f - 1, by omega⟩
    have him : i ≤ m := by omega
    by_cases hgo : i < a.length ∨ i < b.length ∨ c > 0
    · rw [radd_round ha.2.1 hb.2.1 hc (by omega) (by omega) hgo]
      have ra := dgt_rng ha.2.1 i
      have rb := dgt_rng hb.2.1 i
      have ta := vv_takeD a i
      have tb := vv_takeD b i
      refine ih f (i + 1) _ _ (by omega) (by omega) (by simp [hl]) (hd.app (Dg.one (by omega))) (by omega) ?_ ?_
      · by_cases hlast : i < m
        · exact .inl (by omega)
        · have : i = m := by omega
          subst this
          rw [dgt_out (by omega), dgt_out (by omega)]
          have hc1 : c = 1 := by omega
          subst hc1
          refine .inr ⟨by omega, ?_⟩
          rw [vv_snoc, hl]
          have : ((1 + (0 + 0) : Int) % 1073741824).toNat = 1 := by omega
          rw [this, Nat.mul_one]
          omega
      · rw [vv_snoc, ta, tb, hl, bs_pow]
        have := add_step (P := Bs ^ i) (c := c.toNat) (s := (c + (dgt a i + dgt b i)).toNat) (x := (dgt a i).toNat) (y := (dgt b i).toNat) (p := ((c + (dgt a i + dgt b i)) % 1073741824).toNat) (q := ((c + (dgt a i + dgt b i)) / 1073741824).toNat) hv (by omega) (by omega)
        rw [this]
        omega
    · have hi' : i = m := by omega
      have hc0 : c = 0 := by omega
      subst hc0
      subst hi'
      rw [List.take_of_length_le (by omega), List.take_of_length_le (by omega)] at hv
      have hv' : vv out = vv a + vv b := by
        rw [show (0 : Int).toNat = 0 from rfl, Nat.mul_zero, Nat.add_zero] at hv
        exact hv
      refine ⟨out, ?_, hd, noz_of hd (fun n hn => ?_), hv', by omega⟩
      · have R := rcond (o := rowsI out) (a := rowsI a) (b := rowsI b) (c := 0) (i := (i : Int))
        rw [if_neg (by rw [rowsI_len, rowsI_len]; omega)] at R
        show (F10_l10 600).b _ _ ((F10_l10 600).L f) some = _
        generalize (F10_l10 600).L f = Lf
        simp only [F10_l10, R]
      · rw [hv']
        rcases (show a.length = n + 1 ∨ b.length = n + 1 by omega) with q | q
        · have := ha.low q; omega
        · have := hb.low q; omega
theorem radd_ok {a b : List Int} (ha : VN a) (hb : VN b) : F10_d 600 (rowsI a, rowsI b) = some (limR (vv a + vv b)) := by
  have h1 := ha.1
  have h2 := hb.1
  obtain ⟨out, r, r1, r2, r3, r4⟩ := radd_loop ha hb _ rfl (max a.length b.length + 1) 600 0 [] 0 (by omega) (by omega) rfl Dg.nil (by omega) (.inl (by omega)) (by simp [vv])
  have L : F10_d10 600 (([] : List (List AV)), rowsI a, rowsI b, 0, 0) = some (rowsI out) := r
  have hlm := rlim_ok (V := vv a + vv b)
  rw [← r3, nf_vv r1 r2, r3] at hlm
  simp only [F10_d, FSpec.d, F10_s, rvalid_ok ha, rvalid_ok hb, Bool.not_true, L, hlm]
end Go.Proofs.YtlpebecbipjoaaaGreatDoor
