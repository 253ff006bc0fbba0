/- Natural numbers, the plain law: Add, Sub, multiply, divide, without memory. -/
import Derived.Test.YtlpebecbipjoaaaGreatDoorNaC
namespace Go.Proofs.YtlpebecbipjoaaaGreatDoor
set_option linter.unusedVariables false
set_option linter.unusedSimpArgs false
set_option linter.unnecessarySimpa false
def dgt (a : List Int) (i : Nat) : Int := a.getD i 0
theorem dgt_rng {a : List Int} (h : Dg a) (i : Nat) : 0 ≤ dgt a i ∧ dgt a i < 1073741824 := by
  unfold dgt
  by_cases hi : i < a.length
  · rw [List.getD_eq_getElem?_getD, List.getElem?_eq_getElem hi]
    exact h.get i hi
  · rw [List.getD_eq_getElem?_getD, List.getElem?_eq_none (by omega)]
    simp
theorem dgt_get (a : List Int) (i : Nat) (h : i < a.length) : dgt a i = a[i] := by
  unfold dgt
  rw [List.getD_eq_getElem?_getD, List.getElem?_eq_getElem h]
  rfl
theorem digit_ok (N : Nat) (a : List Int) (i : Nat) : F41_d N (rowsI a, (i : Int)) = some (dgt a i) := by
  by_cases hi : i < a.length
  · have h0 : (0 : Int) ≤ (i : Int) := by omega
    have ra : ((rowsI a)[((i : Int)).toNat]? : Option (List AV)) = some [AV.v (.int .i64 a[i])] := by rw [show ((i : Int)).toNat = i by omega, rowsI_get _ i hi]
    rw [dgt_get a i hi]
    simp only [F41_d, FSpec.d, F41_s, rowsI_len, decide_eq_false (show ¬ ((i : Int) ≥ (a.length : Int)) by omega), ra, List.getElem?_cons_zero]
    exact (if_pos h0).trans (if_pos trivial)
  · have : dgt a i = 0 := by
      unfold dgt
      rw [List.getD_eq_getElem?_getD, List.getElem?_eq_none (by omega)]; rfl
    rw [this]
    simp only [F41_d, FSpec.d, F41_s, rowsI_len, decide_eq_true (show ((i : Int) ≥ (a.length : Int)) by omega)]
theorem vv_takeD (a : List Int) (i : Nat) : vv (a.take (i + 1)) = vv (a.take i) + Bs ^ i * (dgt a i).toNat := by
  by_cases hi : i < a.length
  · rw [vv_take_succ a i hi, dgt_get a i hi]
  · have : dgt a i = 0 := by
      unfold dgt
      rw [List.getD_eq_getElem?_getD, List.getElem?_eq_none (by omega)]; rfl
    rw [this, List.take_of_length_le (by omega), List.take_of_length_le (by omega)]
    simp
theorem vv_snoc (a : List Int) (d : Int) : vv (a ++ [d]) = vv a + Bs ^ a.length * d.toNat := by rw [vv_app]; simp [vv]
theorem bs_pow (k : Nat) : Bs ^ (k + 1) = Bs ^ k * 1073741824 := Nat.pow_succ ..
theorem room (n : Nat) (h : n ≤ 10000) (y : Int) : (n + [[AV.v (.int .i64 y)]].length) * 8 ≤ maxBytes := by
  have : 100000 ≤ maxBytes := by decide
  simp; omega
theorem add_loop {a b : List Int} (ha : Dg a) (hb : Dg b) (n : Nat) (hn : n ≤ 500) : ∀ (k f i : Nat) (out : List Int) (c : Int), i + k = n → k < f → out.length = i → Dg out → (0 ≤ c ∧ c ≤ 1) → vv out + Bs ^ i * c.toNat = vv (a.take i) + vv (b.take i) → ∃ (out' : List Int) (c' : Int), (F9_l10 600).L f (rowsI out, rowsI a, rowsI b, c, (n : Int), (i : Int)) = some (rowsI out') ∧ out'.length = n ∧ Dg out' ∧ (0 ≤ c' ∧ c' ≤ 1) ∧ vv out' + Bs ^ n * c'.toNat = vv (a.take n) + vv (b.take n)
  | 0, f, i, out, c, hi, hf, hl, hd, hc, hv => by
    obtain ⟨f, rfl⟩ : ∃ f', f = f' + 1 := ⟨f - 1, by omega⟩
    obtain rfl : i = n := by omega
    refine ⟨out, c, ?_, hl, hd, hc, hv⟩
    show (F9_l10 600).b _ _ ((F9_l10 600).L f) some = _
    generalize (F9_l10 600).L f = Lf
    simp only [F9_l10, decide_eq_false (show ¬ ((i : Int) < (i : Int)) by omega)]
  | k + 1, f, i, out, c, hi, hf, hl, hd, hc, hv => by
    obtain ⟨f, rfl⟩ : ∃ f', f = f' + 1 := ⟨f - 1, by omega⟩
    have ra := dgt_rng ha i
    have rb := dgt_rng hb i
    have ta := vv_takeD a i
    have tb := vv_takeD b i
    have ga := digit_ok 600 a i
    have gb := digit_ok 600 b i
    generalize dgt a i = x at *
    generalize dgt b i = y at *
    obtain ⟨out', c', r, r1, r2, r3, r4⟩ := add_loop ha hb n hn k f (i + 1) (out ++ [(c + (x + y)) % 1073741824]) ((c + (x + y)) / 1073741824) (by omega) (by omega) (by simp [hl]) (hd.app (Dg.one (by omega))) (by omega) (by
      rw [vv_snoc, ta, tb, hl, bs_pow]
      have e : (c + (x + y)).toNat = ((c + (x + y)) % 1073741824).toNat + 1073741824 * ((c + (x + y)) / 1073741824).toNat := by omega
      have e2 : (c + (x + y)).toNat = c.toNat + x.toNat + y.toNat := by omega
      generalize ((c + (x + y)) % 1073741824).toNat = p at *
      generalize ((c + (x + y)) / 1073741824).toNat = q at *
      generalize (c + (x + y)).toNat = s at *
      generalize c.toNat = c0 at *
      generalize x.toNat = x0 at *
      generalize y.toNat = y0 at *
      generalize Bs ^ i = B at *
      have e3 : p + 1073741824 * q = c0 + x0 + y0 := by omega
      have e4 : B * p + B * 1073741824 * q = B * c0 + B * x0 + B * y0 := by
        have := congrArg (B * ·) e3
        simp only [Nat.mul_add, ← Nat.mul_assoc] at this
        exact this
      omega)
    rw [show ((i + 1 : Nat) : Int) = (i : Int) + 1 by omega] at r
    refine ⟨out', c', ?_, r1, r2, r3, r4⟩
    show (F9_l10 600).b _ _ ((F9_l10 600).L f) some = _
    generalize (F9_l10 600).L f = Lf at r ⊢
    have e1 : i64 (x + y) = x + y := i64_id (by omega)
    have e2 : i64 (c + (x + y)) = c + (x + y) := i64_id (by omega)
    have e3 : (c + (x + y)).tmod 1073741824 = (c + (x + y)) % 1073741824 := Int.tmod_eq_emod_of_nonneg (by omega)
    have e4 : i64 ((i : Int) + 1) = (i : Int) + 1 := i64_id (by omega)
    have hs := room (rowsI out).length (by rw [rowsI_len]; omega) ((c + (x + y)) % 1073741824)
    simp only [F9_l10, decide_eq_true (show ((i : Int) < (n : Int)) by omega), ga, gb, e1, e2, e3, e4, shR30, rowsI_snoc]
    exact (if_pos hs).trans r
theorem add_ok {a b : List Int} (ha : VN a) (hb : VN b) : F9_d 600 (rowsI a, rowsI b) = some (limR (vv a + vv b)) := by
  obtain ⟨m, hm, hma, hmb⟩ : ∃ m : Nat, (if ((b.length : Int)) > (a.length : Int) then (b.length : Int) else (a.length : Int)) = (m : Int) ∧ a.length ≤ m ∧ b.length ≤ m := by
    split
    · exact ⟨b.length, rfl, by omega, by omega⟩
    · exact ⟨a.length, rfl, by omega, by omega⟩
  have h1 := ha.1
  have h2 := hb.1
  have hm64 : m ≤ 64 := by
    split at hm <;> omega
  have e : i64 ((m : Int) + 1) = ((m + 1 : Nat) : Int) := by rw [i64_id (by omega)]; omega
  obtain ⟨out, c, r, r1, r2, r3, r4⟩ := add_loop ha.2.1 hb.2.1 (m + 1) (by omega) (m + 1) 600 0 [] 0 (by omega) (by omega) rfl Dg.nil (by omega) (by simp [vv])
  rw [List.take_of_length_le (by omega), List.take_of_length_le (by omega)] at r4
  have L : F9_d10 600 (([] : List (List AV)), rowsI a, rowsI b, 0, ((m + 1 : Nat) : Int), 0) = some (rowsI out) := r
  have hv : vv out = vv a + vv b := by
    have k1 := vv_lt ha.2.1
    have k2 := vv_lt hb.2.1
    have k3 : Bs ^ a.length ≤ Bs ^ m := Nat.pow_le_pow_right (by decide) hma
    have k4 : Bs ^ b.length ≤ Bs ^ m := Nat.pow_le_pow_right (by decide) hmb
    have k5 := bs_pow m
    rw [k5] at r4
    generalize Bs ^ m = B at *
    generalize Bs ^ a.length = B1 at *
    generalize Bs ^ b.length = B2 at *
    rcases (show c = 0 ∨ c = 1 by omega) with rfl | rfl
    · rw [show (0 : Int).toNat = 0 from rfl, Nat.mul_zero, Nat.add_zero] at r4
      exact r4
    · rw [show (1 : Int).toNat = 1 from rfl, Nat.mul_one] at r4
      omega
  simp only [F9_d, FSpec.d, F9_s, both_ok ha hb, Bool.not_true, rowsI_len, hm, e, L, lim_ok (show out.length ≤ 590 by omega) r2, hv]
theorem sub_loop {a b : List Int} (ha : Dg a) (hb : Dg b) (hn : a.length ≤ 500) : ∀ (k f i : Nat) (out : List Int) (c : Int), i + k = a.length → k < f → out.length = i → Dg out → (0 ≤ c ∧ c ≤ 1) → vv out + vv (b.take i) = vv (a.take i) + Bs ^ i * c.toNat → ∃ (out' : List Int) (c' : Int), (F11_l14 600).L f (rowsI out, rowsI a, rowsI b, c, (a.length : Int), (i : Int)) = some (rowsI out') ∧ out'.length = a.length ∧ Dg out' ∧ (0 ≤ c' ∧ c' ≤ 1) ∧ vv out' + vv (b.take a.length) = vv a + Bs ^ a.length * c'.toNat
  | 0, f, i, out, c, hi, hf, hl, hd, hc, hv => by
    obtain ⟨f, rfl⟩ : ∃ f', f = f' + 1 := ⟨f - 1, by omega⟩
    obtain rfl : i = a.length := by omega
    rw [List.take_length] at hv
    refine ⟨out, c, ?_, hl, hd, hc, hv⟩
    show (F11_l14 600).b _ _ ((F11_l14 600).L f) some = _
    generalize (F11_l14 600).L f = Lf
    simp only [F11_l14, decide_eq_false (show ¬ ((a.length : Int) < (a.length : Int)) by omega)]
  | k + 1, f, i, out, c, hi, hf, hl, hd, hc, hv => by
    obtain ⟨f, rfl⟩ : ∃ f', f = f' + 1 := ⟨f - 1, by omega⟩
    have hia : i < a.length := by omega
    have ra := ha.get i hia
    have rb := dgt_rng hb i
    have ta := vv_take_succ a i hia
    have tb := vv_takeD b i
    have gb := digit_ok 600 b i
    have ga : ((rowsI a)[((i : Int)).toNat]? : Option (List AV)) = some [AV.v (.int .i64 a[i])] := by rw [show ((i : Int)).toNat = i by omega, rowsI_get _ i hia]
    generalize a[i] = x at *
    generalize dgt b i = y at *
    have h0 : (0 : Int) ≤ (i : Int) := by omega
    by_cases hneg : x - y - c < 0
    · obtain ⟨out', c', r, r1, r2, r3, r4⟩ := sub_loop ha hb hn k f (i + 1) (out ++ [x - y - c + 1073741824]) 1 (by omega) (by omega) (by simp [hl]) (hd.app (Dg.one (by omega))) (by omega) (by
        rw [vv_snoc, ta, tb, hl, bs_pow]
        have e : (x - y - c + 1073741824).toNat + y.toNat + c.toNat = x.toNat + 1073741824 := by omega
        generalize (x - y - c + 1073741824).toNat = p at *
        generalize c.toNat = c0 at *
        generalize x.toNat = x0 at *
        generalize y.toNat = y0 at *
        generalize Bs ^ i = B at *
        have e3 : B * p + B * y0 + B * c0 = B * x0 + B * 1073741824 := by
          have := congrArg (B * ·) e
          simp only [Nat.mul_add] at this
          exact this
        rw [show (1 : Int).toNat = 1 from rfl, Nat.mul_one]
        omega)
      rw [show ((i + 1 : Nat) : Int) = (i : Int) + 1 by omega] at r
      refine ⟨out', c', ?_, r1, r2, r3, r4⟩
      show (F11_l14 600).b _ _ ((F11_l14 600).L f) some = _
      generalize (F11_l14 600).L f = Lf at r ⊢
      have e3 : i64 (x - y - c + 1073741824) = x - y - c + 1073741824 := i64_id (by omega)
      have hs := room (rowsI out).length (by rw [rowsI_len]; omega) (x - y - c + 1073741824)
      have e1 : i64 (x - y) = x - y := i64_id (by omega)
      have e2 : i64 (x - y - c) = x - y - c := i64_id (by omega)
      have e4 : i64 ((i : Int) + 1) = (i : Int) + 1 := i64_id (by omega)
      simp only [F11_l14, decide_eq_true (show ((i : Int) < (a.length : Int)) by omega), ga, List.getElem?_cons_zero, gb, e1, e2, decide_eq_true hneg, e3, e4, rowsI_snoc]
      exact (if_pos h0).trans ((if_pos trivial).trans ((if_pos hs).trans r))
    · obtain ⟨out', c', r, r1, r2, r3, r4⟩ := sub_loop ha hb hn k f (i + 1) (out ++ [x - y - c]) 0 (by omega) (by omega) (by simp [hl]) (hd.app (Dg.one (by omega))) (by omega) (by
        rw [vv_snoc, ta, tb, hl, bs_pow]
        have e : (x - y - c).toNat + y.toNat + c.toNat = x.toNat := by omega
        generalize (x - y - c).toNat = p at *
        generalize c.toNat = c0 at *
        generalize x.toNat = x0 at *
        generalize y.toNat = y0 at *
        generalize Bs ^ i = B at *
        have e3 : B * p + B * y0 + B * c0 = B * x0 := by
          have := congrArg (B * ·) e
          simp only [Nat.mul_add] at this
          exact this
        rw [show (0 : Int).toNat = 0 from rfl, Nat.mul_zero, Nat.add_zero]
        omega)
      rw [show ((i + 1 : Nat) : Int) = (i : Int) + 1 by omega] at r
      refine ⟨out', c', ?_, r1, r2, r3, r4⟩
      show (F11_l14 600).b _ _ ((F11_l14 600).L f) some = _
      generalize (F11_l14 600).L f = Lf at r ⊢
      have hs := room (rowsI out).length (by rw [rowsI_len]; omega) (x - y - c)
      have e1 : i64 (x - y) = x - y := i64_id (by omega)
      have e2 : i64 (x - y - c) = x - y - c := i64_id (by omega)
      have e4 : i64 ((i : Int) + 1) = (i : Int) + 1 := i64_id (by omega)
      simp only [F11_l14, decide_eq_true (show ((i : Int) < (a.length : Int)) by omega), ga, List.getElem?_cons_zero, gb, e1, e2, decide_eq_false hneg, e4, rowsI_snoc]
      exact (if_pos h0).trans ((if_pos trivial).trans ((if_pos hs).trans r))
theorem sub_ok {a b : List Int} (ha : VN a) (hb : VN b) : F11_d 600 (rowsI a, rowsI b) = some (if vv a < vv b then ([], 2) else (rowsI (nf (vv a - vv b)), 0)) := by
  have h1 := ha.1
  have C := cmp_ok ha.2.1 hb.2.1 ha.2.2 hb.2.2 (by omega)
  by_cases hlt : vv a < vv b
  · have c : decide (cmpV (vv a) (vv b) < 0) = true := by
      unfold cmpV cmpI
      rw [if_pos (by omega)]; rfl
    simp only [F11_d, FSpec.d, F11_s, both_ok ha hb, Bool.not_true, C, c]
    rw [if_pos hlt]
  · have c : decide (cmpV (vv a) (vv b) < 0) = false := by
      unfold cmpV cmpI
      rw [if_neg (by omega)]
      split <;> rfl
    obtain ⟨out, c', r, r1, r2, r3, r4⟩ := sub_loop ha.2.1 hb.2.1 (by omega) a.length 600 0 [] 0 (by omega) (by omega) rfl Dg.nil (by omega) (by simp [vv])
    have L : F11_d14 600 (([] : List (List AV)), rowsI a, rowsI b, 0, (a.length : Int), 0) = some (rowsI out) := r
    have hbl : b.length ≤ a.length := by
      rcases Nat.lt_or_ge a.length b.length with q | q
      · exact absurd (vv_len ha.2.1 hb.2.1 hb.2.2 q) hlt
      · exact q
    rw [List.take_of_length_le hbl] at r4
    have hv : vv out = vv a - vv b := by
      have k1 := vv_lt r2
      rw [r1] at k1
      generalize Bs ^ a.length = B at *
      rcases (show c' = 0 ∨ c' = 1 by omega) with rfl | rfl
      · rw [show (0 : Int).toNat = 0 from rfl, Nat.mul_zero, Nat.add_zero] at r4
        omega
      · rw [show (1 : Int).toNat = 1 from rfl, Nat.mul_one] at r4
        omega
    have hl := lim_ok (show out.length ≤ 590 by omega) r2
    have hsm : vv a - vv b < Bs ^ 64 := by have := ha.lt; omega
    rw [hv] at hl
    unfold limR at hl
    rw [if_pos hsm] at hl
    simp only [F11_d, FSpec.d, F11_s, both_ok ha hb, Bool.not_true, C, c, rowsI_len, L, hl]
    rw [if_neg hlt]
end Go.Proofs.YtlpebecbipjoaaaGreatDoor
