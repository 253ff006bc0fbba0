/- Natural numbers, the document's functions: compare, trim, Sub, mul, DivSmall, From, Int, without memory. -/
import Derived.Test.YtlpebecbipjoaaaGreatDoorNeA
namespace Go.Proofs.YtlpebecbipjoaaaGreatDoor
open Go.RowKit
set_option linter.unusedVariables false
set_option linter.unusedSimpArgs false
set_option linter.unnecessarySimpa false
theorem rtrim_loop : ∀ (k f : Nat) (xs : List Int), xs.length = k → k ≤ 100000 → k < f → (F46_l3 600).L f (rowsI xs) = some (rowsI (trimZ xs))
  | 0, f, xs, hl, _, hf => by
    obtain ⟨f, rfl⟩ : ∃ f', f = f' + 1 := ⟨f - 1, by omega⟩
    obtain rfl : xs = [] := List.length_eq_zero_iff.1 hl
    show (F46_l3 600).b _ _ ((F46_l3 600).L f) some = _
    generalize (F46_l3 600).L f = Lf
    rfl
  | k + 1, f, xs, hl, hk, hf => by
    obtain ⟨f, rfl⟩ : ∃ f', f = f' + 1 := ⟨f - 1, by omega⟩
    obtain ⟨ys, x, rfl, hy⟩ := snoc_of hl
    have r := rtrim_loop k f ys hy (by omega) (by omega)
    show (F46_l3 600).b _ _ ((F46_l3 600).L f) some = _
    generalize (F46_l3 600).L f = Lf at r ⊢
    have e1 : i64 (((ys ++ [x]).length : Int) - 1) = (k : Int) := by rw [hl, i64_id (by omega)]; omega
    have e2 : decide (((ys ++ [x]).length : Int) > 0) = true := by rw [decide_eq_true_iff]; omega
    have e3 : ((rowsI (ys ++ [x]))[((k : Int)).toNat]? : Option (List AV)) = some [AV.v (.int .i64 x)] := by
      rw [show ((k : Int)).toNat = k by omega, rowsI_get _ k (by omega)]
      simp [← hy]
    have e4 : (rowsI (ys ++ [x])).take ((k : Int)).toNat = rowsI ys := by
      rw [show ((k : Int)).toNat = k by omega, rowsI_take, ← hy]; simp
    have h0 : (0 : Int) ≤ (k : Int) := by omega
    have h1 : (0 : Int) ≤ (k : Int) ∧ (k : Int) ≤ ((ys ++ [x]).length : Int) := by omega
    by_cases hx : x = 0
    · have c : (x == 0) = true := by simp [hx]
      simp only [F46_l3, rowsI_len, e1, e2, e3, List.getElem?_cons_zero, c, e4]
      subst hx
      rw [trimZ_snoc0]
      exact (if_pos h0).trans ((if_pos trivial).trans ((if_pos h1).trans r))
    · have c : (x == 0) = false := by simp [hx]
      simp only [F46_l3, rowsI_len, e1, e2, e3, List.getElem?_cons_zero, c]
      have : trimZ (ys ++ [x]) = ys ++ [x] := trim_id (by simp [NoZ]; exact hx)
      rw [this]
      exact (if_pos h0).trans (if_pos trivial)
theorem rtrim_ok {xs : List Int} (h : xs.length ≤ 590) : F46_d 600 (rowsI xs) = some (rowsI (trimZ xs)) := by
  have L : F46_d3 600 (rowsI xs) = some (rowsI (trimZ xs)) := rtrim_loop xs.length 600 xs rfl (by omega) (by omega)
  simp only [F46_d, FSpec.d, F46_s, L]
theorem rcmp_loop {a b : List Int} (ha : Dg a) (hb : Dg b) (hl : a.length = b.length) (h590 : a.length ≤ 100000) : ∀ (k f : Nat), k ≤ a.length → k < f → a.drop k = b.drop k → ((F45_l12 600).L f (rowsI a, rowsI b, (k : Int) - 1) = some (.inl (cmpV (vv a) (vv b))) ∧ vv a ≠ vv b) ∨ ((F45_l12 600).L f (rowsI a, rowsI b, (k : Int) - 1) = some (.inr ()) ∧ a = b)
  | 0, f, hk, hf, he => by
    obtain ⟨f, rfl⟩ : ∃ f', f = f' + 1 := ⟨f - 1, by omega⟩
    refine .inr ⟨?_, by simpa using he⟩
    show (F45_l12 600).b _ _ ((F45_l12 600).L f) some = _
    generalize (F45_l12 600).L f = Lf
    simp only [F45_l12, decide_eq_false (show ¬ (((0 : Nat) : Int) - 1 ≥ 0) by omega)]
  | k + 1, f, hk, hf, he => by
    obtain ⟨f, rfl⟩ : ∃ f', f = f' + 1 := ⟨f - 1, by omega⟩
    have hka : k < a.length := by omega
    have hkb : k < b.length := by omega
    have e0 : (((k + 1 : Nat) : Int) - 1) = (k : Int) := by omega
    rw [e0]
    have h0 : (0 : Int) ≤ (k : Int) := by omega
    have ra : ((rowsI a)[((k : Int)).toNat]? : Option (List AV)) = some [AV.v (.int .i64 a[k])] := by rw [show ((k : Int)).toNat = k by omega, rowsI_get _ k hka]
    have rb : ((rowsI b)[((k : Int)).toNat]? : Option (List AV)) = some [AV.v (.int .i64 b[k])] := by rw [show ((k : Int)).toNat = k by omega, rowsI_get _ k hkb]
    have c0 : decide ((k : Int) ≥ 0) = true := by rw [decide_eq_true_iff]; omega
    by_cases hx : a[k] = b[k]
    · have he' : a.drop k = b.drop k := by rw [List.drop_eq_getElem_cons hka, List.drop_eq_getElem_cons hkb, hx, he]
      have r := rcmp_loop ha hb hl h590 k f (by omega) (by omega) he'
      have c : (a[k] != b[k]) = false := by simp [hx]
      have st : (F45_l12 600).L (f + 1) (rowsI a, rowsI b, (k : Int)) = (F45_l12 600).L f (rowsI a, rowsI b, (k : Int) - 1) := by
        show (F45_l12 600).b _ _ ((F45_l12 600).L f) some = _
        generalize (F45_l12 600).L f = Lf
        simp only [F45_l12, c0, ra, rb, List.getElem?_cons_zero, c, i64_id (show -9223372036854775808 ≤ (k : Int) - 1 ∧ (k : Int) - 1 ≤ 9223372036854775807 by omega)]
        exact (if_pos h0).trans ((if_pos trivial).trans ((if_pos h0).trans (if_pos trivial)))
      rw [st]
      exact r
    · have c : (a[k] != b[k]) = true := by simp [hx]
      have hV : cmpV (vv a) (vv b) = cmpI a[k] b[k] ∧ vv a ≠ vv b := by
        rcases Int.lt_or_gt_of_ne hx with q | q
        · have := vv_cmp ha hb hl k hka he q
          unfold cmpV cmpI
          rw [if_pos (by omega), if_pos q]
          exact ⟨rfl, by omega⟩
        · have := vv_cmp hb ha hl.symm k hkb he.symm q
          unfold cmpV cmpI
          rw [if_neg (by omega), if_pos (by omega), if_neg (by omega), if_pos q]
          exact ⟨rfl, by omega⟩
      refine .inl ⟨?_, hV.2⟩
      rw [hV.1]
      show (F45_l12 600).b _ _ ((F45_l12 600).L f) some = _
      generalize (F45_l12 600).L f = Lf
      by_cases hlt : a[k] < b[k]
      · simp only [F45_l12, c0, ra, rb, List.getElem?_cons_zero, c, decide_eq_true hlt]
        unfold cmpI
        rw [if_pos hlt]
        exact (if_pos h0).trans ((if_pos trivial).trans ((if_pos h0).trans ((if_pos trivial).trans ((if_pos h0).trans ((if_pos trivial).trans ((if_pos h0).trans (if_pos trivial)))))))
      · simp only [F45_l12, c0, ra, rb, List.getElem?_cons_zero, c, decide_eq_false hlt]
        unfold cmpI
        rw [if_neg hlt, if_pos (show a[k] > b[k] by omega)]
        exact (if_pos h0).trans ((if_pos trivial).trans ((if_pos h0).trans ((if_pos trivial).trans ((if_pos h0).trans ((if_pos trivial).trans ((if_pos h0).trans (if_pos trivial)))))))
theorem rcmp_ok {a b : List Int} (ha : Dg a) (hb : Dg b) (za : NoZ a) (zb : NoZ b) (h590 : a.length ≤ 590) : F45_d 600 (rowsI a, rowsI b) = some (cmpV (vv a) (vv b)) := by
  by_cases hl : a.length = b.length
  · have c : ((a.length : Int) != (b.length : Int)) = false := by rw [hl]; simp
    have e : i64 ((a.length : Int) - 1) = (a.length : Int) - 1 := i64_id (by omega)
    rcases rcmp_loop ha hb hl (by omega) a.length 600 (by omega) (by omega) (by rw [List.drop_length, hl, List.drop_length]) with ⟨r, hn⟩ | ⟨r, hn⟩
    · have L : F45_d12 600 (rowsI a, rowsI b, (a.length : Int) - 1) = some (.inl (cmpV (vv a) (vv b))) := r
      simp only [F45_d, FSpec.d, F45_s, rowsI_len, c, e, L]
    · have L : F45_d12 600 (rowsI a, rowsI b, (a.length : Int) - 1) = some (.inr ()) := r
      have hz : cmpV (vv a) (vv b) = 0 := by rw [hn]; simp [cmpV, cmpI]
      simp only [F45_d, FSpec.d, F45_s, rowsI_len, c, e, L, hz]
  · have c : ((a.length : Int) != (b.length : Int)) = true := by rw [bne_iff_ne]; omega
    rcases Nat.lt_or_gt_of_ne hl with q | q
    · have := vv_len ha hb zb q
      have hV : cmpV (vv a) (vv b) = -1 := by unfold cmpV cmpI; rw [if_pos (by omega)]
      simp only [F45_d, FSpec.d, F45_s, rowsI_len, c, decide_eq_true (show ((a.length : Int) < (b.length : Int)) by omega), hV]
    · have := vv_len hb ha za q
      have hV : cmpV (vv a) (vv b) = 1 := by unfold cmpV cmpI; rw [if_neg (by omega), if_pos (by omega)]
      simp only [F45_d, FSpec.d, F45_s, rowsI_len, c, decide_eq_false (show ¬ ((a.length : Int) < (b.length : Int)) by omega), hV]
theorem rsub_round {a b out : List Int} {c : Int} {i f : Nat} (ha : Dg a) (hb : Dg b) (hc : 0 ≤ c ∧ c ≤ 1) (hi : i ≤ 500) (ho : out.length ≤ 500) (hia : i < a.length) :
    (F12_l14 600).L (f + 1) (rowsI out, rowsI a, rowsI b, c, (i : Int)) = (if dgt a i - c - dgt b i < 0 then (F12_l14 600).L f (rowsI (out ++ [dgt a i - c - dgt b i + 1073741824]), rowsI a, rowsI b, 1, ((i + 1 : Nat) : Int)) else (F12_l14 600).L f (rowsI (out ++ [dgt a i - c - dgt b i]), rowsI a, rowsI b, 0, ((i + 1 : Nat) : Int))) := by
  have ra := dgt_rng ha i
  have rb := dgt_rng hb i
  show (F12_l14 600).b _ _ ((F12_l14 600).L f) some = _
  generalize (F12_l14 600).L f = Lf
  have h0 : (0 : Int) ≤ (i : Int) := by omega
  have e4 : i64 ((i : Int) + 1) = ((i + 1 : Nat) : Int) := by rw [i64_id (by omega)]; omega
  have ga : ((rowsI a)[((i : Int)).toNat]? : Option (List AV)) = some [AV.v (.int .i64 (dgt a i))] := by rw [show ((i : Int)).toNat = i by omega, rowsI_get _ i hia, dgt_get a i hia]
  by_cases hib : i < b.length
  · have gb : ((rowsI b)[((i : Int)).toNat]? : Option (List AV)) = some [AV.v (.int .i64 (dgt b i))] := by rw [show ((i : Int)).toNat = i by omega, rowsI_get _ i hib, dgt_get b i hib]
    generalize dgt a i = x at *
    generalize dgt b i = y at *
    have e1 : i64 (x - c) = x - c := i64_id (by omega)
    have e2 : i64 (x - c - y) = x - c - y := i64_id (by omega)
    by_cases hneg : x - c - y < 0
    · have e3 : i64 (x - c - y + 1073741824) = x - c - y + 1073741824 := i64_id (by omega)
      have hs := room (rowsI out).length (by rw [rowsI_len]; omega) (x - c - y + 1073741824)
      simp only [F12_l14, rowsI_len, decide_eq_true (show ((i : Int) < (a.length : Int)) by omega), ga, List.getElem?_cons_zero, decide_eq_true (show ((i : Int) < (b.length : Int)) by omega), gb, e1, e2, decide_eq_true hneg, e3, e4, rowsI_snoc]
      rw [rowsI_len] at hs
      exact (if_pos h0).trans ((if_pos trivial).trans ((if_pos h0).trans ((if_pos trivial).trans ((if_pos hs).trans (if_pos hneg).symm))))
    · have hs := room (rowsI out).length (by rw [rowsI_len]; omega) (x - c - y)
      simp only [F12_l14, rowsI_len, decide_eq_true (show ((i : Int) < (a.length : Int)) by omega), ga, List.getElem?_cons_zero, decide_eq_true (show ((i : Int) < (b.length : Int)) by omega), gb, e1, e2, decide_eq_false hneg, e4, rowsI_snoc]
      rw [rowsI_len] at hs
      exact (if_pos h0).trans ((if_pos trivial).trans ((if_pos h0).trans ((if_pos trivial).trans ((if_pos hs).trans (if_neg hneg).symm))))
  · rw [dgt_out hib] at *
    generalize dgt a i = x at *
    have ez : x - c - 0 = x - c := by omega
    rw [ez]
    have e1 : i64 (x - c) = x - c := i64_id (by omega)
    by_cases hneg : x - c < 0
    · have e3 : i64 (x - c + 1073741824) = x - c + 1073741824 := i64_id (by omega)
      have hs := room (rowsI out).length (by rw [rowsI_len]; omega) (x - c + 1073741824)
      simp only [F12_l14, rowsI_len, decide_eq_true (show ((i : Int) < (a.length : Int)) by omega), ga, List.getElem?_cons_zero, decide_eq_false (show ¬ ((i : Int) < (b.length : Int)) by omega), e1, decide_eq_true hneg, e3, e4, rowsI_snoc]
      rw [rowsI_len] at hs
      exact (if_pos h0).trans ((if_pos trivial).trans ((if_pos hs).trans (if_pos hneg).symm))
    · have hs := room (rowsI out).length (by rw [rowsI_len]; omega) (x - c)
      simp only [F12_l14, rowsI_len, decide_eq_true (show ((i : Int) < (a.length : Int)) by omega), ga, List.getElem?_cons_zero, decide_eq_false (show ¬ ((i : Int) < (b.length : Int)) by omega), e1, decide_eq_false hneg, e4, rowsI_snoc]
      rw [rowsI_len] at hs
      exact (if_pos h0).trans ((if_pos trivial).trans ((if_pos hs).trans (if_neg hneg).symm))
theorem sub_step {v T P x y p c u W : Nat} (hv : v + T = W + P * c) (he : p + y + c = x + u) : v + P * p + (T + P * y) = W + P * x + P * u := by
  have e3 : P * p + P * y + P * c = P * x + P * u := by
    have := congrArg (P * ·) he
    simp only [Nat.mul_add] at this
    exact this
  omega
theorem rsub_loop {a b : List Int} (ha : Dg a) (hb : Dg b) (hn : a.length ≤ 500) : ∀ (k f i : Nat) (out : List Int) (c : Int), i + k = a.length → k < f → out.length = i → Dg out → (0 ≤ c ∧ c ≤ 1) → vv out + vv (b.take i) = vv (a.take i) + Bs ^ i * c.toNat → ∃ (out' : List Int) (c' : Int), (F12_l14 600).L f (rowsI out, rowsI a, rowsI b, c, (i : Int)) = some (rowsI out') ∧ out'.length = a.length ∧ Dg out' ∧ (0 ≤ c' ∧ c' ≤ 1) ∧ vv out' + vv (b.take a.length) = vv a + Bs ^ a.length * c'.toNat
  | 0, f, i, out, c, hi, hf, hl, hd, hc, hv => by
    obtain ⟨f, rfl⟩ : ∃ f', f = f' + 1 := ⟨f - 1, by omega⟩
    obtain rfl : i = a.length := by omega
    rw [List.take_length] at hv
    refine ⟨out, c, ?_, hl, hd, hc, hv⟩
    show (F12_l14 600).b _ _ ((F12_l14 600).L f) some = _
    generalize (F12_l14 600).L f = Lf
    simp only [F12_l14, rowsI_len, decide_eq_false (show ¬ ((a.length : Int) < (a.length : Int)) by omega)]
  | k + 1, f, i, out, c, hi, hf, hl, hd, hc, hv => by
    obtain ⟨f, rfl⟩ : ∃ f', f = f' + 1 := ⟨f - 1, by omega⟩
    have hia : i < a.length := by omega
    have ra := dgt_rng ha i
    have rb := dgt_rng hb i
    have ta := vv_takeD a i
    have tb := vv_takeD b i
    rw [rsub_round ha hb hc (by omega) (by omega) hia]
    by_cases hneg : dgt a i - c - dgt b i < 0
    · rw [if_pos hneg]
      refine rsub_loop ha hb hn k f (i + 1) _ 1 (by omega) (by omega) (by simp [hl]) (hd.app (Dg.one (by omega))) (by omega) ?_
      rw [vv_snoc, ta, tb, hl, bs_pow, show (1 : Int).toNat = 1 from rfl, Nat.mul_one]
      exact sub_step hv (by omega)
    · rw [if_neg hneg]
      refine rsub_loop ha hb hn k f (i + 1) _ 0 (by omega) (by omega) (by simp [hl]) (hd.app (Dg.one (by omega))) (by omega) ?_
      rw [vv_snoc, ta, tb, hl, show (0 : Int).toNat = 0 from rfl, Nat.mul_zero, Nat.add_zero]
      have := sub_step (u := 0) (P := Bs ^ i) (x := (dgt a i).toNat) (y := (dgt b i).toNat) (p := (dgt a i - c - dgt b i).toNat) hv (by omega)
      rw [Nat.mul_zero, Nat.add_zero] at this
      exact this
theorem rsub_ok {a b : List Int} (ha : VN a) (hb : VN b) : F12_d 600 (rowsI a, rowsI b) = some (if vv a < vv b then ([], 2) else (rowsI (nf (vv a - vv b)), 0)) := by
  have h1 := ha.1
  have C := rcmp_ok ha.2.1 hb.2.1 ha.2.2 hb.2.2 (by omega)
  by_cases hlt : vv a < vv b
  · have c : decide (cmpV (vv a) (vv b) < 0) = true := by rw [cmpV_lt, decide_eq_true hlt]
    simp only [F12_d, FSpec.d, F12_s, rvalid_ok ha, rvalid_ok hb, Bool.not_true, C, c]
    rw [if_pos hlt]
  · have c : decide (cmpV (vv a) (vv b) < 0) = false := by rw [cmpV_lt, decide_eq_false hlt]
    obtain ⟨out, c', r, r1, r2, r3, r4⟩ := rsub_loop ha.2.1 hb.2.1 (by omega) a.length 600 0 [] 0 (by omega) (by omega) rfl Dg.nil (by omega) (by simp [vv])
    have L : F12_d14 600 (([] : List (List AV)), rowsI a, rowsI b, 0, 0) = some (rowsI out) := r
    have hbl : b.length ≤ a.length := by
      rcases Nat.lt_or_ge a.length b.length with q | q
      · exact absurd (vv_len ha.2.1 hb.2.1 hb.2.2 q) hlt
      · exact q
    rw [List.take_of_length_le hbl] at r4
    have hv : vv out = vv a - vv b := by
      have k1 := vv_lt r2
      rw [r1] at k1
      generalize Bs ^ a.length = B at *
      rcases (show c' = 0 ∨ c' = 1 by omega) with rfl | rfl
      · rw [show (0 : Int).toNat = 0 from rfl, Nat.mul_zero, Nat.add_zero] at r4
        omega
      · rw [show (1 : Int).toNat = 1 from rfl, Nat.mul_one] at r4
        omega
    have T := rtrim_ok (xs := out) (by omega)
    rw [trim_nf r2, hv] at T
    simp only [F12_d, FSpec.d, F12_s, rvalid_ok ha, rvalid_ok hb, Bool.not_true, C, c, L, T]
    rw [if_neg hlt]
theorem rfrom_loop : ∀ (k f : Nat) (acc : List Int) (V : Nat), V ≤ 9223372036854775807 → V < Bs ^ k → k < f → acc.length + k ≤ 1000 → (F39_l8 600).L f (rowsI acc, (V : Int)) = some (rowsI (acc ++ nf V))
  | 0, f, acc, V, h63, hV, hf, hl => by
    obtain ⟨f, rfl⟩ : ∃ f', f = f' + 1 := ⟨f - 1, by omega⟩
    obtain rfl : V = 0 := by simpa using hV
    show (F39_l8 600).b _ _ ((F39_l8 600).L f) some = _
    generalize (F39_l8 600).L f = Lf
    rw [nf_zero, List.append_nil]
    simp only [F39_l8, decide_eq_false (show ¬ (((0 : Nat) : Int) > 0) by omega)]
  | k + 1, f, acc, V, h63, hV, hf, hl => by
    obtain ⟨f, rfl⟩ : ∃ f', f = f' + 1 := ⟨f - 1, by omega⟩
    by_cases h0 : V = 0
    · subst h0
      show (F39_l8 600).b _ _ ((F39_l8 600).L f) some = _
      generalize (F39_l8 600).L f = Lf
      rw [nf_zero, List.append_nil]
      simp only [F39_l8, decide_eq_false (show ¬ (((0 : Nat) : Int) > 0) by omega)]
    · have r := rfrom_loop k f (acc ++ [((V % 1073741824 : Nat) : Int)]) (V / 1073741824) (by omega) (by
        rw [Nat.pow_succ] at hV
        rw [Nat.div_lt_iff_lt_mul (by decide)]; exact hV) (by omega) (by simp; omega)
      rw [List.append_assoc, List.singleton_append, ← nf_pos h0] at r
      show (F39_l8 600).b _ _ ((F39_l8 600).L f) some = _
      generalize (F39_l8 600).L f = Lf at r ⊢
      have e1 : ((V : Int)).tmod 1073741824 = ((V % 1073741824 : Nat) : Int) := by rw [Int.tmod_eq_emod_of_nonneg (by omega)]; omega
      have e2 : i64 ((V : Int).tdiv 1073741824) = ((V / 1073741824 : Nat) : Int) := by rw [Int.tdiv_eq_ediv_of_nonneg (by omega), i64_id (by omega)]; omega
      have hs : ((rowsI acc).length + [[AV.v (.int .i64 ((V % 1073741824 : Nat) : Int))]].length) * 8 ≤ maxBytes := by
        have : 100000 ≤ maxBytes := by decide
        rw [rowsI_len]
        simp
        omega
      simp only [F39_l8, decide_eq_true (show ((V : Int) > 0) by omega), e1, e2, rowsI_snoc]
      exact (if_pos hs).trans r
theorem rfrom_ok {n : Int} (h : 0 ≤ n ∧ n ≤ 9223372036854775807) : F39_d 600 n = some (rowsI (nf n.toNat), 0) := by
  have L : F39_d8 600 ((rowsI [] : List (List AV)), n) = some (rowsI (nf n.toNat)) := by
    have := rfrom_loop 3 600 [] n.toNat (by omega) (by
      show n.toNat < 1073741824 ^ 3
      omega) (by omega) (by simp)
    rw [Int.toNat_of_nonneg h.1] at this
    exact this
  have L' : F39_d8 600 (([] : List (List AV)), n) = some (rowsI (nf n.toNat)) := L
  simp only [F39_d, FSpec.d, F39_s, decide_eq_false (show ¬ n < 0 by omega), L']
theorem rdiv_loop {a : List Int} (ha : Dg a) (d : Nat) (hd : 1 ≤ d ∧ d ≤ 1073741824) (hl : a.length ≤ 500) : ∀ (k f : Nat) (O : List Int) (R : Nat), k ≤ a.length → k < f → O.length = a.length → Dg O → R < d → vv (a.drop k) = vv (O.drop k) * d + R → ∃ (O' : List Int) (R' : Nat), (F20_l13 600).L f (rowsI a, (d : Int), a.length, (R : Int), (k : Int) - 1, cellsI O) = some (a.length, (R' : Int), cellsI O') ∧ O'.length = a.length ∧ Dg O' ∧ R' < d ∧ vv a = vv O' * d + R'
  | 0, f, O, R, hk, hf, hO, hg, hR, hv => by
    obtain ⟨f, rfl⟩ : ∃ f', f = f' + 1 := ⟨f - 1, by omega⟩
    refine ⟨O, R, ?_, hO, hg, hR, hv⟩
    show (F20_l13 600).b _ _ ((F20_l13 600).L f) some = _
    generalize (F20_l13 600).L f = Lf
    simp only [F20_l13, decide_eq_false (show ¬ (((0 : Nat) : Int) - 1 ≥ 0) by omega), cellsI_dat]
  | k + 1, f, O, R, hk, hf, hO, hg, hR, hv => by
    obtain ⟨f, rfl⟩ : ∃ f', f = f' + 1 := ⟨f - 1, by omega⟩
    have hka : k < a.length := by omega
    have hkO : k < O.length := by omega
    have rx := ha.get k hka
    have va := vv_drop a k hka
    have ga : ((rowsI a)[((k : Int)).toNat]? : Option (List AV)) = some [AV.v (.int .i64 a[k])] := by rw [show ((k : Int)).toNat = k by omega, rowsI_get _ k hka]
    obtain ⟨x, hx⟩ := Int.eq_ofNat_of_zero_le rx.1
    rw [hx] at ga va rx
    rw [Int.toNat_natCast] at va
    have hq : (R * 1073741824 + x) / d < 1073741824 := by
      rw [Nat.div_lt_iff_lt_mul (by omega)]
      have : (R + 1) * 1073741824 ≤ d * 1073741824 := Nat.mul_le_mul_right _ hR
      omega
    have hdm := Nat.div_add_mod (R * 1073741824 + x) d
    have hm := Nat.mod_lt (R * 1073741824 + x) (show 0 < d by omega)
    have e2 : (((R * 1073741824 + x : Nat) : Int)).tmod (d : Int) = (((R * 1073741824 + x) % d : Nat) : Int) := by rw [Int.tmod_eq_emod_of_nonneg (by omega)]; simp
    have e3 : (((R * 1073741824 + x : Nat) : Int)).tdiv (d : Int) = (((R * 1073741824 + x) / d : Nat) : Int) := by rw [Int.tdiv_eq_ediv_of_nonneg (by omega)]; simp
    generalize hQ : (R * 1073741824 + x) / d = q at *
    generalize hMm : (R * 1073741824 + x) % d = m at *
    clear hQ hMm
    have hset : (O.set k (q : Int)).drop k = (q : Int) :: O.drop (k + 1) := by
      rw [List.drop_eq_getElem_cons (by simpa using hkO)]
      congr 1
      · simp
      · rw [List.drop_set_of_lt (by omega)]
    have hstep : vv (a.drop k) = vv ((O.set k (q : Int)).drop k) * d + m := by
      rw [va, hset]
      show _ = (((q : Int)).toNat + 1073741824 * vv (O.drop (k + 1))) * d + _
      rw [Int.toNat_natCast]
      exact div_step hv (by rw [Nat.mul_comm q]; exact hdm.symm)
    obtain ⟨O', R', r0, r1, r2, r3, r4⟩ := rdiv_loop ha d hd hl k f (O.set k (q : Int)) m (by omega) (by omega) (by simpa using hO) (hg.set _ (by omega)) hm hstep
    refine ⟨O', R', ?_, r1, r2, r3, r4⟩
    clear hstep hset hdm hv va
    show (F20_l13 600).b _ _ ((F20_l13 600).L f) some = _
    generalize (F20_l13 600).L f = Lf at r0 ⊢
    have e0 : (((k + 1 : Nat) : Int) - 1) = (k : Int) := by omega
    have e1a : i64 ((R : Int) * 1073741824) = ((R * 1073741824 : Nat) : Int) := by rw [i64_id (by omega)]; omega
    have e1 : i64 (((R * 1073741824 : Nat) : Int) + (x : Int)) = ((R * 1073741824 + x : Nat) : Int) := by rw [i64_id (by omega)]; omega
    have e4 : i64 ((q : Int)) = (q : Int) := i64_id (by omega)
    have e5 : i64 ((k : Int) - 1) = (k : Int) - 1 := i64_id (by omega)
    have g0 : ((0 + ((k : Int)).toNat) * 1) = k := by omega
    have h0 : (0 : Int) ≤ (k : Int) := by omega
    have h1 : (0 : Int) ≤ (k : Int) ∧ (k : Int) < (a.length : Int) := by omega
    have h2 : k + 1 ≤ (cellsI O).length := by rw [cellsI_len]; omega
    have hd0 : ¬ ((d : Int) = 0) := by omega
    rw [e0]
    simp only [F20_l13, decide_eq_true (show ((k : Int) ≥ 0) by omega), ga, List.getElem?_cons_zero, g0, e1a, e1, e2, e3, e4, e5, cellsI_set, cellsI_dat]
    exact (if_pos h0).trans ((if_pos trivial).trans ((if_neg hd0).trans ((if_pos h1).trans ((if_pos h2).trans ((if_neg hd0).trans r0)))))
open Classical in
/-- Quotient, rest, error. -/
noncomputable def divP (a : List Int) (d : Int) : List Int × Int × Int := if VN a then (if 1 ≤ d ∧ d ≤ 1073741823 then (nf (vv a / d.toNat), ((vv a % d.toNat : Nat) : Int), 0) else ([], 0, 2)) else ([], 0, 1)
theorem rdiv_ok {a : List Int} (hl : a.length ≤ 590) (d : Int) : F20_d 600 (rowsI a, d) = some (rowsI (divP a d).1, (divP a d).2.1, (divP a d).2.2) := by
  unfold divP
  by_cases ha : VN a
  · rw [if_pos ha]
    by_cases hd : 1 ≤ d ∧ d ≤ 1073741823
    · rw [if_pos hd]
      obtain ⟨D, rfl⟩ := Int.eq_ofNat_of_zero_le (show 0 ≤ d by omega)
      rw [Int.toNat_natCast]
      have h64 := ha.1
      have e1 : i64 ((a.length : Int) - 1) = (a.length : Int) - 1 := i64_id (by omega)
      obtain ⟨O, R, r0, r1, r2, r3, r4⟩ := rdiv_loop ha.2.1 D (by omega) (by omega) a.length 600 (List.replicate a.length 0) 0 (by omega) (by omega) (by simp) (Dg.zeros _) (by omega) (by rw [List.drop_length, List.drop_of_length_le (by simp)]; simp [vv])
      have L : F20_d13 600 (rowsI a, (D : Int), a.length, 0, (a.length : Int) - 1, cellsI (List.replicate a.length 0)) = some (a.length, (R : Int), cellsI O) := r0
      have T := rtrim_ok (xs := O) (by omega)
      have hq : vv a / D = vv O := by rw [r4, Nat.mul_comm, Nat.mul_add_div (by omega), Nat.div_eq_of_lt r3, Nat.add_zero]
      have hr : vv a % D = R := by rw [r4, Nat.mul_comm, Nat.mul_add_mod, Nat.mod_eq_of_lt r3]
      rw [trim_nf r2, ← hq] at T
      have h1 : (0 : Int) ≤ (a.length : Int) ∧ (a.length : Int) ≤ (a.length : Int) ∧ ((a.length : Int)).toNat * 8 ≤ maxBytes := by
        have : 100000 ≤ maxBytes := by decide
        omega
      have h2 : a.length * 1 ≤ (cellsI O).length := by rw [cellsI_len]; omega
      rw [hr]
      simp only [F20_d, FSpec.d, F20_s, rvalid_ok ha, rin_ok, decide_eq_true hd, Bool.not_true, rowsI_len, e1, Int.toNat_natCast, zeros_cells, cellsI_dat, L, chunks_all O _ r1, T]
      exact (if_pos h1).trans (if_pos h2)
    · rw [if_neg hd]
      simp only [F20_d, FSpec.d, F20_s, rvalid_ok ha, rin_ok, decide_eq_false hd, Bool.not_true, Bool.not_false]
      rfl
  · rw [if_neg ha]
    simp only [F20_d, FSpec.d, F20_s, rvalid_no hl ha, Bool.not_false]
    rfl
theorem idiv_ok {a : List Int} (hl : a.length ≤ 590) (d : Int) : F19_d 600 (rowsI a, d) = some (rowsI (divP a d).1, (divP a d).2.1, (divP a d).2.2) := by
  unfold divP
  by_cases ha : VN a
  · rw [if_pos ha]
    by_cases hd : 1 ≤ d ∧ d ≤ 1073741823
    · rw [if_pos hd]
      exact divs_ok ha (by omega)
    · rw [if_neg hd]
      by_cases h1 : d < 1
      · simp only [F19_d, FSpec.d, F19_s, valid_ok ha, Bool.not_true, decide_eq_true h1]
        rfl
      · simp only [F19_d, FSpec.d, F19_s, valid_ok ha, Bool.not_true, decide_eq_false h1, decide_eq_true (show d ≥ 1073741824 by omega)]
        rfl
  · rw [if_neg ha]
    simp only [F19_d, FSpec.d, F19_s, valid_no hl ha, Bool.not_false]
    rfl
end Go.Proofs.YtlpebecbipjoaaaGreatDoor
