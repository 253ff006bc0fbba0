/- Natural numbers, the plain law: trim, limited, Valid, compare, Same, From, without memory. -/
import Derived.Test.YtlpebecbipjoaaaGreatDoorNaB
namespace Go.Proofs.YtlpebecbipjoaaaGreatDoor
set_option linter.unusedVariables false
set_option linter.unusedSimpArgs false
set_option linter.unnecessarySimpa false
theorem trimZ_snoc0 : ∀ ys : List Int, trimZ (ys ++ [0]) = trimZ ys
  | [] => by simp [trimZ]
  | y :: r => by
    have := trimZ_snoc0 r
    simp only [List.cons_append, trimZ, this]
theorem snoc_of {xs : List Int} {k : Nat} (h : xs.length = k + 1) : ∃ ys x, xs = ys ++ [x] ∧ ys.length = k := by
  have hne : xs ≠ [] := by intro e; subst e; simp at h
  exact ⟨xs.dropLast, xs.getLast hne, (List.dropLast_concat_getLast hne).symm, by simp [h]⟩
theorem trim_loop : ∀ (k f : Nat) (xs : List Int), xs.length = k → k ≤ 100000 → k < f → (F60_l3 600).L f (rowsI xs) = some (rowsI (trimZ xs))
  | 0, f, xs, hl, _, hf => by
    obtain ⟨f, rfl⟩ : ∃ f', f = f' + 1 := ⟨f - 1, by omega⟩
    obtain rfl : xs = [] := List.length_eq_zero_iff.1 hl
    show (F60_l3 600).b _ _ ((F60_l3 600).L f) some = _
    generalize (F60_l3 600).L f = Lf
    rfl
  | k + 1, f, xs, hl, hk, hf => by
    obtain ⟨f, rfl⟩ : ∃ f', f = f' + 1 := ⟨f - 1, by omega⟩
    obtain ⟨ys, x, rfl, hy⟩ := snoc_of hl
    have r := trim_loop k f ys hy (by omega) (by omega)
    show (F60_l3 600).b _ _ ((F60_l3 600).L f) some = _
    generalize (F60_l3 600).L f = Lf at r ⊢
    have e1 : i64 (((ys ++ [x]).length : Int) - 1) = (k : Int) := by rw [hl, i64_id (by omega)]; omega
    have e2 : decide (((ys ++ [x]).length : Int) > 0) = true := by rw [decide_eq_true_iff]; omega
    have e3 : ((rowsI (ys ++ [x]))[((k : Int)).toNat]? : Option (List AV)) = some [AV.v (.int .i64 x)] := by
      rw [show ((k : Int)).toNat = k by omega, rowsI_get _ k (by omega)]
      simp [← hy]
    have e4 : (rowsI (ys ++ [x])).take ((k : Int)).toNat = rowsI ys := by
      rw [show ((k : Int)).toNat = k by omega, rowsI_take, ← hy]; simp
    have h0 : (0 : Int) ≤ (k : Int) := by omega
    have h1 : (0 : Int) ≤ (k : Int) ∧ (k : Int) ≤ ((ys ++ [x]).length : Int) := by omega
    by_cases hx : x = 0
    · have c : (x == 0) = true := by simp [hx]
      simp only [F60_l3, rowsI_len, e1, e2, e3, List.getElem?_cons_zero, c, e4]
      subst hx
      rw [trimZ_snoc0]
      exact (if_pos h0).trans ((if_pos trivial).trans ((if_pos h1).trans r))
    · have c : (x == 0) = false := by simp [hx]
      simp only [F60_l3, rowsI_len, e1, e2, e3, List.getElem?_cons_zero, c]
      have : trimZ (ys ++ [x]) = ys ++ [x] := trim_id (by simp [NoZ]; exact hx)
      rw [this]
      exact (if_pos h0).trans (if_pos trivial)
theorem trim_ok {xs : List Int} (h : xs.length ≤ 590) : F60_d 600 (rowsI xs) = some (rowsI (trimZ xs)) := by
  have L : F60_d3 600 (rowsI xs) = some (rowsI (trimZ xs)) := trim_loop xs.length 600 xs rfl (by omega) (by omega)
  simp only [F60_d, FSpec.d, F60_s, L]
/-- A result, or ErrLimit. -/
def limR (V : Nat) : List (List AV) × Int := if V < Bs ^ 64 then (rowsI (nf V), 0) else ([], 8)
theorem lim_ok {xs : List Int} (h : xs.length ≤ 590) (hd : Dg xs) : F42_d 600 (rowsI xs) = some (limR (vv xs)) := by
  unfold limR
  by_cases hV : vv xs < Bs ^ 64
  · have hl := (nf_len 64 (vv xs)).2 hV
    simp only [F42_d, FSpec.d, F42_s, trim_ok h, trim_nf hd, rowsI_len, decide_eq_false (show ¬ (((nf (vv xs)).length : Int) > 64) by omega)]
    rw [if_pos hV]
  · have hl : ¬ (nf (vv xs)).length ≤ 64 := fun e => hV ((nf_len 64 (vv xs)).1 e)
    simp only [F42_d, FSpec.d, F42_s, trim_ok h, trim_nf hd, rowsI_len, decide_eq_true (show (((nf (vv xs)).length : Int) > 64) by omega)]
    rw [if_neg hV]
/-- A valid number. -/
def VN (xs : List Int) : Prop := xs.length ≤ 64 ∧ Dg xs ∧ NoZ xs
theorem VN.nf {V : Nat} (h : V < Bs ^ 64) : VN (nf V) := ⟨(nf_len 64 V).2 h, nf_dg V, nf_noz V⟩
theorem VN.lt {xs : List Int} (h : VN xs) : vv xs < Bs ^ 64 := (nf_len 64 (vv xs)).1 (by rw [nf_vv h.2.1 h.2.2]; exact h.1)
theorem VN.eq {xs : List Int} (h : VN xs) : xs = Go.Proofs.YtlpebecbipjoaaaGreatDoor.nf (vv xs) := (nf_vv h.2.1 h.2.2).symm
theorem dig_ok (N : Nat) (x : Int) : F57_d N x = some (!decide (0 ≤ x ∧ x < 1073741824)) := by
  simp only [F57_d, FSpec.d, F57_s]
  by_cases h : x < 0
  · have h2 : ¬ (0 ≤ x ∧ x < 1073741824) := by omega
    simp only [decide_eq_true h, decide_eq_false h2, Bool.not_false]
  · by_cases h2 : x < 1073741824
    · have h3 : (0 ≤ x ∧ x < 1073741824) := by omega
      simp only [decide_eq_false h, decide_eq_true h3, decide_eq_false (show ¬ x ≥ 1073741824 by omega), Bool.not_true]
    · have h3 : ¬ (0 ≤ x ∧ x < 1073741824) := by omega
      simp only [decide_eq_false h, decide_eq_false h3, decide_eq_true (show x ≥ 1073741824 by omega), Bool.not_false]
theorem find_loop (l : List Int) (hl : l.length ≤ 100000) : ∀ (k i f : Nat), k < f → i + k = l.length → (F70_l4 600).L f (rowsI l, (l.length : Int), (i : Int)) = some (.inr ()) ∧ Dg (l.drop i) ∨ ∃ q : Nat, (F70_l4 600).L f (rowsI l, (l.length : Int), (i : Int)) = some (.inl (q : Int)) ∧ ¬ Dg (l.drop i)
  | 0, i, f, hf, hi => by
    obtain ⟨f, rfl⟩ : ∃ f', f = f' + 1 := ⟨f - 1, by omega⟩
    have c : decide ((i : Int) < (l.length : Int)) = false := by rw [decide_eq_false_iff_not]; omega
    refine .inl ⟨?_, by rw [List.drop_of_length_le (by omega)]; exact Dg.nil⟩
    show (F70_l4 600).b _ _ ((F70_l4 600).L f) some = _
    simp only [F70_l4, c]
  | k + 1, i, f, hf, hi => by
    obtain ⟨f, rfl⟩ : ∃ f', f = f' + 1 := ⟨f - 1, by omega⟩
    have hlt : i < l.length := by omega
    have c1 : decide ((i : Int) < (l.length : Int)) = true := by rw [decide_eq_true_iff]; omega
    have c2 : (0 : Int) ≤ (i : Int) := by omega
    have c4 : i64 ((i : Int) + 1) = ((i + 1 : Nat) : Int) := by rw [i64_id (by omega)]; omega
    have hd : l.drop i = l[i] :: l.drop (i + 1) := List.drop_eq_getElem_cons hlt
    by_cases h : 0 ≤ l[i] ∧ l[i] < 1073741824
    · have st : (F70_l4 600).L (f + 1) (rowsI l, (l.length : Int), (i : Int)) = (F70_l4 600).L f (rowsI l, (l.length : Int), ((i + 1 : Nat) : Int)) := by
        show (F70_l4 600).b _ _ ((F70_l4 600).L f) some = _
        obtain ⟨Lf, hL⟩ : ∃ Lf, Lf = (F70_l4 600).L f := ⟨_, rfl⟩
        rw [← hL]
        simp only [F70_l4, c1, c2, if_true, Int.toNat_natCast, rowsI_get l i hlt, List.getElem?_cons_zero, dig_ok, decide_eq_true h, Bool.not_true, c4]
        exact if_pos trivial
      have r := find_loop l hl k (i + 1) f (by omega) (by omega)
      rw [st, hd]
      rcases r with ⟨r1, r2⟩ | ⟨q, r1, r2⟩
      · refine .inl ⟨r1, fun x hx => ?_⟩
        rcases List.mem_cons.1 hx with e | e
        · rw [e]; exact h
        · exact r2 x e
      · exact .inr ⟨q, r1, fun e => r2 e.cons.2⟩
    · refine .inr ⟨i, ?_, by rw [hd]; exact fun e => h e.cons.1⟩
      show (F70_l4 600).b _ _ ((F70_l4 600).L f) some = _
      simp only [F70_l4, c1, c2, if_true, Int.toNat_natCast, rowsI_get l i hlt, List.getElem?_cons_zero, dig_ok, decide_eq_false h, Bool.not_false]
open Classical in
theorem cont_ok (l : List Int) (hl : l.length ≤ 590) : F56_d 600 (rowsI l) = some (!decide (Dg l)) := by
  simp only [F56_d, FSpec.d, F56_s, F70_d, F70_s, rowsI_len]
  rcases find_loop l (by omega) l.length 0 600 (by omega) (by omega) with ⟨h1, h2⟩ | ⟨q, h1, h2⟩
  · have L : F70_d4 600 (rowsI l, (l.length : Int), 0) = some (.inr ()) := h1
    have h2 : Dg l := h2
    simp only [L, decide_eq_true h2]; rfl
  · have L : F70_d4 600 (rowsI l, (l.length : Int), 0) = some (.inl (q : Int)) := h1
    have h2 : ¬ Dg l := h2
    have c : (q : Int) ≥ 0 := by omega
    simp only [L, decide_eq_false h2, c, decide_true, Bool.not_false]
open Classical in
theorem valid_any (l : List Int) (hl : l.length ≤ 590) : F25_d 600 (rowsI l) = some (decide (VN l)) := by
  by_cases h64 : l.length ≤ 64
  · have c0 : decide ((l.length : Int) > 64) = false := by rw [decide_eq_false_iff_not]; omega
    rcases Nat.eq_zero_or_pos l.length with h0 | h0
    · obtain rfl : l = [] := List.length_eq_zero_iff.1 h0
      have hv : VN [] := ⟨by simp, Dg.nil, by simp [NoZ]⟩
      have C := cont_ok [] (by simp)
      simp only [F25_d, FSpec.d, F25_s, rowsI_len, c0, C, decide_eq_true Dg.nil, decide_eq_true hv]
      rfl
    · obtain ⟨k, hk⟩ : ∃ k, l.length = k + 1 := ⟨l.length - 1, by omega⟩
      obtain ⟨ys, x, rfl, hy⟩ := snoc_of hk
      have e1 : i64 (((ys ++ [x]).length : Int) - 1) = (k : Int) := by rw [hk, i64_id (by omega)]; omega
      have c1 : decide (((ys ++ [x]).length : Int) > 0) = true := by rw [decide_eq_true_iff]; omega
      have e3 : ((rowsI (ys ++ [x]))[((k : Int)).toNat]? : Option (List AV)) = some [AV.v (.int .i64 x)] := by
        rw [show ((k : Int)).toNat = k by omega, rowsI_get _ k (by omega)]
        simp [← hy]
      have h1 : (0 : Int) ≤ (k : Int) := by omega
      by_cases hx : x = 0
      · have c : (x == 0) = true := by simp [hx]
        have hv : ¬ VN (ys ++ [x]) := fun e => e.2.2 (by simp [hx])
        simp only [F25_d, FSpec.d, F25_s, rowsI_len, c0, c1, e1, e3, List.getElem?_cons_zero, c, decide_eq_false hv]
        exact (if_pos h1).trans (if_pos trivial)
      · have c : (x == 0) = false := by simp [hx]
        have C := cont_ok (ys ++ [x]) hl
        have hv : VN (ys ++ [x]) ↔ Dg (ys ++ [x]) := ⟨fun e => e.2.1, fun e => ⟨h64, e, by simp [NoZ]; exact hx⟩⟩
        simp only [F25_d, FSpec.d, F25_s, rowsI_len, c0, c1, e1, e3, List.getElem?_cons_zero, c, C, Bool.not_not]
        refine (if_pos h1).trans ((if_pos trivial).trans ?_)
        by_cases hd : Dg (ys ++ [x])
        · rw [decide_eq_true hd, decide_eq_true (hv.2 hd)]
        · rw [decide_eq_false hd, decide_eq_false (fun e => hd (hv.1 e))]
  · have c0 : decide ((l.length : Int) > 64) = true := by rw [decide_eq_true_iff]; omega
    have hv : ¬ VN l := fun e => h64 e.1
    simp only [F25_d, FSpec.d, F25_s, rowsI_len, c0, decide_eq_false hv]
theorem valid_ok {l : List Int} (h : VN l) : F25_d 600 (rowsI l) = some true := by
  exact (valid_any l (by have := h.1; omega)).trans (by simp [h])
theorem both_ok {a b : List Int} (ha : VN a) (hb : VN b) : F40_d 600 (rowsI a, rowsI b) = some true := by
  simp only [F40_d, FSpec.d, F40_s, valid_ok ha, valid_ok hb]
/-- How numbers compare. -/
def cmpI (a b : Int) : Int := if a < b then -1 else if a > b then 1 else 0
theorem cmpc_ok (N : Nat) (a b : Int) : F61_d N (a, b) = some (cmpI a b) := by
  simp only [F61_d, FSpec.d, F61_s, F78_d, F78_s, bne_self_eq_false, cmpI]
  by_cases h1 : a < b
  · simp only [decide_eq_true h1, if_pos h1]
  · by_cases h2 : a > b
    · simp only [decide_eq_false h1, decide_eq_true h2, if_neg h1, if_pos h2]
    · simp only [decide_eq_false h1, decide_eq_false h2, if_neg h1, if_neg h2]
def cmpV (a b : Nat) : Int := cmpI a b
theorem cmp_loop {a b : List Int} (ha : Dg a) (hb : Dg b) (hl : a.length = b.length) (h590 : a.length ≤ 100000) : ∀ (k f : Nat), k ≤ a.length → k < f → a.drop k = b.drop k → ((F44_l8 600).L f (rowsI a, rowsI b, (k : Int) - 1) = some (.inl (cmpV (vv a) (vv b))) ∧ vv a ≠ vv b) ∨ ((F44_l8 600).L f (rowsI a, rowsI b, (k : Int) - 1) = some (.inr ()) ∧ a = b)
  | 0, f, hk, hf, he => by
    obtain ⟨f, rfl⟩ : ∃ f', f = f' + 1 := ⟨f - 1, by omega⟩
    refine .inr ⟨?_, by simpa using he⟩
    show (F44_l8 600).b _ _ ((F44_l8 600).L f) some = _
    generalize (F44_l8 600).L f = Lf
    simp only [F44_l8, decide_eq_false (show ¬ (((0 : Nat) : Int) - 1 ≥ 0) by omega)]
  | k + 1, f, hk, hf, he => by
    obtain ⟨f, rfl⟩ : ∃ f', f = f' + 1 := ⟨f - 1, by omega⟩
    have hka : k < a.length := by omega
    have hkb : k < b.length := by omega
    have e0 : (((k + 1 : Nat) : Int) - 1) = (k : Int) := by omega
    rw [e0]
    have h0 : (0 : Int) ≤ (k : Int) := by omega
    have ra : ((rowsI a)[((k : Int)).toNat]? : Option (List AV)) = some [AV.v (.int .i64 a[k])] := by rw [show ((k : Int)).toNat = k by omega, rowsI_get _ k hka]
    have rb : ((rowsI b)[((k : Int)).toNat]? : Option (List AV)) = some [AV.v (.int .i64 b[k])] := by rw [show ((k : Int)).toNat = k by omega, rowsI_get _ k hkb]
    have c0 : decide ((k : Int) ≥ 0) = true := by rw [decide_eq_true_iff]; omega
    by_cases hx : a[k] = b[k]
    · have he' : a.drop k = b.drop k := by rw [List.drop_eq_getElem_cons hka, List.drop_eq_getElem_cons hkb, hx, he]
      have r := cmp_loop ha hb hl h590 k f (by omega) (by omega) he'
      have c : (a[k] != b[k]) = false := by simp [hx]
      have st : (F44_l8 600).L (f + 1) (rowsI a, rowsI b, (k : Int)) = (F44_l8 600).L f (rowsI a, rowsI b, (k : Int) - 1) := by
        show (F44_l8 600).b _ _ ((F44_l8 600).L f) some = _
        generalize (F44_l8 600).L f = Lf
        simp only [F44_l8, c0, ra, rb, List.getElem?_cons_zero, c, i64_id (show -9223372036854775808 ≤ (k : Int) - 1 ∧ (k : Int) - 1 ≤ 9223372036854775807 by omega)]
        exact (if_pos h0).trans ((if_pos trivial).trans ((if_pos h0).trans (if_pos trivial)))
      rw [st]
      exact r
    · have c : (a[k] != b[k]) = true := by simp [hx]
      have hV : cmpV (vv a) (vv b) = cmpI a[k] b[k] ∧ vv a ≠ vv b := by
        rcases Int.lt_or_gt_of_ne hx with q | q
        · have := vv_cmp ha hb hl k hka he q
          unfold cmpV cmpI
          rw [if_pos (by omega), if_pos q]
          exact ⟨rfl, by omega⟩
        · have := vv_cmp hb ha hl.symm k hkb he.symm q
          unfold cmpV cmpI
          rw [if_neg (by omega), if_pos (by omega), if_neg (by omega), if_pos q]
          exact ⟨rfl, by omega⟩
      refine .inl ⟨?_, hV.2⟩
      rw [hV.1]
      show (F44_l8 600).b _ _ ((F44_l8 600).L f) some = _
      generalize (F44_l8 600).L f = Lf
      simp only [F44_l8, c0, ra, rb, List.getElem?_cons_zero, c, cmpc_ok]
      exact (if_pos h0).trans ((if_pos trivial).trans ((if_pos h0).trans ((if_pos trivial).trans ((if_pos h0).trans ((if_pos trivial).trans ((if_pos h0).trans (if_pos trivial)))))))
theorem cmp_ok {a b : List Int} (ha : Dg a) (hb : Dg b) (za : NoZ a) (zb : NoZ b) (h590 : a.length ≤ 590) : F44_d 600 (rowsI a, rowsI b) = some (cmpV (vv a) (vv b)) := by
  by_cases hl : a.length = b.length
  · have c : ((a.length : Int) != (b.length : Int)) = false := by rw [hl]; simp
    have e : i64 ((a.length : Int) - 1) = (a.length : Int) - 1 := i64_id (by omega)
    rcases cmp_loop ha hb hl (by omega) a.length 600 (by omega) (by omega) (by rw [List.drop_length, hl, List.drop_length]) with ⟨r, hn⟩ | ⟨r, hn⟩
    · have L : F44_d8 600 (rowsI a, rowsI b, (a.length : Int) - 1) = some (.inl (cmpV (vv a) (vv b))) := r
      simp only [F44_d, FSpec.d, F44_s, rowsI_len, c, e, L]
    · have L : F44_d8 600 (rowsI a, rowsI b, (a.length : Int) - 1) = some (.inr ()) := r
      have hz : cmpV (vv a) (vv b) = 0 := by rw [hn]; simp [cmpV, cmpI]
      simp only [F44_d, FSpec.d, F44_s, rowsI_len, c, e, L, hz]
  · have c : ((a.length : Int) != (b.length : Int)) = true := by rw [bne_iff_ne]; omega
    have hV : cmpI (a.length : Int) (b.length : Int) = cmpV (vv a) (vv b) := by
      unfold cmpV cmpI
      rcases Nat.lt_or_gt_of_ne hl with q | q
      · have := vv_len ha hb zb q
        rw [if_pos (by omega), if_pos (by omega)]
      · have := vv_len hb ha za q
        rw [if_neg (by omega), if_pos (by omega), if_neg (by omega), if_pos (by omega)]
    simp only [F44_d, FSpec.d, F44_s, rowsI_len, c, cmpc_ok, hV]
theorem cmpX_ok {a b : List Int} (ha : VN a) (hb : VN b) : F16_d 600 (rowsI a, rowsI b) = some (cmpV (vv a) (vv b)) := by
  simp only [F16_d, FSpec.d, F16_s, both_ok ha hb, Bool.not_true, cmp_ok ha.2.1 hb.2.1 ha.2.2 hb.2.2 (by have := ha.1; omega)]
theorem same_loop {a b : List Int} (hl : a.length = b.length) (h590 : a.length ≤ 100000) : ∀ (k i f : Nat), i + k = a.length → k < f → ((F15_l8 600).L f (rowsI a, rowsI b, (i : Int)) = some (.inl false) ∧ a.drop i ≠ b.drop i) ∨ ((F15_l8 600).L f (rowsI a, rowsI b, (i : Int)) = some (.inr ()) ∧ a.drop i = b.drop i)
  | 0, i, f, hi, hf => by
    obtain ⟨f, rfl⟩ : ∃ f', f = f' + 1 := ⟨f - 1, by omega⟩
    refine .inr ⟨?_, by rw [List.drop_of_length_le (by omega), List.drop_of_length_le (by omega)]⟩
    show (F15_l8 600).b _ _ ((F15_l8 600).L f) some = _
    generalize (F15_l8 600).L f = Lf
    simp only [F15_l8, rowsI_len, decide_eq_false (show ¬ ((i : Int) < (a.length : Int)) by omega)]
  | k + 1, i, f, hi, hf => by
    obtain ⟨f, rfl⟩ : ∃ f', f = f' + 1 := ⟨f - 1, by omega⟩
    have hia : i < a.length := by omega
    have hib : i < b.length := by omega
    have h0 : (0 : Int) ≤ (i : Int) := by omega
    have ra : ((rowsI a)[((i : Int)).toNat]? : Option (List AV)) = some [AV.v (.int .i64 a[i])] := by rw [show ((i : Int)).toNat = i by omega, rowsI_get _ i hia]
    have rb : ((rowsI b)[((i : Int)).toNat]? : Option (List AV)) = some [AV.v (.int .i64 b[i])] := by rw [show ((i : Int)).toNat = i by omega, rowsI_get _ i hib]
    have c0 : decide ((i : Int) < (a.length : Int)) = true := by rw [decide_eq_true_iff]; omega
    rw [List.drop_eq_getElem_cons hia, List.drop_eq_getElem_cons hib]
    by_cases hx : a[i] = b[i]
    · have r := same_loop hl h590 k (i + 1) f (by omega) (by omega)
      rw [show ((i + 1 : Nat) : Int) = (i : Int) + 1 by omega] at r
      have c : (a[i] != b[i]) = false := by simp [hx]
      have st : (F15_l8 600).L (f + 1) (rowsI a, rowsI b, (i : Int)) = (F15_l8 600).L f (rowsI a, rowsI b, (i : Int) + 1) := by
        show (F15_l8 600).b _ _ ((F15_l8 600).L f) some = _
        generalize (F15_l8 600).L f = Lf
        simp only [F15_l8, rowsI_len, c0, ra, rb, List.getElem?_cons_zero, c, i64_id (show -9223372036854775808 ≤ (i : Int) + 1 ∧ (i : Int) + 1 ≤ 9223372036854775807 by omega)]
        exact (if_pos h0).trans ((if_pos trivial).trans ((if_pos h0).trans (if_pos trivial)))
      rw [st, hx]
      rcases r with ⟨r1, r2⟩ | ⟨r1, r2⟩
      · exact .inl ⟨r1, fun e => r2 (List.cons.inj e).2⟩
      · exact .inr ⟨r1, by rw [r2]⟩
    · have c : (a[i] != b[i]) = true := by simp [hx]
      refine .inl ⟨?_, fun e => hx (List.cons.inj e).1⟩
      show (F15_l8 600).b _ _ ((F15_l8 600).L f) some = _
      generalize (F15_l8 600).L f = Lf
      simp only [F15_l8, rowsI_len, c0, ra, rb, List.getElem?_cons_zero, c]
      exact (if_pos h0).trans ((if_pos trivial).trans ((if_pos h0).trans (if_pos trivial)))
theorem same_ok {a b : List Int} (h590 : a.length ≤ 590) : F15_d 600 (rowsI a, rowsI b) = some (decide (a = b)) := by
  by_cases hl : a.length = b.length
  · have c : ((a.length : Int) != (b.length : Int)) = false := by rw [hl]; simp
    rcases same_loop hl (by omega) a.length 0 600 (by omega) (by omega) with ⟨r, hn⟩ | ⟨r, hn⟩
    · have L : F15_d8 600 (rowsI a, rowsI b, 0) = some (.inl false) := r
      have hn : a ≠ b := hn
      simp only [F15_d, FSpec.d, F15_s, rowsI_len, c, L, decide_eq_false hn]
    · have L : F15_d8 600 (rowsI a, rowsI b, 0) = some (.inr ()) := r
      have hn : a = b := hn
      simp only [F15_d, FSpec.d, F15_s, rowsI_len, c, L, decide_eq_true hn]
  · have c : ((a.length : Int) != (b.length : Int)) = true := by rw [bne_iff_ne]; omega
    have hn : a ≠ b := fun e => hl (by rw [e])
    simp only [F15_d, FSpec.d, F15_s, rowsI_len, c, decide_eq_false hn]
theorem from_loop : ∀ (k f : Nat) (acc : List Int) (V : Nat), V < Bs ^ k → k < f → acc.length + k ≤ 1000 → (F38_l8 600).L f (rowsI acc, (V : Int)) = some (rowsI (acc ++ nf V))
  | 0, f, acc, V, hV, hf, hl => by
    obtain ⟨f, rfl⟩ : ∃ f', f = f' + 1 := ⟨f - 1, by omega⟩
    obtain rfl : V = 0 := by simpa using hV
    show (F38_l8 600).b _ _ ((F38_l8 600).L f) some = _
    generalize (F38_l8 600).L f = Lf
    rw [nf_zero, List.append_nil]
    simp only [F38_l8, decide_eq_false (show ¬ (((0 : Nat) : Int) > 0) by omega)]
  | k + 1, f, acc, V, hV, hf, hl => by
    obtain ⟨f, rfl⟩ : ∃ f', f = f' + 1 := ⟨f - 1, by omega⟩
    by_cases h0 : V = 0
    · subst h0
      show (F38_l8 600).b _ _ ((F38_l8 600).L f) some = _
      generalize (F38_l8 600).L f = Lf
      rw [nf_zero, List.append_nil]
      simp only [F38_l8, decide_eq_false (show ¬ (((0 : Nat) : Int) > 0) by omega)]
    · have r := from_loop k f (acc ++ [((V % 1073741824 : Nat) : Int)]) (V / 1073741824) (by
        rw [Nat.pow_succ] at hV
        rw [Nat.div_lt_iff_lt_mul (by decide)]; exact hV) (by omega) (by simp; omega)
      rw [List.append_assoc, List.singleton_append, ← nf_pos h0] at r
      show (F38_l8 600).b _ _ ((F38_l8 600).L f) some = _
      generalize (F38_l8 600).L f = Lf at r ⊢
      have e1 : ((V : Int)).tmod 1073741824 = ((V % 1073741824 : Nat) : Int) := by rw [Int.tmod_eq_emod_of_nonneg (by omega)]; omega
      have e2 : shR .i64 (V : Int) (30 : Int) = ((V / 1073741824 : Nat) : Int) := by rw [shR30]; omega
      have hs : ((rowsI acc).length + [[AV.v (.int .i64 ((V % 1073741824 : Nat) : Int))]].length) * 8 ≤ maxBytes := by
        have : 100000 ≤ maxBytes := by decide
        rw [rowsI_len]
        simp
        omega
      simp only [F38_l8, decide_eq_true (show ((V : Int) > 0) by omega), e1, e2, rowsI_snoc]
      exact (if_pos hs).trans r
theorem from_ok {n : Int} (h : 0 ≤ n ∧ n ≤ 9223372036854775807) : F38_d 600 n = some (rowsI (nf n.toNat), 0) := by
  have L : F38_d8 600 ((rowsI [] : List (List AV)), n) = some (rowsI (nf n.toNat)) := by
    have := from_loop 3 600 [] n.toNat (by
      show n.toNat < 1073741824 ^ 3
      omega) (by omega) (by simp)
    rw [Int.toNat_of_nonneg h.1] at this
    exact this
  have L' : F38_d8 600 (([] : List (List AV)), n) = some (rowsI (nf n.toNat)) := L
  simp only [F38_d, FSpec.d, F38_s, decide_eq_false (show ¬ n < 0 by omega), L']
end Go.Proofs.YtlpebecbipjoaaaGreatDoor
