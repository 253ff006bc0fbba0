/- Steim, the plain law: Decode of any string and count. -/
import Derived.Test.YtdmedeaknnldcaaDoorStE
namespace Go.Proofs.YtdmedeaknnldcaaDoor
open Go.RowKit
set_option linter.unusedVariables false
set_option linter.unusedSimpArgs false
set_option linter.unnecessarySimpa false
theorem unp_fit {c v : Int} : ∀ x ∈ unp c v, Fit32 x := by
  intro x hx
  have f8 : ∀ u, 0 ≤ u ∧ u < 256 → Fit32 (sgn8 u) := fun u h => by
    have := sgn8_fit h
    unfold Fit8 at this
    unfold Fit32
    omega
  have f16 : ∀ u, 0 ≤ u ∧ u < 65536 → Fit32 (sgn16 u) := fun u h => by
    have := sgn16_fit h
    unfold Fit16 at this
    unfold Fit32
    omega
  have f32 : ∀ u, 0 ≤ u ∧ u < 4294967296 → Fit32 (sgn32 u) := fun u h => sgn32_fit h
  unfold unp at hx
  split at hx
  · simp only [List.mem_cons, List.not_mem_nil, or_false] at hx
    rcases hx with rfl | rfl | rfl | rfl <;> exact f8 _ (by omega)
  · split at hx
    · simp only [List.mem_cons, List.not_mem_nil, or_false] at hx
      rcases hx with rfl | rfl <;> exact f16 _ (by omega)
    · split at hx
      · simp only [List.mem_cons, List.not_mem_nil, or_false] at hx
        subst hx
        exact f32 _ (by omega)
      · cases hx
theorem frms_fit (s : ByteArray) : ∀ (j k : Nat), ∀ x ∈ frms s k j, Fit32 x
  | 0, k, x, h => by cases h
  | j + 1, k, x, h => by
    rcases List.mem_append.1 h with h | h
    · unfold frm at h
      obtain ⟨i, -, hi⟩ := List.mem_flatMap.1 h
      exact unp_fit x hi
    · exact frms_fit s j (k + 1) x h
theorem frms_len (s : ByteArray) : ∀ (j k : Nat), (frms s k j).length ≤ 60 * j
  | 0, k => by simp [frms]
  | j + 1, k => by
    have h1 := frm_len s k 15
    have h2 := frms_len s j (k + 1)
    show (frm s k 15 ++ frms s (k + 1) j).length ≤ _
    rw [List.length_append]
    omega
/-- The samples from the first one and the differences. -/
def sm (e : Int) (D : List Int) : Nat → Int
  | 0 => e
  | i + 1 => sm e D i + D.getD (i + 1) 0
def sms (e : Int) (D : List Int) (n : Nat) : List Int := (List.range n).map (sm e D)
theorem sms_len (e : Int) (D : List Int) (n : Nat) : (sms e D n).length = n := by simp [sms]
theorem sms_get (e : Int) (D : List Int) (n i : Nat) (h : i < n) : (sms e D n)[i]'(by rw [sms_len]; exact h) = sm e D i := by simp [sms]
theorem sm_rng {e : Int} {D : List Int} (he : Fit32 e) (hD : ∀ x ∈ D, Fit32 x) : ∀ i : Nat, -2147483648 * ((i : Int) + 1) ≤ sm e D i ∧ sm e D i ≤ 2147483648 * ((i : Int) + 1)
  | 0 => by
    unfold Fit32 at he
    show _ ≤ e ∧ e ≤ _
    omega
  | i + 1 => by
    have ih := sm_rng he hD i
    have hd : Fit32 (D.getD (i + 1) 0) := by
      by_cases h : i + 1 < D.length
      · rw [List.getD_eq_getElem?_getD, List.getElem?_eq_getElem h]
        exact hD _ (List.getElem_mem h)
      · rw [List.getD_eq_getElem?_getD, List.getElem?_eq_none (by omega)]
        unfold Fit32
        simp
    unfold Fit32 at hd
    show _ ≤ sm e D i + D.getD (i + 1) 0 ∧ sm e D i + D.getD (i + 1) 0 ≤ _
    omega
theorem end_ok (s : ByteArray) (hs : s.size ≤ 900000) (i : Nat) (hi : i ≤ 2) (h : 64 ≤ s.size) : F68_d 600 ((i : Int), s) = some (sgn32 (get4 s (4 * i)), s) := by
  have e1 : i64 ((i : Int) * 4) = ((4 * i : Nat) : Int) := by rw [i64_id (by omega)]; omega
  have g := get4_ok s (4 * i) (by omega) (by omega) (by omega)
  have r := get4_rng s (4 * i)
  have q := sign32 (v := get4 s (4 * i)) ⟨r.1, by omega⟩
  simp only [F68_d, FSpec.d, F68_s, e1, g, q]
theorem cellsI_get (l : List Int) (i : Nat) (h : i < l.length) : (cellsI l)[i]? = some (AV.v (.int .i64 l[i])) := by
  simp [cellsI, h]
theorem sum_loop (s : ByteArray) {e : Int} {D : List Int} (he : Fit32 e) (hD : ∀ x ∈ D, Fit32 x) (n : Nat) (hn : n ≤ 420) (hnD : n ≤ D.length) : ∀ (k i f : Nat), k < f → i + k = n → 1 ≤ i →
    (F45_l20 600).L f (rowsI D, (n : Int), n, (i : Int), s, cellsI ((sms e D n).take i ++ List.replicate (n - i) 0)) = some ((n : Int), n, s, cellsI (sms e D n))
  | 0, i, f, hf, hi, h1 => by
    obtain ⟨f, rfl⟩ : ∃ f', f = f' + 1 := ⟨f - 1, by omega⟩
    show (F45_l20 600).b _ _ ((F45_l20 600).L f) some = _
    have c : decide ((i : Int) < (n : Int)) = false := by rw [decide_eq_false_iff_not]; omega
    have e0 : (sms e D n).take i ++ List.replicate (n - i) 0 = sms e D n := by
      rw [List.take_of_length_le (by rw [sms_len]; omega), show n - i = 0 by omega]
      simp
    simp only [F45_l20, c, e0, cellsI_dat]
  | k + 1, i, f, hf, hi, h1 => by
    obtain ⟨f, rfl⟩ : ∃ f', f = f' + 1 := ⟨f - 1, by omega⟩
    obtain ⟨j, rfl⟩ : ∃ j, i = j + 1 := ⟨i - 1, by omega⟩
    have r1 := sum_loop s he hD n hn hnD k (j + 1 + 1) f (by omega) (by omega) (by omega)
    show (F45_l20 600).b _ _ ((F45_l20 600).L f) some = _
    obtain ⟨Lf, hL⟩ : ∃ Lf, Lf = (F45_l20 600).L f := ⟨_, rfl⟩
    rw [← hL] at r1 ⊢
    have hlt : j + 1 < n := by omega
    have hltD : j + 1 < D.length := by omega
    have c1 : decide (((j + 1 : Nat) : Int) < (n : Int)) = true := by rw [decide_eq_true_iff]; omega
    have c2 : (0 : Int) ≤ ((j + 1 : Nat) : Int) := by omega
    have c3 : i64 (((j + 1 : Nat) : Int) - 1) = (j : Int) := by rw [i64_id (by omega)]; omega
    have c4 : i64 (((j + 1 : Nat) : Int) + 1) = ((j + 1 + 1 : Nat) : Int) := by rw [i64_id (by omega)]; omega
    have c5 : (0 : Int) ≤ (j : Int) ∧ (j : Int) < (n : Int) := by omega
    have c6 : (0 : Int) ≤ ((j + 1 : Nat) : Int) ∧ ((j + 1 : Nat) : Int) < (n : Int) := by omega
    have b1 := sm_rng he hD (j + 1)
    have eD : D.getD (j + 1) 0 = D[j + 1] := by simp [List.getD, hltD]
    have es : sm e D (j + 1) = sm e D j + D[j + 1] := by rw [← eD]; rfl
    have e1 : i64 (sm e D j + D[j + 1]) = (sms e D n)[j + 1]'(by rw [sms_len]; exact hlt) := by
      rw [← es, sms_get e D n (j + 1) hlt]
      exact i64_id (by omega)
    have e2 : (0 + (j + 1)) * 1 = j + 1 := by omega
    have e3 : (0 + j) * 1 = j := by omega
    have hlen : j + 1 + 1 ≤ (cellsI ((sms e D n).take (j + 1) ++ List.replicate (n - (j + 1)) 0)).length := by
      rw [cellsI_len]; simp [sms_len]; omega
    have hget : (cellsI ((sms e D n).take (j + 1) ++ List.replicate (n - (j + 1)) 0))[j]? = some (AV.v (.int .i64 (sm e D j))) := by
      have hl : j < ((sms e D n).take (j + 1) ++ List.replicate (n - (j + 1)) 0).length := by simp [sms_len]; omega
      rw [cellsI_get _ j hl]
      have hl2 : j < ((sms e D n).take (j + 1)).length := by simp [sms_len]; omega
      rw [List.getElem_append_left hl2, List.getElem_take, sms_get e D n j (by omega)]
    have st := set_step2 (sms e D n) (j + 1) n (sms_len e D n) (by rw [sms_len]; exact hlt)
    simp only [F45_l20, c1, c2, c3, c4, c5, c6, and_self, if_true, Int.toNat_natCast, e3, hget, rowsI_get D _ hltD, List.getElem?_cons_zero, e1, e2, hlen, cellsI_set, st, cellsI_dat]
    exact r1
/-- What Decode returns. -/
def decR (s : ByteArray) (n : Int) : List Int × Int :=
  if 1 ≤ n ∧ n ≤ 420 then
    match dcm s with
    | none => ([], 3)
    | some D =>
      if (D.length : Int) < n then ([], 4) else
      if (sms (sgn32 (get4 s 4)) D n.toNat).all (fun x => decide (Smp x)) then
        (if sm (sgn32 (get4 s 4)) D (n.toNat - 1) = sgn32 (get4 s 8) then (sms (sgn32 (get4 s 4)) D n.toNat, 0) else ([], 11))
      else ([], 2)
  else ([], 2)
theorem outb_loop (l : List Int) (hl : l.length ≤ 1000) : ∀ (k i f : Nat), k < f → i + k = l.length → (F74b_l4 600).L f (rowsI l, (l.length : Int), (i : Int)) = some (.inr ()) ∧ (l.drop i).all (fun x => decide (Smp x)) = true ∨ ∃ q : Nat, (F74b_l4 600).L f (rowsI l, (l.length : Int), (i : Int)) = some (.inl (q : Int)) ∧ (l.drop i).all (fun x => decide (Smp x)) = false
  | 0, i, f, hf, hi => by
    obtain ⟨f, rfl⟩ : ∃ f', f = f' + 1 := ⟨f - 1, by omega⟩
    have c : decide ((i : Int) < (l.length : Int)) = false := by rw [decide_eq_false_iff_not]; omega
    refine .inl ⟨?_, by rw [List.drop_of_length_le (by omega)]; rfl⟩
    show (F74b_l4 600).b _ _ ((F74b_l4 600).L f) some = _
    simp only [F74b_l4, c]
  | k + 1, i, f, hf, hi => by
    obtain ⟨f, rfl⟩ : ∃ f', f = f' + 1 := ⟨f - 1, by omega⟩
    have hlt : i < l.length := by omega
    have c1 : decide ((i : Int) < (l.length : Int)) = true := by rw [decide_eq_true_iff]; omega
    have c2 : (0 : Int) ≤ (i : Int) := by omega
    have c4 : i64 ((i : Int) + 1) = ((i + 1 : Nat) : Int) := by rw [i64_id (by omega)]; omega
    have hd : l.drop i = l[i] :: l.drop (i + 1) := List.drop_eq_getElem_cons hlt
    by_cases h : Smp l[i]
    · have st : (F74b_l4 600).L (f + 1) (rowsI l, (l.length : Int), (i : Int)) = (F74b_l4 600).L f (rowsI l, (l.length : Int), ((i + 1 : Nat) : Int)) := by
        show (F74b_l4 600).b _ _ ((F74b_l4 600).L f) some = _
        obtain ⟨Lf, hL⟩ : ∃ Lf, Lf = (F74b_l4 600).L f := ⟨_, rfl⟩
        rw [← hL]
        simp only [F74b_l4, c1, c2, if_true, Int.toNat_natCast, rowsI_get l i hlt, List.getElem?_cons_zero, F70_d, FSpec.d, F70_s, smp_any, decide_eq_true h, Bool.not_true, c4]
        exact if_pos trivial
      have r := outb_loop l hl k (i + 1) f (by omega) (by omega)
      rw [st, hd, List.all_cons, decide_eq_true h, Bool.true_and]
      exact r
    · refine .inr ⟨i, ?_, by rw [hd, List.all_cons, decide_eq_false h]; rfl⟩
      show (F74b_l4 600).b _ _ ((F74b_l4 600).L f) some = _
      simp only [F74b_l4, c1, c2, if_true, Int.toNat_natCast, rowsI_get l i hlt, List.getElem?_cons_zero, F70_d, FSpec.d, F70_s, smp_any, decide_eq_false h, Bool.not_false]
theorem outb_any (l : List Int) (hl : l.length ≤ 590) : F53b_d 600 (rowsI l) = some (!l.all fun x => decide (Smp x)) := by
  simp only [F53b_d, FSpec.d, F53b_s, F74b_d, F74b_s, F74b_d4, rowsI_len]
  rcases outb_loop l (by omega) l.length 0 600 (by omega) (by omega) with ⟨h1, h2⟩ | ⟨q, h1, h2⟩
  · replace h1 : (F74b_l4 600).L 600 (rowsI l, (l.length : Int), 0) = _ := h1
    replace h2 : l.all (fun x => decide (Smp x)) = true := h2
    simp only [h1, h2]; rfl
  · replace h1 : (F74b_l4 600).L 600 (rowsI l, (l.length : Int), 0) = _ := h1
    replace h2 : l.all (fun x => decide (Smp x)) = false := h2
    have c : (q : Int) ≥ 0 := by omega
    simp only [h1, h2, c, decide_true, Bool.not_false]
theorem dec_any (s : ByteArray) (hs : s.size ≤ 900000) (n : Int) : F45_d 600 (s, n) = some (rowsI (decR s n).1, (decR s n).2) := by
  simp only [F45_d, FSpec.d, F45_s, sin_any, dcm_ok s hs]
  unfold decR
  by_cases h1 : 1 ≤ n ∧ n ≤ 420
  · simp only [decide_eq_true h1, Bool.not_true, if_pos h1]
    cases hD : dcm s with
    | none => simp only [Bool.not_false]; rfl
    | some D =>
      have hd : 1 ≤ s.size / 64 ∧ s.size / 64 ≤ 8 ∧ D = frms s 0 (s.size / 64) := by
        unfold dcm at hD
        split at hD
        · rename_i h
          cases hD
          exact ⟨h.2.1, h.2.2.1, rfl⟩
        · cases hD
      have hDf : ∀ x ∈ D, Fit32 x := by rw [hd.2.2]; exact frms_fit s _ _
      have hDl : D.length ≤ 480 := by
        have := frms_len s (s.size / 64) 0
        rw [hd.2.2]
        omega
      simp only [Bool.not_true, rowsI_len]
      by_cases h2 : (D.length : Int) < n
      · simp only [h2, decide_true, if_true]; rfl
      · obtain ⟨m, rfl⟩ : ∃ m : Nat, n = (m : Int) := ⟨n.toNat, by omega⟩
        obtain ⟨m', rfl⟩ : ∃ m', m = m' + 1 := ⟨m - 1, by omega⟩
        have hsz : 64 ≤ s.size := by omega
        have ne1 := end_ok s hs 1 (by omega) hsz
        have ne2 := end_ok s hs 2 (by omega) hsz
        replace ne1 : F68_d 600 (1, s) = some (sgn32 (get4 s 4), s) := ne1
        replace ne2 : F68_d 600 (2, s) = some (sgn32 (get4 s 8), s) := ne2
        obtain ⟨E, hE⟩ : ∃ E, E = sgn32 (get4 s 4) := ⟨_, rfl⟩
        have hEf : Fit32 E := by
          have := get4_rng s 4
          rw [hE]
          exact sgn32_fit ⟨this.1, by omega⟩
        rw [← hE] at ne1 ⊢
        have c1 : (0 : Int) ≤ ((m' + 1 : Nat) : Int) ∧ ((m' + 1 : Nat) : Int) ≤ ((m' + 1 : Nat) : Int) ∧ (m' + 1) * 8 ≤ maxBytes := ⟨by omega, by omega, by unfold maxBytes; omega⟩
        have c2 : (0 : Int) ≤ 0 ∧ (0 : Int) < ((m' + 1 : Nat) : Int) := by omega
        have c3 : (0 + (0 : Int).toNat) * 1 + 1 ≤ (List.replicate (m' + 1) (AV.v (.int .i64 0))).length := by simp
        have e0 : (List.replicate (m' + 1) (AV.v (.int .i64 0))).set ((0 + (0 : Int).toNat) * 1) (AV.v (.int .i64 E)) = cellsI ((sms E D (m' + 1)).take 1 ++ List.replicate (m' + 1 - 1) 0) := by
          have : (sms E D (m' + 1)).take 1 = [E] := by
            simp [sms, List.range_succ_eq_map]
            rfl
          rw [this]
          simp [cellsI, List.replicate_succ]
        have hl := sum_loop s hEf hDf (m' + 1) (by omega) (by omega) m' 1 600 (by omega) (by omega) (by omega)
        replace hl : (F45_l20 600).L 600 (rowsI D, ((m' + 1 : Nat) : Int), m' + 1, 1, s, cellsI ((sms E D (m' + 1)).take 1 ++ List.replicate (m' + 1 - 1) 0)) = _ := hl
        have c4 : (m' + 1) * 1 ≤ (cellsI (sms E D (m' + 1))).length := by rw [cellsI_len, sms_len]; omega
        have e3 : (cellsI (sms E D (m' + 1))).take ((m' + 1) * 1) = cellsI (sms E D (m' + 1)) := List.take_of_length_le (by rw [cellsI_len, sms_len]; omega)
        have e4 : chunks (cellsI (sms E D (m' + 1))) 1 (m' + 1) = rowsI (sms E D (m' + 1)) := by
          have := chunksI (sms E D (m' + 1))
          rw [sms_len] at this
          exact this
        have e5 := outb_any (sms E D (m' + 1)) (by rw [sms_len]; omega)
        have e6 : i64 (((m' + 1 : Nat) : Int) - 1) = (m' : Int) := by rw [i64_id (by omega)]; omega
        have c5 : (0 : Int) ≤ (m' : Int) := by omega
        have e7 := rowsI_get (sms E D (m' + 1)) m' (by rw [sms_len]; omega)
        rw [sms_get E D (m' + 1) m' (by omega)] at e7
        unfold I at e7
        simp only [h2, decide_false, if_false, Int.toNat_natCast, c1, and_self, if_true, ne1, c2, c3, e0, cellsI_dat, F45_d20, hl, c4, e3, e4, e5]
        cases hall : (sms E D (m' + 1)).all (fun x => decide (Smp x)) with
        | false => simp only [Bool.not_false, Bool.false_eq_true, if_false]; rfl
        | true =>
          simp only [Bool.not_true, if_true, e6, c5, Int.toNat_natCast, e7, List.getElem?_cons_zero, ne2, Nat.add_sub_cancel]
          by_cases h3 : sm E D m' = sgn32 (get4 s 8)
          · have b : (sm E D m' != sgn32 (get4 s 8)) = false := by simp [h3]
            simp only [b, if_pos h3]
          · have b : (sm E D m' != sgn32 (get4 s 8)) = true := by simp [h3]
            simp only [b, if_neg h3]
            rfl
  · simp only [decide_eq_false h1, Bool.not_false, if_neg h1]
    rfl
end Go.Proofs.YtdmedeaknnldcaaDoor
