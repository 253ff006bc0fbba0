/- Steim, the plain law: SteimExact. -/
import Derived.Test.YteplhedodcaljaaStO
namespace Go.Proofs.Yteplhedodcaljaa
open Go.RowKit
set_option linter.unusedVariables false
set_option linter.unusedSimpArgs false
set_option linter.unnecessarySimpa false
theorem rsum_loop {e : Int} {D : List Int} (he : Fit32 e) (hD : ∀ x ∈ D, Fit32 x) (n : Nat) (hn : n ≤ 420) (hnD : n ≤ D.length) (la : Int) : ∀ (k i f : Nat), k < f → i + k = n → 1 ≤ i →
    ((((sms e D n).drop i).all (fun x => decide (Smp x)) = true ∧ (F25_l26 600).L f (rowsI ((sms e D n).take i), rowsI D, (n : Int), sm e D (i - 1), la, (i : Int)) = some (.inr (rowsI (sms e D n), sm e D (n - 1), la))) ∨ (((sms e D n).drop i).all (fun x => decide (Smp x)) = false ∧ ∃ z1 z2, (F25_l26 600).L f (rowsI ((sms e D n).take i), rowsI D, (n : Int), sm e D (i - 1), la, (i : Int)) = some (.inl (z1, [], 2, z2, la))))
  | 0, i, f, hf, hi, h1 => by
    obtain ⟨f, rfl⟩ : ∃ f', f = f' + 1 := ⟨f - 1, by omega⟩
    obtain rfl : i = n := by omega
    refine .inl ⟨by rw [List.drop_of_length_le (by rw [sms_len]; omega)]; rfl, ?_⟩
    show (F25_l26 600).b _ _ ((F25_l26 600).L f) some = _
    have c : decide ((i : Int) < (i : Int)) = false := by rw [decide_eq_false_iff_not]; omega
    have et : (sms e D i).take i = sms e D i := List.take_of_length_le (by rw [sms_len]; omega)
    simp only [F25_l26, c, et]
  | k + 1, i, f, hf, hi, h1 => by
    obtain ⟨f, rfl⟩ : ∃ f', f = f' + 1 := ⟨f - 1, by omega⟩
    obtain ⟨j, rfl⟩ : ∃ j, i = j + 1 := ⟨i - 1, by omega⟩
    have hlt : j + 1 < n := by omega
    have hltD : j + 1 < D.length := by omega
    have hlS : j + 1 < (sms e D n).length := by rw [sms_len]; exact hlt
    have c1 : decide (((j + 1 : Nat) : Int) < (n : Int)) = true := by rw [decide_eq_true_iff]; omega
    have c0 : decide (((j + 1 : Nat) : Int) > 0) = true := by rw [decide_eq_true_iff]; omega
    have c2 : (0 : Int) ≤ ((j + 1 : Nat) : Int) := by omega
    have c4 : i64 (((j + 1 : Nat) : Int) + 1) = ((j + 1 + 1 : Nat) : Int) := by rw [i64_id (by omega)]; omega
    have b1 := sm_rng he hD (j + 1)
    have eD : D.getD (j + 1) 0 = D[j + 1] := by simp [List.getD, hltD]
    have es : sm e D (j + 1) = sm e D j + D[j + 1] := by rw [← eD]; rfl
    have e1 : i64 (sm e D j + D[j + 1]) = sm e D (j + 1) := by
      rw [← es]
      exact i64_id (by omega)
    have hb : ((rowsI ((sms e D n).take (j + 1))).length + 1) * 8 ≤ maxBytes := by rw [rowsI_len]; simp [sms_len]; unfold maxBytes; omega
    have hd : (sms e D n).drop (j + 1) = sm e D (j + 1) :: (sms e D n).drop (j + 1 + 1) := by rw [List.drop_eq_getElem_cons hlS, sms_get e D n (j + 1) hlt]
    have et : (sms e D n).take (j + 1) ++ [sm e D (j + 1)] = (sms e D n).take (j + 1 + 1) := by
      rw [List.take_succ_eq_append_getElem hlS, sms_get e D n (j + 1) hlt]
    rw [Nat.add_sub_cancel]
    by_cases h : Smp (sm e D (j + 1))
    · have st : (F25_l26 600).L (f + 1) (rowsI ((sms e D n).take (j + 1)), rowsI D, (n : Int), sm e D j, la, ((j + 1 : Nat) : Int)) = (F25_l26 600).L f (rowsI ((sms e D n).take (j + 1 + 1)), rowsI D, (n : Int), sm e D (j + 1), la, ((j + 1 + 1 : Nat) : Int)) := by
        show (F25_l26 600).b _ _ ((F25_l26 600).L f) some = _
        obtain ⟨Lf, hL⟩ : ∃ Lf, Lf = (F25_l26 600).L f := ⟨_, rfl⟩
        rw [← hL]
        simp only [F25_l26, c1, c0, c2, if_true, Int.toNat_natCast, rowsI_get D _ hltD, List.getElem?_cons_zero, e1, rsmp_any, decide_eq_true h, Bool.not_true, len1, hb, rowsI_snoc, et, c4]
        first | rfl | exact if_pos trivial
      have r := rsum_loop he hD n hn hnD la k (j + 1 + 1) f (by omega) (by omega) (by omega)
      rw [Nat.add_sub_cancel] at r
      rw [st, hd, List.all_cons, decide_eq_true h, Bool.true_and]
      exact r
    · refine .inr ⟨by rw [hd, List.all_cons, decide_eq_false h]; rfl, rowsI ((sms e D n).take (j + 1)), sm e D (j + 1), ?_⟩
      show (F25_l26 600).b _ _ ((F25_l26 600).L f) some = _
      simp only [F25_l26, c1, c0, c2, if_true, Int.toNat_natCast, rowsI_get D _ hltD, List.getElem?_cons_zero, e1, rsmp_any, decide_eq_false h, Bool.not_false]
theorem rsum_ok {e : Int} {D : List Int} (he : Fit32 e) (hD : ∀ x ∈ D, Fit32 x) (n : Nat) (hn : 1 ≤ n ∧ n ≤ 420) (hnD : n ≤ D.length) (la : Int) :
    (((sms e D n).all (fun x => decide (Smp x)) = true ∧ (F25_l26 600).L 600 ([], rowsI D, (n : Int), e, la, 0) = some (.inr (rowsI (sms e D n), sm e D (n - 1), la))) ∨ ((sms e D n).all (fun x => decide (Smp x)) = false ∧ ∃ z1 z2, (F25_l26 600).L 600 ([], rowsI D, (n : Int), e, la, 0) = some (.inl (z1, [], 2, z2, la)))) := by
  have h0 : 0 < (sms e D n).length := by rw [sms_len]; omega
  have hd : sms e D n = e :: (sms e D n).drop 1 := by
    have := List.drop_eq_getElem_cons h0
    rw [List.drop_zero, sms_get e D n 0 (by omega)] at this
    exact this
  have et : (sms e D n).take 1 = [e] := by rw [hd]; rfl
  have c1 : decide ((0 : Int) < (n : Int)) = true := by rw [decide_eq_true_iff]; omega
  have c0 : decide ((0 : Int) > 0) = false := rfl
  have c4 : i64 ((0 : Int) + 1) = ((1 : Nat) : Int) := by kernel_rfl
  have hb : (([] : List (List AV)).length + 1) * 8 ≤ maxBytes := by decide
  have e0 : ([] : List (List AV)) ++ [[AV.v (.int .i64 e)]] = rowsI [e] := rfl
  by_cases h : Smp e
  · have st : (F25_l26 600).L 600 ([], rowsI D, (n : Int), e, la, 0) = (F25_l26 600).L 599 (rowsI ((sms e D n).take 1), rowsI D, (n : Int), sm e D (1 - 1), la, ((1 : Nat) : Int)) := by
      rw [et]
      show (F25_l26 600).b _ _ ((F25_l26 600).L 599) some = _
      obtain ⟨Lf, hL⟩ : ∃ Lf, Lf = (F25_l26 600).L 599 := ⟨_, rfl⟩
      rw [← hL]
      simp only [F25_l26, c1, c0, rsmp_any, decide_eq_true h, Bool.not_true, len1, hb, if_true, e0, c4]
      first | rfl | exact if_pos trivial
    have r := rsum_loop he hD n hn.2 hnD la (n - 1) 1 599 (by omega) (by omega) (by omega)
    rw [hd, List.all_cons, decide_eq_true h, Bool.true_and, ← hd, st]
    exact r
  · refine .inr ⟨by rw [hd, List.all_cons, decide_eq_false h]; rfl, [], e, ?_⟩
    show (F25_l26 600).b _ _ ((F25_l26 600).L 599) some = _
    simp only [F25_l26, c1, c0, rsmp_any, decide_eq_false h, Bool.not_false]
theorem rdec_any (s : ByteArray) (hs : s.size ≤ 900000) (n : Int) : F25_d 600 (s, n) = some (rowsI (decR s n).1, (decR s n).2) := by
  have t1 : (s.size : Int).tmod 64 = ((s.size % 64 : Nat) : Int) := by rw [Int.tmod_eq_emod_of_nonneg (by omega)]; omega
  have t2 : i64 ((s.size : Int).tdiv 64) = ((s.size / 64 : Nat) : Int) := by rw [Int.tdiv_eq_ediv_of_nonneg (by omega), i64_id (by omega)]; omega
  unfold decR
  simp only [F25_d, FSpec.d, F25_s, rin_any 600 n, t1, t2]
  by_cases h1 : 1 ≤ n ∧ n ≤ 420
  · simp only [decide_eq_true h1, Bool.not_true, if_pos h1]
    by_cases h2 : s.size % 64 = 0
    · have c1 : (((s.size % 64 : Nat) : Int) != 0) = false := by simp [h2]
      simp only [c1]
      by_cases h3 : 1 ≤ s.size / 64 ∧ s.size / 64 ≤ 8
      · have c2 : F42_d 600 (((s.size / 64 : Nat) : Int), 1, 8) = some true := rin_yes (by omega)
        simp only [c2, Bool.not_true]
        rcases rdcm_loop s hs (s.size / 64) h3.2 rfl (s.size / 64) 0 600 [] (by omega) (by omega) (by simp) with ⟨q1, q2⟩ | ⟨q1, z, q2⟩
        · replace q2 : (F48_l5 600).L 600 (([] : List (List AV)), s, 0) = some (.inr (rowsI (frms s 0 (s.size / 64)))) := q2
          have e : dcm s = some (frms s 0 (s.size / 64)) := if_pos ⟨h2, h3.1, h3.2, q1⟩
          have f48 : F48_d 600 s = some (rowsI (frms s 0 (s.size / 64)), true) := by
            simp only [F48_d, FSpec.d, F48_s, F48_d5, q2]
          obtain ⟨D, hDe⟩ : ∃ D, D = frms s 0 (s.size / 64) := ⟨_, rfl⟩
          have hDf : ∀ x ∈ D, Fit32 x := by rw [hDe]; exact frms_fit s _ _
          have hDl : D.length ≤ 480 := by
            have := frms_len s (s.size / 64) 0
            rw [hDe]
            omega
          rw [← hDe] at e f48
          simp only [f48, e, Bool.not_true, rowsI_len]
          by_cases h4 : (D.length : Int) < n
          · simp only [h4, decide_true, if_true]; rfl
          · obtain ⟨m, rfl⟩ : ∃ m : Nat, n = (m : Int) := ⟨n.toNat, by omega⟩
            have hsz : 64 ≤ s.size := by omega
            have g4 := rget4_ok s 4 (by omega) (by omega) (by omega)
            have g8 := rget4_ok s 8 (by omega) (by omega) (by omega)
            replace g4 : F19_d 600 (s, 4, 4) = some (get4 s 4, 0) := g4
            replace g8 : F19_d 600 (s, 8, 4) = some (get4 s 8, 0) := g8
            have r4 := get4_rng s 4
            have r8 := get4_rng s 8
            have s4 := rsign32 (v := get4 s 4) ⟨r4.1, by omega⟩
            have s8 := rsign32 (v := get4 s 8) ⟨r8.1, by omega⟩
            have hEf : Fit32 (sgn32 (get4 s 4)) := sgn32_fit ⟨r4.1, by omega⟩
            simp only [h4, decide_false, if_false, g4, g8, s4, s8, Int.toNat_natCast, F25_d26]
            rcases rsum_ok hEf hDf m (by omega) (by omega) (sgn32 (get4 s 8)) with ⟨q3, q4⟩ | ⟨q3, z1, z2, q4⟩
            · simp only [q3, q4, if_true]
              by_cases h5 : sm (sgn32 (get4 s 4)) D (m - 1) = sgn32 (get4 s 8)
              · have b : (sm (sgn32 (get4 s 4)) D (m - 1) != sgn32 (get4 s 8)) = false := by simp [h5]
                simp only [b, if_pos h5]
              · have b : (sm (sgn32 (get4 s 4)) D (m - 1) != sgn32 (get4 s 8)) = true := by simp [h5]
                simp only [b, if_neg h5]
                rfl
            · simp only [q3, q4, Bool.false_eq_true, if_false]; rfl
        · replace q2 : (F48_l5 600).L 600 (([] : List (List AV)), s, 0) = some (.inl (z, [], false)) := q2
          have e : dcm s = none := if_neg (fun h => by rw [q1] at h; exact absurd h.2.2.2 (by simp))
          have f48 : F48_d 600 s = some ([], false) := by
            simp only [F48_d, FSpec.d, F48_s, F48_d5, q2]
          simp only [f48, e, Bool.not_false]; rfl
      · have c2 : F42_d 600 (((s.size / 64 : Nat) : Int), 1, 8) = some false := rin_no (by omega)
        have e : dcm s = none := if_neg (fun h => h3 ⟨h.2.1, h.2.2.1⟩)
        simp only [c2, Bool.not_false, e]; rfl
    · have c1 : (((s.size % 64 : Nat) : Int) != 0) = true := by rw [bne_iff_ne]; omega
      have e : dcm s = none := if_neg (fun h => h2 h.1)
      simp only [c1, e]; rfl
  · simp only [decide_eq_false h1, Bool.not_false, if_neg h1]
    rfl
/-! Encode of any samples. -/
theorem enc_any (X : List Int) (hl : X.length ≤ 430) : ∃ (u : ByteArray) (e : Int), F14_d 600 (rowsI X) = some (u, e) ∧ F21_d 600 (rowsI X) = some (u, e) ∧ (u.size = 0 ∨ (64 ≤ u.size ∧ u.size ≤ 512)) := by
  by_cases h0 : X = []
  · subst h0
    exact ⟨⟨#[]⟩, 1, rfl, rfl, .inl rfl⟩
  · have hp : 0 < X.length := List.length_pos_iff.2 h0
    have c : ((X.length : Int) == 0) = false := by rw [beq_eq_false_iff_ne]; omega
    have hw := (wX_len X).1
    have hwp := wX_pos h0
    by_cases hX : ∀ x ∈ X, Smp x
    · by_cases hn : nfr (wX X).length ≤ 8
      · refine ⟨_, 0, enc_ok X (by omega) h0 hX hn, renc_ok X (by omega) h0 hX hn, .inr ?_⟩
        rw [FS_size]
        have : 1 ≤ nfr (wX X).length := by unfold nfr; omega
        omega
      · have hall := (all_iff X).2 hX
        have f1 := rFrames_ok X (by omega)
        have e0 : frI (wX X).length = (nfr (wX X).length : Int) := if_neg (by omega)
        rw [hall, e0] at f1
        simp only [if_true] at f1
        have c2 : decide (((nfr (wX X).length : Nat) : Int) > 8) = true := by rw [decide_eq_true_iff]; omega
        refine ⟨⟨#[]⟩, 8, ?_, ?_, .inl rfl⟩
        · simp only [F14_d, FSpec.d, F14_s, rowsI_len, c, comp_ok X (by omega) h0 hX, Bool.not_true, frames_ok X (by omega) h0 hX, c2]
        · simp only [F21_d, FSpec.d, F21_s, rowsI_len, c, rall_any X (by omega), hall, Bool.not_true, f1, c2]
    · have hall : (X.all fun x => decide (Smp x)) = false := by
        cases hq : (X.all fun x => decide (Smp x)) with
        | false => rfl
        | true => exact absurd ((all_iff X).1 hq) hX
      refine ⟨⟨#[]⟩, 2, ?_, ?_, .inl rfl⟩
      · simp only [F14_d, FSpec.d, F14_s, rowsI_len, c, comp_bad X (by omega) hX, Bool.not_false]
      · simp only [F21_d, FSpec.d, F21_s, rowsI_len, c, rall_any X (by omega), hall, Bool.not_false]
theorem wf_any (X : List Int) (hl : X.length ≤ 430) : ∃ a b : Int, F13_d 600 (rowsI X) = some a ∧ F22_d 600 (rowsI X) = some a ∧ F15_d 600 (rowsI X) = some b ∧ F23_d 600 (rowsI X) = some b := by
  have r1 := rWords_ok X (by omega)
  have r2 := rFrames_ok X (by omega)
  by_cases h0 : X = []
  · subst h0
    exact ⟨0, 0, rfl, r1, rfl, r2⟩
  · have hwp := wX_pos h0
    by_cases hX : ∀ x ∈ X, Smp x
    · have e0 : frI (wX X).length = (nfr (wX X).length : Int) := if_neg (by omega)
      rw [(all_iff X).2 hX] at r1 r2
      rw [e0] at r2
      exact ⟨_, _, words_ok X (by omega) h0 hX, r1, frames_ok X (by omega) h0 hX, r2⟩
    · have hall : (X.all fun x => decide (Smp x)) = false := by
        cases hq : (X.all fun x => decide (Smp x)) with
        | false => rfl
        | true => exact absurd ((all_iff X).1 hq) hX
      rw [hall] at r1 r2
      have w1 : F13_d 600 (rowsI X) = some 0 := by
        simp only [F13_d, FSpec.d, F13_s, comp_bad X (by omega) hX]
        rfl
      refine ⟨0, 0, w1, r1, ?_, r2⟩
      simp only [F15_d, FSpec.d, F15_s, w1, beq_self_eq_true]
theorem decR_len (s : ByteArray) (n : Int) : (decR s n).1.length ≤ 420 := by
  unfold decR
  split
  · rename_i h
    split
    · simp
    · split
      · simp
      · split
        · split
          · rw [sms_len]; omega
          · simp
        · simp
  · simp
theorem can_any (s : ByteArray) (hs : s.size ≤ 900000) (n : Int) : ∃ b : Bool, F26_d 600 (s, n) = some b ∧ F27_d 600 (s, n) = some b := by
  have d1 := dec_any s hs n
  have d2 := rdec_any s hs n
  obtain ⟨u, e, q1, q2, -⟩ := enc_any (decR s n).1 (by have := decR_len s n; omega)
  by_cases h : (decR s n).2 = 0
  · have b : ((decR s n).2 != 0) = false := by simp [h]
    by_cases he : e = 0
    · have b2 : (e == 0) = true := by simp [he]
      refine ⟨u.toList == s.toList, ?_, ?_⟩
      · simp only [F26_d, FSpec.d, F26_s, d1, b, q1, b2]
      · simp only [F27_d, FSpec.d, F27_s, d2, b, q2, b2]
    · have b2 : (e == 0) = false := by simp [he]
      refine ⟨false, ?_, ?_⟩
      · simp only [F26_d, FSpec.d, F26_s, d1, b, q1, b2]
      · simp only [F27_d, FSpec.d, F27_s, d2, b, q2, b2]
  · have b : ((decR s n).2 != 0) = true := by simp [h]
    refine ⟨false, ?_, ?_⟩
    · simp only [F26_d, FSpec.d, F26_s, d1, b]
    · simp only [F27_d, FSpec.d, F27_s, d2, b]
/-! Damage. -/
theorem strOf_one (x : Int) : (strOfNums [x]).size = 1 := by rw [strOf_size]; rfl
theorem numsOf_one (x : Int) : numsOf [[AV.v (.int .u8 x)]] = some [x] := rfl
theorem empty_of_size {s : ByteArray} (h : s.size = 0) : s = ⟨#[]⟩ := by
  apply ByteArray.ext
  have : s.data.size = 0 := by rw [ByteArray.size_data]; exact h
  exact Array.eq_empty_of_size_eq_zero this
theorem dam_ok {s : ByteArray} (hs : s.size = 0 ∨ (64 ≤ s.size ∧ s.size ≤ 512)) {xs : List Int} {p : Int} (D : Dice xs p) : ∃ (s' : ByteArray) (p' : Int), F24_d 600 (s, rowsI xs, p) = some (s', rowsI xs, p') ∧ s'.size ≤ 1100 ∧ Dice xs p' := by
  cases hb : (s.toList == (⟨#[]⟩ : ByteArray).toList) with
  | true =>
    refine ⟨s, p, ?_, by omega, D⟩
    simp only [F24_d, FSpec.d, F24_s, hb]
  | false =>
    have hsz : 64 ≤ s.size ∧ s.size ≤ 512 := by
      rcases hs with h | h
      · rw [empty_of_size h] at hb
        simp at hb
      · exact h
    obtain ⟨c, p1, g1, m1, D1⟩ := next_ok 600 (n := 5) (by omega) D
    -- one byte changed
    have chg : ∀ (k : Nat) (v : Int) (hk : k < s.size), ∃ s' : ByteArray, s'.size ≤ 1100 ∧ (s.extract 0 k ++ strOfNums [v]) ++ s.extract (k + 1) s.size = s' ∧ (s.extract 0 k).size + (strOfNums [v]).size ≤ 9223372036854775807 ∧ (s.extract 0 k ++ strOfNums [v]).size + (s.extract (k + 1) s.size).size ≤ 9223372036854775807 := fun k v hk => by
      have x1 : (s.extract 0 k).size = k := by rw [ext_size _ _ _ (by omega)]; omega
      have x2 : (s.extract (k + 1) s.size).size ≤ 512 := by rw [ext_size _ _ _ (Nat.le_refl _)]; omega
      have x3 := strOf_one v
      refine ⟨_, ?_, rfl, by omega, ?_⟩
      · rw [ByteArray.size_append, ByteArray.size_append]; omega
      · rw [ByteArray.size_append]; omega
    by_cases c0 : c = 0
    · subst c0
      obtain ⟨k, p2, g2, m2, D2⟩ := next_ok 600 (n := (s.size : Int)) (by omega) D1
      have c1 : (0 : Int) ≤ k ∧ k ≤ (s.size : Int) := by omega
      refine ⟨s.extract 0 k.toNat, p2, ?_, ?_, D2⟩
      · simp only [F24_d, FSpec.d, F24_s, hb, g1, beq_self_eq_true, g2, c1, and_self, if_true]
      · rw [ext_size _ _ _ (by omega)]; omega
    · have b0 : (c == 0) = false := beq_eq_false_iff_ne.2 c0
      by_cases c1 : c = 1
      · subst c1
        refine ⟨s ++ s, p1, ?_, by rw [ByteArray.size_append]; omega, D1⟩
        have z : s.size + s.size ≤ 9223372036854775807 := by omega
        simp only [F24_d, FSpec.d, F24_s, hb, g1, b0, beq_self_eq_true, z, if_true]
      · have b1 : (c == 1) = false := beq_eq_false_iff_ne.2 c1
        by_cases c2 : c = 2
        · subst c2
          obtain ⟨k, p2, g2, m2, D2⟩ := pick_ok 600 [0, 1, 2, 3] (by simp) D1
          replace g2 : F12_d 600 ([[(AV.v (.int .i64 0))], [(AV.v (.int .i64 1))], [(AV.v (.int .i64 2))], [(AV.v (.int .i64 3))]], rowsI xs, p1) = some (k, rowsI xs, p2) := g2
          have hk : 0 ≤ k ∧ k ≤ 3 := by simp at m2; omega
          obtain ⟨j, rfl⟩ : ∃ j : Nat, k = (j : Int) := ⟨k.toNat, by omega⟩
          obtain ⟨v, p3, g3, m3, D3⟩ := next_ok 600 (n := 256) (by omega) D2
          obtain ⟨s', q1, q2, q3, q4⟩ := chg j (IntKind.u8.wrap v) (by omega)
          have e1 : i64 ((j : Int) + 1) = ((j + 1 : Nat) : Int) := by rw [i64_id (by omega)]; omega
          have z1 : (0 : Int) ≤ (j : Int) ∧ (j : Int) ≤ (s.size : Int) := by omega
          have z2 : (0 : Int) ≤ ((j + 1 : Nat) : Int) ∧ ((j + 1 : Nat) : Int) ≤ (s.size : Int) := by omega
          refine ⟨s', p3, ?_, q1, D3⟩
          simp only [F24_d, FSpec.d, F24_s, hb, g1, b0, b1, beq_self_eq_true, g2, z1, and_self, if_true, g3, numsOf_one, Int.toNat_natCast, q3, e1, z2, q4, q2]
        · have b2 : (c == 2) = false := beq_eq_false_iff_ne.2 c2
          obtain ⟨k, p2, g2, m2, D2⟩ := next_ok 600 (n := (s.size : Int)) (by omega) D1
          obtain ⟨j, rfl⟩ : ∃ j : Nat, k = (j : Int) := ⟨k.toNat, by omega⟩
          obtain ⟨v, p3, g3, m3, D3⟩ := next_ok 600 (n := 256) (by omega) D2
          obtain ⟨s', q1, q2, q3, q4⟩ := chg j (IntKind.u8.wrap v) (by omega)
          have e1 : i64 ((j : Int) + 1) = ((j + 1 : Nat) : Int) := by rw [i64_id (by omega)]; omega
          have z1 : (0 : Int) ≤ (j : Int) ∧ (j : Int) ≤ (s.size : Int) := by omega
          have z2 : (0 : Int) ≤ ((j + 1 : Nat) : Int) ∧ ((j + 1 : Nat) : Int) ≤ (s.size : Int) := by omega
          refine ⟨s', p3, ?_, q1, D3⟩
          simp only [F24_d, FSpec.d, F24_s, hb, g1, b0, b1, b2, g2, z1, and_self, if_true, g3, numsOf_one, Int.toNat_natCast, q3, e1, z2, q4, q2]
/-! The loops of the law. -/
theorem n_loop (x1 x2 x3 : List (List AV)) (x5 : ByteArray) (x6 : Int) (y : ByteArray) (hy : y.size ≤ 2000) (x8 x9 x10 x11 : Int) (x14 : List (List AV)) (x15 : Int) (Z : List Int) (hZ : Z.length ≤ 10) : ∀ (k i f : Nat), k < f → i + k = Z.length →
    (F6_l35 600).L f (x1, x2, x3, rowsI Z, x5, x6, y, x8, x9, x10, x11, (Z.length : Int), (i : Int), x14, x15) = some (.inr (x1, x2, x3, x5, x6, y, x8, x9, x10, x11, x14, x15))
  | 0, i, f, hf, hi => by
    obtain ⟨f, rfl⟩ : ∃ f', f = f' + 1 := ⟨f - 1, by omega⟩
    show (F6_l35 600).b _ _ ((F6_l35 600).L f) some = _
    have c : decide ((i : Int) < (Z.length : Int)) = false := by rw [decide_eq_false_iff_not]; omega
    simp only [F6_l35, c]
  | k + 1, i, f, hf, hi => by
    obtain ⟨f, rfl⟩ : ∃ f', f = f' + 1 := ⟨f - 1, by omega⟩
    have r1 := n_loop x1 x2 x3 x5 x6 y hy x8 x9 x10 x11 x14 x15 Z hZ k (i + 1) f (by omega) (by omega)
    show (F6_l35 600).b _ _ ((F6_l35 600).L f) some = _
    obtain ⟨Lf, hL⟩ : ∃ Lf, Lf = (F6_l35 600).L f := ⟨_, rfl⟩
    rw [← hL] at r1 ⊢
    have hlt : i < Z.length := by omega
    have c1 : decide ((i : Int) < (Z.length : Int)) = true := by rw [decide_eq_true_iff]; omega
    have c2 : (0 : Int) ≤ (i : Int) := by omega
    have c4 : i64 ((i : Int) + 1) = ((i + 1 : Nat) : Int) := by rw [i64_id (by omega)]; omega
    have d1 := dec_any y (by omega) Z[i]
    have d2 := rdec_any y (by omega) Z[i]
    have s1 := same_ok (decR y Z[i]).1 (by have := decR_len y Z[i]; omega)
    obtain ⟨b, q1, q2⟩ := can_any y (by omega) Z[i]
    simp only [F6_l35, c1, c2, if_true, Int.toNat_natCast, rowsI_get Z i hlt, List.getElem?_cons_zero, d1, d2, bne_self_eq_false, s1, Bool.not_true, q1, q2, beq_self_eq_true, c4]
    exact r1
def rowsS (l : List ByteArray) : List (List AV) := l.map fun s => [AV.v (.string s)]
theorem rowsS_get (l : List ByteArray) (k : Nat) (h : k < l.length) : (rowsS l)[k]? = some [AV.v (.string l[k])] := by simp [rowsS, h]
theorem y_loop6 (X : List Int) (x2 : List (List AV)) (x4 : ByteArray) (x5 x6 x7 : Int) {xs : List Int} (Y : List ByteArray) (hY : Y.length ≤ 10) (hYs : ∀ y ∈ Y, y.size ≤ 2000) : ∀ (k i f : Nat) (p : Int), k < f → i + k = Y.length → Dice xs p →
    ∃ p', (F6_l25 600).L f (rowsI X, x2, rowsS Y, x4, x5, x6, x7, (Y.length : Int), (i : Int), rowsI xs, p) = some (.inr (x2, x4, x5, x6, x7, rowsI xs, p')) ∧ Dice xs p'
  | 0, i, f, p, hf, hi, D => by
    obtain ⟨f, rfl⟩ : ∃ f', f = f' + 1 := ⟨f - 1, by omega⟩
    refine ⟨p, ?_, D⟩
    show (F6_l25 600).b _ _ ((F6_l25 600).L f) some = _
    have c : decide ((i : Int) < (Y.length : Int)) = false := by rw [decide_eq_false_iff_not]; omega
    simp only [F6_l25, c]
  | k + 1, i, f, p, hf, hi, D => by
    obtain ⟨f, rfl⟩ : ∃ f', f = f' + 1 := ⟨f - 1, by omega⟩
    have hlt : i < Y.length := by omega
    obtain ⟨v, p1, g1, m1, D1⟩ := next_ok 600 (n := 40) (by omega) D
    obtain ⟨p', r1, D'⟩ := y_loop6 X x2 x4 x5 x6 x7 Y hY hYs k (i + 1) f p1 (by omega) (by omega) D1
    refine ⟨p', ?_, D'⟩
    show (F6_l25 600).b _ _ ((F6_l25 600).L f) some = _
    obtain ⟨Lf, hL⟩ : ∃ Lf, Lf = (F6_l25 600).L f := ⟨_, rfl⟩
    rw [← hL] at r1 ⊢
    have c1 : decide ((i : Int) < (Y.length : Int)) = true := by rw [decide_eq_true_iff]; omega
    have c2 : (0 : Int) ≤ (i : Int) := by omega
    have c4 : i64 ((i : Int) + 1) = ((i + 1 : Nat) : Int) := by rw [i64_id (by omega)]; omega
    have q := n_loop (rowsI X) x2 (rowsS Y) x4 x5 Y[i] (hYs _ (List.getElem_mem hlt)) x6 x7 (Y.length : Int) (i : Int) (rowsI xs) p1 [(X.length : Int), x5, v] (by simp) 3 0 600 (by omega) rfl
    replace q : F6_d35 600 (rowsI X, x2, rowsS Y, [[AV.v (.int .i64 (X.length : Int))], [AV.v (.int .i64 x5)], [AV.v (.int .i64 v)]], x4, x5, Y[i], x6, x7, (Y.length : Int), (i : Int), (([[AV.v (.int .i64 (X.length : Int))], [AV.v (.int .i64 x5)], [AV.v (.int .i64 v)]].length : Nat) : Int), 0, rowsI xs, p1) = _ := q
    obtain ⟨l, e, q1, q2, q3⟩ := codes_same Y[i]
    have s1 := same_ok l (by omega)
    simp only [F6_l25, c1, c2, if_true, Int.toNat_natCast, rowsS_get Y i hlt, List.getElem?_cons_zero, g1, rowsI_len, q, q1, q2, bne_self_eq_false, s1, Bool.not_true, c4]
    exact r1
theorem lst1 (xs : List (List AV)) (t : Option Nat) : lstOf 1 (AV.list 1 xs t) = some xs := rfl
def outI (O : List (List Int)) : List (List AV) := O.map fun A => [AV.list 1 (rowsI A) none]
theorem outI_get (O : List (List Int)) (k : Nat) (h : k < O.length) : (outI O)[k]? = some [AV.list 1 (rowsI O[k]) none] := by simp [outI, h]
theorem x_loop6 (data : ByteArray) (hd : data.size ≤ 700) (cnt : Int) {xs : List Int} (O : List (List Int)) (hO : O.length ≤ 10) (hOs : ∀ X ∈ O, X.length ≤ 300) : ∀ (k i f : Nat) (p : Int), k < f → i + k = O.length → Dice xs p →
    (F6_l10 600).L f (outI O, data, cnt, (O.length : Int), (i : Int), rowsI xs, p) = some (.inr ())
  | 0, i, f, p, hf, hi, D => by
    obtain ⟨f, rfl⟩ : ∃ f', f = f' + 1 := ⟨f - 1, by omega⟩
    show (F6_l10 600).b _ _ ((F6_l10 600).L f) some = _
    have c : decide ((i : Int) < (O.length : Int)) = false := by rw [decide_eq_false_iff_not]; omega
    simp only [F6_l10, c]
  | k + 1, i, f, p, hf, hi, D => by
    obtain ⟨f, rfl⟩ : ∃ f', f = f' + 1 := ⟨f - 1, by omega⟩
    have hlt : i < O.length := by omega
    have hXl := hOs _ (List.getElem_mem hlt)
    obtain ⟨u, e, q1, q2, q3⟩ := enc_any O[i] (by omega)
    obtain ⟨a, b, w1, w2, w3, w4⟩ := wf_any O[i] (by omega)
    obtain ⟨s', p1, g1, hs', D1⟩ := dam_ok q3 D
    obtain ⟨p2, g2, D2⟩ := y_loop6 O[i] (outI O) data cnt (O.length : Int) (i : Int) [u, s', data] (by simp) (fun y hy => by
      simp at hy
      rcases hy with rfl | rfl | rfl <;> omega) 3 0 600 p1 (by omega) rfl D1
    replace g2 : F6_d25 600 (rowsI O[i], outI O, [[AV.v (.string u)], [AV.v (.string s')], [AV.v (.string data)]], data, cnt, (O.length : Int), (i : Int), (([[AV.v (.string u)], [AV.v (.string s')], [AV.v (.string data)]].length : Nat) : Int), 0, rowsI xs, p1) = _ := g2
    have r1 := x_loop6 data hd cnt O hO hOs k (i + 1) f p2 (by omega) (by omega) D2
    show (F6_l10 600).b _ _ ((F6_l10 600).L f) some = _
    obtain ⟨Lf, hL⟩ : ∃ Lf, Lf = (F6_l10 600).L f := ⟨_, rfl⟩
    rw [← hL] at r1 ⊢
    have c1 : decide ((i : Int) < (O.length : Int)) = true := by rw [decide_eq_true_iff]; omega
    have c2 : (0 : Int) ≤ (i : Int) := by omega
    have c4 : i64 ((i : Int) + 1) = ((i + 1 : Nat) : Int) := by rw [i64_id (by omega)]; omega
    simp only [F6_l10, c1, c2, if_true, Int.toNat_natCast, outI_get O i hlt, List.getElem?_cons_zero, lst1, q1, q2, beq_self_eq_true, Bool.not_true, bne_self_eq_false, w1, w2, w3, w4, g1, g2, c4]
    exact r1
theorem exact_law (t : List Int) (ht : ∀ x ∈ t, -9223372036854775808 ≤ x ∧ x ≤ 9223372036854775807) (raw : List Int) (data : ByteArray) (cnt : Int) : F6_d 600 (rowsI t, rowsI raw, data, cnt) = some true := by
  by_cases hl : (t.length : Int) ≤ 500
  · by_cases h1 : (raw.length : Int) > 300
    · simp only [F6_d, FSpec.d, F6_s, light_ok, hl, decide_true, Bool.not_true, rowsI_len, h1, sane_ok]
    by_cases h2 : (data.size : Int) > 700
    · simp only [F6_d, FSpec.d, F6_s, light_ok, hl, decide_true, Bool.not_true, rowsI_len, h1, decide_false, h2, sane_ok]
    have D : Dice t 0 := ⟨ht, by omega, by omega, by omega⟩
    have hroll : F10_d 600 (rowsI t) = some (rowsI t, 0) := rfl
    obtain ⟨X, p1, g1, ⟨l1, l2⟩, hX, D1⟩ := samples_ok (n := 60) (by omega) D
    obtain ⟨v, p2, g2, m2, D2⟩ := pick_ok 600 [1073741823, 1073741824, -1073741823] (by simp) D1
    replace g2 : F12_d 600 ([[(AV.v (.int .i64 1073741823))], [(AV.v (.int .i64 1073741824))], [(AV.v (.int .i64 (-1073741823)))]], rowsI t, p1) = some (v, rowsI t, p2) := g2
    have b1 : X.length * 8 ≤ maxBytes := by unfold maxBytes; omega
    have b2 : (X.length + 1) * 8 ≤ maxBytes := by unfold maxBytes; omega
    have r := x_loop6 data (by omega) cnt [X, raw, X ++ [v]] (by simp) (fun Y hY => by
      simp at hY
      rcases hY with rfl | rfl | rfl
      · omega
      · omega
      · simp; omega) 3 0 600 p2 (by omega) rfl D2
    replace r : F6_d10 600 ([[AV.list 1 (rowsI X) none], [AV.list 1 (rowsI raw) none], [AV.list 1 (rowsI (X ++ [v])) none]], data, cnt, (([[AV.list 1 (rowsI X) none], [AV.list 1 (rowsI raw) none], [AV.list 1 (rowsI (X ++ [v])) none]].length : Nat) : Int), 0, rowsI t, p2) = _ := r
    simp only [F6_d, FSpec.d, F6_s, light_ok, hl, decide_true, Bool.not_true, rowsI_len, h1, decide_false, h2, hroll, g1, b1, if_true, g2, len1, b2, rowsI_snoc, r, sane_ok]
  · simp only [F6_d, FSpec.d, F6_s, light_ok, hl, decide_false, Bool.not_false, sane_ok]
theorem steim_exact (a : Option Addr) (len cap : Nat) (a2 : Option Addr) (len2 cap2 : Nat) (s : ByteArray) (n : Int) (W : World) (hr : IntsIn W (.slice a len cap)) (hr2 : IntsIn W (.slice a2 len2 cap2)) (hs : s.size ≤ 140737488351232) (hn : -9223372036854775808 ≤ n ∧ n ≤ 9223372036854775807) :
    Calls Try.prog 6 #[.slice a len cap, .slice a2 len2 cap2, .string s, .int .i64 n] W fun e w' => e = .returned (.bool true) ∧ Below W.heap.size W w' := by
  obtain ⟨xs, h1, h2, h3⟩ := hr
  obtain ⟨ys, j1, j2, j3⟩ := hr2
  have ok := (F6_e 600).ok (rowsI xs, rowsI ys, s, n) true (exact_law xs h1 ys s n)
  refine CallOk.calls (args := [.list 1 (rowsI xs) none, .list 1 (rowsI ys) none, .v (.string s), .v (.int .i64 n)]) ok W _ rfl (fun i h h' => ?_)
  have : i = 0 ∨ i = 1 ∨ i = 2 ∨ i = 3 := by simp at h; omega
  rcases this with rfl | rfl | rfl | rfl
  · exact h3 _ _
  · exact j3 _ _
  · exact .v
  · exact .v
end Go.Proofs.Yteplhedodcaljaa
