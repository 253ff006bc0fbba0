/- Natural numbers, the document's functions: Int, Text, Parse, fractions, without memory. -/
import Derived.Test.YtlpebecbipjoaaaGreatDoorNeC
namespace Go.Proofs.YtlpebecbipjoaaaGreatDoor
open Go.RowKit
set_option linter.unusedVariables false
set_option linter.unusedSimpArgs false
set_option linter.unnecessarySimpa false
theorem rint_loop {L : List Int} (hd : Dg L) (hb : vv L ≤ 4611686018427387904) (hl : L.length ≤ 500) : ∀ (k f : Nat) (out : Int), k ≤ L.length → k < f → out = (vv (L.drop k) : Int) → (F22_l14 600).L f (rowsI L, out, (k : Int) - 1) = some (vv L : Int)
  | 0, f, out, hk, hf, ho => by
    obtain ⟨f, rfl⟩ : ∃ f', f = f' + 1 := ⟨f - 1, by omega⟩
    subst ho
    show (F22_l14 600).b _ _ ((F22_l14 600).L f) some = _
    generalize (F22_l14 600).L f = Lf
    simp only [F22_l14, decide_eq_false (show ¬ (((0 : Nat) : Int) - 1 ≥ 0) by omega), List.drop_zero]
  | k + 1, f, out, hk, hf, ho => by
    obtain ⟨f, rfl⟩ : ∃ f', f = f' + 1 := ⟨f - 1, by omega⟩
    have hkL : k < L.length := by omega
    have rx := hd.get k hkL
    have va := vv_drop L k hkL
    have hle : ∀ j, vv (L.drop j) ≤ vv L := vv_drop_le L
    have h1 := hle k
    have h2 := hle (k + 1)
    have ga : ((rowsI L)[((k : Int)).toNat]? : Option (List AV)) = some [AV.v (.int .i64 L[k])] := by rw [show ((k : Int)).toNat = k by omega, rowsI_get _ k hkL]
    have r := rint_loop hd hb hl k f (vv (L.drop k) : Int) (by omega) (by omega) rfl
    rw [va] at r h1
    generalize L[k] = x at *
    generalize vv (L.drop (k + 1)) = v at *
    subst ho
    show (F22_l14 600).b _ _ ((F22_l14 600).L f) some = _
    generalize (F22_l14 600).L f = Lf at r ⊢
    have e0 : (((k + 1 : Nat) : Int) - 1) = (k : Int) := by omega
    have h0 : (0 : Int) ≤ (k : Int) := by omega
    have e1 : i64 ((v : Int) * 1073741824) = (v : Int) * 1073741824 := i64_id (by omega)
    have e2 : i64 ((v : Int) * 1073741824 + x) = ((x.toNat + 1073741824 * v : Nat) : Int) := by rw [i64_id (by omega)]; omega
    have e5 : i64 ((k : Int) - 1) = (k : Int) - 1 := i64_id (by omega)
    rw [e0]
    simp only [F22_l14, decide_eq_true (show ((k : Int) ≥ 0) by omega), ga, List.getElem?_cons_zero, e1, e2, e5]
    exact (if_pos h0).trans ((if_pos trivial).trans r)
theorem two62 : (4611686018427387904 : Nat) < Bs ^ 64 := by decide
theorem rint_any {L : List Int} (hl : L.length ≤ 590) : F22_d 600 (rowsI L) = some (intV L) := by
  have key : ∀ T : Nat, decide (cmpV (vv L) T > 0) = decide (T < vv L) := fun T => cmpV_gt (vv L) T
  unfold intV
  by_cases ha : VN L
  · rw [if_pos ha]
    have h64 := ha.1
    have f1 := rfrom_ok (n := 4611686018427387904) (by omega)
    rw [show ((4611686018427387904 : Int)).toNat = 4611686018427387904 from rfl] at f1
    have C := (cmp_any (a := L) (b := nf 4611686018427387904) hl (by have := (VN.nf two62).1; omega)).2
    have hc : cmpP L (nf 4611686018427387904) = cmpV (vv L) 4611686018427387904 := by
      unfold cmpP
      rw [if_pos ⟨ha, VN.nf two62⟩, vv_nf]
    rw [hc] at C
    have e1 : i64 ((L.length : Int) - 1) = (L.length : Int) - 1 := i64_id (by omega)
    obtain ⟨T, hT⟩ : ∃ T : Nat, T = 4611686018427387904 := ⟨_, rfl⟩
    rw [← hT] at f1 C ⊢
    clear hc
    by_cases hb : vv L > T
    · rw [if_pos hb]
      have c : decide (cmpV (vv L) T > 0) = true := by
        rw [key]; exact decide_eq_true hb
      simp only [F22_d, FSpec.d, F22_s, rvalid_ok ha, Bool.not_true, f1, C, c]
    · rw [if_neg hb]
      have c : decide (cmpV (vv L) T > 0) = false := by
        rw [key]; exact decide_eq_false hb
      have r := rint_loop ha.2.1 (by omega) (by omega) L.length 600 0 (by omega) (by omega) (by rw [List.drop_length]; rfl)
      have R : F22_d14 600 (rowsI L, 0, (L.length : Int) - 1) = some (vv L : Int) := r
      simp only [F22_d, FSpec.d, F22_s, rvalid_ok ha, Bool.not_true, f1, C, c, rowsI_len, e1, R]
  · rw [if_neg ha]
    simp only [F22_d, FSpec.d, F22_s, rvalid_no hl ha, Bool.not_false]
theorem dec_ten (n : Nat) : Lib.decDigits n = (if n < 10 then [UInt8.ofNat (48 + n)] else Lib.decDigits (n / 10) ++ [UInt8.ofNat (48 + n % 10)]) := by
  rw [Lib.decDigits]
  split <;> rfl
/-- A number's digits ahead of others; none where the number is 0. -/
def tenT (n : Nat) (l : List UInt8) : List UInt8 := if n = 0 then l else Lib.decDigits n ++ l
theorem tenT_step {n : Nat} (h : n ≠ 0) (l : List UInt8) : tenT n l = tenT (n / 10) (UInt8.ofNat (48 + n % 10) :: l) := by
  unfold tenT
  rw [if_neg h, dec_ten n]
  by_cases h1 : n < 10
  · rw [if_pos h1, if_pos (by omega), Nat.mod_eq_of_lt h1]; rfl
  · rw [if_neg h1, if_neg (by omega), List.append_assoc]; rfl
theorem rtext_loop : ∀ (k f n : Nat) (l : List UInt8), n < 10 ^ k → k < f → n < Bs ^ 64 → l.length + k ≤ 10000 → (F24_l8 600).L f (rowsI (nf n), BB l) = some (BB (tenT n l))
  | k, f, n, l, hk, hf, h64, hl => by
    obtain ⟨f, rfl⟩ : ∃ f', f = f' + 1 := ⟨f - 1, by omega⟩
    by_cases h0 : n = 0
    · subst h0
      show (F24_l8 600).b _ _ ((F24_l8 600).L f) some = _
      generalize (F24_l8 600).L f = Lf
      have c : decide (((nf 0).length : Int) > 0) = false := by rw [nf_zero]; rfl
      simp only [F24_l8, rowsI_len, c]
      rfl
    · match k, hk with
      | 0, hk => simp at hk; omega
      | k + 1, hk =>
      have r := rtext_loop k f (n / 10) (UInt8.ofNat (48 + n % 10) :: l) (by rw [Nat.pow_succ] at hk; omega) (by omega) (Nat.lt_of_le_of_lt (Nat.div_le_self ..) h64) (by simp only [List.length_cons]; omega)
      rw [← tenT_step h0] at r
      have D := rdiv_ok (a := nf n) (by have := (VN.nf h64).1; omega) 10
      unfold divP at D
      rw [if_pos (VN.nf h64), if_pos (by omega), vv_nf, show ((10 : Int)).toNat = 10 from rfl] at D
      dsimp only at D
      have c : decide (((nf n).length : Int) > 0) = true := by
        rw [decide_eq_true_iff, nf_pos h0]; simp <;> omega
      have e1 : i64 (48 + ((n % 10 : Nat) : Int)) = ((48 + n % 10 : Nat) : Int) := by rw [i64_id (by omega)]; omega
      have e2 : IntKind.u8.wrap (((48 + n % 10 : Nat) : Int)) = ((48 + n % 10 : Nat) : Int) := by rw [u8_wrap]; omega
      have e3 : strOfNums [((48 + n % 10 : Nat) : Int)] = BB [UInt8.ofNat (48 + n % 10)] := by
        unfold strOfNums BB
        congr 2
      show (F24_l8 600).b _ _ ((F24_l8 600).L f) some = _
      generalize (F24_l8 600).L f = Lf at r ⊢
      have hs : (BB [UInt8.ofNat (48 + n % 10)]).size + (BB l).size ≤ 9223372036854775807 := by rw [BB_size, BB_size]; simp; omega
      simp only [F24_l8, rowsI_len, c, D, e1, e2, numsOf, e3, BB_app]
      exact (if_pos hs).trans r
open Classical in
noncomputable def textP (L : List Int) : List UInt8 × Int := if VN L then (Lib.decDigits (vv L), 0) else ([], 1)
theorem text_any {L : List Int} (hl : L.length ≤ 590) : F23_d 600 (rowsI L) = some (BB (textP L).1, (textP L).2) ∧ F24_d 600 (rowsI L) = some (BB (textP L).1, (textP L).2) := by
  unfold textP
  have z0 : (⟨#[]⟩ : ByteArray).toList = [] := by rw [ByteArray.toList_eq]
  by_cases ha : VN L
  · rw [if_pos ha]
    refine ⟨text_ok ha, ?_⟩
    obtain ⟨k, k1, k2⟩ := bs_dec
    have r := rtext_loop (k + 1) 600 (vv L) [] (Nat.lt_of_lt_of_le ha.lt k2) (by omega) ha.lt (by simp; omega)
    rw [nf_vv ha.2.1 ha.2.2] at r
    have R : F24_d8 600 (rowsI L, (⟨#[]⟩ : ByteArray)) = some (BB (tenT (vv L) [])) := r
    by_cases hz : vv L = 0
    · have hT : tenT (vv L) [] = [] := by unfold tenT; rw [if_pos hz]
      rw [hT] at R
      have hd : Lib.decDigits (vv L) = [48] := by rw [hz, Lib.decDigits_one (by omega)]; rfl
      have c : (([] : List UInt8) == []) = true := rfl
      simp only [F24_d, FSpec.d, F24_s, rvalid_ok ha, Bool.not_true, R, BB_list, z0, c, hd]
      rfl
    · have hT : tenT (vv L) [] = Lib.decDigits (vv L) := by unfold tenT; rw [if_neg hz, List.append_nil]
      rw [hT] at R
      have c : (Lib.decDigits (vv L) == []) = false := by
        rw [beq_eq_false_iff_ne]; intro e
        have h1 := Lib.decDigits_length (vv L)
        have h2 := Lib.nDigits_pos (vv L)
        rw [e] at h1; simp at h1; omega
      simp only [F24_d, FSpec.d, F24_s, rvalid_ok ha, Bool.not_true, R, BB_list, z0, c]
  · rw [if_neg ha]
    constructor
    · simp only [F23_d, FSpec.d, F23_s, valid_no hl ha, Bool.not_false]; rfl
    · simp only [F24_d, FSpec.d, F24_s, rvalid_no hl ha, Bool.not_false]; rfl
theorem textP_len (L : List Int) : (textP L).1.length ≤ 580 := by
  unfold textP
  split
  · rename_i h
    obtain ⟨k, k1, k2⟩ := bs_dec
    have := dec_short (Nat.lt_of_lt_of_le h.lt k2)
    show (Lib.decDigits (vv L)).length ≤ 580
    omega
  · show 0 ≤ 580; omega
/-! Parse. -/
theorem rdig_loop {l : List UInt8} (hl : l.length ≤ 100000) : ∀ (k i f : Nat), k < f → i + k = l.length → (F28_l8 600).L f (BB l, (i : Int)) = some (.inr (BB l)) ∧ (l.drop i).all isD = true ∨ (F28_l8 600).L f (BB l, (i : Int)) = some (.inl ([], BB l, 3)) ∧ (l.drop i).all isD = false
  | 0, i, f, hf, hi => by
    obtain ⟨f, rfl⟩ : ∃ f', f = f' + 1 := ⟨f - 1, by omega⟩
    refine .inl ⟨?_, by rw [List.drop_of_length_le (by omega)]; rfl⟩
    show (F28_l8 600).b _ _ ((F28_l8 600).L f) some = _
    generalize (F28_l8 600).L f = Lf
    simp only [F28_l8, BB_size, decide_eq_false (show ¬ ((i : Int) < (l.length : Int)) by omega)]
  | k + 1, i, f, hf, hi => by
    obtain ⟨f, rfl⟩ : ∃ f', f = f' + 1 := ⟨f - 1, by omega⟩
    have hil : i < l.length := by omega
    have gs : (BB l)[((i : Int)).toNat]? = some l[i] := by rw [show ((i : Int)).toNat = i by omega, BB_get l i hil]
    have h0 : (0 : Int) ≤ (i : Int) := by omega
    have e1 : i64 ((i : Int) + 1) = ((i + 1 : Nat) : Int) := by rw [i64_id (by omega)]; omega
    rw [List.drop_eq_getElem_cons hil, List.all_cons]
    by_cases h48 : ((l[i].toNat : Int) < 48)
    · have hD : isD l[i] = false := by simp only [isD, decide_eq_false_iff_not]; omega
      refine .inr ⟨?_, by rw [hD]; rfl⟩
      show (F28_l8 600).b _ _ ((F28_l8 600).L f) some = _
      generalize (F28_l8 600).L f = Lf
      simp only [F28_l8, BB_size, decide_eq_true (show ((i : Int) < (l.length : Int)) by omega), gs, decide_eq_true h48]
      exact if_pos h0
    · by_cases h57 : ((l[i].toNat : Int) > 57)
      · have hD : isD l[i] = false := by simp only [isD, decide_eq_false_iff_not]; omega
        refine .inr ⟨?_, by rw [hD]; rfl⟩
        show (F28_l8 600).b _ _ ((F28_l8 600).L f) some = _
        generalize (F28_l8 600).L f = Lf
        simp only [F28_l8, BB_size, decide_eq_true (show ((i : Int) < (l.length : Int)) by omega), gs, decide_eq_false h48, decide_eq_true h57]
        exact (if_pos h0).trans (if_pos h0)
      · have hD : isD l[i] = true := by simp only [isD, decide_eq_true_iff]; omega
        have st : (F28_l8 600).L (f + 1) (BB l, (i : Int)) = (F28_l8 600).L f (BB l, ((i + 1 : Nat) : Int)) := by
          show (F28_l8 600).b _ _ ((F28_l8 600).L f) some = _
          generalize (F28_l8 600).L f = Lf
          simp only [F28_l8, BB_size, decide_eq_true (show ((i : Int) < (l.length : Int)) by omega), gs, decide_eq_false h48, decide_eq_false h57, e1]
          exact (if_pos h0).trans (if_pos h0)
        rw [st, hD, Bool.true_and]
        exact rdig_loop hl k (i + 1) f (by omega) (by omega)
theorem pv_mono (l : List UInt8) : ∀ (k i : Nat), i + k = l.length → pv (l.take i) ≤ pv l
  | 0, i, h => by rw [List.take_of_length_le (by omega)]; exact Nat.le_refl _
  | k + 1, i, h => by
    have := pv_mono l k (i + 1) (by omega)
    rw [pv_take l i (by omega)] at this
    omega
theorem ten_rows : ([[AV.v (.int .i64 10)]] : List (List AV)) = rowsI (nf 10) := by
  rw [nf_pos (by decide)]
  simp [nf_zero, rowsI]
theorem rpar_loop {l : List UInt8} (hl : l.length ≤ 590) (hd : l.all isD = true) : ∀ (k f i : Nat), i + k = l.length → k < f → pv (l.take i) < Bs ^ 64 → ((F28_l21 600).L f (rowsI (nf (pv (l.take i))), BB l, (i : Int)) = some (.inr (rowsI (nf (pv l)))) ∧ pv l < Bs ^ 64) ∨ ((∃ o, (F28_l21 600).L f (rowsI (nf (pv (l.take i))), BB l, (i : Int)) = some (.inl ([], o, 8))) ∧ ¬ pv l < Bs ^ 64)
  | 0, f, i, hi, hf, h64 => by
    obtain ⟨f, rfl⟩ : ∃ f', f = f' + 1 := ⟨f - 1, by omega⟩
    rw [List.take_of_length_le (by omega)] at h64 ⊢
    refine .inl ⟨?_, h64⟩
    show (F28_l21 600).b _ _ ((F28_l21 600).L f) some = _
    generalize (F28_l21 600).L f = Lf
    simp only [F28_l21, BB_size, decide_eq_false (show ¬ ((i : Int) < (l.length : Int)) by omega)]
  | k + 1, f, i, hi, hf, h64 => by
    obtain ⟨f, rfl⟩ : ∃ f', f = f' + 1 := ⟨f - 1, by omega⟩
    have hil : i < l.length := by omega
    have hci : isD l[i] = true := List.all_eq_true.1 hd _ (List.getElem_mem hil)
    have ec := dig_val hci
    have hp := pv_take l i hil
    have hm := pv_mono l k (i + 1) (by omega)
    have gs : (BB l)[((i : Int)).toNat]? = some l[i] := by rw [show ((i : Int)).toNat = i by omega, BB_get l i hil]
    have hc9 : (l[i]).toNat - 48 < 10 := by
      simp only [isD, decide_eq_true_eq] at hci; omega
    generalize l[i] = ch at *
    generalize hdg : ch.toNat - 48 = d at *
    have f1 := rfrom_ok (n := (d : Int)) (by omega)
    rw [Int.toNat_natCast] at f1
    have h0 : (0 : Int) ≤ (i : Int) := by omega
    have e1 : i64 ((i : Int) + 1) = ((i + 1 : Nat) : Int) := by rw [i64_id (by omega)]; omega
    have ten64 : (10 : Nat) < Bs ^ 64 := by decide
    have d64 : d < Bs ^ 64 := Nat.lt_trans hc9 ten64
    generalize hv : pv (l.take i) = v at *
    have M := rmulx_ok (VN.nf h64) (VN.nf ten64)
    rw [vv_nf, vv_nf] at M
    rw [← ten_rows] at M
    by_cases hx : v * 10 < Bs ^ 64
    · rw [lim_small hx] at M
      have A := radd_ok (VN.nf hx) (VN.nf d64)
      rw [vv_nf, vv_nf] at A
      by_cases hy : v * 10 + d < Bs ^ 64
      · rw [lim_small hy] at A
        have e10 : 10 * v + d = v * 10 + d := by omega
        rw [e10] at hp
        have r := rpar_loop hl hd k f (i + 1) (by omega) (by omega) (by rw [hp]; exact hy)
        rw [hp] at r
        have st : (F28_l21 600).L (f + 1) (rowsI (nf v), BB l, (i : Int)) = (F28_l21 600).L f (rowsI (nf (v * 10 + d)), BB l, ((i + 1 : Nat) : Int)) := by
          show (F28_l21 600).b _ _ ((F28_l21 600).L f) some = _
          generalize (F28_l21 600).L f = Lf
          have z : ((0 : Int) != 0) = false := rfl
          simp only [F28_l21, BB_size, decide_eq_true (show ((i : Int) < (l.length : Int)) by omega), gs, ec, f1, M, z, A, e1]
          exact if_pos h0
        rw [st]
        exact r
      · have A' : F10_d 600 (rowsI (nf (v * 10)), rowsI (nf d)) = some ([], 8) := by rw [A]; unfold limR; rw [if_neg hy]
        refine .inr ⟨⟨[], ?_⟩, by omega⟩
        show (F28_l21 600).b _ _ ((F28_l21 600).L f) some = _
        generalize (F28_l21 600).L f = Lf
        have z : ((0 : Int) != 0) = false := rfl
        have z8 : ((8 : Int) != 0) = true := rfl
        simp only [F28_l21, BB_size, decide_eq_true (show ((i : Int) < (l.length : Int)) by omega), gs, ec, f1, M, z, A', z8]
        exact if_pos h0
    · have M' : F14_d 600 (rowsI (nf v), [[AV.v (.int .i64 10)]]) = some ([], 8) := by rw [M]; unfold limR; rw [if_neg hx]
      refine .inr ⟨⟨rowsI (nf v), ?_⟩, by omega⟩
      show (F28_l21 600).b _ _ ((F28_l21 600).L f) some = _
      generalize (F28_l21 600).L f = Lf
      have z8 : ((8 : Int) != 0) = true := rfl
      simp only [F28_l21, BB_size, decide_eq_true (show ((i : Int) < (l.length : Int)) by omega), gs, ec, f1, M', z8]
      exact if_pos h0
def parseP (l : List UInt8) : List Int × Int := if badT l = true then ([], 3) else limP (pv l)
theorem parseP_R (l : List UInt8) : parseR l = (rowsI (parseP l).1, (parseP l).2) := by
  unfold parseR parseP
  split
  · rfl
  · exact limP_R _
theorem parseP_len (l : List UInt8) : (parseP l).1.length ≤ 590 := by
  unfold parseP; split
  · show 0 ≤ 590; omega
  · exact limP_len _
theorem rparse_ok {l : List UInt8} (hl : l.length ≤ 590) : F28_d 600 (BB l) = some (parseR l) := by
  have z0 : (⟨#[]⟩ : ByteArray).toList = [] := by rw [ByteArray.toList_eq]
  unfold parseR
  match l, hl with
  | [], hl =>
    have c : (([] : List UInt8) == []) = true := rfl
    simp only [F28_d, FSpec.d, F28_s, BB_list, z0, c]
    rfl
  | ch :: rest, hl =>
    have c : ((ch :: rest : List UInt8) == []) = false := rfl
    have g0 : (BB (ch :: rest))[((0 : Int)).toNat]? = some ch := BB_get (ch :: rest) 0 (by simp)
    have hle : (0 : Int) ≤ 0 := by omega
    have sz : ((BB (ch :: rest)).size : Int) = ((ch :: rest).length : Int) := by rw [BB_size]
    -- what stands behind the test of the first digit
    have tail : ¬ (ch = 48 ∧ 1 < (ch :: rest).length) → (match F28_d8 600 (BB (ch :: rest), 0) with
        | some y4 => (match y4 with | .inl z5 => some (z5.1, z5.2.2) | .inr z6 => (match F28_d21 600 (([] : List (List AV)), z6, 0) with | some y11 => (match y11 with | .inl z12 => some (z12.1, z12.2.2) | .inr z13 => some (z13, 0)) | none => none))
        | none => none) = some (if badT (ch :: rest) = true then ([], 3) else limR (pv (ch :: rest))) := fun hno => by
      rcases rdig_loop (l := ch :: rest) (by omega) (ch :: rest).length 0 600 (by omega) (by omega) with ⟨r, hall⟩ | ⟨r, hall⟩
      · have L : F28_d8 600 (BB (ch :: rest), 0) = some (.inr (BB (ch :: rest))) := r
        have hall : (ch :: rest : List UInt8).all isD = true := hall
        have hb : badT (ch :: rest) = false := by
          unfold badT
          rw [c, hall]
          by_cases h48 : ch = 48
          · have : rest = [] := by
              rcases rest with _ | ⟨x, s⟩
              · rfl
              · exact absurd ⟨h48, by simp⟩ hno
            subst this; subst h48; rfl
          · simp [h48]
        have n0 : rowsI (nf (pv ((ch :: rest).take 0))) = [] := by
          show rowsI (nf 0) = []
          rw [nf_zero]; rfl
        rcases rpar_loop hl hall (ch :: rest).length 600 0 (by omega) (by omega) (by show 0 < Bs ^ 64; decide) with ⟨q, hV⟩ | ⟨⟨o, q⟩, hV⟩
        · have Q : F28_d21 600 (([] : List (List AV)), BB (ch :: rest), 0) = some (.inr (rowsI (nf (pv (ch :: rest))))) := by rw [n0] at q; exact q
          rw [hb, lim_small hV]
          simp only [L, Q]
          rfl
        · have Q : F28_d21 600 (([] : List (List AV)), BB (ch :: rest), 0) = some (.inl ([], o, 8)) := by rw [n0] at q; exact q
          have hR : limR (pv (ch :: rest)) = ([], 8) := by unfold limR; rw [if_neg hV]
          rw [hb, hR]
          simp only [L, Q]
          rfl
      · have L : F28_d8 600 (BB (ch :: rest), 0) = some (.inl ([], BB (ch :: rest), 3)) := r
        have hall : (ch :: rest : List UInt8).all isD = false := hall
        have hb : badT (ch :: rest) = true := by
          unfold badT
          rw [hall]; simp
        rw [hb]
        simp only [L]
        rfl
    by_cases hlen : 1 < (ch :: rest).length
    · have c1 : decide (((ch :: rest).length : Int) > 1) = true := by rw [decide_eq_true_iff]; omega
      by_cases h48 : ch = 48
      · have c48 : ((ch.toNat : Int) == 48) = true := by rw [h48]; rfl
        have hne : (ch :: rest : List UInt8) ≠ [48] := fun e => by rw [e] at hlen; simp at hlen
        have hb : badT (ch :: rest) = true := by
          unfold badT
          rw [c, beq_eq_false_iff_ne.2 hne, h48]; simp
        rw [hb]
        simp only [F28_d, FSpec.d, F28_s, BB_list, z0, c, sz, c1, g0, c48]
        exact if_pos hle
      · have c48 : ((ch.toNat : Int) == 48) = false := by
          rw [beq_eq_false_iff_ne]
          intro e
          apply h48
          apply UInt8.toNat_inj.1
          show ch.toNat = 48
          omega
        have T := tail (fun e => h48 e.1)
        simp only [F28_d, FSpec.d, F28_s, BB_list, z0, c, sz, c1, g0, c48]
        exact (if_pos hle).trans T
    · have c1 : decide (((ch :: rest).length : Int) > 1) = false := by rw [decide_eq_false_iff_not]; omega
      have T := tail (fun e => hlen e.2)
      simp only [F28_d, FSpec.d, F28_s, BB_list, z0, c, sz, c1]
      exact T
theorem parse_any {l : List UInt8} (hl : l.length ≤ 590) : F27_d 600 (BB l) = some (rowsI (parseP l).1, (parseP l).2) ∧ F28_d 600 (BB l) = some (rowsI (parseP l).1, (parseP l).2) := by
  rw [← parseP_R]
  exact ⟨parse_ok hl, rparse_ok hl⟩
/-! Fractions. -/
def VF (a b : List Int) : Prop := VN a ∧ VN b ∧ 0 < b.length
open Classical in
theorem vf_any {a b : List Int} (la : a.length ≤ 590) (lb : b.length ≤ 590) : F36_d 600 (rowsI a, rowsI b) = some (decide (VF a b)) ∧ F37_d 600 (rowsI a, rowsI b) = some (decide (VF a b)) := by
  by_cases ha : VN a
  · by_cases hb : VN b
    · have e : decide ((b.length : Int) > 0) = decide (VF a b) := by
        by_cases h : 0 < b.length
        · rw [decide_eq_true (show VF a b from ⟨ha, hb, h⟩), decide_eq_true (by omega)]
        · rw [decide_eq_false (fun q : VF a b => h q.2.2), decide_eq_false (by omega)]
      constructor
      · simp only [F36_d, FSpec.d, F36_s, valid_ok ha, valid_ok hb, rowsI_len, e]
      · simp only [F37_d, FSpec.d, F37_s, rvalid_ok ha, rvalid_ok hb, rowsI_len, e]
    · have hv : ¬ VF a b := fun q => hb q.2.1
      constructor
      · simp only [F36_d, FSpec.d, F36_s, valid_ok ha, valid_no lb hb, decide_eq_false hv]
      · simp only [F37_d, FSpec.d, F37_s, rvalid_ok ha, rvalid_no lb hb, decide_eq_false hv]
  · have hv : ¬ VF a b := fun q => ha q.1
    constructor
    · simp only [F36_d, FSpec.d, F36_s, valid_no la ha, decide_eq_false hv]
    · simp only [F37_d, FSpec.d, F37_s, rvalid_no la ha, decide_eq_false hv]
theorem vf_t {a b : List Int} (h : VF a b) : F36_d 600 (rowsI a, rowsI b) = some true ∧ F37_d 600 (rowsI a, rowsI b) = some true := by
  classical
  have := vf_any (a := a) (b := b) (by have := h.1.1; omega) (by have := h.2.1.1; omega)
  rwa [decide_eq_true h] at this
theorem vf_f {a b : List Int} (la : a.length ≤ 590) (lb : b.length ≤ 590) (h : ¬ VF a b) : F36_d 600 (rowsI a, rowsI b) = some false ∧ F37_d 600 (rowsI a, rowsI b) = some false := by
  classical
  have := vf_any la lb
  rwa [decide_eq_false h] at this
theorem cross_ok {a b c d : List Int} (h : VF a b) (h' : VF c d) : F59_d 600 (rowsI a, rowsI b, rowsI c, rowsI d) = some (cmpV (vv a * vv d) (vv c * vv b)) ∧ F48_d 600 (rowsI a, rowsI d) = some (rowsI (nf (vv a * vv d))) ∧ F48_d 600 (rowsI c, rowsI b) = some (rowsI (nf (vv c * vv b))) ∧ F45_d 600 (rowsI (nf (vv a * vv d)), rowsI (nf (vv c * vv b))) = some (cmpV (vv a * vv d) (vv c * vv b)) := by
  have l1 := h.1.1
  have l2 := h.2.1.1
  have l3 := h'.1.1
  have l4 := h'.2.1.1
  have m1 := mul_ok h.1.2.1 h'.2.1.2.1 (by omega)
  have m2 := mul_ok h'.1.2.1 h.2.1.2.1 (by omega)
  have hl : (nf (vv a * vv d)).length ≤ 590 := by
    have := (nf_len 128 (vv a * vv d)).2 (pw_mul h.1.lt h'.2.1.lt (show 64 + 64 ≤ 128 by omega))
    omega
  have C := cmp_ok (nf_dg (vv a * vv d)) (nf_dg (vv c * vv b)) (nf_noz _) (nf_noz _) hl
  have C' := rcmp_ok (nf_dg (vv a * vv d)) (nf_dg (vv c * vv b)) (nf_noz _) (nf_noz _) hl
  rw [vv_nf, vv_nf] at C C'
  refine ⟨?_, rmul_ok h.1.2.1 h'.2.1.2.1 (by omega), rmul_ok h'.1.2.1 h.2.1.2.1 (by omega), C'⟩
  simp only [F59_d, FSpec.d, F59_s, m1, m2, C]
/-- The same answer from both packages. -/
theorem frac_any {a b c d : List Int} (la : a.length ≤ 590) (lb : b.length ≤ 590) (lc : c.length ≤ 590) (ld : d.length ≤ 590) :
    (∃ v, F29_d 600 (rowsI a, rowsI b, rowsI c, rowsI d) = some v ∧ F30_d 600 (rowsI a, rowsI b, rowsI c, rowsI d) = some v) ∧
    (∃ v, F31_d 600 (rowsI a, rowsI b, rowsI c, rowsI d) = some v ∧ F32_d 600 (rowsI a, rowsI b, rowsI c, rowsI d) = some v) ∧
    (∃ (x y : List Int) (e : Int), F33_d 600 (rowsI a, rowsI b, rowsI c, rowsI d) = some (rowsI x, rowsI y, e) ∧ F34_d 600 (rowsI a, rowsI b, rowsI c, rowsI d) = some (rowsI x, rowsI y, e) ∧ x.length ≤ 590 ∧ y.length ≤ 590) := by
  by_cases h : VF a b
  · by_cases h' : VF c d
    · obtain ⟨x1, x2, x3, x4⟩ := cross_ok h h'
      refine ⟨⟨(decide (cmpV (vv a * vv d) (vv c * vv b) < 0), 0), ?_, ?_⟩, ⟨(cmpV (vv a * vv d) (vv c * vv b) == 0, 0), ?_, ?_⟩, ?_⟩
      · simp only [F29_d, FSpec.d, F29_s, (vf_t h).1, (vf_t h').1, Bool.not_true, x1]
      · simp only [F30_d, FSpec.d, F30_s, (vf_t h).2, (vf_t h').2, Bool.not_true, x2, x3, x4]
      · simp only [F31_d, FSpec.d, F31_s, (vf_t h).1, (vf_t h').1, Bool.not_true, x1]
      · simp only [F32_d, FSpec.d, F32_s, (vf_t h).2, (vf_t h').2, Bool.not_true, x2, x3, x4]
      · have l1 := h.1.1
        have l2 := h.2.1.1
        have l3 := h'.1.1
        have l4 := h'.2.1.1
        have m1 := mul_ok h.1.2.1 h'.1.2.1 (by omega)
        have m2 := mul_ok h.2.1.2.1 h'.2.1.2.1 (by omega)
        have limx : ∀ {V : Nat}, V < Bs ^ 128 → F42_d 600 (rowsI (nf V)) = some (rowsI (limP V).1, (limP V).2) := fun {V} hV => by
          have := lim_ok (xs := nf V) (by have := (nf_len 128 V).2 hV; omega) (nf_dg V)
          rw [vv_nf, limP_R] at this
          exact this
        have k1 := limx (pw_mul h.1.lt h'.1.lt (show 64 + 64 ≤ 128 by omega))
        have k2 := limx (pw_mul h.2.1.lt h'.2.1.lt (show 64 + 64 ≤ 128 by omega))
        have r1 := rmulx_ok h.1 h'.1
        have r2 := rmulx_ok h.2.1 h'.2.1
        rw [limP_R] at r1 r2
        have p1 := limP_len (vv a * vv c)
        have p2 := limP_len (vv b * vv d)
        generalize limP (vv a * vv c) = P at *
        generalize limP (vv b * vv d) = Q at *
        obtain ⟨P1, P2⟩ := P
        obtain ⟨Q1, Q2⟩ := Q
        dsimp only at *
        by_cases hP : P2 = 0
        · have cP : (P2 != 0) = false := by simp [hP]
          by_cases hQ : Q2 = 0
          · have cQ : (Q2 != 0) = false := by simp [hQ]
            refine ⟨P1, Q1, 0, ?_, ?_, p1, p2⟩
            · simp only [F33_d, FSpec.d, F33_s, (vf_t h).1, (vf_t h').1, Bool.not_true, m1, m2, k1, k2, cP, cQ]
            · simp only [F34_d, FSpec.d, F34_s, (vf_t h).2, (vf_t h').2, Bool.not_true, r1, r2, cP, cQ]
          · have cQ : (Q2 != 0) = true := by simp [hQ]
            refine ⟨[], [], 8, ?_, ?_, by simp, by simp⟩
            · simp only [F33_d, FSpec.d, F33_s, (vf_t h).1, (vf_t h').1, Bool.not_true, m1, m2, k1, k2, cP, cQ]; rfl
            · simp only [F34_d, FSpec.d, F34_s, (vf_t h).2, (vf_t h').2, Bool.not_true, r1, r2, cP, cQ]; rfl
        · have cP : (P2 != 0) = true := by simp [hP]
          refine ⟨[], [], 8, ?_, ?_, by simp, by simp⟩
          · simp only [F33_d, FSpec.d, F33_s, (vf_t h).1, (vf_t h').1, Bool.not_true, m1, m2, k1, k2, cP]; rfl
          · simp only [F34_d, FSpec.d, F34_s, (vf_t h).2, (vf_t h').2, Bool.not_true, r1, r2, cP]; rfl
    · have q := vf_f lc ld h'
      refine ⟨⟨(false, 1), ?_, ?_⟩, ⟨(false, 1), ?_, ?_⟩, [], [], 1, ?_, ?_, by simp, by simp⟩
      · simp only [F29_d, FSpec.d, F29_s, (vf_t h).1, q.1, Bool.not_true, Bool.not_false]
      · simp only [F30_d, FSpec.d, F30_s, (vf_t h).2, q.2, Bool.not_true, Bool.not_false]
      · simp only [F31_d, FSpec.d, F31_s, (vf_t h).1, q.1, Bool.not_true, Bool.not_false]
      · simp only [F32_d, FSpec.d, F32_s, (vf_t h).2, q.2, Bool.not_true, Bool.not_false]
      · simp only [F33_d, FSpec.d, F33_s, (vf_t h).1, q.1, Bool.not_true, Bool.not_false]; rfl
      · simp only [F34_d, FSpec.d, F34_s, (vf_t h).2, q.2, Bool.not_true, Bool.not_false]; rfl
  · have q := vf_f la lb h
    refine ⟨⟨(false, 1), ?_, ?_⟩, ⟨(false, 1), ?_, ?_⟩, [], [], 1, ?_, ?_, by simp, by simp⟩
    · simp only [F29_d, FSpec.d, F29_s, q.1, Bool.not_false]
    · simp only [F30_d, FSpec.d, F30_s, q.2, Bool.not_false]
    · simp only [F31_d, FSpec.d, F31_s, q.1, Bool.not_false]
    · simp only [F32_d, FSpec.d, F32_s, q.2, Bool.not_false]
    · simp only [F33_d, FSpec.d, F33_s, q.1, Bool.not_false]; rfl
    · simp only [F34_d, FSpec.d, F34_s, q.2, Bool.not_false]; rfl
end Go.Proofs.YtlpebecbipjoaaaGreatDoor
