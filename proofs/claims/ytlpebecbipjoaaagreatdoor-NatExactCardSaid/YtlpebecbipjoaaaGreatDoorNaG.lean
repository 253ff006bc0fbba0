/- Natural numbers, the plain law: Parse, without memory. -/
import Derived.Test.YtlpebecbipjoaaaGreatDoorNaF
namespace Go.Proofs.YtlpebecbipjoaaaGreatDoor
set_option linter.unusedVariables false
set_option linter.unusedSimpArgs false
set_option linter.unnecessarySimpa false
theorem u8_wrap (x : Int) : IntKind.u8.wrap x = x % 256 := by
  rfl
theorem dig_val {c : UInt8} (h : isD c = true) : IntKind.i64.wrap (IntKind.u8.wrap ((c.toNat : Int) - 48)) = ((c.toNat - 48 : Nat) : Int) := by
  simp only [isD, decide_eq_true_eq] at h
  rw [u8_wrap]
  have e : ((c.toNat : Int) - 48) % 256 = ((c.toNat - 48 : Nat) : Int) := by omega
  rw [e]
  exact i64_id (by omega)
def ten : List UInt8 := [48, 49, 50, 51, 52, 53, 54, 55, 56, 57]
theorem ten_fin : ∀ n : Fin 256, ten.contains (UInt8.ofNat n.val) = decide (48 ≤ n.val ∧ n.val ≤ 57) := by decide +kernel
theorem ten_isD (c : UInt8) : ten.contains c = isD c := by
  have h := ten_fin ⟨c.toNat, c.toNat_lt⟩
  simp only [UInt8.ofNat_toNat] at h
  exact h
theorem dropWhile_all {α : Type} (p : α → Bool) : ∀ l : List α, l.dropWhile p = [] ↔ l.all p = true
  | [] => by simp
  | x :: r => by
    rw [List.dropWhile_cons]
    cases hx : p x
    · simp [hx]
    · simp only [if_true, List.all_cons, hx, Bool.true_and]
      exact dropWhile_all p r
theorem trim_dig (l : List UInt8) : (Lib.trimS l ten == []) = l.all isD := by
  have e : (fun c => ten.contains c) = isD := funext ten_isD
  unfold Lib.trimS Lib.trimLeftS Lib.trimRightS
  rw [e]
  cases h : l.all isD
  · rw [beq_eq_false_iff_ne]
    intro h2
    have h3 := (dropWhile_all isD _).1 h2
    -- what is left of the right end begins with no digit at its end
    have h4 : l.reverse.dropWhile isD ≠ [] := fun e2 => by
      have := (dropWhile_all isD _).1 e2
      rw [List.all_reverse] at this
      rw [h] at this; cases this
    obtain ⟨x, r, hx⟩ : ∃ x r, l.reverse.dropWhile isD = x :: r := by
      cases hq : l.reverse.dropWhile isD with
      | nil => exact absurd hq h4
      | cons x r => exact ⟨x, r, rfl⟩
    have hnx : isD x = false := by
      have : ∀ (m : List UInt8) (x : UInt8) (r : List UInt8), m.dropWhile isD = x :: r → isD x = false := by
        intro m
        induction m with
        | nil => intro x r h; cases h
        | cons y s ih =>
          intro x r h
          rw [List.dropWhile_cons] at h
          cases hy : isD y
          · rw [hy] at h
            simp at h
            rw [← h.1]; exact hy
          · rw [hy] at h
            simp at h
            exact ih x r h
      exact this _ _ _ hx
    rw [hx, List.all_reverse] at h3
    simp [hnx] at h3
  · rw [beq_iff_eq]
    have h1 : l.reverse.dropWhile isD = [] := (dropWhile_all isD _).2 (by rw [List.all_reverse]; exact h)
    rw [h1]; rfl
theorem trimF_ok (l : List UInt8) (h : l.length ≤ 1000) : ∃ m : List UInt8, F58_d 600 (BB l, (⟨#[48, 49, 50, 51, 52, 53, 54, 55, 56, 57]⟩ : ByteArray)) = some (BB m) ∧ (m == []) = l.all isD := by
  refine ⟨Lib.trimS l ten, ?_, trim_dig l⟩
  show (if (BB l).size ≤ 9223372036854775807 ∧ (⟨#[48, 49, 50, 51, 52, 53, 54, 55, 56, 57]⟩ : ByteArray).size < 4294967281 ∧ (⟨#[48, 49, 50, 51, 52, 53, 54, 55, 56, 57]⟩ : ByteArray).data.toList.all (fun b => decide (b.toNat < 128)) = true then some (⟨(Lib.trimS (BB l).data.toList (⟨#[48, 49, 50, 51, 52, 53, 54, 55, 56, 57]⟩ : ByteArray).data.toList).toArray⟩ : ByteArray) else none) = _
  rw [if_pos ⟨by rw [BB_size]; omega, by decide, by decide⟩, BB_data]
  rfl
theorem ten_step {v v' P C D d c : Nat} (h1 : v' + P * D = v + P * d) (h3 : d + 1073741824 * c = C + 10 * D) {W : Nat} (h2 : v + P * C = W) : v' + P * 1073741824 * c = W + 9 * (P * D) := by
  have e := congrArg (P * ·) h3
  simp only [Nat.mul_add] at e
  rw [← Nat.mul_assoc, Nat.mul_left_comm P 10] at e
  omega
/-- Ten times a number, and a digit. -/
theorem pin_loop {s : ByteArray} {n : Nat} (hn : n ≤ 600) (x4 x5 : Int) (c0 : Nat) (O0 : List Int) (h0 : O0.length = n) (hd0 : Dg O0) : ∀ (r f k : Nat) (O : List Int) (C : Nat), k + r = n → r < f → O.length = n → Dg O → C < 16 → O.drop k = O0.drop k → vv (O.take k) + Bs ^ k * C = 10 * vv (O0.take k) + c0 → ∃ (O' : List Int) (C' : Nat), (F27_l24 600).L f (s, n, (C : Int), x4, x5, (n : Int), (k : Int), cellsI O) = some (s, n, (C' : Int), x4, x5, cellsI O') ∧ O'.length = n ∧ Dg O' ∧ C' < 16 ∧ vv O' + Bs ^ n * C' = 10 * vv O0 + c0
  | 0, f, k, O, C, hk, hf, hl, hd, hC, he, hv => by
    obtain ⟨f, rfl⟩ : ∃ f', f = f' + 1 := ⟨f - 1, by omega⟩
    obtain rfl : k = n := by omega
    rw [List.take_of_length_le (by omega), List.take_of_length_le (by omega)] at hv
    refine ⟨O, C, ?_, hl, hd, hC, hv⟩
    show (F27_l24 600).b _ _ ((F27_l24 600).L f) some = _
    generalize (F27_l24 600).L f = Lf
    simp only [F27_l24, decide_eq_false (show ¬ ((k : Int) < (k : Int)) by omega), cellsI_dat]
  | r + 1, f, k, O, C, hk, hf, hl, hd, hC, he, hv => by
    obtain ⟨f, rfl⟩ : ∃ f', f = f' + 1 := ⟨f - 1, by omega⟩
    have hkO : k < O.length := by omega
    have hk0 : k < O0.length := by omega
    have rD := hd.get k hkO
    have gO := cellsI_get O k hkO
    have hdr : O[k] = O0[k] ∧ O.drop (k + 1) = O0.drop (k + 1) := by
      rw [List.drop_eq_getElem_cons hkO, List.drop_eq_getElem_cons hk0] at he
      exact List.cons.inj he
    have t0 := vv_take_succ O0 k hk0
    rw [← hdr.1] at t0
    generalize hOk : O[k] = D0 at *
    obtain ⟨D, rfl⟩ := Int.eq_ofNat_of_zero_le rD.1
    rw [Int.toNat_natCast] at t0
    have hm : (C + 10 * D) % 1073741824 < 1073741824 := Nat.mod_lt _ (by decide)
    have hq : (C + 10 * D) / 1073741824 < 16 := by omega
    have hdm := Nat.mod_add_div (C + 10 * D) 1073741824
    have e10 : (((C + 10 * D : Nat) : Int)).tmod 1073741824 = (((C + 10 * D) % 1073741824 : Nat) : Int) := by rw [Int.tmod_eq_emod_of_nonneg (by omega)]; omega
    have e11 : shR .i64 (((C + 10 * D : Nat) : Int)) (30 : Int) = (((C + 10 * D) / 1073741824 : Nat) : Int) := by rw [shR30]; omega
    generalize (C + 10 * D) % 1073741824 = d at *
    generalize (C + 10 * D) / 1073741824 = c at *
    have htk : (O.set k (d : Int)).take (k + 1) = O.take k ++ [(d : Int)] := by
      rw [List.take_succ_eq_append_getElem (by simpa using hkO), List.take_set_of_le (by omega)]
      simp
    have hstep : vv ((O.set k (d : Int)).take (k + 1)) + Bs ^ (k + 1) * c = 10 * vv (O0.take (k + 1)) + c0 := by
      rw [htk, vv_snoc, List.length_take, Nat.min_eq_left (by omega), Int.toNat_natCast, t0, bs_pow]
      generalize Bs ^ k = P at *
      have e := congrArg (P * ·) hdm
      simp only [Nat.mul_add] at e
      rw [← Nat.mul_assoc P 1073741824, Nat.mul_left_comm P 10] at e
      have e3 : 10 * (vv (O0.take k) + P * D) = 10 * vv (O0.take k) + 10 * (P * D) := Nat.mul_add ..
      omega
    obtain ⟨O', C', q, q1, q2, q3, q4⟩ := pin_loop (s := s) hn x4 x5 c0 O0 h0 hd0 r f (k + 1) (O.set k (d : Int)) c (by omega) (by omega) (by simpa using hl) (hd.set _ (by omega)) hq (by rw [List.drop_set_of_lt (by omega)]; exact hdr.2) hstep
    refine ⟨O', C', ?_, q1, q2, q3, q4⟩
    clear hstep htk t0 hv hdr he hdm
    show (F27_l24 600).b _ _ ((F27_l24 600).L f) some = _
    generalize (F27_l24 600).L f = Lf at q ⊢
    have g0 : ((0 + ((k : Int)).toNat) * 1) = k := by omega
    have e1 : i64 (10 * (D : Int)) = ((10 * D : Nat) : Int) := by rw [i64_id (by omega)]; omega
    have e2 : i64 ((C : Int) + ((10 * D : Nat) : Int)) = ((C + 10 * D : Nat) : Int) := by rw [i64_id (by omega)]; omega
    have e3 : i64 ((k : Int) + 1) = ((k + 1 : Nat) : Int) := by rw [i64_id (by omega)]; omega
    have h1 : (0 : Int) ≤ (k : Int) ∧ (k : Int) < (n : Int) := by omega
    have h2 : k + 1 ≤ (cellsI O).length := by rw [cellsI_len]; omega
    simp only [F27_l24, decide_eq_true (show ((k : Int) < (n : Int)) by omega), g0, gO, e1, e2, e10, e11, e3, cellsI_set, cellsI_dat]
    exact (if_pos h1).trans ((if_pos trivial).trans ((if_pos h1).trans ((if_pos h2).trans q)))
theorem pv_take (l : List UInt8) (i : Nat) (h : i < l.length) : pv (l.take (i + 1)) = 10 * pv (l.take i) + ((l[i]).toNat - 48) := by
  rw [List.take_succ_eq_append_getElem h, pv_snoc]
theorem pout_loop {l : List UInt8} (hl : l.length ≤ 590) (hd : l.all isD = true) : ∀ (r f i : Nat) (O : List Int), i + r = l.length → r < f → O.length ≤ i → Dg O → vv O = pv (l.take i) → ∃ (O' : List Int), (F27_l13 600).L f (O.length, BB l, (l.length : Int), (i : Int), cellsI O) = some (O'.length, cellsI O') ∧ O'.length ≤ l.length ∧ Dg O' ∧ vv O' = pv l
  | 0, f, i, O, hi, hf, hO, hg, hv => by
    obtain ⟨f, rfl⟩ : ∃ f', f = f' + 1 := ⟨f - 1, by omega⟩
    obtain rfl : i = l.length := by omega
    rw [List.take_length] at hv
    refine ⟨O, ?_, hO, hg, hv⟩
    show (F27_l13 600).b _ _ ((F27_l13 600).L f) some = _
    generalize (F27_l13 600).L f = Lf
    simp only [F27_l13, decide_eq_false (show ¬ ((l.length : Int) < (l.length : Int)) by omega), cellsI_dat]
  | r + 1, f, i, O, hi, hf, hO, hg, hv => by
    obtain ⟨f, rfl⟩ : ∃ f', f = f' + 1 := ⟨f - 1, by omega⟩
    have hil : i < l.length := by omega
    have hci : isD l[i] = true := List.all_eq_true.1 hd _ (List.getElem_mem hil)
    have ec := dig_val hci
    have hp := pv_take l i hil
    have gs : (BB l)[((i : Int)).toNat]? = some l[i] := by rw [show ((i : Int)).toNat = i by omega, BB_get l i hil]
    have hc9 : (l[i]).toNat - 48 < 10 := by
      simp only [isD, decide_eq_true_eq] at hci; omega
    generalize l[i] = ch at *
    obtain ⟨O1, C1, q, q1, q2, q3, q4⟩ := pin_loop (s := BB l) (n := O.length) (by omega) (l.length : Int) (i : Int) (ch.toNat - 48) O rfl hg O.length 600 0 O (ch.toNat - 48) (by omega) (by omega) rfl hg (by omega) rfl (by simp [vv])
    have q' : F27_d24 600 (BB l, O.length, ((ch.toNat - 48 : Nat) : Int), (l.length : Int), (i : Int), ((O.length : Nat) : Int), 0, cellsI O) = some (BB l, O.length, (C1 : Int), (l.length : Int), (i : Int), cellsI O1) := q
    have h0 : (0 : Int) ≤ (i : Int) := by omega
    by_cases hz : C1 = 0
    · subst hz
      obtain ⟨O', r0, r1, r2, r3⟩ := pout_loop hl hd r f (i + 1) O1 (by omega) (by omega) (by omega) q2 (by
        rw [hp, ← hv]
        rw [Nat.mul_zero, Nat.add_zero] at q4
        exact q4)
      refine ⟨O', ?_, r1, r2, r3⟩
      rw [q1] at r0
      show (F27_l13 600).b _ _ ((F27_l13 600).L f) some = _
      generalize (F27_l13 600).L f = Lf at r0 ⊢
      have e1 : i64 ((i : Int) + 1) = ((i + 1 : Nat) : Int) := by rw [i64_id (by omega)]; omega
      simp only [F27_l13, decide_eq_true (show ((i : Int) < (l.length : Int)) by omega), gs, ec, cellsI_dat, q', decide_eq_false (show ¬ (((0 : Nat) : Int) > 0) by omega), e1]
      exact (if_pos h0).trans r0
    · obtain ⟨O', r0, r1, r2, r3⟩ := pout_loop hl hd r f (i + 1) (O1 ++ [(C1 : Int)]) (by omega) (by omega) (by simp; omega) (q2.app (Dg.one (by omega))) (by
        rw [hp, ← hv, vv_snoc, q1, Int.toNat_natCast]
        exact q4)
      refine ⟨O', ?_, r1, r2, r3⟩
      rw [show (O1 ++ [(C1 : Int)]).length = O.length + 1 by simp [q1]] at r0
      show (F27_l13 600).b _ _ ((F27_l13 600).L f) some = _
      generalize (F27_l13 600).L f = Lf at r0 ⊢
      have e1 : i64 ((i : Int) + 1) = ((i + 1 : Nat) : Int) := by rw [i64_id (by omega)]; omega
      have hs : O.length * 1 ≤ (cellsI O1).length ∧ (O.length + [[AV.v (.int .i64 (C1 : Int))]].length) * 8 ≤ maxBytes := by
        have := room O.length (by omega) (C1 : Int)
        rw [cellsI_len]
        omega
      have e2 : ((cellsI O1).take (O.length * 1) ++ [[AV.v (.int .i64 (C1 : Int))]].flatten).map dat0 = cellsI (O1 ++ [(C1 : Int)]) := by
        rw [Nat.mul_one, List.take_of_length_le (by rw [cellsI_len]; omega)]
        show (cellsI O1 ++ cellsI [(C1 : Int)]).map dat0 = _
        rw [cellsI_app, cellsI_dat]
      simp only [F27_l13, decide_eq_true (show ((i : Int) < (l.length : Int)) by omega), gs, ec, cellsI_dat, q', decide_eq_true (show ((C1 : Int) > 0) by omega), e1, e2]
      exact (if_pos h0).trans ((if_pos hs).trans r0)
/-- A text that is no number's. -/
def badT (l : List UInt8) : Bool := (l == []) || (l.head? == some 48 && !(l == [48])) || !l.all isD
def parseR (l : List UInt8) : List (List AV) × Int := if badT l = true then ([], 3) else limR (pv l)
theorem parse_ok {l : List UInt8} (hl : l.length ≤ 590) : F27_d 600 (BB l) = some (parseR l) := by
  have z0 : (⟨#[]⟩ : ByteArray).toList = [] := by rw [ByteArray.toList_eq]
  have z48 : (⟨#[48]⟩ : ByteArray).toList = [48] := by rw [ByteArray.toList_eq]
  unfold parseR
  match l, hl with
  | [], hl =>
    have c : (([] : List UInt8) == []) = true := rfl
    simp only [F27_d, FSpec.d, F27_s, BB_list, z0, c]
    rfl
  | ch :: rest, hl =>
    have c : ((ch :: rest : List UInt8) == []) = false := rfl
    have g0 : (BB (ch :: rest))[((0 : Int)).toNat]? = some ch := BB_get (ch :: rest) 0 (by simp)
    have hle : (0 : Int) ≤ 0 := by omega
    obtain ⟨m, T, hm⟩ := trimF_ok (ch :: rest) (by omega)
    have sz : ((BB (ch :: rest)).size : Int) = ((ch :: rest).length : Int) := by rw [BB_size]
    have c630 : decide (((ch :: rest).length : Int) > 630) = false := by rw [decide_eq_false_iff_not]; omega
    have fin : (ch :: rest : List UInt8).all isD = true → ∃ y : Nat × List AV, F27_d13 600 (0, BB (ch :: rest), ((ch :: rest).length : Int), 0, ([] : List AV)) = some y ∧ y.1 * 1 ≤ y.2.length ∧ F42_d 600 (chunks (y.2.take (y.1 * 1)) 1 y.1) = some (limR (pv (ch :: rest))) := fun hall => by
      obtain ⟨O, r0, r1, r2, r3⟩ := pout_loop hl hall (ch :: rest).length 600 0 [] (by omega) (by omega) (by simp) Dg.nil rfl
      refine ⟨(O.length, cellsI O), r0, by rw [cellsI_len]; omega, ?_⟩
      rw [chunks_all O _ rfl, lim_ok (by omega) r2, r3]
    by_cases h48 : ch = 48
    · have c48 : ((ch.toNat : Int) == 48) = true := by rw [h48]; rfl
      by_cases hone : (ch :: rest : List UInt8) = [48]
      · have c1 : ((ch :: rest : List UInt8) == [48]) = true := by rw [beq_iff_eq]; exact hone
        have hall : (ch :: rest : List UInt8).all isD = true := by rw [hone]; decide
        have hb : badT (ch :: rest) = false := by
          unfold badT
          rw [c, c1, hall]; simp
        rw [hall] at hm
        obtain ⟨y, y1, y2, y3⟩ := fin hall
        simp only [F27_d, FSpec.d, F27_s, BB_list, z0, z48, c, g0, c48, c1, Bool.not_true, T, hm, sz, c630, y1, y3, hb, Bool.false_eq_true, if_false]
        exact (if_pos hle).trans (if_pos y2)
      · have c1 : ((ch :: rest : List UInt8) == [48]) = false := by rw [beq_eq_false_iff_ne]; exact hone
        have hb : badT (ch :: rest) = true := by
          unfold badT
          rw [c, c1, h48]; simp
        simp only [F27_d, FSpec.d, F27_s, BB_list, z0, z48, c, g0, c48, c1, Bool.not_false, hb, if_true]
        exact if_pos hle
    · have c48 : ((ch.toNat : Int) == 48) = false := by
        rw [beq_eq_false_iff_ne]
        intro e
        apply h48
        apply UInt8.toNat_inj.1
        show ch.toNat = 48
        omega
      cases hall : (ch :: rest : List UInt8).all isD
      · have hb : badT (ch :: rest) = true := by
          unfold badT
          rw [hall]; simp
        rw [hall] at hm
        simp only [F27_d, FSpec.d, F27_s, BB_list, z0, z48, c, g0, c48, T, hm, Bool.not_false, hb, if_true]
        exact if_pos hle
      · have hb : badT (ch :: rest) = false := by
          unfold badT
          rw [c, hall]
          simp [h48]
        rw [hall] at hm
        obtain ⟨y, y1, y2, y3⟩ := fin hall
        simp only [F27_d, FSpec.d, F27_s, BB_list, z0, z48, c, g0, c48, T, hm, Bool.not_true, sz, c630, y1, y3, hb, Bool.false_eq_true, if_false]
        exact (if_pos hle).trans (if_pos y2)
theorem bad_dec (V : Nat) : badT (Lib.decDigits V) = false := by
  have hall : (Lib.decDigits V).all isD = true := List.all_eq_true.2 (dec_isD V)
  rcases Nat.eq_zero_or_pos V with h | h
  · subst h
    rw [show Lib.decDigits 0 = [48] by rw [Lib.decDigits_one (by omega)]; rfl]
    rfl
  · obtain ⟨c, r, e, hc⟩ := dec_head h
    unfold badT
    rw [hall, e]
    simp [hc]
theorem parse_dec {V : Nat} (h : V < Bs ^ 64) : F27_d 600 (BB (Lib.decDigits V)) = some (rowsI (nf V), 0) := by
  have hdl : (Lib.decDigits V).length ≤ 580 := by
    obtain ⟨k, k1, k2⟩ := bs_dec
    have := dec_short (Nat.lt_of_lt_of_le h k2)
    omega
  rw [parse_ok (by omega)]
  unfold parseR limR
  rw [bad_dec, pv_dec, if_neg (by simp), if_pos h]
end Go.Proofs.YtlpebecbipjoaaaGreatDoor
