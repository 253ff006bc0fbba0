/- Natural numbers, the plain law: Text and Parse, without memory. -/
import Derived.Test.YtlpebecbipjoaaaGreatDoorNaE
namespace Go.Proofs.YtlpebecbipjoaaaGreatDoor
set_option linter.unusedVariables false
set_option linter.unusedSimpArgs false
set_option linter.unnecessarySimpa false
/-- A string of bytes. -/
def BB (l : List UInt8) : ByteArray := ⟨l.toArray⟩
theorem BB_size (l : List UInt8) : (BB l).size = l.length := by show l.toArray.size = _; simp
theorem BB_list (l : List UInt8) : (BB l).toList = l := by rw [ByteArray.toList_eq]; simp [BB]
theorem BB_data (l : List UInt8) : (BB l).data.toList = l := by simp [BB]
theorem BB_app (a b : List UInt8) : BB a ++ BB b = BB (a ++ b) := by
  apply ByteArray.ext
  simp [BB, ByteArray.data_append]
theorem BB_get (l : List UInt8) (i : Nat) (h : i < l.length) : (BB l)[i]? = some l[i] := by
  have hs : i < (BB l).size := by rw [BB_size]; exact h
  rw [getElem?_pos (BB l) i hs]
  congr 1
def celS (ls : List (List UInt8)) : List AV := ls.map fun s => AV.v (.string (BB s))
def rowsS (ls : List (List UInt8)) : List (List AV) := ls.map fun s => [AV.v (.string (BB s))]
theorem celS_len (ls : List (List UInt8)) : (celS ls).length = ls.length := by simp [celS]
theorem celS_dat (ls : List (List UInt8)) : (celS ls).map dat0 = celS ls := by
  simp only [celS, List.map_map]
  rfl
theorem celS_snoc (ls : List (List UInt8)) (s : List UInt8) : celS ls ++ [AV.v (.string (BB s))] = celS (ls ++ [s]) := by simp [celS]
theorem chunksS : ∀ ls : List (List UInt8), chunks (celS ls) 1 ls.length = rowsS ls
  | [] => rfl
  | a :: r => by
    have q := chunksS r
    show _ :: chunks (celS r) 1 r.length = _
    rw [q]; rfl
theorem rowsS_strs : ∀ ls : List (List UInt8), strsOf (rowsS ls) = some (ls.map BB)
  | [] => rfl
  | a :: r => by
    show (match strsOf (rowsS r) with | some l => some (BB a :: l) | none => none) = _
    rw [rowsS_strs r]; rfl
theorem rev_loop : ∀ (m f : Nat) (P M S : List (List UInt8)), M.length ≤ m → m < f → P.length + M.length + S.length ≤ 10000 → (F54_l2 600).L f (P.length + M.length + S.length, (P.length : Int), ((P.length + M.length : Nat) : Int) - 1, celS (P ++ M ++ S)) = some (celS (P ++ M.reverse ++ S))
  | m, f, P, M, S, hm, hf, hl => by
    obtain ⟨f, rfl⟩ : ∃ f', f = f' + 1 := ⟨f - 1, by omega⟩
    by_cases h1 : M.length ≤ 1
    · have hr : M.reverse = M := by
        match M, h1 with
        | [], _ => rfl
        | [x], _ => rfl
      rw [hr]
      show (F54_l2 600).b _ _ ((F54_l2 600).L f) some = _
      generalize (F54_l2 600).L f = Lf
      simp only [F54_l2, decide_eq_false (show ¬ ((P.length : Int) < ((P.length + M.length : Nat) : Int) - 1) by omega), celS_dat]
    · obtain ⟨x, M1, rfl⟩ : ∃ x M1, M = x :: M1 := by
        cases M with
        | nil => simp at h1
        | cons x r => exact ⟨x, r, rfl⟩
      obtain ⟨k, hk⟩ : ∃ k, M1.length = k + 1 := ⟨M1.length - 1, by rw [List.length_cons] at h1; omega⟩
      obtain ⟨M2, y, rfl, hy⟩ : ∃ ys y, M1 = ys ++ [y] ∧ ys.length = k := by
        have hne : M1 ≠ [] := by intro e; subst e; simp at hk
        exact ⟨M1.dropLast, M1.getLast hne, (List.dropLast_concat_getLast hne).symm, by simp [hk]⟩
      match m, hm with
      | m + 1, hm =>
      have hM : (x :: (M2 ++ [y])).length = k + 2 := by simp [hy]
      have r := rev_loop m f (P ++ [y]) M2 ([x] ++ S) (by rw [hM] at hm; omega) (by omega) (by simp [hy] at hl ⊢; omega)
      have eL : (P ++ [y]).length + M2.length + ([x] ++ S).length = P.length + (x :: (M2 ++ [y])).length + S.length := by simp; omega
      have eP : (((P ++ [y]).length : Nat) : Int) = (P.length : Int) + 1 := by simp
      have eJ : (((P ++ [y]).length + M2.length : Nat) : Int) - 1 = (P.length : Int) + k := by simp [hy]; omega
      rw [eL, eP, eJ] at r
      have eR : P ++ [y] ++ M2.reverse ++ ([x] ++ S) = P ++ (x :: (M2 ++ [y])).reverse ++ S := by simp
      rw [eR] at r
      have hj : ((P.length + (x :: (M2 ++ [y])).length : Nat) : Int) - 1 = ((P.length + k + 1 : Nat) : Int) := by rw [hM]; omega
      rw [hj]
      have hn : P.length + (x :: (M2 ++ [y])).length + S.length = P.length + k + 2 + S.length := by rw [hM]; omega
      have gi : (celS (P ++ (x :: (M2 ++ [y])) ++ S))[P.length]? = some (AV.v (.string (BB x))) := by simp [celS]
      have gj : (celS (P ++ (x :: (M2 ++ [y])) ++ S))[P.length + k + 1]? = some (AV.v (.string (BB y))) := by
        have : (P ++ (x :: (M2 ++ [y])) ++ S)[P.length + k + 1]? = some y := by
          rw [List.append_assoc, List.getElem?_append_right (by omega), show P.length + k + 1 - P.length = k + 1 by omega, List.cons_append, List.getElem?_cons_succ, List.append_assoc, List.getElem?_append_right (by omega), hy, Nat.sub_self]
          rfl
        unfold celS
        rw [List.getElem?_map, this]; rfl
      have eset : ((celS (P ++ (x :: (M2 ++ [y])) ++ S)).set P.length (AV.v (.string (BB y)))).set (P.length + k + 1) (AV.v (.string (BB x))) = celS ((P ++ [y]) ++ M2 ++ ([x] ++ S)) := by
        have e1 : (P ++ (x :: (M2 ++ [y])) ++ S).set P.length y = P ++ (y :: (M2 ++ [y])) ++ S := by
          rw [List.append_assoc, List.set_append_right _ _ (by omega), Nat.sub_self]; simp
        have e2 : (P ++ (y :: (M2 ++ [y])) ++ S).set (P.length + k + 1) x = (P ++ [y]) ++ M2 ++ ([x] ++ S) := by
          rw [List.append_assoc, List.set_append_right _ _ (by omega), show P.length + k + 1 - P.length = k + 1 by omega, List.cons_append, List.set_cons_succ, List.append_assoc, List.set_append_right _ _ (by omega), hy, Nat.sub_self]
          simp
        unfold celS
        rw [← List.map_set (f := fun s => AV.v (.string (BB s))), ← List.map_set (f := fun s => AV.v (.string (BB s))), e1, e2]
      show (F54_l2 600).b _ _ ((F54_l2 600).L f) some = _
      generalize (F54_l2 600).L f = Lf at r ⊢
      rw [hn] at r ⊢
      have c1 : decide ((P.length : Int) < ((P.length + k + 1 : Nat) : Int)) = true := by rw [decide_eq_true_iff]; omega
      have g1 : ((0 + (((P.length + k + 1 : Nat) : Int)).toNat) * 1) = P.length + k + 1 := by omega
      have g2 : ((0 + ((P.length : Int)).toNat) * 1) = P.length := by omega
      have i1 : i64 ((P.length : Int) + 1) = (P.length : Int) + 1 := i64_id (by omega)
      have i2 : i64 (((P.length + k + 1 : Nat) : Int) - 1) = (P.length : Int) + k := by rw [i64_id (by omega)]; omega
      have h1 : (0 : Int) ≤ ((P.length + k + 1 : Nat) : Int) ∧ ((P.length + k + 1 : Nat) : Int) < ((P.length + k + 2 + S.length : Nat) : Int) := by omega
      have h2 : (0 : Int) ≤ (P.length : Int) ∧ (P.length : Int) < ((P.length + k + 2 + S.length : Nat) : Int) := by omega
      have h3 : P.length + 1 ≤ (celS (P ++ (x :: (M2 ++ [y])) ++ S)).length := by rw [celS_len]; simp <;> omega
      have h4 : P.length + k + 1 + 1 ≤ ((celS (P ++ (x :: (M2 ++ [y])) ++ S)).set P.length (AV.v (.string (BB y)))).length := by rw [List.length_set, celS_len]; simp; omega
      simp only [F54_l2, c1, g1, g2, gi, gj, eset, celS_dat, i1, i2]
      exact (if_pos h1).trans ((if_pos h2).trans ((if_pos h2).trans ((if_pos h3).trans ((if_pos h1).trans ((if_pos h4).trans r)))))
theorem rev_ok (ls : List (List UInt8)) (h : ls.length ≤ 500) : F54_d 600 (ls.length, celS ls) = some (celS ls.reverse) := by
  have e : i64 (((ls.length : Nat) : Int) - 1) = ((0 + ls.length : Nat) : Int) - 1 := by rw [i64_id (by omega)]; omega
  have r := rev_loop 599 600 [] ls [] (by omega) (by omega) (by
    have e0 : ([] : List (List UInt8)).length = 0 := rfl
    omega)
  simp only [List.length_nil, Nat.zero_add, Nat.add_zero, List.nil_append, List.append_nil] at r
  have L : F54_d2 600 (ls.length, 0, ((ls.length : Nat) : Int) - 1, celS ls) = some (celS ls.reverse) := r
  rw [Nat.zero_add] at e
  simp only [F54_d, FSpec.d, F54_s, e, celS_dat, L]
theorem dg_zero {n w : Nat} (h : n < 10 ^ w) : Lib.dg n w = 48 := by
  unfold Lib.dg
  rw [Nat.div_eq_of_lt h]
  rfl
theorem pad_rep (n : Nat) : ∀ c w : Nat, n < 10 ^ w → pad (c + w) n = Lib.repeatL [48] c ++ pad w n
  | 0, w, h => by rw [Nat.zero_add]; rfl
  | c + 1, w, h => by
    have h2 : n < 10 ^ (c + w) := Nat.lt_of_lt_of_le h (Nat.pow_le_pow_right (by omega) (by omega))
    rw [show c + 1 + w = (c + w) + 1 by omega, pad_succ, dg_zero h2, pad_rep n c w h]
    rfl
theorem nDig9 {n : Nat} (h : n < 1000000000) : Lib.nDigits n ≤ 9 := by
  have : ∀ (w n : Nat), n < 10 ^ (w + 1) → Lib.nDigits n ≤ w + 1 := by
    intro w
    induction w with
    | zero => intro n h; rw [Lib.nDigits_small (by simpa using h)]; omega
    | succ w ih =>
      intro n h
      by_cases h1 : n < 10
      · rw [Lib.nDigits_small h1]; omega
      · rw [Lib.nDigits_big h1]
        have := ih (n / 10) (by rw [Nat.pow_succ] at h; omega)
        omega
  exact this 8 n h
theorem itoa_ok {n : Nat} (h : (n : Int) ≤ 9223372036854775807) : F52_d 600 (n : Int) = some (BB (Lib.decDigits n)) := by
  show (if -9223372036854775808 ≤ (n : Int) ∧ (n : Int) ≤ 9223372036854775807 then some (⟨(Lib.itoa n).toArray⟩ : ByteArray) else none) = _
  have : Lib.itoa (n : Int) = Lib.decDigits n := by unfold Lib.itoa; rw [if_neg (by omega)]; simp
  rw [if_pos (by omega), this]
  rfl
theorem rep_ok {c : Nat} (h : c ≤ 100) : F53_d 600 ((⟨#[48]⟩ : ByteArray), (c : Int)) = some (BB (Lib.repeatL [48] c)) := by
  show (if 0 ≤ (c : Int) ∧ (c : Int) ≤ 9223372036854775807 ∧ (⟨#[48]⟩ : ByteArray).size * ((c : Int)).toNat ≤ 140737488355328 then some (⟨(Lib.repeatL (⟨#[48]⟩ : ByteArray).data.toList ((c : Int)).toNat).toArray⟩ : ByteArray) else none) = _
  have e : (⟨#[48]⟩ : ByteArray).size = 1 := rfl
  rw [if_pos ⟨by omega, by omega, by rw [e]; omega⟩, Int.toNat_natCast]
  rfl
theorem text_loop : ∀ (k f Q r : Nat) (ls : List (List UInt8)), Q < 1000000000 ^ k → k < f → (nf Q).length ≤ 64 → r < 1000000000 → ls.length + k ≤ 400 → ∃ ls', (F23_l9 600).L f (ls.length, rowsI (nf Q), (r : Int), celS ls) = some (ls'.length, celS ls') ∧ ls'.reverse.flatten = Lib.decDigits (Q * 1000000000 + r) ++ ls.reverse.flatten ∧ ls'.length ≤ ls.length + k + 1
  | k, f, Q, r, ls, hQ, hf, h64, hr, hl => by
    obtain ⟨f, rfl⟩ : ∃ f', f = f' + 1 := ⟨f - 1, by omega⟩
    have I := itoa_ok (n := r) (by omega)
    have hm : 100000 ≤ maxBytes := by decide
    by_cases h0 : Q = 0
    · subst h0
      refine ⟨ls ++ [Lib.decDigits r], ?_, by simp, by simp⟩
      show (F23_l9 600).b _ _ ((F23_l9 600).L f) some = _
      generalize (F23_l9 600).L f = Lf
      have hs : ls.length * 1 ≤ (celS ls).length ∧ (ls.length + [[AV.v (.string (BB (Lib.decDigits r)))]].length) * 16 ≤ maxBytes := by
        rw [celS_len]; simp; omega
      have c : (((nf 0).length : Int) == 0) = true := by rw [nf_zero]; rfl
      have e : ((celS ls).take (ls.length * 1) ++ [[AV.v (.string (BB (Lib.decDigits r)))]].flatten).map dat0 = celS (ls ++ [Lib.decDigits r]) := by
        rw [Nat.mul_one, List.take_of_length_le (by rw [celS_len]; omega)]
        show (celS ls ++ [AV.v (.string (BB (Lib.decDigits r)))]).map dat0 = _
        rw [celS_snoc, celS_dat]
      simp only [F23_l9, I, rowsI_len, c, e]
      refine (if_pos hs).trans ?_
      simp
    · match k, hQ with
      | 0, hQ => simp at hQ; omega
      | k + 1, hQ =>
      have hn9 := nDig9 hr
      have hpos := Lib.nDigits_pos r
      have hsz : (BB (Lib.decDigits r)).size = Lib.nDigits r := by rw [BB_size, Lib.decDigits_length]
      have hp : Lib.repeatL [48] (9 - Lib.nDigits r) ++ Lib.decDigits r = pad 9 r := by
        rw [dec_pad, ← pad_rep r (9 - Lib.nDigits r) (Lib.nDigits r) (Lib.lt_pow_nDigits r)]
        congr 1; omega
      have hpl : (Lib.repeatL [48] (9 - Lib.nDigits r)).length = 9 - Lib.nDigits r := by rw [Lib.repeatL_length]; simp
      have hmod : Q % 1000000000 < 1000000000 := Nat.mod_lt _ (by decide)
      have hlen : (nf (Q / 1000000000)).length ≤ 64 := (nf_len 64 _).2 (by
        have := (nf_len 64 Q).1 h64
        exact Nat.lt_of_le_of_lt (Nat.div_le_self ..) this)
      obtain ⟨ls', q, q1, q2⟩ := text_loop k f (Q / 1000000000) (Q % 1000000000) (ls ++ [pad 9 r]) (by
        rw [Nat.pow_succ] at hQ
        rw [Nat.div_lt_iff_lt_mul (by decide)]; exact hQ) (by omega) hlen hmod (by simp; omega)
      refine ⟨ls', ?_, ?_, by simp at q2; omega⟩
      · rw [show (ls ++ [pad 9 r]).length = ls.length + 1 by simp] at q
        show (F23_l9 600).b _ _ ((F23_l9 600).L f) some = _
        generalize (F23_l9 600).L f = Lf at q ⊢
        have c : (((nf Q).length : Int) == 0) = false := by
          rw [beq_eq_false_iff_ne, nf_pos h0]; simp; omega
        have e9 : i64 (9 - (Lib.nDigits r : Int)) = ((9 - Lib.nDigits r : Nat) : Int) := by rw [i64_id (by omega)]; omega
        have R := rep_ok (c := 9 - Lib.nDigits r) (by omega)
        have D := div_ok (nf_dg Q) (by omega) (show (1 : Int) ≤ 1000000000 ∧ (1000000000 : Int) ≤ 1073741824 by omega)
        rw [vv_nf] at D
        rw [show ((1000000000 : Int)).toNat = 1000000000 from rfl] at D
        have hs1 : (BB (Lib.repeatL [48] (9 - Lib.nDigits r))).size + Lib.nDigits r ≤ 9223372036854775807 := by rw [BB_size, hpl]; omega
        have hs : ls.length * 1 ≤ (celS ls).length ∧ (ls.length + [[AV.v (.string (BB (pad 9 r)))]].length) * 16 ≤ maxBytes := by
          rw [celS_len]; simp; omega
        have e : ((celS ls).take (ls.length * 1) ++ [[AV.v (.string (BB (pad 9 r)))]].flatten).map dat0 = celS (ls ++ [pad 9 r]) := by
          rw [Nat.mul_one, List.take_of_length_le (by rw [celS_len]; omega)]
          show (celS ls ++ [AV.v (.string (BB (pad 9 r)))]).map dat0 = _
          rw [celS_snoc, celS_dat]
        simp only [F23_l9, I, rowsI_len, c, hsz, e9, R, BB_app, hp, D, e]
        exact (if_pos hs1).trans ((if_pos hs).trans q)
      · rw [q1]
        have e1 : Q / 1000000000 * 1000000000 + Q % 1000000000 = Q := by rw [Nat.mul_comm]; exact Nat.div_add_mod Q 1000000000
        rw [e1]
        have e2 := dec_split Q r 9 (by omega) hr
        rw [show (10 : Nat) ^ 9 = 1000000000 from rfl] at e2
        rw [e2]
        simp
theorem bs_ten : Bs ^ 64 ≤ 1000000000 ^ 65 := by decide
theorem join_flat (ls : List (List UInt8)) : Lib.join ls [] = ls.flatten := by
  cases ls with
  | nil => rfl
  | cons x r => rw [Lib.join_cons]; simp [Lib.joinTail]
theorem dec_short {V k : Nat} (h : V < 10 ^ (k + 1)) : (Lib.decDigits V).length ≤ k + 1 := by
  rw [Lib.decDigits_length]
  have : ∀ (w n : Nat), n < 10 ^ (w + 1) → Lib.nDigits n ≤ w + 1 := by
    intro w
    induction w with
    | zero => intro n h; rw [Lib.nDigits_small (by simpa using h)]; omega
    | succ w ih =>
      intro n h
      by_cases h1 : n < 10
      · rw [Lib.nDigits_small h1]; omega
      · rw [Lib.nDigits_big h1]
        have := ih (n / 10) (by rw [Nat.pow_succ] at h; omega)
        omega
  exact this k V h
theorem bs_dec : ∃ k, k ≤ 579 ∧ Bs ^ 64 ≤ 10 ^ (k + 1) := by
  obtain ⟨a, ha⟩ : ∃ a : Nat, a = 145 := ⟨_, rfl⟩
  obtain ⟨b, hb⟩ : ∃ b : Nat, b = 4 := ⟨_, rfl⟩
  have hm : a * b = 580 := by rw [ha, hb]
  refine ⟨a * b - 1, by omega, ?_⟩
  rw [Nat.sub_add_cancel (by omega), Nat.pow_mul, ha, hb]
  decide
theorem text_ok {a : List Int} (ha : VN a) : F23_d 600 (rowsI a) = some (BB (Lib.decDigits (vv a)), 0) := by
  have hlt := ha.lt
  have h1 := ha.1
  have D := div_ok ha.2.1 (by omega) (show (1 : Int) ≤ 1000000000 ∧ (1000000000 : Int) ≤ 1073741824 by omega)
  rw [show ((1000000000 : Int)).toNat = 1000000000 from rfl] at D
  have hq : vv a / 1000000000 < 1000000000 ^ 65 := Nat.lt_of_le_of_lt (Nat.div_le_self ..) (Nat.lt_of_lt_of_le hlt bs_ten)
  obtain ⟨ls, q, q1, q2⟩ := text_loop 65 600 (vv a / 1000000000) (vv a % 1000000000) [] hq (by omega) ((nf_len 64 _).2 (Nat.lt_of_le_of_lt (Nat.div_le_self ..) hlt)) (Nat.mod_lt _ (by decide)) (by simp)
  rw [Nat.mul_comm, Nat.div_add_mod, List.reverse_nil, List.flatten_nil, List.append_nil] at q1
  have L : F23_d9 600 (0, rowsI (nf (vv a / 1000000000)), ((vv a % 1000000000 : Nat) : Int), ([] : List AV)) = some (ls.length, celS ls) := q
  have hls : ls.length ≤ 66 := by simpa using q2
  have R := rev_ok ls (by omega)
  have hc : chunks ((celS ls.reverse).take (ls.length * 1)) 1 ls.length = rowsS ls.reverse := by
    rw [Nat.mul_one, List.take_of_length_le (by rw [celS_len]; simp)]
    have := chunksS ls.reverse
    rw [List.length_reverse] at this
    exact this
  have hdl : (Lib.decDigits (vv a)).length ≤ 580 := by
    obtain ⟨k, k1, k2⟩ := bs_dec
    have := dec_short (Nat.lt_of_lt_of_le hlt k2)
    omega
  have J : F55_d 600 (rowsS ls.reverse, (⟨#[]⟩ : ByteArray)) = some (BB (Lib.decDigits (vv a))) := by
    show (match strsOf (rowsS ls.reverse) with | some l => (if l.length ≤ 140737488355328 ∧ (Lib.join (l.map (fun x : ByteArray => x.data.toList)) (⟨#[]⟩ : ByteArray).data.toList).length ≤ 140737488355328 then some (⟨(Lib.join (l.map (fun x : ByteArray => x.data.toList)) (⟨#[]⟩ : ByteArray).data.toList).toArray⟩ : ByteArray) else none) | none => none) = _
    rw [rowsS_strs]
    have em : ((ls.reverse.map BB).map (fun x : ByteArray => x.data.toList)) = ls.reverse := by
      rw [List.map_map]
      have : ((fun x : ByteArray => x.data.toList) ∘ BB) = id := by funext x; exact BB_data x
      rw [this, List.map_id]
    show (if (ls.reverse.map BB).length ≤ 140737488355328 ∧ (Lib.join ((ls.reverse.map BB).map (fun x : ByteArray => x.data.toList)) []).length ≤ 140737488355328 then some (⟨(Lib.join ((ls.reverse.map BB).map (fun x : ByteArray => x.data.toList)) []).toArray⟩ : ByteArray) else none) = _
    rw [em, join_flat, q1, if_pos ⟨by simp; omega, by omega⟩]
    rfl
  have h2 : ls.length * 1 ≤ (celS ls.reverse).length := by rw [celS_len]; simp
  simp only [F23_d, FSpec.d, F23_s, valid_ok ha, Bool.not_true, D, L, celS_dat, R, hc, J]
  exact if_pos h2
end Go.Proofs.YtlpebecbipjoaaaGreatDoor
