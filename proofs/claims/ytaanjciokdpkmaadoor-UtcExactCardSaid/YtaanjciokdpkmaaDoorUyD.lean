/- Several texts as one (written by merge.py): UtR UtS UxA UxB UxC UxD UxE UxF UxG. -/
import Derived.Test.YtaanjciokdpkmaaDoorUyA
import Derived.Test.YtaanjciokdpkmaaDoorUyB
import Derived.Test.YtaanjciokdpkmaaDoorUyC
import Derived.WalkKit
import Derived.ProofKit
import Derived.OpenShut
import Derived.Lib.SmallJoins
import Derived.Test.YtaanjciokdpkmaaDoorLeaf
/- Utc, the plain law: times are found again (UtcBack). -/
namespace Go.Proofs.YtaanjciokdpkmaaDoor
open Go.RowKit
set_option linter.unusedVariables false
set_option linter.unusedSimpArgs false
set_option linter.unnecessarySimpa false
theorem fmt_civ {ds : List Int} (G : Good ds) {t : Int} (h : 0 ≤ t ∧ t ≤ 9007199254740992) {p : Nat} {b : Bool} (S : Spot ds (t / 1000000) p b) (c : Int) (hc : c = t / 1000000 - p - (if b = true then 1 else 0)) : ∃ y m d hh mm ss us : Nat, F16_d 600 (rowsI (lp ds), t) = some (fmtB y m d hh mm ss us, 0) ∧ F18_d 600 (rowsI (lp ds), t) = some ((y : Int), (m : Int), (d : Int), (hh : Int), (mm : Int), (ss : Int), (us : Int), 0) ∧ (y < 10000 ∧ m < 100 ∧ d < 100 ∧ hh < 100 ∧ mm < 100 ∧ ss < 100 ∧ us < 1000000) ∧ valD y m d ∧ fst y + sm y ((m : Int) - 1).toNat + d - 1 = c / 86400 ∧ (hh : Int) = c % 86400 / 3600 ∧ (mm : Int) = c / 60 % 60 ∧ (ss : Int) = (if b = true then 60 else c % 60) ∧ (us : Int) = t % 1000000 := by
  obtain ⟨p', b', y, m, d, S', v, e, g, r⟩ := civil_ok G h
  obtain ⟨rfl, rfl⟩ := S.uniq S'
  have hb := (S.base G (by omega)).1
  rw [← hc] at r e hb
  have v' := v
  obtain ⟨v1, v2, v3, v4, v5, v6⟩ := v'
  have hl := lenM_rng y m
  obtain ⟨y, rfl⟩ := Int.eq_ofNat_of_zero_le (show 0 ≤ y by omega)
  obtain ⟨m, rfl⟩ := Int.eq_ofNat_of_zero_le (show 0 ≤ m by omega)
  obtain ⟨d, rfl⟩ := Int.eq_ofNat_of_zero_le (show 0 ≤ d by omega)
  obtain ⟨hh, h1⟩ := Int.eq_ofNat_of_zero_le (show 0 ≤ c % 86400 / 3600 by omega)
  obtain ⟨mm, h2⟩ := Int.eq_ofNat_of_zero_le (show 0 ≤ c / 60 % 60 by omega)
  obtain ⟨us, h4⟩ := Int.eq_ofNat_of_zero_le (show 0 ≤ t % 1000000 by omega)
  have es : (if b = true then 60 else (t / 1000000 - (p : Int)) % 60) = (if b = true then 60 else c % 60) := by
    cases b
    · simp at hc; simp [hc]
    · rfl
  rw [es] at r
  obtain ⟨ss, h3⟩ := Int.eq_ofNat_of_zero_le (show 0 ≤ (if b = true then 60 else c % 60) by split <;> omega)
  have h3' : (if b = true then 60 else c % 60) ≤ 60 := by split <;> omega
  rw [h1, h2, h3, h4] at r
  have bd : y < 10000 ∧ m < 100 ∧ d < 100 ∧ hh < 100 ∧ mm < 100 ∧ ss < 100 ∧ us < 1000000 := by omega
  exact ⟨y, m, d, hh, mm, ss, us, format_ok r bd, r, bd, v, e, h1.symm, h2.symm, h3.symm, h4.symm⟩
/-- The leap seconds up to a second are counted. -/
theorem from_loop {ds : List Int} (G : Good ds) {s : Int} {m : Nat} (hm : m ≤ (lp ds).length) (hin : ∀ q (h : q < (lp ds).length), q < m → (lp ds)[q] - (q : Int) ≤ s) (hout : ∀ h : m < (lp ds).length, s < (lp ds)[m] - (m : Int)) (r : Int × Int × Int × Int × Int × Int × Int) : ∀ (k f i : Nat), i + k = m → k < f → (F23_l14 600).L f (rowsI (lp ds), s, (i : Int), r) = some (rowsI (lp ds), s, (m : Int), r)
  | 0, f, i, hk, hf => by
    have hl := G.len
    rw [← lp_len] at hl
    obtain ⟨f, rfl⟩ : ∃ f', f = f' + 1 := ⟨f - 1, by omega⟩
    obtain rfl : i = m := by omega
    show (F23_l14 600).b _ _ ((F23_l14 600).L f) some = _
    generalize (F23_l14 600).L f = Lf
    by_cases hlt : i < (lp ds).length
    · have h1 := hout hlt
      obtain ⟨d, d1, d2, d3, d4⟩ := Good.at ds G i hlt
      have hr := rowsI_get (lp ds) i hlt
      have e1 : i64 ((lp ds)[i] - (i : Int)) = (lp ds)[i] - (i : Int) := i64_id (by omega)
      simp only [F23_l14, rowsI_len, decide_eq_true (show (i : Int) < ((lp ds).length : Int) by omega), show (0 : Int) ≤ (i : Int) by omega, if_true, Int.toNat_natCast, hr, List.getElem?_cons_zero, e1, decide_eq_false (show ¬ (lp ds)[i] - (i : Int) ≤ s by omega)]
    · simp only [F23_l14, rowsI_len, decide_eq_false (show ¬ (i : Int) < ((lp ds).length : Int) by omega)]
  | k + 1, f, i, hk, hf => by
    have hl := G.len
    rw [← lp_len] at hl
    obtain ⟨f, rfl⟩ : ∃ f', f = f' + 1 := ⟨f - 1, by omega⟩
    have ih := from_loop G hm hin hout r k f (i + 1) (by omega) (by omega)
    show (F23_l14 600).b _ _ ((F23_l14 600).L f) some = _
    generalize (F23_l14 600).L f = Lf at ih ⊢
    have hlt : i < (lp ds).length := by omega
    have h1 := hin i hlt (by omega)
    obtain ⟨d, d1, d2, d3, d4⟩ := Good.at ds G i hlt
    have hr := rowsI_get (lp ds) i hlt
    have e1 : i64 ((lp ds)[i] - (i : Int)) = (lp ds)[i] - (i : Int) := i64_id (by omega)
    have e2 : i64 ((i : Int) + 1) = ((i + 1 : Nat) : Int) := by rw [i64_id (by omega)]; omega
    simp only [F23_l14, rowsI_len, decide_eq_true (show (i : Int) < ((lp ds).length : Int) by omega), show (0 : Int) ≤ (i : Int) by omega, if_true, Int.toNat_natCast, hr, List.getElem?_cons_zero, e1, decide_eq_true h1, e2]
    exact ih
theorem days_val {y m d : Int} (v : valD y m d) : F8_d 600 (y, m, d) = some (fst y + sm y (m - 1).toNat + d - 1, true) := by
  rw [days_ok]
  unfold dayOf
  rw [if_pos v]
/-- A civil time leads back to its time. -/
theorem from_ok {ds : List Int} (G : Good ds) {t : Int} (h : 0 ≤ t ∧ t ≤ 9007199254740992) {p : Nat} {b : Bool} (S : Spot ds (t / 1000000) p b) {c : Int} (hc : c = t / 1000000 - p - (if b = true then 1 else 0)) {y m d hh mm ss us : Int} (v : valD y m d) (e : fst y + sm y (m - 1).toNat + d - 1 = c / 86400) (h1 : hh = c % 86400 / 3600) (h2 : mm = c / 60 % 60) (h3 : ss = if b = true then 60 else c % 60) (h4 : us = t % 1000000) : F23_d 600 (rowsI (lp ds), y, m, d, hh, mm, ss, us) = some (t, 0) := by
  have hb := (S.base G (by omega))
  rw [← hc] at hb
  have hl := G.len
  rw [← lp_len] at hl
  have hp := S.le
  obtain ⟨x, hx⟩ : ∃ x, t / 1000000 = x := ⟨_, rfl⟩
  rw [hx] at S hc
  have D := days_val v
  rw [e] at D
  have hcu : c ≤ 9007199255 := by split at hc <;> omega
  have e0 : i64 (c / 86400 * 86400) = c / 86400 * 86400 := i64_id (by omega)
  have e1 : i64 (hh * 3600) = hh * 3600 := i64_id (by omega)
  have e2 : i64 (c / 86400 * 86400 + hh * 3600) = c / 86400 * 86400 + hh * 3600 := i64_id (by omega)
  have e3 : i64 (mm * 60) = mm * 60 := i64_id (by omega)
  have e4 : i64 (c / 86400 * 86400 + hh * 3600 + mm * 60) = c / 86400 * 86400 + hh * 3600 + mm * 60 := i64_id (by omega)
  have hss : 0 ≤ ss ∧ ss ≤ 60 := by split at h3 <;> omega
  have I1 : F34_d 600 (hh, 0, 23) = some true := by rw [in_ok, decide_eq_true (by omega)]
  have I2 : F34_d 600 (mm, 0, 59) = some true := by rw [in_ok, decide_eq_true (by omega)]
  have I3 : F34_d 600 (ss, 0, 60) = some true := by rw [in_ok, decide_eq_true hss]
  have I4 : F34_d 600 (us, 0, 999999) = some true := by rw [in_ok, decide_eq_true (by omega)]
  cases b
  · simp only [Bool.false_eq_true, if_false] at hc h3
    have e5 : i64 (c / 86400 * 86400 + hh * 3600 + mm * 60 + ss) = c := by rw [i64_id (by omega)]; omega
    have L : F23_d14 600 (rowsI (lp ds), c, 0, y, m, d, hh, mm, ss, us) = some (rowsI (lp ds), c, (p : Int), y, m, d, hh, mm, ss, us) := from_loop G hp (fun q hq hqp => by
      have r1 := S.lt q hq hqp
      by_cases hqe : q = p - 1
      · omega
      · have hp1 : p - 1 < (lp ds).length := by omega
        have r2 := S.lt (p - 1) hp1 (by omega)
        have r3 := lp_inc G (show q < p - 1 by omega) hp1
        omega) (fun hq => by
      have r1 := S.ge p hq (Nat.le_refl _)
      have r2 : (lp ds)[p] ≠ x := fun e => by
        have := S.on.2 ⟨hq, e⟩
        cases this
      omega) (y, m, d, hh, mm, ss, us) p 600 0 (by omega) (by omega)
    have e6 : i64 (c + (p : Int)) = c + p := i64_id (by omega)
    have e7 : i64 ((c + (p : Int)) * 1000000) = (c + p) * 1000000 := i64_id (by omega)
    have e8 : i64 ((c + (p : Int)) * 1000000 + us) = t := by rw [i64_id (by omega)]; omega
    have z : (ss == 60) = false := by simp; omega
    simp only [F23_d, FSpec.d, F23_s, valid_ok G, Bool.not_true, D, I1, I2, I3, I4, e0, e1, e2, e3, e4, e5, L, z, e6, e7, e8, decide_eq_false (show ¬ t > 9007199254740992 by omega)]
  · simp only [if_true] at hc h3
    subst h3
    obtain ⟨hj, ej⟩ := S.on.1 rfl
    have ed := S.edge G
    have e5 : i64 (c / 86400 * 86400 + hh * 3600 + mm * 60 + 60) = c + 1 := by rw [i64_id (by omega)]; omega
    have L : F23_d14 600 (rowsI (lp ds), c + 1, 0, y, m, d, hh, mm, 60, us) = some (rowsI (lp ds), c + 1, ((p + 1 : Nat) : Int), y, m, d, hh, mm, 60, us) := from_loop G (by omega) (fun q hq hqp => by
      by_cases hqe : q = p
      · subst hqe; omega
      · have r3 := lp_inc G (show q < p by omega) hj
        omega) (fun hq => by
      have r3 := lp_inc G (show p < p + 1 by omega) hq
      omega) (y, m, d, hh, mm, 60, us) (p + 1) 600 0 (by omega) (by omega)
    have hr := rowsI_get (lp ds) p hj
    have e9 : i64 (((p + 1 : Nat) : Int) - 1) = (p : Int) := by rw [i64_id (by omega)]; omega
    have e10 : i64 ((lp ds)[p] - (p : Int)) = c + 1 := by rw [i64_id (by omega)]; omega
    have e6 : i64 (c + 1 + (p : Int)) = c + 1 + p := i64_id (by omega)
    have e7 : i64 ((c + 1 + (p : Int)) * 1000000) = (c + 1 + p) * 1000000 := i64_id (by omega)
    have e8 : i64 ((c + 1 + (p : Int)) * 1000000 + us) = t := by rw [i64_id (by omega)]; omega
    have z : (((p + 1 : Nat) : Int) == 0) = false := by simp; omega
    have z2 : (c + 1 != c + 1) = false := by simp
    simp only [F23_d, FSpec.d, F23_s, valid_ok G, Bool.not_true, D, I1, I2, I3, I4, e0, e1, e2, e3, e4, e5, L, show ((60 : Int) == 60) = true from rfl, z, e9, show (0 : Int) ≤ (p : Int) by omega, if_true, Int.toNat_natCast, hr, List.getElem?_cons_zero, e10, z2, e6, e7, e8, decide_eq_false (show ¬ t > 9007199254740992 by omega)]
end Go.Proofs.YtaanjciokdpkmaaDoor
/- Utc, the plain law: texts are found again (UtcBack). -/
namespace Go.Proofs.YtaanjciokdpkmaaDoor
open Go.RowKit
set_option linter.unusedVariables false
set_option linter.unusedSimpArgs false
set_option linter.unnecessarySimpa false
theorem dgt (n k : Nat) : ((Lib.dg n k).toNat : Int) = 48 + ((n / 10 ^ k % 10 : Nat) : Int) := by
  unfold Lib.dg
  have : n / 10 ^ k % 10 < 10 := Nat.mod_lt _ (by omega)
  rw [UInt8.toNat_ofNat']
  omega
def wd (v x : Int) : Int := wrap64 (wrap64 (10 * v) + (x - 48))
theorem wd_ok {v : Int} {q : Nat} (hv : 0 ≤ v ∧ v ≤ 1000000) (hq : q < 10) : wd v (48 + (q : Int)) = 10 * v + q := by
  unfold wd
  rw [IntWalk.wrap64_in _ (show -9223372036854775808 ≤ 10 * v ∧ 10 * v ≤ 9223372036854775807 by omega), IntWalk.wrap64_in _ (by omega)]
  omega
set_option maxRecDepth 100000 in
theorem fld_Y (s : ByteArray) : fldP s 27 89 = wd (wd (wd (wd 0 (byAt s 0)) (byAt s 1)) (byAt s 2)) (byAt s 3) := by rfl
set_option maxRecDepth 100000 in
theorem fld_M (s : ByteArray) : fldP s 27 77 = wd (wd 0 (byAt s 5)) (byAt s 6) := by rfl
set_option maxRecDepth 100000 in
theorem fld_D (s : ByteArray) : fldP s 27 68 = wd (wd 0 (byAt s 8)) (byAt s 9) := by rfl
set_option maxRecDepth 100000 in
theorem fld_h (s : ByteArray) : fldP s 27 104 = wd (wd 0 (byAt s 11)) (byAt s 12) := by rfl
set_option maxRecDepth 100000 in
theorem fld_m (s : ByteArray) : fldP s 27 109 = wd (wd 0 (byAt s 14)) (byAt s 15) := by rfl
set_option maxRecDepth 100000 in
theorem fld_s (s : ByteArray) : fldP s 27 115 = wd (wd 0 (byAt s 17)) (byAt s 18) := by rfl
set_option maxRecDepth 100000 in
theorem fld_u (s : ByteArray) : fldP s 27 117 = wd (wd (wd (wd (wd (wd 0 (byAt s 20)) (byAt s 21)) (byAt s 22)) (byAt s 23)) (byAt s 24)) (byAt s 25) := by rfl
theorem fmt_bytes (y m d hh mm ss us : Nat) : (fmtB y m d hh mm ss us).data.toList = [Lib.dg y 3, Lib.dg y 2, Lib.dg y 1, Lib.dg y 0, 45, Lib.dg m 1, Lib.dg m 0, 45, Lib.dg d 1, Lib.dg d 0, 84, Lib.dg hh 1, Lib.dg hh 0, 58, Lib.dg mm 1, Lib.dg mm 0, 58, Lib.dg ss 1, Lib.dg ss 0, 46, Lib.dg us 5, Lib.dg us 4, Lib.dg us 3, Lib.dg us 2, Lib.dg us 1, Lib.dg us 0, 90] := by
  rw [fmt_list]; rfl
theorem by_list (s : ByteArray) (j : Nat) : byAt s j = ((s.data.toList.getD j 0).toNat : Int) := by
  unfold byAt
  rw [Array.getD_eq_getD_getElem?, List.getD_eq_getElem?_getD, Array.getElem?_toList]
theorem twoQ {q0 q1 : Nat} (h0 : q0 < 10) (h1 : q1 < 10) : wd (wd 0 (48 + (q0 : Int))) (48 + (q1 : Int)) = 10 * (10 * 0 + (q0 : Int)) + (q1 : Int) := by
  rw [wd_ok (v := 0) (by omega) h0, wd_ok (v := 10 * 0 + (q0 : Int)) (by omega) h1]
theorem two {n : Nat} (h : n < 100) : wd (wd 0 ((Lib.dg n 1).toNat : Int)) ((Lib.dg n 0).toNat : Int) = n := by
  simp only [dgt]
  rw [twoQ (Nat.mod_lt _ (by omega)) (Nat.mod_lt _ (by omega))]
  omega
theorem fourQ {q0 q1 q2 q3 : Nat} (h0 : q0 < 10) (h1 : q1 < 10) (h2 : q2 < 10) (h3 : q3 < 10) : wd (wd (wd (wd 0 (48 + (q0 : Int))) (48 + (q1 : Int))) (48 + (q2 : Int))) (48 + (q3 : Int)) = 10 * (10 * (10 * (10 * 0 + (q0 : Int)) + (q1 : Int)) + (q2 : Int)) + (q3 : Int) := by
  rw [wd_ok (v := 0) (by omega) h0, wd_ok (v := 10 * 0 + (q0 : Int)) (by omega) h1, wd_ok (v := 10 * (10 * 0 + (q0 : Int)) + (q1 : Int)) (by omega) h2, wd_ok (v := 10 * (10 * (10 * 0 + (q0 : Int)) + (q1 : Int)) + (q2 : Int)) (by omega) h3]
theorem four {n : Nat} (h : n < 10000) : wd (wd (wd (wd 0 ((Lib.dg n 3).toNat : Int)) ((Lib.dg n 2).toNat : Int)) ((Lib.dg n 1).toNat : Int)) ((Lib.dg n 0).toNat : Int) = n := by
  simp only [dgt]
  rw [fourQ (Nat.mod_lt _ (by omega)) (Nat.mod_lt _ (by omega)) (Nat.mod_lt _ (by omega)) (Nat.mod_lt _ (by omega))]
  omega
theorem sixQ {q0 q1 q2 q3 q4 q5 : Nat} (h0 : q0 < 10) (h1 : q1 < 10) (h2 : q2 < 10) (h3 : q3 < 10) (h4 : q4 < 10) (h5 : q5 < 10) : wd (wd (wd (wd (wd (wd 0 (48 + (q0 : Int))) (48 + (q1 : Int))) (48 + (q2 : Int))) (48 + (q3 : Int))) (48 + (q4 : Int))) (48 + (q5 : Int)) = 10 * (10 * (10 * (10 * (10 * (10 * 0 + (q0 : Int)) + (q1 : Int)) + (q2 : Int)) + (q3 : Int)) + (q4 : Int)) + (q5 : Int) := by
  rw [wd_ok (v := 0) (by omega) h0, wd_ok (v := 10 * 0 + (q0 : Int)) (by omega) h1, wd_ok (v := 10 * (10 * 0 + (q0 : Int)) + (q1 : Int)) (by omega) h2, wd_ok (v := 10 * (10 * (10 * 0 + (q0 : Int)) + (q1 : Int)) + (q2 : Int)) (by omega) h3, wd_ok (v := 10 * (10 * (10 * (10 * 0 + (q0 : Int)) + (q1 : Int)) + (q2 : Int)) + (q3 : Int)) (by omega) h4, wd_ok (v := 10 * (10 * (10 * (10 * (10 * 0 + (q0 : Int)) + (q1 : Int)) + (q2 : Int)) + (q3 : Int)) + (q4 : Int)) (by omega) h5]
theorem six {n : Nat} (h : n < 1000000) : wd (wd (wd (wd (wd (wd 0 ((Lib.dg n 5).toNat : Int)) ((Lib.dg n 4).toNat : Int)) ((Lib.dg n 3).toNat : Int)) ((Lib.dg n 2).toNat : Int)) ((Lib.dg n 1).toNat : Int)) ((Lib.dg n 0).toNat : Int) = n := by
  simp only [dgt]
  rw [sixQ (Nat.mod_lt _ (by omega)) (Nat.mod_lt _ (by omega)) (Nat.mod_lt _ (by omega)) (Nat.mod_lt _ (by omega)) (Nat.mod_lt _ (by omega)) (Nat.mod_lt _ (by omega))]
  omega
theorem ok_dg {f : Int} (hf : isSep f = false) (n k : Nat) : okAt f ((Lib.dg n k).toNat : Int) = true := by
  have : n / 10 ^ k % 10 < 10 := Nat.mod_lt _ (by omega)
  unfold okAt
  rw [if_neg (by rw [hf]; decide), dgt, decide_eq_true (by omega), decide_eq_true (by omega)]
  rfl
theorem fmt_good (y m d hh mm ss us : Nat) : goodP (fmtB y m d hh mm ss us) = true := by
  have hb := fmt_bytes y m d hh mm ss us
  unfold goodP
  rw [Bool.and_eq_true]
  constructor
  · apply decide_eq_true
    show (fmtB y m d hh mm ss us).data.size = 27
    rw [← Array.length_toList, hb]; rfl
  · rw [List.all_eq_true]
    intro j hj
    have hj := List.mem_range.1 hj
    rw [by_list, hb]
    rcases (show j = 0 ∨ j = 1 ∨ j = 2 ∨ j = 3 ∨ j = 4 ∨ j = 5 ∨ j = 6 ∨ j = 7 ∨ j = 8 ∨ j = 9 ∨ j = 10 ∨ j = 11 ∨ j = 12 ∨ j = 13 ∨ j = 14 ∨ j = 15 ∨ j = 16 ∨ j = 17 ∨ j = 18 ∨ j = 19 ∨ j = 20 ∨ j = 21 ∨ j = 22 ∨ j = 23 ∨ j = 24 ∨ j = 25 ∨ j = 26 by omega) with rfl | rfl | rfl | rfl | rfl | rfl | rfl | rfl | rfl | rfl | rfl | rfl | rfl | rfl | rfl | rfl | rfl | rfl | rfl | rfl | rfl | rfl | rfl | rfl | rfl | rfl | rfl <;> first | exact ok_dg rfl _ _ | rfl
theorem fmt_fld {y m d hh mm ss us : Nat} (b : y < 10000 ∧ m < 100 ∧ d < 100 ∧ hh < 100 ∧ mm < 100 ∧ ss < 100 ∧ us < 1000000) : fldP (fmtB y m d hh mm ss us) 27 89 = y ∧ fldP (fmtB y m d hh mm ss us) 27 77 = m ∧ fldP (fmtB y m d hh mm ss us) 27 68 = d ∧ fldP (fmtB y m d hh mm ss us) 27 104 = hh ∧ fldP (fmtB y m d hh mm ss us) 27 109 = mm ∧ fldP (fmtB y m d hh mm ss us) 27 115 = ss ∧ fldP (fmtB y m d hh mm ss us) 27 117 = us := by
  obtain ⟨b1, b2, b3, b4, b5, b6, b7⟩ := b
  have hb := fmt_bytes y m d hh mm ss us
  simp only [fld_Y, fld_M, fld_D, fld_h, fld_m, fld_s, fld_u, by_list, hb]
  exact ⟨four b1, two b2, two b3, two b4, two b5, two b6, six b7⟩
/-- The text of a time leads back to it. -/
theorem text_back {ds : List Int} (G : Good ds) {t : Int} (h : 0 ≤ t ∧ t ≤ 9007199254740992) : ∃ y m d hh mm ss us : Int, ∃ u : ByteArray, F18_d 600 (rowsI (lp ds), t) = some (y, m, d, hh, mm, ss, us, 0) ∧ F23_d 600 (rowsI (lp ds), y, m, d, hh, mm, ss, us) = some (t, 0) ∧ F16_d 600 (rowsI (lp ds), t) = some (u, 0) ∧ F24_d 600 (rowsI (lp ds), u) = some (t, 0) ∧ u.size = 27 := by
  obtain ⟨p, b, -, S⟩ := spot_ok G (t / 1000000)
  obtain ⟨y, m, d, hh, mm, ss, us, f1, f2, bd, v, e, h1, h2, h3, h4⟩ := fmt_civ G h S _ rfl
  have F := from_ok G h S rfl v e h1 h2 h3 h4
  obtain ⟨g1, g2, g3, g4, g5, g6, g7⟩ := fmt_fld bd
  have hg := fmt_good y m d hh mm ss us
  refine ⟨y, m, d, hh, mm, ss, us, _, f2, F, f1, parseR (valid_ok G) hg (by rw [g1, g2, g3, g4, g5, g6, g7]; exact F), ?_⟩
  unfold goodP at hg
  rw [Bool.and_eq_true] at hg
  exact of_decide_eq_true hg.1
theorem times_loop {ds : List Int} (G : Good ds) {xs : List Int} : ∀ (k f : Nat) (zs : List Int) (i : Nat) (p : Int), i + k = ds.length → k < f → zs.length = 6 + i → Dice xs p → ∃ zs' p', (F20_l5 600).L f (rowsI zs, rowsI (lp ds), (ds.length : Int), (i : Int), rowsI xs, p) = some (rowsI zs', rowsI xs, p') ∧ zs'.length ≤ 70 ∧ Dice xs p'
  | 0, f, zs, i, p, hk, hf, hz, D => by
    have hl := G.len
    obtain ⟨f, rfl⟩ : ∃ f', f = f' + 1 := ⟨f - 1, by omega⟩
    refine ⟨zs, p, ?_, by omega, D⟩
    show (F20_l5 600).b _ _ ((F20_l5 600).L f) some = _
    generalize (F20_l5 600).L f = Lf
    simp only [F20_l5, decide_eq_false (show ¬ (i : Int) < (ds.length : Int) by omega)]
  | k + 1, f, zs, i, p, hk, hf, hz, D => by
    have hl := G.len
    obtain ⟨f, rfl⟩ : ∃ f', f = f' + 1 := ⟨f - 1, by omega⟩
    obtain ⟨v1, p1, n1, n2, D1⟩ := next_ok 600 (n := 3) (by omega) D
    obtain ⟨v2, p2, m1, m2, D2⟩ := next_ok 600 (n := 2) (by omega) D1
    have hlt : i < (lp ds).length := by rw [lp_len]; omega
    have hr := rowsI_get (lp ds) i hlt
    have e2 : i64 ((i : Int) + 1) = ((i + 1 : Nat) : Int) := by rw [i64_id (by omega)]; omega
    obtain ⟨w, hw⟩ : ∃ w, i64 (i64 (i64 (i64 ((lp ds)[i] * 1000000) + i64 (v1 * 1000000)) - 1000000) + i64 (v2 * 999999)) = w := ⟨_, rfl⟩
    obtain ⟨zs', p', e1, e3, e4⟩ := times_loop G k f (zs ++ [w]) (i + 1) p2 (by omega) (by omega) (by simp; omega) D2
    refine ⟨zs', p', ?_, e3, e4⟩
    show (F20_l5 600).b _ _ ((F20_l5 600).L f) some = _
    generalize (F20_l5 600).L f = Lf at e1 ⊢
    have hs : (zs.length + [[AV.v (.int .i64 w)]].length) * 8 ≤ maxBytes := by
      have : 1000 ≤ maxBytes := by decide
      simp
      omega
    simp only [F20_l5, decide_eq_true (show (i : Int) < (ds.length : Int) by omega), show (0 : Int) ≤ (i : Int) by omega, if_true, Int.toNat_natCast, hr, List.getElem?_cons_zero, n1, m1, hw, rowsI_len, e2, rowsI_snoc]
    exact (if_pos hs).trans e1
theorem mod_ok (N : Nat) (t : Int) {m : Int} (hm : m ≠ 0) : ∃ v, F21_d N (t, m) = some v := by
  exact ⟨(i64 ((t.tmod m) + m)).tmod m, by simp only [F21_d, FSpec.d, F21_s, if_neg hm]⟩
theorem times_ok {ds : List Int} (G : Good ds) {xs : List Int} {p : Int} (D : Dice xs p) (t : Int) : ∃ zs p', F20_d 600 (rowsI (lp ds), t, rowsI xs, p) = some (rowsI zs, rowsI xs, p') ∧ zs.length ≤ 70 ∧ Dice xs p' := by
  obtain ⟨v, hv⟩ := mod_ok 600 t (m := 9007199254740993) (by omega)
  have hl := G.len
  obtain ⟨zs, p', e1, e2, e3⟩ := times_loop G ds.length 600 [t, 0, 9007199254740992, 9007199254740993, -1, v] 0 p (by omega) (by omega) rfl D
  refine ⟨zs, p', ?_, e2, e3⟩
  have e1' : F20_d5 600 ([[(AV.v (.int .i64 t))], [(AV.v (.int .i64 0))], [(AV.v (.int .i64 9007199254740992))], [(AV.v (.int .i64 9007199254740993))], [(AV.v (.int .i64 (-1)))], [(AV.v (.int .i64 v))]], rowsI (lp ds), (ds.length : Int), 0, rowsI xs, p) = some (rowsI zs, rowsI xs, p') := e1
  simp only [F20_d, FSpec.d, F20_s, hv, rowsI_len, lp_len, e1']
theorem back_loop {ds : List Int} (G : Good ds) (zs : List Int) (hz : zs.length ≤ 70) : ∀ (k f i : Nat), i + k = zs.length → k < f → (F6_l10 600).L f (rowsI (lp ds), rowsI zs, (zs.length : Int), (i : Int)) = some (.inr ())
  | 0, f, i, hk, hf => by
    obtain ⟨f, rfl⟩ : ∃ f', f = f' + 1 := ⟨f - 1, by omega⟩
    show (F6_l10 600).b _ _ ((F6_l10 600).L f) some = _
    generalize (F6_l10 600).L f = Lf
    simp only [F6_l10, decide_eq_false (show ¬ (i : Int) < (zs.length : Int) by omega)]
  | k + 1, f, i, hk, hf => by
    obtain ⟨f, rfl⟩ : ∃ f', f = f' + 1 := ⟨f - 1, by omega⟩
    have ih := back_loop G zs hz k f (i + 1) (by omega) (by omega)
    show (F6_l10 600).b _ _ ((F6_l10 600).L f) some = _
    generalize (F6_l10 600).L f = Lf at ih ⊢
    have hlt : i < zs.length := by omega
    have hr := rowsI_get zs i hlt
    have e2 : i64 ((i : Int) + 1) = ((i + 1 : Nat) : Int) := by rw [i64_id (by omega)]; omega
    by_cases h : 0 ≤ zs[i] ∧ zs[i] ≤ 9007199254740992
    · obtain ⟨y, m, d, hh, mm, ss, us, u, g1, g2, g3, g4, g5⟩ := text_back G h
      have z1 : ((0 : Int) != 0) = false := rfl
      have z2 : (zs[i] != zs[i]) = false := by simp
      have z3 : ((u.size : Int) != 27) = false := by rw [g5]; rfl
      simp only [F6_l10, decide_eq_true (show (i : Int) < (zs.length : Int) by omega), show (0 : Int) ≤ (i : Int) by omega, if_true, Int.toNat_natCast, hr, List.getElem?_cons_zero, rin_ok, decide_eq_true h, Bool.not_true, g1, g2, g3, g4, z1, z2, z3, e2]
      exact ih
    · simp only [F6_l10, decide_eq_true (show (i : Int) < (zs.length : Int) by omega), show (0 : Int) ≤ (i : Int) by omega, if_true, Int.toNat_natCast, hr, List.getElem?_cons_zero, rin_ok, decide_eq_false h, Bool.not_false, e2]
      exact ih
theorem back_law {xs : List Int} (hb : ∀ x ∈ xs, -9223372036854775808 ≤ x ∧ x ≤ 9223372036854775807) (n : Int) : F6_d 600 (rowsI xs, n) = some true := by
  by_cases hl : (xs.length : Int) ≤ 500
  · have L1 : F13_d 600 (rowsI xs) = some true := by simp only [F13_d, FSpec.d, F13_s, rowsI_len, decide_eq_true hl]
    have R1 : F14_d 600 (rowsI xs) = some (rowsI xs, 0) := rfl
    obtain ⟨ds, p1, e1, G, D⟩ := leaps_ok (xs := xs) (p := 0) ⟨hb, by omega, by omega, by omega⟩
    obtain ⟨v, hv⟩ := mod_ok 600 n (m := 4000000000000000) (by omega)
    obtain ⟨zs, p2, e2, hz, D2⟩ := times_ok G D v
    have L : F6_d10 600 (rowsI (lp ds), rowsI zs, (zs.length : Int), 0) = some (.inr ()) := back_loop G zs hz zs.length 600 0 (by omega) (by omega)
    simp only [F6_d, FSpec.d, F6_s, L1, Bool.not_true, R1, e1, hv, e2, rowsI_len, L, sane_ok]
  · have L1 : F13_d 600 (rowsI xs) = some false := by simp only [F13_d, FSpec.d, F13_s, rowsI_len, decide_eq_false hl]
    simp only [F6_d, FSpec.d, F6_s, L1, Bool.not_false, sane_ok]
/-- UtcBack returns true. -/
theorem utc_back (a : Option Addr) (len cap : Nat) (n : Int) (W : World) (w : IntsIn W (.slice a len cap)) (hn : -9223372036854775808 ≤ n ∧ n ≤ 9223372036854775807) (hgl : GlOk (memOf W) W [] (InT sig0 [])) : Calls Tryd.prog 6 #[.slice a len cap, .int .i64 n] W fun e w' => e = .returned (.bool true) ∧ Below W.heap.size W w' := by
  obtain ⟨xs, hb, hl, hr⟩ := w
  refine CallOk.calls ((F6_e 600).ok (rowsI xs, n) true (back_law hb n)) W _ rfl (fun i h h' => ?_) hgl
  rcases (show i = 0 ∨ i = 1 by have : i < 2 := h'; omega) with rfl | rfl
  · exact hr _ _
  · exact .v
end Go.Proofs.YtaanjciokdpkmaaDoor
/- Utc, the plain law: tables of leap seconds, valid or not (UtcExact). -/
namespace Go.Proofs.YtaanjciokdpkmaaDoor
open Go.RowKit
set_option linter.unusedVariables false
set_option linter.unusedSimpArgs false
set_option linter.unnecessarySimpa false
theorem rowsI_gd (L : List Int) (k : Nat) (h : k < L.length) : (rowsI L)[k]? = some [AV.v (.int .i64 (L.getD k 0))] := by
  rw [rowsI_get L k h, List.getD_eq_getElem?_getD, List.getElem?_eq_getElem h]; rfl
/-- What is asked of an entry. -/
def VEn (L : List Int) (j : Nat) : Prop := (1 ≤ L.getD j 0 ∧ L.getD j 0 ≤ 9007199254) ∧ (L.getD j 0 - (j : Int)).tmod 86400 = 0 ∧ (0 < j → L.getD (j - 1) 0 - ((j : Int) - 1) < L.getD j 0 - j)
theorem valid_run {L : List Int} (hl : L.length ≤ 80) : ∀ (k f i : Nat), i + k = L.length → k < f → (∀ j, j < i → VEn L j) → ∃ r, (F26_l4 600).L f (rowsI L, rowsI L, (L.length : Int), (i : Int)) = some r ∧ ((r = .inr (rowsI L) ∧ ∀ j, j < L.length → VEn L j) ∨ (r = .inl (rowsI L, false) ∧ ¬ ∀ j, j < L.length → VEn L j))
  | 0, f, i, hk, hf, hp => by
    obtain ⟨f, rfl⟩ : ∃ f', f = f' + 1 := ⟨f - 1, by omega⟩
    refine ⟨.inr (rowsI L), ?_, .inl ⟨rfl, fun j hj => hp j (by omega)⟩⟩
    show (F26_l4 600).b _ _ ((F26_l4 600).L f) some = _
    generalize (F26_l4 600).L f = Lf
    simp only [F26_l4, decide_eq_false (show ¬ (i : Int) < (L.length : Int) by omega)]
  | k + 1, f, i, hk, hf, hp => by
    obtain ⟨f, rfl⟩ : ∃ f', f = f' + 1 := ⟨f - 1, by omega⟩
    have hi : i < L.length := by omega
    have hr : ((rowsI L)[((i : Int)).toNat]? : Option (List AV)) = some [AV.v (.int .i64 (L.getD i 0))] := by
      rw [show ((i : Int)).toNat = i by omega]; exact rowsI_gd L i hi
    have h0 : (0 : Int) ≤ (i : Int) := by omega
    have ih := valid_run hl k f (i + 1) (by omega) (by omega)
    have e3 : i64 ((i : Int) + 1) = ((i + 1 : Nat) : Int) := by rw [i64_id (by omega)]; omega
    show ∃ r, (F26_l4 600).b _ _ ((F26_l4 600).L f) some = some r ∧ _
    generalize (F26_l4 600).L f = Lf at ih ⊢
    by_cases h1 : 1 ≤ L.getD i 0 ∧ L.getD i 0 ≤ 9007199254
    · have e1 : i64 (L.getD i 0 - (i : Int)) = L.getD i 0 - (i : Int) := i64_id (by omega)
      by_cases h2 : (L.getD i 0 - (i : Int)).tmod 86400 = 0
      · have e2 : ((L.getD i 0 - (i : Int)).tmod 86400 != 0) = false := by rw [h2]; rfl
        by_cases hz : i = 0
        · obtain ⟨r, r1, r2⟩ := ih (fun j hj => by
            obtain rfl : j = i := by omega
            exact ⟨h1, h2, fun h => by omega⟩)
          refine ⟨r, ?_, r2⟩
          simp only [F26_l4, decide_eq_true (show (i : Int) < (L.length : Int) by omega), h0, hr, List.getElem?_cons_zero, in_ok, decide_eq_true h1, Bool.not_true, e1, e2, decide_eq_false (show ¬ (i : Int) > 0 by omega), e3, if_true]
          exact r1
        · have g1 : i64 ((i : Int) - 1) = ((i - 1 : Nat) : Int) := by rw [i64_id (by omega)]; omega
          have h00 : (0 : Int) ≤ ((i - 1 : Nat) : Int) := by omega
          have hr2 : ((rowsI L)[(((i - 1 : Nat) : Int)).toNat]? : Option (List AV)) = some [AV.v (.int .i64 (L.getD (i - 1) 0))] := by
            rw [show (((i - 1 : Nat) : Int)).toNat = i - 1 by omega]; exact rowsI_gd L (i - 1) (by omega)
          have hb := (hp (i - 1) (by omega)).1
          have g2 : i64 (L.getD (i - 1) 0 - ((i - 1 : Nat) : Int)) = L.getD (i - 1) 0 - ((i - 1 : Nat) : Int) := i64_id (by omega)
          by_cases h3 : L.getD (i - 1) 0 - ((i : Int) - 1) < L.getD i 0 - i
          · obtain ⟨r, r1, r2⟩ := ih (fun j hj => by
              by_cases hji : j < i
              · exact hp j hji
              · obtain rfl : j = i := by omega
                exact ⟨h1, h2, fun h => h3⟩)
            refine ⟨r, ?_, r2⟩
            simp only [F26_l4, decide_eq_true (show (i : Int) < (L.length : Int) by omega), h0, hr, List.getElem?_cons_zero, in_ok, decide_eq_true h1, Bool.not_true, e1, e2, decide_eq_true (show (i : Int) > 0 by omega), g1, h00, hr2, g2, decide_eq_false (show ¬ L.getD i 0 - (i : Int) ≤ L.getD (i - 1) 0 - ((i - 1 : Nat) : Int) by omega), e3, if_true]
            exact r1
          · refine ⟨.inl (rowsI L, false), ?_, .inr ⟨rfl, fun h => h3 ((h i hi).2.2 (by omega))⟩⟩
            simp only [F26_l4, decide_eq_true (show (i : Int) < (L.length : Int) by omega), h0, hr, List.getElem?_cons_zero, in_ok, decide_eq_true h1, Bool.not_true, e1, e2, decide_eq_true (show (i : Int) > 0 by omega), g1, h00, hr2, g2, decide_eq_true (show L.getD i 0 - (i : Int) ≤ L.getD (i - 1) 0 - ((i - 1 : Nat) : Int) by omega), if_true]
      · have e2 : ((L.getD i 0 - (i : Int)).tmod 86400 != 0) = true := bne_iff_ne.2 h2
        refine ⟨.inl (rowsI L, false), ?_, .inr ⟨rfl, fun h => h2 (h i hi).2.1⟩⟩
        simp only [F26_l4, decide_eq_true (show (i : Int) < (L.length : Int) by omega), h0, hr, List.getElem?_cons_zero, in_ok, decide_eq_true h1, Bool.not_true, e1, e2, if_true]
    · refine ⟨.inl (rowsI L, false), ?_, .inr ⟨rfl, fun h => h1 (h i hi).1⟩⟩
      simp only [F26_l4, decide_eq_true (show (i : Int) < (L.length : Int) by omega), h0, hr, List.getElem?_cons_zero, in_ok, decide_eq_false h1, Bool.not_false, if_true]
theorem rvalid_run {L : List Int} (hl : L.length ≤ 80) : ∀ (k f i : Nat), i + k = L.length → k < f → (∀ j, j < i → VEn L j) → ∃ r, (F27_l4 600).L f (rowsI L, (i : Int)) = some r ∧ ((r = .inr (rowsI L) ∧ ∀ j, j < L.length → VEn L j) ∨ (r = .inl (rowsI L, false) ∧ ¬ ∀ j, j < L.length → VEn L j))
  | 0, f, i, hk, hf, hp => by
    obtain ⟨f, rfl⟩ : ∃ f', f = f' + 1 := ⟨f - 1, by omega⟩
    refine ⟨.inr (rowsI L), ?_, .inl ⟨rfl, fun j hj => hp j (by omega)⟩⟩
    show (F27_l4 600).b _ _ ((F27_l4 600).L f) some = _
    generalize (F27_l4 600).L f = Lf
    simp only [F27_l4, rowsI_len, decide_eq_false (show ¬ (i : Int) < (L.length : Int) by omega)]
  | k + 1, f, i, hk, hf, hp => by
    obtain ⟨f, rfl⟩ : ∃ f', f = f' + 1 := ⟨f - 1, by omega⟩
    have hi : i < L.length := by omega
    have hr : ((rowsI L)[((i : Int)).toNat]? : Option (List AV)) = some [AV.v (.int .i64 (L.getD i 0))] := by
      rw [show ((i : Int)).toNat = i by omega]; exact rowsI_gd L i hi
    have h0 : (0 : Int) ≤ (i : Int) := by omega
    have ih := rvalid_run hl k f (i + 1) (by omega) (by omega)
    have e3 : i64 ((i : Int) + 1) = ((i + 1 : Nat) : Int) := by rw [i64_id (by omega)]; omega
    show ∃ r, (F27_l4 600).b _ _ ((F27_l4 600).L f) some = some r ∧ _
    generalize (F27_l4 600).L f = Lf at ih ⊢
    by_cases h1 : 1 ≤ L.getD i 0 ∧ L.getD i 0 ≤ 9007199254
    · have e1 : i64 (L.getD i 0 - (i : Int)) = L.getD i 0 - (i : Int) := i64_id (by omega)
      by_cases hz : i = 0
      · by_cases h2 : (L.getD i 0 - (i : Int)).tmod 86400 = 0
        · have e2 : ((L.getD i 0 - (i : Int)).tmod 86400 != 0) = false := by rw [h2]; rfl
          obtain ⟨r, r1, r2⟩ := ih (fun j hj => by
            obtain rfl : j = i := by omega
            exact ⟨h1, h2, fun h => by omega⟩)
          refine ⟨r, ?_, r2⟩
          simp only [F27_l4, rowsI_len, decide_eq_true (show (i : Int) < (L.length : Int) by omega), h0, hr, List.getElem?_cons_zero, rin_ok, decide_eq_true h1, Bool.not_true, e1, e2, decide_eq_false (show ¬ (i : Int) > 0 by omega), e3, if_true]
          exact r1
        · have e2 : ((L.getD i 0 - (i : Int)).tmod 86400 != 0) = true := bne_iff_ne.2 h2
          refine ⟨.inl (rowsI L, false), ?_, .inr ⟨rfl, fun h => h2 (h i hi).2.1⟩⟩
          simp only [F27_l4, rowsI_len, decide_eq_true (show (i : Int) < (L.length : Int) by omega), h0, hr, List.getElem?_cons_zero, rin_ok, decide_eq_true h1, Bool.not_true, e1, e2, decide_eq_false (show ¬ (i : Int) > 0 by omega), if_true]
      · have g1 : i64 ((i : Int) - 1) = ((i - 1 : Nat) : Int) := by rw [i64_id (by omega)]; omega
        have h00 : (0 : Int) ≤ ((i - 1 : Nat) : Int) := by omega
        have hr2 : ((rowsI L)[(((i - 1 : Nat) : Int)).toNat]? : Option (List AV)) = some [AV.v (.int .i64 (L.getD (i - 1) 0))] := by
          rw [show (((i - 1 : Nat) : Int)).toNat = i - 1 by omega]; exact rowsI_gd L (i - 1) (by omega)
        have hb := (hp (i - 1) (by omega)).1
        have g2 : i64 (L.getD (i - 1) 0 - ((i - 1 : Nat) : Int)) = L.getD (i - 1) 0 - ((i - 1 : Nat) : Int) := i64_id (by omega)
        by_cases h3 : L.getD (i - 1) 0 - ((i : Int) - 1) < L.getD i 0 - i
        · by_cases h2 : (L.getD i 0 - (i : Int)).tmod 86400 = 0
          · have e2 : ((L.getD i 0 - (i : Int)).tmod 86400 != 0) = false := by rw [h2]; rfl
            obtain ⟨r, r1, r2⟩ := ih (fun j hj => by
              by_cases hji : j < i
              · exact hp j hji
              · obtain rfl : j = i := by omega
                exact ⟨h1, h2, fun h => h3⟩)
            refine ⟨r, ?_, r2⟩
            simp only [F27_l4, rowsI_len, decide_eq_true (show (i : Int) < (L.length : Int) by omega), h0, hr, List.getElem?_cons_zero, rin_ok, decide_eq_true h1, Bool.not_true, e1, e2, decide_eq_true (show (i : Int) > 0 by omega), g1, h00, hr2, g2, decide_eq_false (show ¬ L.getD i 0 - (i : Int) ≤ L.getD (i - 1) 0 - ((i - 1 : Nat) : Int) by omega), e3, if_true]
            exact r1
          · have e2 : ((L.getD i 0 - (i : Int)).tmod 86400 != 0) = true := bne_iff_ne.2 h2
            refine ⟨.inl (rowsI L, false), ?_, .inr ⟨rfl, fun h => h2 (h i hi).2.1⟩⟩
            simp only [F27_l4, rowsI_len, decide_eq_true (show (i : Int) < (L.length : Int) by omega), h0, hr, List.getElem?_cons_zero, rin_ok, decide_eq_true h1, Bool.not_true, e1, e2, decide_eq_true (show (i : Int) > 0 by omega), g1, h00, hr2, g2, decide_eq_false (show ¬ L.getD i 0 - (i : Int) ≤ L.getD (i - 1) 0 - ((i - 1 : Nat) : Int) by omega), if_true]
        · refine ⟨.inl (rowsI L, false), ?_, .inr ⟨rfl, fun h => h3 ((h i hi).2.2 (by omega))⟩⟩
          simp only [F27_l4, rowsI_len, decide_eq_true (show (i : Int) < (L.length : Int) by omega), h0, hr, List.getElem?_cons_zero, rin_ok, decide_eq_true h1, Bool.not_true, e1, decide_eq_true (show (i : Int) > 0 by omega), g1, h00, hr2, g2, decide_eq_true (show L.getD i 0 - (i : Int) ≤ L.getD (i - 1) 0 - ((i - 1 : Nat) : Int) by omega), if_true]
    · refine ⟨.inl (rowsI L, false), ?_, .inr ⟨rfl, fun h => h1 (h i hi).1⟩⟩
      simp only [F27_l4, rowsI_len, decide_eq_true (show (i : Int) < (L.length : Int) by omega), h0, hr, List.getElem?_cons_zero, rin_ok, decide_eq_false h1, Bool.not_false, if_true]
theorem ve_days {L : List Int} (h : ∀ j, j < L.length → VEn L j) : ∀ i, i < L.length → ∃ c, L.getD i 0 = 86400 * c + (i : Int) ∧ 1 ≤ c ∧ c ≤ 104249
  | 0, hi => by
    obtain ⟨h1, h2, -⟩ := h 0 hi
    obtain ⟨c, hc⟩ := Int.dvd_of_tmod_eq_zero h2
    exact ⟨c, by omega, by omega, by omega⟩
  | i + 1, hi => by
    obtain ⟨c, c1, c2, c3⟩ := ve_days h i (by omega)
    obtain ⟨h1, h2, h3⟩ := h (i + 1) hi
    obtain ⟨d, hd⟩ := Int.dvd_of_tmod_eq_zero h2
    have h4 := h3 (by omega)
    rw [show i + 1 - 1 = i by omega] at h4
    exact ⟨d, by omega, by omega, by omega⟩
theorem ve_asc {L : List Int} (h : ∀ j, j < L.length → VEn L j) (i : Nat) : ∀ k, i + k + 1 < L.length → L.getD i 0 - (i : Int) < L.getD (i + k + 1) 0 - ((i + k + 1 : Nat) : Int)
  | 0, hi => by
    have h3 := (h (i + 0 + 1) hi).2.2 (by omega)
    rw [show i + 0 + 1 - 1 = i by omega] at h3
    omega
  | k + 1, hi => by
    have ih := ve_asc h i k (by omega)
    have h3 := (h (i + (k + 1) + 1) hi).2.2 (by omega)
    rw [show i + (k + 1) + 1 - 1 = i + k + 1 by omega] at h3
    omega
/-- A valid table is one of leap seconds. -/
theorem ve_good {L : List Int} (hl : L.length ≤ 64) (h : ∀ j, j < L.length → VEn L j) : ∃ ds, Good ds ∧ L = lp ds := by
  have key : ∀ i, (hi : i < L.length) → L[i] = L.getD i 0 := fun i hi => by rw [List.getD_eq_getElem?_getD, List.getElem?_eq_getElem hi]; rfl
  refine ⟨L.mapIdx fun i x => (x - (i : Int)) / 86400, ⟨by simp; omega, ?_, ?_⟩, ?_⟩
  · rw [List.pairwise_iff_getElem]
    intro i j hi hj hij
    simp only [List.length_mapIdx] at hi hj
    simp only [List.getElem_mapIdx, key]
    obtain ⟨c, c1, c2, c3⟩ := ve_days h i hi
    obtain ⟨d, d1, d2, d3⟩ := ve_days h j hj
    have a := ve_asc h i (j - i - 1) (by omega)
    rw [show i + (j - i - 1) + 1 = j by omega] at a
    omega
  · intro d hd
    obtain ⟨i, hi, e⟩ := List.mem_mapIdx.1 hd
    rw [key i hi] at e
    obtain ⟨c, c1, c2, c3⟩ := ve_days h i hi
    omega
  · unfold lp
    apply List.ext_getElem
    · simp
    · intro i hi hi'
      simp only [List.getElem_mapIdx, key i hi]
      obtain ⟨c, c1, c2, c3⟩ := ve_days h i hi
      omega
/-- Both packages find the same tables valid. -/
theorem valid_any {L : List Int} (hl : L.length ≤ 80) : ∃ v, F26_d 600 (rowsI L) = some v ∧ F27_d 600 (rowsI L) = some v ∧ (v = true → ∃ ds, Good ds ∧ L = lp ds) := by
  obtain ⟨r, r1, r2⟩ := valid_run hl L.length 600 0 (by omega) (by omega) (fun j hj => by omega)
  obtain ⟨s, s1, s2⟩ := rvalid_run hl L.length 600 0 (by omega) (by omega) (fun j hj => by omega)
  have r1' : F26_d4 600 (rowsI L, rowsI L, (L.length : Int), 0) = some r := r1
  have s1' : F27_d4 600 (rowsI L, 0) = some s := s1
  by_cases h : ∀ j, j < L.length → VEn L j
  · obtain ⟨rfl, -⟩ : r = .inr (rowsI L) ∧ True := by rcases r2 with ⟨e, -⟩ | ⟨-, e⟩; exact ⟨e, trivial⟩; exact absurd h e
    obtain ⟨rfl, -⟩ : s = .inr (rowsI L) ∧ True := by rcases s2 with ⟨e, -⟩ | ⟨-, e⟩; exact ⟨e, trivial⟩; exact absurd h e
    refine ⟨decide ((L.length : Int) ≤ 64), ?_, ?_, fun hv => ve_good (by have := of_decide_eq_true hv; omega) h⟩
    · simp only [F26_d, FSpec.d, F26_s, rowsI_len, r1']
    · simp only [F27_d, FSpec.d, F27_s, rowsI_len, s1']
  · obtain ⟨rfl, -⟩ : r = .inl (rowsI L, false) ∧ True := by rcases r2 with ⟨-, e⟩ | ⟨e, -⟩; exact absurd e h; exact ⟨e, trivial⟩
    obtain ⟨rfl, -⟩ : s = .inl (rowsI L, false) ∧ True := by rcases s2 with ⟨-, e⟩ | ⟨e, -⟩; exact absurd e h; exact ⟨e, trivial⟩
    refine ⟨false, ?_, ?_, fun hv => by cases hv⟩
    · simp only [F26_d, FSpec.d, F26_s, rowsI_len, r1']
    · simp only [F27_d, FSpec.d, F27_s, s1']
end Go.Proofs.YtaanjciokdpkmaaDoor
/- Utc, the plain law: civil times and texts by the reference (UtcExact). -/
namespace Go.Proofs.YtaanjciokdpkmaaDoor
open Go.RowKit
set_option linter.unusedVariables false
set_option linter.unusedSimpArgs false
set_option linter.unnecessarySimpa false
theorem before2 {ds : List Int} (G : Good ds) {x : Int} {p : Nat} (S : Spot ds x p false) : ∀ (k f i : Nat), i + k = (lp ds).length → k < f → p ≤ i → (F42_l5 600).L f (rowsI (lp ds), x, (p : Int), (i : Int)) = some (.inr (p : Int))
  | 0, f, i, hk, hf, hp => by
    obtain ⟨f, rfl⟩ : ∃ f', f = f' + 1 := ⟨f - 1, by omega⟩
    show (F42_l5 600).b _ _ ((F42_l5 600).L f) some = _
    generalize (F42_l5 600).L f = Lf
    simp only [F42_l5, rowsI_len, decide_eq_false (show ¬ (i : Int) < ((lp ds).length : Int) by omega)]
  | k + 1, f, i, hk, hf, hp => by
    obtain ⟨f, rfl⟩ : ∃ f', f = f' + 1 := ⟨f - 1, by omega⟩
    have hl := G.len
    rw [← lp_len] at hl
    have hi : i < (lp ds).length := by omega
    have ih := before2 G S k f (i + 1) (by omega) (by omega) (by omega)
    have hr : ((rowsI (lp ds))[((i : Int)).toNat]? : Option (List AV)) = some [AV.v (.int .i64 ((lp ds)[i]))] := by
      rw [show ((i : Int)).toNat = i by omega]; exact rowsI_get _ i hi
    have h0 : (0 : Int) ≤ (i : Int) := by omega
    have e3 : i64 ((i : Int) + 1) = ((i + 1 : Nat) : Int) := by rw [i64_id (by omega)]; omega
    show (F42_l5 600).b _ _ ((F42_l5 600).L f) some = _
    generalize (F42_l5 600).L f = Lf at ih ⊢
    have g1 := S.ge i hi hp
    have g2 : (lp ds)[i] ≠ x := fun e => by
      by_cases hpi : p = i
      · subst hpi
        have := S.on.2 ⟨hi, e⟩
        cases this
      · have hp1 : p < (lp ds).length := by omega
        have := lp_inc G (show p < i by omega) hi
        have := S.ge p hp1 (Nat.le_refl _)
        omega
    have z : ((lp ds)[i] == x) = false := beq_eq_false_iff_ne.2 g2
    simp only [F42_l5, rowsI_len, decide_eq_true (show (i : Int) < ((lp ds).length : Int) by omega), h0, hr, List.getElem?_cons_zero, z, decide_eq_false (show ¬ (lp ds)[i] < x by omega), e3, if_true]
    exact ih
theorem before1 {ds : List Int} (G : Good ds) {x : Int} {p : Nat} {b : Bool} (S : Spot ds x p b) : ∀ (k f i : Nat), i + k = p → k + 100 < f → (F42_l5 600).L f (rowsI (lp ds), x, (i : Int), (i : Int)) = some (if b = true then .inl ((p : Int), true, (p : Int)) else .inr (p : Int))
  | 0, f, i, hk, hf => by
    have hl := G.len
    rw [← lp_len] at hl
    have hp := S.le
    obtain rfl : i = p := by omega
    cases b
    · exact before2 G S ((lp ds).length - i) f i (by omega) (by omega) (Nat.le_refl _)
    · obtain ⟨f, rfl⟩ : ∃ f', f = f' + 1 := ⟨f - 1, by omega⟩
      obtain ⟨hi, e⟩ := S.on.1 rfl
      have hr : ((rowsI (lp ds))[((i : Int)).toNat]? : Option (List AV)) = some [AV.v (.int .i64 ((lp ds)[i]))] := by
        rw [show ((i : Int)).toNat = i by omega]; exact rowsI_get _ i hi
      have h0 : (0 : Int) ≤ (i : Int) := by omega
      show (F42_l5 600).b _ _ ((F42_l5 600).L f) some = _
      generalize (F42_l5 600).L f = Lf
      have z : ((lp ds)[i] == x) = true := beq_iff_eq.2 e
      simp only [F42_l5, rowsI_len, decide_eq_true (show (i : Int) < ((lp ds).length : Int) by omega), h0, hr, List.getElem?_cons_zero, z, if_true]
  | k + 1, f, i, hk, hf => by
    obtain ⟨f, rfl⟩ : ∃ f', f = f' + 1 := ⟨f - 1, by omega⟩
    have hl := G.len
    rw [← lp_len] at hl
    have hp := S.le
    have hi : i < (lp ds).length := by omega
    have ih := before1 G S k f (i + 1) (by omega) (by omega)
    have hr : ((rowsI (lp ds))[((i : Int)).toNat]? : Option (List AV)) = some [AV.v (.int .i64 ((lp ds)[i]))] := by
      rw [show ((i : Int)).toNat = i by omega]; exact rowsI_get _ i hi
    have h0 : (0 : Int) ≤ (i : Int) := by omega
    have e3 : i64 ((i : Int) + 1) = ((i + 1 : Nat) : Int) := by rw [i64_id (by omega)]; omega
    show (F42_l5 600).b _ _ ((F42_l5 600).L f) some = _
    generalize (F42_l5 600).L f = Lf at ih ⊢
    have g1 := S.lt i hi (by omega)
    have z : ((lp ds)[i] == x) = false := beq_eq_false_iff_ne.2 (by omega)
    simp only [F42_l5, rowsI_len, decide_eq_true (show (i : Int) < ((lp ds).length : Int) by omega), h0, hr, List.getElem?_cons_zero, z, decide_eq_true g1, e3, if_true]
    exact ih
theorem before_ok {ds : List Int} (G : Good ds) {x : Int} {p : Nat} {b : Bool} (S : Spot ds x p b) : F42_d 600 (rowsI (lp ds), x) = some ((p : Int), b) := by
  have hl := G.len
  have hp := S.le
  rw [lp_len] at hp
  have L : F42_d5 600 (rowsI (lp ds), x, 0, 0) = some (if b = true then .inl ((p : Int), true, (p : Int)) else .inr (p : Int)) := before1 G S p 600 0 (by omega) (by omega)
  cases b
  · simp only [Bool.false_eq_true, if_false] at L
    simp only [F42_d, FSpec.d, F42_s, L]
  · simp only [if_true] at L
    simp only [F42_d, FSpec.d, F42_s, L]
theorem date_r {x y m d : Int} (h : 0 ≤ x ∧ x ≤ 120894) (e : F10_d 600 x = some (y, m, d)) : F11_d 600 x = some (y, m, d) := by
  obtain ⟨y', m', d', g1, g2, -⟩ := date_ok h
  rw [g1] at e
  rw [g2]; exact e
theorem rvalid_ok {ds : List Int} (G : Good ds) : F27_d 600 (rowsI (lp ds)) = some true := by
  obtain ⟨v, v1, v2, -⟩ := valid_any (L := lp ds) (by have := G.len; rw [lp_len]; omega)
  rw [valid_ok G] at v1
  rw [v2, ← v1]
theorem rciv_ok {ds : List Int} (G : Good ds) {t : Int} (h : 0 ≤ t ∧ t ≤ 9007199254740992) {a : Int × Int × Int × Int × Int × Int × Int × Int} (ha : F18_d 600 (rowsI (lp ds), t) = some a) : F28_d 600 (rowsI (lp ds), t) = some a := by
  obtain ⟨p, b, y, m, d, S, v, e, g, r⟩ := civil_ok G h
  rw [r] at ha
  obtain rfl := Option.some.inj ha
  clear ha r
  have hb := S.base G (by omega)
  have B := before_ok G S
  have e1 : i64 (t.tdiv 1000000) = t / 1000000 := by
    rw [Int.tdiv_eq_ediv_of_nonneg h.1]; exact i64_id (by omega)
  have eu : t.tmod 1000000 = t % 1000000 := Int.tmod_eq_emod_of_nonneg h.1
  have e2 : i64 (t / 1000000 - (p : Int)) = t / 1000000 - p := i64_id (by omega)
  have I1 : F22_d 600 (t, 0, 9007199254740992) = some true := by rw [rin_ok, decide_eq_true h]
  cases b
  · simp only [Bool.false_eq_true, if_false, Int.sub_zero] at hb g ⊢
    have k1 : (t / 1000000 - (p : Int)).tdiv 86400 = (t / 1000000 - p) / 86400 := Int.tdiv_eq_ediv_of_nonneg hb.1
    have k2 : (t / 1000000 - (p : Int)).tmod 86400 = (t / 1000000 - p) % 86400 := Int.tmod_eq_emod_of_nonneg hb.1
    have k3 : ((t / 1000000 - (p : Int)) % 86400).tdiv 3600 = (t / 1000000 - p) % 86400 / 3600 := Int.tdiv_eq_ediv_of_nonneg (by omega)
    have k4 : (t / 1000000 - (p : Int)).tmod 3600 = (t / 1000000 - p) % 3600 := Int.tmod_eq_emod_of_nonneg hb.1
    have k5 : ((t / 1000000 - (p : Int)) % 3600).tdiv 60 = (t / 1000000 - p) / 60 % 60 := by rw [Int.tdiv_eq_ediv_of_nonneg (by omega)]; omega
    have k6 : (t / 1000000 - (p : Int)).tmod 60 = (t / 1000000 - p) % 60 := Int.tmod_eq_emod_of_nonneg hb.1
    have i1 : i64 ((t / 1000000 - (p : Int)) / 86400) = (t / 1000000 - p) / 86400 := i64_id (by omega)
    have i2 : i64 ((t / 1000000 - (p : Int)) % 86400 / 3600) = (t / 1000000 - p) % 86400 / 3600 := i64_id (by omega)
    have i3 : i64 ((t / 1000000 - (p : Int)) / 60 % 60) = (t / 1000000 - p) / 60 % 60 := i64_id (by omega)
    have gr := date_r (by omega) g
    simp only [F28_d, FSpec.d, F28_s, rvalid_ok G, I1, Bool.not_true, e1, B, e2, eu, k1, k2, k3, k4, k5, i1, i2, i3, k6, gr]
  · simp only [if_true] at hb g ⊢
    obtain ⟨hj, ej⟩ := S.on.1 rfl
    obtain ⟨c, c1, c2, c3, c4⟩ := Good.at ds G p hj
    have k1 : (t / 1000000 - (p : Int)).tdiv 86400 = (t / 1000000 - p) / 86400 := Int.tdiv_eq_ediv_of_nonneg (by omega)
    have i1 : i64 ((t / 1000000 - (p : Int)) / 86400) = (t / 1000000 - p) / 86400 := i64_id (by omega)
    have i2 : i64 ((t / 1000000 - (p : Int)) / 86400 - 1) = (t / 1000000 - p - 1) / 86400 := by rw [i64_id (by omega)]; omega
    have q1 : (t / 1000000 - (p : Int) - 1) % 86400 / 3600 = 23 := by omega
    have q2 : (t / 1000000 - (p : Int) - 1) / 60 % 60 = 59 := by omega
    have gr := date_r (by omega) g
    simp only [F28_d, FSpec.d, F28_s, rvalid_ok G, I1, Bool.not_true, e1, B, e2, eu, k1, i1, i2, gr, q1, q2]
theorem time_no (N : Nat) {t : Int} (h : ¬ (0 ≤ t ∧ t ≤ 9007199254740992)) : F40_d N t = some false := by
  simp only [F40_d, FSpec.d, F40_s, in_ok, decide_eq_false h]
/-- Civil times are the same by both packages. -/
theorem civ_any {L : List Int} (hl : L.length ≤ 80) (t : Int) : ∃ a, F18_d 600 (rowsI L, t) = some a ∧ F28_d 600 (rowsI L, t) = some a := by
  obtain ⟨v, v1, v2, v3⟩ := valid_any hl
  cases v
  · refine ⟨(0, 0, 0, 0, 0, 0, 0, 1), ?_, ?_⟩
    · simp only [F18_d, FSpec.d, F18_s, v1, Bool.not_false]
    · simp only [F28_d, FSpec.d, F28_s, v2, Bool.not_false]
  · obtain ⟨ds, G, rfl⟩ := v3 rfl
    by_cases h : 0 ≤ t ∧ t ≤ 9007199254740992
    · obtain ⟨p, b, y, m, d, S, v, e, g, r⟩ := civil_ok G h
      exact ⟨_, r, rciv_ok G h r⟩
    · refine ⟨(0, 0, 0, 0, 0, 0, 0, 2), ?_, ?_⟩
      · simp only [F18_d, FSpec.d, F18_s, v1, time_no 600 h, Bool.not_true, Bool.not_false]
      · simp only [F28_d, FSpec.d, F28_s, v2, rin_ok, decide_eq_false h, Bool.not_true, Bool.not_false]
theorem off_any {L : List Int} (hl : L.length ≤ 80) (t : Int) : ∃ a, F17_d 600 (rowsI L, t) = some a ∧ F30_d 600 (rowsI L, t) = some a := by
  obtain ⟨v, v1, v2, v3⟩ := valid_any hl
  cases v
  · refine ⟨0, ?_, ?_⟩
    · simp only [F17_d, FSpec.d, F17_s, v1, Bool.not_false]
    · simp only [F30_d, FSpec.d, F30_s, v2, Bool.not_false]
  · obtain ⟨ds, G, rfl⟩ := v3 rfl
    by_cases h : 0 ≤ t ∧ t ≤ 9007199254740992
    · obtain ⟨p, b, r, S⟩ := offset_ok G h
      have B := before_ok G S
      have e1 : i64 (t.tdiv 1000000) = t / 1000000 := by
        rw [Int.tdiv_eq_ediv_of_nonneg h.1]; exact i64_id (by omega)
      refine ⟨_, r, ?_⟩
      simp only [F30_d, FSpec.d, F30_s, v2, rin_ok, decide_eq_true h, Bool.not_true, e1, B]
    · refine ⟨0, ?_, ?_⟩
      · simp only [F17_d, FSpec.d, F17_s, v1, time_no 600 h, Bool.not_true, Bool.not_false]
      · simp only [F30_d, FSpec.d, F30_s, v2, rin_ok, decide_eq_false h, Bool.not_true, Bool.not_false]
theorem rdig_loop (n w : Nat) (hw : w ≤ 100) (h64 : (n : Int) ≤ 9223372036854775807) : ∀ (r f k : Nat), k + r = w → r < f → (F43_l5 600).L f (((n / 10 ^ k : Nat) : Int), (w : Int), padB k n, (k : Int)) = some (padB w n)
  | 0, f, k, hk, hf => by
    obtain ⟨f, rfl⟩ : ∃ f', f = f' + 1 := ⟨f - 1, by omega⟩
    obtain rfl : k = w := by omega
    show (F43_l5 600).b _ _ ((F43_l5 600).L f) some = _
    generalize (F43_l5 600).L f = Lf
    simp only [F43_l5, decide_eq_false (show ¬ (k : Int) < (k : Int) by omega)]
  | r + 1, f, k, hk, hf => by
    obtain ⟨f, rfl⟩ : ∃ f', f = f' + 1 := ⟨f - 1, by omega⟩
    have ih := rdig_loop n w hw h64 r f (k + 1) (by omega) (by omega)
    show (F43_l5 600).b _ _ ((F43_l5 600).L f) some = _
    generalize (F43_l5 600).L f = Lf at ih ⊢
    obtain ⟨q, hq0⟩ : ∃ q, n / 10 ^ k = q := ⟨_, rfl⟩
    have hq : n / 10 ^ (k + 1) = q / 10 := by rw [Nat.pow_succ, ← Nat.div_div_eq_div_mul, hq0]
    have hle : q ≤ n := by rw [← hq0]; exact Nat.div_le_self _ _
    have hd := dgt n k
    rw [hq0] at hd ⊢
    rw [hq] at ih
    have hu : IntKind.u8.wrap (i64 (48 + ((q : Nat) : Int).tmod 10)) = ((Lib.dg n k).toNat : Int) := by
      rw [Int.tmod_eq_emod_of_nonneg (by omega), i64_id (by omega), IntWalk.u8_in _ (by omega), hd]
      omega
    have ha : strOfNums [((Lib.dg n k).toNat : Int)] ++ padB k n = padB (k + 1) n := by
      unfold padB
      rw [pad_succ]
      apply ByteArray.ext
      simp [ByteArray.data_append, strOfNums]
    have hs : (strOfNums [((Lib.dg n k).toNat : Int)]).size = 1 := rfl
    have e1 : i64 (((q : Nat) : Int).tdiv 10) = ((q / 10 : Nat) : Int) := by
      rw [Int.tdiv_eq_ediv_of_nonneg (by omega), i64_id (by omega)]; omega
    have e3 : i64 ((k : Int) + 1) = ((k + 1 : Nat) : Int) := by rw [i64_id (by omega)]; omega
    have h1 : 1 + k ≤ 9223372036854775807 := by omega
    simp only [F43_l5, decide_eq_true (show (k : Int) < (w : Int) by omega), hu, numsOf, hs, padB_size, ha, e1, e3, h1, if_true]
    exact ih
theorem rdgB {n w : Nat} (hw : w ≤ 100) (h64 : (n : Int) ≤ 9223372036854775807) : F43_d 600 ((n : Int), (w : Int)) = some (padB w n) := by
  have L := rdig_loop n w hw h64 w 600 0 (by omega) (by omega)
  rw [Nat.pow_zero, Nat.div_one] at L
  have L' : F43_d5 600 ((n : Int), (w : Int), (⟨#[]⟩ : ByteArray), 0) = some (padB w n) := L
  simp only [F43_d, FSpec.d, F43_s, L']
theorem rformat_ok {l : List (List AV)} {t : Int} {y m d hh mm ss us : Nat} (h : F28_d 600 (l, t) = some ((y : Int), (m : Int), (d : Int), (hh : Int), (mm : Int), (ss : Int), (us : Int), 0)) (b : y < 10000 ∧ m < 100 ∧ d < 100 ∧ hh < 100 ∧ mm < 100 ∧ ss < 100 ∧ us < 1000000) : F29_d 600 (l, t) = some (fmtB y m d hh mm ss us, 0) := by
  obtain ⟨b1, b2, b3, b4, b5, b6, b7⟩ := b
  have g1 : F43_d 600 ((y : Int), 4) = some (padB 4 y) := rdgB (w := 4) (by omega) (by omega)
  have g2 : F43_d 600 ((m : Int), 2) = some (padB 2 m) := rdgB (w := 2) (by omega) (by omega)
  have g3 : F43_d 600 ((d : Int), 2) = some (padB 2 d) := rdgB (w := 2) (by omega) (by omega)
  have g4 : F43_d 600 ((hh : Int), 2) = some (padB 2 hh) := rdgB (w := 2) (by omega) (by omega)
  have g5 : F43_d 600 ((mm : Int), 2) = some (padB 2 mm) := rdgB (w := 2) (by omega) (by omega)
  have g6 : F43_d 600 ((ss : Int), 2) = some (padB 2 ss) := rdgB (w := 2) (by omega) (by omega)
  have g7 : F43_d 600 ((us : Int), 6) = some (padB 6 us) := rdgB (w := 6) (by omega) (by omega)
  have z : ((0 : Int) != 0) = false := rfl
  simp only [F29_d, FSpec.d, F29_s, h, z, g1, g2, g3, g4, g5, g6, g7, ByteArray.size_append, padB_size, one_size, Nat.reduceAdd, Nat.reduceLeDiff, if_true]
  rfl
theorem fmt_size (y m d hh mm ss us : Nat) : (fmtB y m d hh mm ss us).size = 27 := by
  have hg := fmt_good y m d hh mm ss us
  unfold goodP at hg
  rw [Bool.and_eq_true] at hg
  exact of_decide_eq_true hg.1
/-- Texts of times are the same by both packages. -/
theorem fmt_any {L : List Int} (hl : L.length ≤ 80) (t : Int) : ∃ u, F16_d 600 (rowsI L, t) = some u ∧ F29_d 600 (rowsI L, t) = some u ∧ u.1.size ≤ 27 := by
  obtain ⟨v, v1, v2, v3⟩ := valid_any hl
  cases v
  · have c1 : F18_d 600 (rowsI L, t) = some (0, 0, 0, 0, 0, 0, 0, 1) := by simp only [F18_d, FSpec.d, F18_s, v1, Bool.not_false]
    have c2 : F28_d 600 (rowsI L, t) = some (0, 0, 0, 0, 0, 0, 0, 1) := by simp only [F28_d, FSpec.d, F28_s, v2, Bool.not_false]
    have z : ((1 : Int) != 0) = true := rfl
    refine ⟨(⟨#[]⟩, 1), ?_, ?_, Nat.zero_le _⟩
    · simp only [F16_d, FSpec.d, F16_s, c1, z]
    · simp only [F29_d, FSpec.d, F29_s, c2, z]
  · obtain ⟨ds, G, rfl⟩ := v3 rfl
    by_cases h : 0 ≤ t ∧ t ≤ 9007199254740992
    · obtain ⟨p, b, -, S⟩ := spot_ok G (t / 1000000)
      obtain ⟨y, m, d, hh, mm, ss, us, f1, f2, bd, -⟩ := fmt_civ G h S _ rfl
      exact ⟨_, f1, rformat_ok (rciv_ok G h f2) bd, Nat.le_of_eq (fmt_size _ _ _ _ _ _ _)⟩
    · have c1 : F18_d 600 (rowsI (lp ds), t) = some (0, 0, 0, 0, 0, 0, 0, 2) := by simp only [F18_d, FSpec.d, F18_s, v1, time_no 600 h, Bool.not_true, Bool.not_false]
      have c2 : F28_d 600 (rowsI (lp ds), t) = some (0, 0, 0, 0, 0, 0, 0, 2) := by simp only [F28_d, FSpec.d, F28_s, v2, rin_ok, decide_eq_false h, Bool.not_true, Bool.not_false]
      have z : ((2 : Int) != 0) = true := rfl
      refine ⟨(⟨#[]⟩, 2), ?_, ?_, Nat.zero_le _⟩
      · simp only [F16_d, FSpec.d, F16_s, c1, z]
      · simp only [F29_d, FSpec.d, F29_s, c2, z]
end Go.Proofs.YtaanjciokdpkmaaDoor
/- Utc, the plain law: times of civil times by both packages (UtcExact). -/
namespace Go.Proofs.YtaanjciokdpkmaaDoor
open Go.RowKit
set_option linter.unusedVariables false
set_option linter.unusedSimpArgs false
set_option linter.unnecessarySimpa false
theorem cut_ex {ds : List Int} (G : Good ds) (s : Int) : ∀ k, k ≤ (lp ds).length → ∃ m, m ≤ k ∧ (∀ q (h : q < (lp ds).length), q < m → (lp ds)[q] - (q : Int) ≤ s) ∧ (∀ q (h : q < (lp ds).length), m ≤ q → q < k → s < (lp ds)[q] - (q : Int))
  | 0, hk => ⟨0, Nat.le_refl _, fun q h hq => by omega, fun q h hq hq2 => by omega⟩
  | k + 1, hk => by
    obtain ⟨m, m1, m2, m3⟩ := cut_ex G s k (by omega)
    have hk' : k < (lp ds).length := by omega
    by_cases hmk : m = k
    · subst hmk
      by_cases h : (lp ds)[m] - (m : Int) ≤ s
      · refine ⟨m + 1, Nat.le_refl _, fun q hq hqm => ?_, fun q hq h1 h2 => by omega⟩
        by_cases hqe : q = m
        · subst hqe; exact h
        · exact m2 q hq (by omega)
      · refine ⟨m, by omega, m2, fun q hq h1 h2 => ?_⟩
        obtain rfl : q = m := by omega
        omega
    · refine ⟨m, by omega, m2, fun q hq h1 h2 => ?_⟩
      by_cases hqk : q < k
      · exact m3 q hq h1 hqk
      · obtain rfl : q = k := by omega
        have hm : m < (lp ds).length := by omega
        have a1 := m3 m hm (Nat.le_refl _) (by omega)
        have a2 := lp_inc G (show m < q by omega) hq
        have hl := G.len
        rw [← lp_len] at hl
        obtain ⟨c, c1, c2, c3, c4⟩ := Good.at ds G m hm
        obtain ⟨d, d1, d2, d3, d4⟩ := Good.at ds G q hq
        omega
theorem from32 {ds : List Int} (G : Good ds) {s : Int} (hs : 0 ≤ s ∧ s ≤ 100000000000) {m : Nat} (hm : m ≤ (lp ds).length) (hin : ∀ q (h : q < (lp ds).length), q < m → (lp ds)[q] - (q : Int) ≤ s) (hout : ∀ q (h : q < (lp ds).length), m ≤ q → s < (lp ds)[q] - (q : Int)) (r : Int × Int × Int × Int × Int × Int × Int) : ∀ (k f i : Nat), i + k = (lp ds).length → k < f → (F33_l32 600).L f (rowsI (lp ds), s, s + ((min i m : Nat) : Int), (i : Int), r) = some (s + (m : Int), r)
  | 0, f, i, hk, hf => by
    obtain ⟨f, rfl⟩ : ∃ f', f = f' + 1 := ⟨f - 1, by omega⟩
    show (F33_l32 600).b _ _ ((F33_l32 600).L f) some = _
    generalize (F33_l32 600).L f = Lf
    have e : min i m = m := by omega
    simp only [F33_l32, rowsI_len, decide_eq_false (show ¬ (i : Int) < ((lp ds).length : Int) by omega), e]
  | k + 1, f, i, hk, hf => by
    have hl := G.len
    rw [← lp_len] at hl
    obtain ⟨f, rfl⟩ : ∃ f', f = f' + 1 := ⟨f - 1, by omega⟩
    have ih := from32 G hs hm hin hout r k f (i + 1) (by omega) (by omega)
    have hi : i < (lp ds).length := by omega
    obtain ⟨d, d1, d2, d3, d4⟩ := Good.at ds G i hi
    have hr : ((rowsI (lp ds))[((i : Int)).toNat]? : Option (List AV)) = some [AV.v (.int .i64 ((lp ds)[i]))] := by
      rw [show ((i : Int)).toNat = i by omega]; exact rowsI_get _ i hi
    have h0 : (0 : Int) ≤ (i : Int) := by omega
    have e1 : i64 ((lp ds)[i] - (i : Int)) = (lp ds)[i] - (i : Int) := i64_id (by omega)
    have e3 : i64 ((i : Int) + 1) = ((i + 1 : Nat) : Int) := by rw [i64_id (by omega)]; omega
    show (F33_l32 600).b _ _ ((F33_l32 600).L f) some = _
    generalize (F33_l32 600).L f = Lf at ih ⊢
    by_cases h : i < m
    · have g := hin i hi h
      have e2 : i64 (s + ((min i m : Nat) : Int) + 1) = s + ((min (i + 1) m : Nat) : Int) := by rw [i64_id (by omega)]; omega
      simp only [F33_l32, rowsI_len, decide_eq_true (show (i : Int) < ((lp ds).length : Int) by omega), h0, hr, List.getElem?_cons_zero, e1, decide_eq_true g, e2, e3, if_true]
      exact ih
    · have g := hout i hi (by omega)
      rw [show min (i + 1) m = min i m by omega] at ih
      simp only [F33_l32, rowsI_len, decide_eq_true (show (i : Int) < ((lp ds).length : Int) by omega), h0, hr, List.getElem?_cons_zero, e1, decide_eq_false (show ¬ (lp ds)[i] - (i : Int) ≤ s by omega), e3, if_true]
      exact ih
theorem from18no {ds : List Int} (G : Good ds) {s t : Int} (r : Int × Int × Int × Int × Int × Int × Int) : ∀ (k f i : Nat), i + k = (lp ds).length → k < f → (∀ q (h : q < (lp ds).length), i ≤ q → (lp ds)[q] - (q : Int) ≠ s) → (F33_l18 600).L f (rowsI (lp ds), s, t, (i : Int), r) = some (t, r)
  | 0, f, i, hk, hf, hn => by
    obtain ⟨f, rfl⟩ : ∃ f', f = f' + 1 := ⟨f - 1, by omega⟩
    show (F33_l18 600).b _ _ ((F33_l18 600).L f) some = _
    generalize (F33_l18 600).L f = Lf
    simp only [F33_l18, rowsI_len, decide_eq_false (show ¬ (i : Int) < ((lp ds).length : Int) by omega)]
  | k + 1, f, i, hk, hf, hn => by
    have hl := G.len
    rw [← lp_len] at hl
    obtain ⟨f, rfl⟩ : ∃ f', f = f' + 1 := ⟨f - 1, by omega⟩
    have ih := from18no G (s := s) (t := t) r k f (i + 1) (by omega) (by omega) (fun q h hq => hn q h (by omega))
    have hi : i < (lp ds).length := by omega
    obtain ⟨d, d1, d2, d3, d4⟩ := Good.at ds G i hi
    have hr : ((rowsI (lp ds))[((i : Int)).toNat]? : Option (List AV)) = some [AV.v (.int .i64 ((lp ds)[i]))] := by
      rw [show ((i : Int)).toNat = i by omega]; exact rowsI_get _ i hi
    have h0 : (0 : Int) ≤ (i : Int) := by omega
    have e1 : i64 ((lp ds)[i] - (i : Int)) = (lp ds)[i] - (i : Int) := i64_id (by omega)
    have e3 : i64 ((i : Int) + 1) = ((i + 1 : Nat) : Int) := by rw [i64_id (by omega)]; omega
    have z : ((lp ds)[i] - (i : Int) == s) = false := beq_eq_false_iff_ne.2 (hn i hi (Nat.le_refl _))
    show (F33_l18 600).b _ _ ((F33_l18 600).L f) some = _
    generalize (F33_l18 600).L f = Lf at ih ⊢
    simp only [F33_l18, rowsI_len, decide_eq_true (show (i : Int) < ((lp ds).length : Int) by omega), h0, hr, List.getElem?_cons_zero, e1, z, e3, if_true]
    exact ih
theorem from18yes {ds : List Int} (G : Good ds) {s t : Int} {j : Nat} (hj : j < (lp ds).length) (e : (lp ds)[j] - (j : Int) = s) (y m d ss us : Int) : ∀ (k f i : Nat), i + k = j → k + 100 < f → (F33_l18 600).L f (rowsI (lp ds), s, t, (i : Int), (y, m, d, 23, 59, ss, us)) = some ((lp ds)[j], (y, m, d, 23, 59, ss, us))
  | 0, f, i, hk, hf => by
    have hl := G.len
    rw [← lp_len] at hl
    obtain ⟨f, rfl⟩ : ∃ f', f = f' + 1 := ⟨f - 1, by omega⟩
    obtain rfl : i = j := by omega
    have nx := from18no G (s := s) (t := (lp ds)[i]) (y, m, d, 23, 59, ss, us) ((lp ds).length - (i + 1)) f (i + 1) (by omega) (by omega) (fun q h hq => by
      have a2 := lp_inc G (show i < q by omega) h
      obtain ⟨c, c1, c2, c3, c4⟩ := Good.at ds G i hj
      obtain ⟨b, b1, b2, b3, b4⟩ := Good.at ds G q h
      omega)
    obtain ⟨b, d1, d2, d3, d4⟩ := Good.at ds G i hj
    have hr : ((rowsI (lp ds))[((i : Int)).toNat]? : Option (List AV)) = some [AV.v (.int .i64 ((lp ds)[i]))] := by
      rw [show ((i : Int)).toNat = i by omega]; exact rowsI_get _ i hj
    have h0 : (0 : Int) ≤ (i : Int) := by omega
    have e1 : i64 ((lp ds)[i] - (i : Int)) = (lp ds)[i] - (i : Int) := i64_id (by omega)
    have e3 : i64 ((i : Int) + 1) = ((i + 1 : Nat) : Int) := by rw [i64_id (by omega)]; omega
    have z : ((lp ds)[i] - (i : Int) == s) = true := beq_iff_eq.2 e
    show (F33_l18 600).b _ _ ((F33_l18 600).L f) some = _
    generalize (F33_l18 600).L f = Lf at nx ⊢
    simp only [F33_l18, rowsI_len, decide_eq_true (show (i : Int) < ((lp ds).length : Int) by omega), h0, hr, List.getElem?_cons_zero, e1, z, show ((23 : Int) == 23) = true from rfl, show ((59 : Int) == 59) = true from rfl, e3, if_true]
    exact nx
  | k + 1, f, i, hk, hf => by
    have hl := G.len
    rw [← lp_len] at hl
    obtain ⟨f, rfl⟩ : ∃ f', f = f' + 1 := ⟨f - 1, by omega⟩
    have ih := from18yes G (s := s) (t := t) hj e y m d ss us k f (i + 1) (by omega) (by omega)
    have hi : i < (lp ds).length := by omega
    have a2 := lp_inc G (show i < j by omega) hj
    obtain ⟨c, c1, c2, c3, c4⟩ := Good.at ds G j hj
    obtain ⟨b, d1, d2, d3, d4⟩ := Good.at ds G i hi
    have hr : ((rowsI (lp ds))[((i : Int)).toNat]? : Option (List AV)) = some [AV.v (.int .i64 ((lp ds)[i]))] := by
      rw [show ((i : Int)).toNat = i by omega]; exact rowsI_get _ i hi
    have h0 : (0 : Int) ≤ (i : Int) := by omega
    have e1 : i64 ((lp ds)[i] - (i : Int)) = (lp ds)[i] - (i : Int) := i64_id (by omega)
    have e3 : i64 ((i : Int) + 1) = ((i + 1 : Nat) : Int) := by rw [i64_id (by omega)]; omega
    have z : ((lp ds)[i] - (i : Int) == s) = false := beq_eq_false_iff_ne.2 (by omega)
    show (F33_l18 600).b _ _ ((F33_l18 600).L f) some = _
    generalize (F33_l18 600).L f = Lf at ih ⊢
    simp only [F33_l18, rowsI_len, decide_eq_true (show (i : Int) < ((lp ds).length : Int) by omega), h0, hr, List.getElem?_cons_zero, e1, z, e3, if_true]
    exact ih
theorem val_rng {y m d : Int} (v : valD y m d) : 0 ≤ fst y + sm y (m - 1).toNat + d - 1 ∧ fst y + sm y (m - 1).toNat + d - 1 ≤ 201000 := by
  obtain ⟨v1, v2, v3, v4, v5, v6⟩ := v
  have a1 := fst_rng (y := y) (by omega)
  have a2 := sm_rng y (m - 1).toNat
  have a3 := lenM_rng y m
  omega
theorem rdays_val {y m d : Int} (v : valD y m d) : F9_d 600 (y, m, d) = some (fst y + sm y (m - 1).toNat + d - 1, true) := by
  rw [rdays_ok]
  unfold dayOf
  rw [if_pos v]
theorem days_no {y m d : Int} (v : ¬ valD y m d) : F8_d 600 (y, m, d) = some (0, false) ∧ F9_d 600 (y, m, d) = some (0, false) := by
  rw [days_ok, rdays_ok]
  unfold dayOf
  rw [if_neg v]
  exact ⟨rfl, rfl⟩
/-- The times of civil times are the same by both packages. -/
theorem from_any {L : List Int} (hl : L.length ≤ 80) (y m d hh mm ss us : Int) : ∃ a, F23_d 600 (rowsI L, y, m, d, hh, mm, ss, us) = some a ∧ F33_d 600 (rowsI L, y, m, d, hh, mm, ss, us) = some a := by
  obtain ⟨v, v1, v2, v3⟩ := valid_any hl
  cases v
  · refine ⟨(0, 1), ?_, ?_⟩
    · simp only [F23_d, FSpec.d, F23_s, v1, Bool.not_false]
    · simp only [F33_d, FSpec.d, F33_s, v2, Bool.not_false]
  obtain ⟨ds, G, rfl⟩ := v3 rfl
  have hlen := G.len
  rw [← lp_len] at hlen
  by_cases hv : valD y m d
  case neg =>
    obtain ⟨n1, n2⟩ := days_no hv
    refine ⟨(0, 2), ?_, ?_⟩
    · simp only [F23_d, FSpec.d, F23_s, v1, n1, Bool.not_true, Bool.not_false]
    · simp only [F33_d, FSpec.d, F33_s, v2, n2, Bool.not_true, Bool.not_false]
  have D1 := days_val hv
  have D2 := rdays_val hv
  have hd := val_rng hv
  obtain ⟨dn, hdn⟩ : ∃ dn, fst y + sm y (m - 1).toNat + d - 1 = dn := ⟨_, rfl⟩
  rw [hdn] at D1 D2 hd
  by_cases h1 : 0 ≤ hh ∧ hh ≤ 23
  case neg =>
    refine ⟨(0, 2), ?_, ?_⟩
    · simp only [F23_d, FSpec.d, F23_s, v1, D1, in_ok, decide_eq_false h1, Bool.not_true, Bool.not_false]
    · simp only [F33_d, FSpec.d, F33_s, v2, D2, rin_ok, decide_eq_false h1, Bool.not_true, Bool.not_false]
  by_cases h2 : 0 ≤ mm ∧ mm ≤ 59
  case neg =>
    refine ⟨(0, 2), ?_, ?_⟩
    · simp only [F23_d, FSpec.d, F23_s, v1, D1, in_ok, decide_eq_true h1, decide_eq_false h2, Bool.not_true, Bool.not_false]
    · simp only [F33_d, FSpec.d, F33_s, v2, D2, rin_ok, decide_eq_true h1, decide_eq_false h2, Bool.not_true, Bool.not_false]
  by_cases h3 : 0 ≤ ss ∧ ss ≤ 60
  case neg =>
    refine ⟨(0, 2), ?_, ?_⟩
    · simp only [F23_d, FSpec.d, F23_s, v1, D1, in_ok, decide_eq_true h1, decide_eq_true h2, decide_eq_false h3, Bool.not_true, Bool.not_false]
    · simp only [F33_d, FSpec.d, F33_s, v2, D2, rin_ok, decide_eq_true h1, decide_eq_true h2, decide_eq_false h3, Bool.not_true, Bool.not_false]
  by_cases h4 : 0 ≤ us ∧ us ≤ 999999
  case neg =>
    refine ⟨(0, 2), ?_, ?_⟩
    · simp only [F23_d, FSpec.d, F23_s, v1, D1, in_ok, decide_eq_true h1, decide_eq_true h2, decide_eq_true h3, decide_eq_false h4, Bool.not_true, Bool.not_false]
    · simp only [F33_d, FSpec.d, F33_s, v2, D2, rin_ok, decide_eq_true h1, decide_eq_true h2, decide_eq_true h3, decide_eq_false h4, Bool.not_true, Bool.not_false]
  have e0 : i64 (dn * 86400) = dn * 86400 := i64_id (by omega)
  have e1 : i64 (hh * 3600) = hh * 3600 := i64_id (by omega)
  have e2 : i64 (dn * 86400 + hh * 3600) = dn * 86400 + hh * 3600 := i64_id (by omega)
  have e3 : i64 (mm * 60) = mm * 60 := i64_id (by omega)
  have e4 : i64 (dn * 86400 + hh * 3600 + mm * 60) = dn * 86400 + hh * 3600 + mm * 60 := i64_id (by omega)
  obtain ⟨s, hs⟩ : ∃ s, dn * 86400 + hh * 3600 + mm * 60 + ss = s := ⟨_, rfl⟩
  have e5 : i64 (dn * 86400 + hh * 3600 + mm * 60 + ss) = s := by rw [i64_id (by omega)]; exact hs
  have hsr : 0 ≤ s ∧ s ≤ 100000000000 := by omega
  obtain ⟨q, q1, q2, q3⟩ := cut_ex G s (lp ds).length (Nat.le_refl _)
  have L : F23_d14 600 (rowsI (lp ds), s, 0, y, m, d, hh, mm, ss, us) = some (rowsI (lp ds), s, (q : Int), y, m, d, hh, mm, ss, us) := from_loop G q1 q2 (fun h => q3 q h (Nat.le_refl _) h) (y, m, d, hh, mm, ss, us) q 600 0 (by omega) (by omega)
  by_cases h60 : ss = 60
  · subst h60
    have z60 : ((60 : Int) == 60) = true := rfl
    by_cases hj : ∃ j, ∃ h : j < (lp ds).length, (lp ds)[j] - (j : Int) = s
    · obtain ⟨j, hjl, ej⟩ := hj
      obtain ⟨c, c1, c2, c3, c4⟩ := Good.at ds G j hjl
      obtain rfl : q = j + 1 := by
        rcases Nat.lt_trichotomy q (j + 1) with h | h | h
        · have := q3 j hjl (by omega) hjl
          omega
        · exact h
        · have hj1 : j + 1 < (lp ds).length := by omega
          have a1 := q2 (j + 1) hj1 h
          have a2 := lp_inc G (show j < j + 1 by omega) hj1
          omega
      obtain ⟨rfl, rfl⟩ : hh = 23 ∧ mm = 59 := by omega
      have L18 : F33_d18 600 (rowsI (lp ds), s, -1, 0, y, m, d, 23, 59, 60, us) = some ((lp ds)[j], y, m, d, 23, 59, 60, us) := from18yes G hjl ej y m d 60 us j 600 0 (by omega) (by omega)
      have hr := rowsI_get (lp ds) j hjl
      have g0 : (((j + 1 : Nat) : Int) == 0) = false := beq_eq_false_iff_ne.2 (by omega)
      have g1 : i64 (((j + 1 : Nat) : Int) - 1) = (j : Int) := by rw [i64_id (by omega)]; omega
      have g2 : i64 ((lp ds)[j] - (j : Int)) = s := by rw [i64_id (by omega)]; exact ej
      have g3 : (s != s) = false := by simp
      have g4 : i64 (s + (j : Int)) = (lp ds)[j] := by rw [i64_id (by omega)]; omega
      have g5 : i64 ((lp ds)[j] * 1000000) = (lp ds)[j] * 1000000 := i64_id (by omega)
      have g6 : i64 ((lp ds)[j] * 1000000 + us) = (lp ds)[j] * 1000000 + us := i64_id (by omega)
      by_cases hmx : (lp ds)[j] * 1000000 + us > 9007199254740992
      · omega
      · refine ⟨((lp ds)[j] * 1000000 + us, 0), ?_, ?_⟩
        · simp only [F23_d, FSpec.d, F23_s, v1, D1, in_ok, decide_eq_true h1, decide_eq_true h2, decide_eq_true h3, decide_eq_true h4, Bool.not_true, e0, e1, e2, e3, e4, e5, L, z60, g0, g1, show (0 : Int) ≤ (j : Int) by omega, if_true, Int.toNat_natCast, hr, List.getElem?_cons_zero, g2, g3, g4, g5, g6, decide_eq_false hmx]
        · simp only [F33_d, FSpec.d, F33_s, v2, D2, rin_ok, decide_eq_true h1, decide_eq_true h2, decide_eq_true h3, decide_eq_true h4, Bool.not_true, e0, e1, e2, e3, e4, e5, L18, z60, decide_eq_false (show ¬ (lp ds)[j] < 0 by omega), decide_eq_false (show ¬ (lp ds)[j] > 9007199254 by omega), g5, g6, decide_eq_false hmx]
    · have L18 : F33_d18 600 (rowsI (lp ds), s, -1, 0, y, m, d, hh, mm, 60, us) = some (-1, y, m, d, hh, mm, 60, us) := from18no G (y, m, d, hh, mm, 60, us) (lp ds).length 600 0 (by omega) (by omega) (fun q h _ e => hj ⟨q, h, e⟩)
      refine ⟨(0, 6), ?_, ?_⟩
      · by_cases hq : q = 0
        · subst hq
          simp only [F23_d, FSpec.d, F23_s, v1, D1, in_ok, decide_eq_true h1, decide_eq_true h2, decide_eq_true h3, decide_eq_true h4, Bool.not_true, e0, e1, e2, e3, e4, e5, L, z60, show ((((0 : Nat) : Int)) == 0) = true from rfl]
        · have hq1 : q - 1 < (lp ds).length := by omega
          have hr := rowsI_get (lp ds) (q - 1) hq1
          obtain ⟨c, c1, c2, c3, c4⟩ := Good.at ds G (q - 1) hq1
          have g0 : ((q : Int) == 0) = false := beq_eq_false_iff_ne.2 (by omega)
          have g1 : i64 ((q : Int) - 1) = ((q - 1 : Nat) : Int) := by rw [i64_id (by omega)]; omega
          have g2 : i64 ((lp ds)[q - 1] - ((q - 1 : Nat) : Int)) = (lp ds)[q - 1] - ((q - 1 : Nat) : Int) := i64_id (by omega)
          have g3 : ((lp ds)[q - 1] - ((q - 1 : Nat) : Int) != s) = true := bne_iff_ne.2 (fun e => hj ⟨q - 1, hq1, e⟩)
          simp only [F23_d, FSpec.d, F23_s, v1, D1, in_ok, decide_eq_true h1, decide_eq_true h2, decide_eq_true h3, decide_eq_true h4, Bool.not_true, e0, e1, e2, e3, e4, e5, L, z60, g0, g1, show (0 : Int) ≤ ((q - 1 : Nat) : Int) by omega, if_true, Int.toNat_natCast, hr, List.getElem?_cons_zero, g2, g3]
      · simp only [F33_d, FSpec.d, F33_s, v2, D2, rin_ok, decide_eq_true h1, decide_eq_true h2, decide_eq_true h3, decide_eq_true h4, Bool.not_true, e0, e1, e2, e3, e4, e5, L18, z60, show decide ((-1 : Int) < 0) = true from rfl]
  · have z60 : (ss == 60) = false := beq_eq_false_iff_ne.2 h60
    have L32 : F33_d32 600 (rowsI (lp ds), s, s, 0, y, m, d, hh, mm, ss, us) = some (s + (q : Int), y, m, d, hh, mm, ss, us) := by
      have := from32 G hsr q1 q2 (fun p h hp => q3 p h hp h) (y, m, d, hh, mm, ss, us) (lp ds).length 600 0 (by omega) (by omega)
      rw [show s + ((min 0 q : Nat) : Int) = s by omega] at this
      exact this
    have g4 : i64 (s + (q : Int)) = s + q := i64_id (by omega)
    have g5 : i64 ((s + (q : Int)) * 1000000) = (s + q) * 1000000 := i64_id (by omega)
    have g6 : i64 ((s + (q : Int)) * 1000000 + us) = (s + q) * 1000000 + us := i64_id (by omega)
    by_cases hmx : (s + (q : Int)) * 1000000 + us > 9007199254740992
    · refine ⟨(0, 2), ?_, ?_⟩
      · simp only [F23_d, FSpec.d, F23_s, v1, D1, in_ok, decide_eq_true h1, decide_eq_true h2, decide_eq_true h3, decide_eq_true h4, Bool.not_true, e0, e1, e2, e3, e4, e5, L, z60, g4, g5, g6, decide_eq_true hmx]
      · by_cases hb : s + (q : Int) > 9007199254
        · simp only [F33_d, FSpec.d, F33_s, v2, D2, rin_ok, decide_eq_true h1, decide_eq_true h2, decide_eq_true h3, decide_eq_true h4, Bool.not_true, e0, e1, e2, e3, e4, e5, L32, z60, decide_eq_true hb]
        · simp only [F33_d, FSpec.d, F33_s, v2, D2, rin_ok, decide_eq_true h1, decide_eq_true h2, decide_eq_true h3, decide_eq_true h4, Bool.not_true, e0, e1, e2, e3, e4, e5, L32, z60, decide_eq_false hb, g5, g6, decide_eq_true hmx]
    · refine ⟨((s + (q : Int)) * 1000000 + us, 0), ?_, ?_⟩
      · simp only [F23_d, FSpec.d, F23_s, v1, D1, in_ok, decide_eq_true h1, decide_eq_true h2, decide_eq_true h3, decide_eq_true h4, Bool.not_true, e0, e1, e2, e3, e4, e5, L, z60, g4, g5, g6, decide_eq_false hmx]
      · simp only [F33_d, FSpec.d, F33_s, v2, D2, rin_ok, decide_eq_true h1, decide_eq_true h2, decide_eq_true h3, decide_eq_true h4, Bool.not_true, e0, e1, e2, e3, e4, e5, L32, z60, decide_eq_false (show ¬ s + (q : Int) > 9007199254 by omega), g5, g6, decide_eq_false hmx]
end Go.Proofs.YtaanjciokdpkmaaDoor
/- Utc, the plain law: times of texts by both packages (UtcExact). -/
namespace Go.Proofs.YtaanjciokdpkmaaDoor
open Go.RowKit
set_option linter.unusedVariables false
set_option linter.unusedSimpArgs false
set_option linter.unnecessarySimpa false
def avs (l : List Int) : List AV := l.map fun x => AV.v (.int .i64 x)
theorem avs_dat (l : List Int) : (avs l).map dat0 = avs l := by
  unfold avs
  rw [List.map_map]
  rfl
def rf : Nat → Nat
  | 0 => 0
  | k + 1 => if isSep (fmAt k) then rf k + 1 else rf k
def ra (s : ByteArray) : Nat → List Int
  | 0 => [0, 0, 0, 0, 0, 0, 0]
  | k + 1 => if isSep (fmAt k) then ra s k else (ra s k).set (rf k) (wd ((ra s k).getD (rf k) 0) (byAt s k))
theorem ra_len (s : ByteArray) : ∀ k, (ra s k).length = 7
  | 0 => rfl
  | k + 1 => by
    unfold ra
    split
    · exact ra_len s k
    · rw [List.length_set]; exact ra_len s k
theorem get_by {s : ByteArray} {k : Nat} (h : k < s.size) : ∃ c : UInt8, s[k]? = some c ∧ (c.toNat : Int) = byAt s k := by
  refine ⟨s[k], getElem?_pos s k h, ?_⟩
  have h' : k < s.data.size := h
  unfold byAt
  rw [Array.getD_eq_getD_getElem?, Array.getElem?_eq_getElem h']
  rfl
def refP : ByteArray := ⟨#[48, 48, 48, 48, 45, 48, 48, 45, 48, 48, 84, 48, 48, 58, 48, 48, 58, 48, 48, 46, 48, 48, 48, 48, 48, 48, 90]⟩
theorem ref_at : ∀ k, k < 27 → byAt refP k = if isSep (fmAt k) then fmAt k else 48 := by decide
theorem sep_ne : ∀ k, k < 27 → isSep (fmAt k) = true → fmAt k ≠ 48 := by decide
theorem rf_lt : ∀ k, k < 27 → isSep (fmAt k) = false → rf k < 7 := by decide
theorem rf_le : ∀ k, k < 28 → rf k < 10 := by decide
theorem p_step {R : List (List AV)} {s : ByteArray} (hs : s.size = 27) {k : Nat} (hk : k < 27) (hok : okAt (fmAt k) (byAt s k) = true) (f : Nat) : (F31_l14 600).L (f + 1) (R, s, (rf k : Int), (k : Int), avs (ra s k)) = (F31_l14 600).L f (R, s, (rf (k + 1) : Int), ((k + 1 : Nat) : Int), avs (ra s (k + 1))) := by
  obtain ⟨c, c1, c2⟩ := get_by (s := s) (k := k) (by omega)
  obtain ⟨r, r1, r2⟩ := get_by (s := refP) (k := k) hk
  have r1' : (⟨#[48, 48, 48, 48, 45, 48, 48, 45, 48, 48, 84, 48, 48, 58, 48, 48, 58, 48, 48, 46, 48, 48, 48, 48, 48, 48, 90]⟩ : ByteArray)[k]? = some r := r1
  rw [ref_at k hk] at r2
  have h0 : (0 : Int) ≤ (k : Int) := by omega
  have e3 : i64 ((k : Int) + 1) = ((k + 1 : Nat) : Int) := by rw [i64_id (by omega)]; omega
  have hrf := rf_le k (by omega)
  show (F31_l14 600).b _ _ ((F31_l14 600).L f) some = _
  generalize (F31_l14 600).L f = Lf
  unfold okAt at hok
  by_cases h : isSep (fmAt k) = true
  · rw [if_pos h] at hok r2
    have hx : byAt s k = fmAt k := by simpa using hok
    have z1 : ((r.toNat : Int) != 48) = true := by rw [r2]; exact bne_iff_ne.2 (sep_ne k hk h)
    have z2 : ((c.toNat : Int) != (r.toNat : Int)) = false := by rw [r2, c2, hx]; simp
    have e1 : rf (k + 1) = rf k + 1 := if_pos h
    have e2 : ra s (k + 1) = ra s k := if_pos h
    have e4 : i64 ((rf k : Int) + 1) = ((rf k + 1 : Nat) : Int) := by rw [i64_id (by omega)]; omega
    rw [e1, e2]
    simp only [F31_l14, decide_eq_true (show (k : Int) < 27 by omega), h0, Int.toNat_natCast, r1', z1, c1, z2, e3, e4, avs_dat, if_true]
    exact if_pos trivial
  · have h' : isSep (fmAt k) = false := by simpa using h
    rw [if_neg h] at hok r2
    have hx : 48 ≤ byAt s k ∧ byAt s k ≤ 57 := by simpa using hok
    have z1 : ((r.toNat : Int) != 48) = false := by rw [r2]; rfl
    have e1 : rf (k + 1) = rf k := if_neg h
    have e2 : ra s (k + 1) = (ra s k).set (rf k) (wd ((ra s k).getD (rf k) 0) (byAt s k)) := if_neg h
    have hr7 := rf_lt k hk h'
    have hl := ra_len s k
    have hg : (avs (ra s k))[0 + rf k * 1]? = some (AV.v (.int .i64 ((ra s k).getD (rf k) 0))) := by
      rw [Nat.zero_add, Nat.mul_one]
      unfold avs
      rw [List.getElem?_map, List.getElem?_eq_getElem (by omega), List.getD_eq_getElem?_getD, List.getElem?_eq_getElem (by omega)]
      rfl
    have hw : i64 (i64 (10 * (ra s k).getD (rf k) 0) + IntKind.i64.wrap (IntKind.u8.wrap ((c.toNat : Int) - 48))) = wd ((ra s k).getD (rf k) 0) (byAt s k) := by
      rw [c2, IntWalk.u8_in _ (by omega), IntWalk.i64_in _ (by omega)]
      show IntKind.i64.wrap (IntKind.i64.wrap (10 * (ra s k).getD (rf k) 0) + _) = _
      rw [IntWalk.i64_left, IntWalk.i64_left]
      rfl
    have hset : (avs (ra s k)).set (0 + rf k * 1) (AV.v (.int .i64 (wd ((ra s k).getD (rf k) 0) (byAt s k)))) = avs ((ra s k).set (rf k) (wd ((ra s k).getD (rf k) 0) (byAt s k))) := by
      rw [Nat.zero_add, Nat.mul_one]
      unfold avs
      rw [List.map_set]
    have hal : (avs (ra s k)).length = 7 := by unfold avs; rw [List.length_map]; exact hl
    rw [e1, e2]
    have g1 : (0 : Int) ≤ (rf k : Int) ∧ (rf k : Int) < 7 := by omega
    have g2 : 0 + rf k * 1 + 1 ≤ 7 := by omega
    simp only [F31_l14, decide_eq_true (show (k : Int) < 27 by omega), h0, Int.toNat_natCast, r1', z1, c1, decide_eq_false (show ¬ (c.toNat : Int) < 48 by omega), decide_eq_false (show ¬ (c.toNat : Int) > 57 by omega), g1, and_self, hg, hw, hal, g2, hset, e3, avs_dat, if_true]
    exact if_pos trivial
theorem p_bad {R : List (List AV)} {s : ByteArray} (hs : s.size = 27) {k : Nat} (hk : k < 27) (hok : okAt (fmAt k) (byAt s k) = false) (f : Nat) : (F31_l14 600).L (f + 1) (R, s, (rf k : Int), (k : Int), avs (ra s k)) = some (.inl (R, 0, 3, avs (ra s k))) := by
  obtain ⟨c, c1, c2⟩ := get_by (s := s) (k := k) (by omega)
  obtain ⟨r, r1, r2⟩ := get_by (s := refP) (k := k) hk
  have r1' : (⟨#[48, 48, 48, 48, 45, 48, 48, 45, 48, 48, 84, 48, 48, 58, 48, 48, 58, 48, 48, 46, 48, 48, 48, 48, 48, 48, 90]⟩ : ByteArray)[k]? = some r := r1
  rw [ref_at k hk] at r2
  have h0 : (0 : Int) ≤ (k : Int) := by omega
  show (F31_l14 600).b _ _ ((F31_l14 600).L f) some = _
  generalize (F31_l14 600).L f = Lf
  unfold okAt at hok
  by_cases h : isSep (fmAt k) = true
  · rw [if_pos h] at hok r2
    have hx : byAt s k ≠ fmAt k := by simpa using hok
    have z1 : ((r.toNat : Int) != 48) = true := by rw [r2]; exact bne_iff_ne.2 (sep_ne k hk h)
    have z2 : ((c.toNat : Int) != (r.toNat : Int)) = true := by rw [r2, c2]; exact bne_iff_ne.2 hx
    simp only [F31_l14, decide_eq_true (show (k : Int) < 27 by omega), h0, Int.toNat_natCast, r1', z1, c1, z2, avs_dat, if_true]
  · rw [if_neg h] at hok r2
    have z1 : ((r.toNat : Int) != 48) = false := by rw [r2]; rfl
    by_cases h1 : (c.toNat : Int) < 48
    · simp only [F31_l14, decide_eq_true (show (k : Int) < 27 by omega), h0, Int.toNat_natCast, r1', z1, c1, decide_eq_true h1, avs_dat, if_true]
    · have h2 : (c.toNat : Int) > 57 := by
        simp at hok
        have := hok (by omega)
        omega
      simp only [F31_l14, decide_eq_true (show (k : Int) < 27 by omega), h0, Int.toNat_natCast, r1', z1, c1, decide_eq_false h1, decide_eq_true h2, avs_dat, if_true]
theorem p_run {R : List (List AV)} {s : ByteArray} (hs : s.size = 27) : ∀ (j f k : Nat), k + j = 27 → j < f → (∀ i, i < k → okAt (fmAt i) (byAt s i) = true) → (∃ A, (F31_l14 600).L f (R, s, (rf k : Int), (k : Int), avs (ra s k)) = some (.inl (R, 0, 3, A)) ∧ goodP s = false) ∨ ((F31_l14 600).L f (R, s, (rf k : Int), (k : Int), avs (ra s k)) = some (.inr (R, avs (ra s 27))) ∧ goodP s = true)
  | 0, f, k, hk, hf, hp => by
    obtain ⟨f, rfl⟩ : ∃ f', f = f' + 1 := ⟨f - 1, by omega⟩
    obtain rfl : k = 27 := by omega
    refine .inr ⟨?_, ?_⟩
    · show (F31_l14 600).b _ _ ((F31_l14 600).L f) some = _
      generalize (F31_l14 600).L f = Lf
      simp only [F31_l14, decide_eq_false (show ¬ ((27 : Nat) : Int) < 27 by omega), avs_dat]
    · unfold goodP
      rw [decide_eq_true hs, Bool.true_and, List.all_eq_true]
      exact fun j hj => hp j (List.mem_range.1 hj)
  | j + 1, f, k, hk, hf, hp => by
    obtain ⟨f, rfl⟩ : ∃ f', f = f' + 1 := ⟨f - 1, by omega⟩
    cases hok : okAt (fmAt k) (byAt s k)
    · refine .inl ⟨_, p_bad hs (by omega) hok f, ?_⟩
      cases hg : goodP s
      · rfl
      · unfold goodP at hg
        rw [decide_eq_true hs, Bool.true_and, List.all_eq_true] at hg
        have := hg k (List.mem_range.2 (by omega))
        rw [hok] at this
        cases this
    · rw [p_step hs (by omega) hok f]
      exact p_run hs j f (k + 1) (by omega) (by omega) (fun i hi => by
        by_cases hik : i < k
        · exact hp i hik
        · obtain rfl : i = k := by omega
          exact hok)
theorem ra_sep (s : ByteArray) (k : Nat) (h : isSep (fmAt k) = true) : ra s (k + 1) = ra s k := if_pos h
theorem ra_dig (s : ByteArray) (k : Nat) (h : isSep (fmAt k) = false) : ra s (k + 1) = (ra s k).set (rf k) (wd ((ra s k).getD (rf k) 0) (byAt s k)) := if_neg (by rw [h]; decide)
theorem ra_end (s : ByteArray) : ra s 27 = [fldP s 27 89, fldP s 27 77, fldP s 27 68, fldP s 27 104, fldP s 27 109, fldP s 27 115, fldP s 27 117] := by
  have a1 : ra s 1 = [wd 0 (byAt s 0), 0, 0, 0, 0, 0, 0] := by rw [ra_dig s 0 rfl]; rfl
  have a2 : ra s 2 = [wd (wd 0 (byAt s 0)) (byAt s 1), 0, 0, 0, 0, 0, 0] := by rw [ra_dig s 1 rfl, a1]; rfl
  have a3 : ra s 3 = [wd (wd (wd 0 (byAt s 0)) (byAt s 1)) (byAt s 2), 0, 0, 0, 0, 0, 0] := by rw [ra_dig s 2 rfl, a2]; rfl
  have a4 : ra s 4 = [wd (wd (wd (wd 0 (byAt s 0)) (byAt s 1)) (byAt s 2)) (byAt s 3), 0, 0, 0, 0, 0, 0] := by rw [ra_dig s 3 rfl, a3]; rfl
  have a5 : ra s 5 = [wd (wd (wd (wd 0 (byAt s 0)) (byAt s 1)) (byAt s 2)) (byAt s 3), 0, 0, 0, 0, 0, 0] := by rw [ra_sep s 4 rfl, a4]
  have a6 : ra s 6 = [wd (wd (wd (wd 0 (byAt s 0)) (byAt s 1)) (byAt s 2)) (byAt s 3), wd 0 (byAt s 5), 0, 0, 0, 0, 0] := by rw [ra_dig s 5 rfl, a5]; rfl
  have a7 : ra s 7 = [wd (wd (wd (wd 0 (byAt s 0)) (byAt s 1)) (byAt s 2)) (byAt s 3), wd (wd 0 (byAt s 5)) (byAt s 6), 0, 0, 0, 0, 0] := by rw [ra_dig s 6 rfl, a6]; rfl
  have a8 : ra s 8 = [wd (wd (wd (wd 0 (byAt s 0)) (byAt s 1)) (byAt s 2)) (byAt s 3), wd (wd 0 (byAt s 5)) (byAt s 6), 0, 0, 0, 0, 0] := by rw [ra_sep s 7 rfl, a7]
  have a9 : ra s 9 = [wd (wd (wd (wd 0 (byAt s 0)) (byAt s 1)) (byAt s 2)) (byAt s 3), wd (wd 0 (byAt s 5)) (byAt s 6), wd 0 (byAt s 8), 0, 0, 0, 0] := by rw [ra_dig s 8 rfl, a8]; rfl
  have a10 : ra s 10 = [wd (wd (wd (wd 0 (byAt s 0)) (byAt s 1)) (byAt s 2)) (byAt s 3), wd (wd 0 (byAt s 5)) (byAt s 6), wd (wd 0 (byAt s 8)) (byAt s 9), 0, 0, 0, 0] := by rw [ra_dig s 9 rfl, a9]; rfl
  have a11 : ra s 11 = [wd (wd (wd (wd 0 (byAt s 0)) (byAt s 1)) (byAt s 2)) (byAt s 3), wd (wd 0 (byAt s 5)) (byAt s 6), wd (wd 0 (byAt s 8)) (byAt s 9), 0, 0, 0, 0] := by rw [ra_sep s 10 rfl, a10]
  have a12 : ra s 12 = [wd (wd (wd (wd 0 (byAt s 0)) (byAt s 1)) (byAt s 2)) (byAt s 3), wd (wd 0 (byAt s 5)) (byAt s 6), wd (wd 0 (byAt s 8)) (byAt s 9), wd 0 (byAt s 11), 0, 0, 0] := by rw [ra_dig s 11 rfl, a11]; rfl
  have a13 : ra s 13 = [wd (wd (wd (wd 0 (byAt s 0)) (byAt s 1)) (byAt s 2)) (byAt s 3), wd (wd 0 (byAt s 5)) (byAt s 6), wd (wd 0 (byAt s 8)) (byAt s 9), wd (wd 0 (byAt s 11)) (byAt s 12), 0, 0, 0] := by rw [ra_dig s 12 rfl, a12]; rfl
  have a14 : ra s 14 = [wd (wd (wd (wd 0 (byAt s 0)) (byAt s 1)) (byAt s 2)) (byAt s 3), wd (wd 0 (byAt s 5)) (byAt s 6), wd (wd 0 (byAt s 8)) (byAt s 9), wd (wd 0 (byAt s 11)) (byAt s 12), 0, 0, 0] := by rw [ra_sep s 13 rfl, a13]
  have a15 : ra s 15 = [wd (wd (wd (wd 0 (byAt s 0)) (byAt s 1)) (byAt s 2)) (byAt s 3), wd (wd 0 (byAt s 5)) (byAt s 6), wd (wd 0 (byAt s 8)) (byAt s 9), wd (wd 0 (byAt s 11)) (byAt s 12), wd 0 (byAt s 14), 0, 0] := by rw [ra_dig s 14 rfl, a14]; rfl
  have a16 : ra s 16 = [wd (wd (wd (wd 0 (byAt s 0)) (byAt s 1)) (byAt s 2)) (byAt s 3), wd (wd 0 (byAt s 5)) (byAt s 6), wd (wd 0 (byAt s 8)) (byAt s 9), wd (wd 0 (byAt s 11)) (byAt s 12), wd (wd 0 (byAt s 14)) (byAt s 15), 0, 0] := by rw [ra_dig s 15 rfl, a15]; rfl
  have a17 : ra s 17 = [wd (wd (wd (wd 0 (byAt s 0)) (byAt s 1)) (byAt s 2)) (byAt s 3), wd (wd 0 (byAt s 5)) (byAt s 6), wd (wd 0 (byAt s 8)) (byAt s 9), wd (wd 0 (byAt s 11)) (byAt s 12), wd (wd 0 (byAt s 14)) (byAt s 15), 0, 0] := by rw [ra_sep s 16 rfl, a16]
  have a18 : ra s 18 = [wd (wd (wd (wd 0 (byAt s 0)) (byAt s 1)) (byAt s 2)) (byAt s 3), wd (wd 0 (byAt s 5)) (byAt s 6), wd (wd 0 (byAt s 8)) (byAt s 9), wd (wd 0 (byAt s 11)) (byAt s 12), wd (wd 0 (byAt s 14)) (byAt s 15), wd 0 (byAt s 17), 0] := by rw [ra_dig s 17 rfl, a17]; rfl
  have a19 : ra s 19 = [wd (wd (wd (wd 0 (byAt s 0)) (byAt s 1)) (byAt s 2)) (byAt s 3), wd (wd 0 (byAt s 5)) (byAt s 6), wd (wd 0 (byAt s 8)) (byAt s 9), wd (wd 0 (byAt s 11)) (byAt s 12), wd (wd 0 (byAt s 14)) (byAt s 15), wd (wd 0 (byAt s 17)) (byAt s 18), 0] := by rw [ra_dig s 18 rfl, a18]; rfl
  have a20 : ra s 20 = [wd (wd (wd (wd 0 (byAt s 0)) (byAt s 1)) (byAt s 2)) (byAt s 3), wd (wd 0 (byAt s 5)) (byAt s 6), wd (wd 0 (byAt s 8)) (byAt s 9), wd (wd 0 (byAt s 11)) (byAt s 12), wd (wd 0 (byAt s 14)) (byAt s 15), wd (wd 0 (byAt s 17)) (byAt s 18), 0] := by rw [ra_sep s 19 rfl, a19]
  have a21 : ra s 21 = [wd (wd (wd (wd 0 (byAt s 0)) (byAt s 1)) (byAt s 2)) (byAt s 3), wd (wd 0 (byAt s 5)) (byAt s 6), wd (wd 0 (byAt s 8)) (byAt s 9), wd (wd 0 (byAt s 11)) (byAt s 12), wd (wd 0 (byAt s 14)) (byAt s 15), wd (wd 0 (byAt s 17)) (byAt s 18), wd 0 (byAt s 20)] := by rw [ra_dig s 20 rfl, a20]; rfl
  have a22 : ra s 22 = [wd (wd (wd (wd 0 (byAt s 0)) (byAt s 1)) (byAt s 2)) (byAt s 3), wd (wd 0 (byAt s 5)) (byAt s 6), wd (wd 0 (byAt s 8)) (byAt s 9), wd (wd 0 (byAt s 11)) (byAt s 12), wd (wd 0 (byAt s 14)) (byAt s 15), wd (wd 0 (byAt s 17)) (byAt s 18), wd (wd 0 (byAt s 20)) (byAt s 21)] := by rw [ra_dig s 21 rfl, a21]; rfl
  have a23 : ra s 23 = [wd (wd (wd (wd 0 (byAt s 0)) (byAt s 1)) (byAt s 2)) (byAt s 3), wd (wd 0 (byAt s 5)) (byAt s 6), wd (wd 0 (byAt s 8)) (byAt s 9), wd (wd 0 (byAt s 11)) (byAt s 12), wd (wd 0 (byAt s 14)) (byAt s 15), wd (wd 0 (byAt s 17)) (byAt s 18), wd (wd (wd 0 (byAt s 20)) (byAt s 21)) (byAt s 22)] := by rw [ra_dig s 22 rfl, a22]; rfl
  have a24 : ra s 24 = [wd (wd (wd (wd 0 (byAt s 0)) (byAt s 1)) (byAt s 2)) (byAt s 3), wd (wd 0 (byAt s 5)) (byAt s 6), wd (wd 0 (byAt s 8)) (byAt s 9), wd (wd 0 (byAt s 11)) (byAt s 12), wd (wd 0 (byAt s 14)) (byAt s 15), wd (wd 0 (byAt s 17)) (byAt s 18), wd (wd (wd (wd 0 (byAt s 20)) (byAt s 21)) (byAt s 22)) (byAt s 23)] := by rw [ra_dig s 23 rfl, a23]; rfl
  have a25 : ra s 25 = [wd (wd (wd (wd 0 (byAt s 0)) (byAt s 1)) (byAt s 2)) (byAt s 3), wd (wd 0 (byAt s 5)) (byAt s 6), wd (wd 0 (byAt s 8)) (byAt s 9), wd (wd 0 (byAt s 11)) (byAt s 12), wd (wd 0 (byAt s 14)) (byAt s 15), wd (wd 0 (byAt s 17)) (byAt s 18), wd (wd (wd (wd (wd 0 (byAt s 20)) (byAt s 21)) (byAt s 22)) (byAt s 23)) (byAt s 24)] := by rw [ra_dig s 24 rfl, a24]; rfl
  have a26 : ra s 26 = [wd (wd (wd (wd 0 (byAt s 0)) (byAt s 1)) (byAt s 2)) (byAt s 3), wd (wd 0 (byAt s 5)) (byAt s 6), wd (wd 0 (byAt s 8)) (byAt s 9), wd (wd 0 (byAt s 11)) (byAt s 12), wd (wd 0 (byAt s 14)) (byAt s 15), wd (wd 0 (byAt s 17)) (byAt s 18), wd (wd (wd (wd (wd (wd 0 (byAt s 20)) (byAt s 21)) (byAt s 22)) (byAt s 23)) (byAt s 24)) (byAt s 25)] := by rw [ra_dig s 25 rfl, a25]; rfl
  have a27 : ra s 27 = [wd (wd (wd (wd 0 (byAt s 0)) (byAt s 1)) (byAt s 2)) (byAt s 3), wd (wd 0 (byAt s 5)) (byAt s 6), wd (wd 0 (byAt s 8)) (byAt s 9), wd (wd 0 (byAt s 11)) (byAt s 12), wd (wd 0 (byAt s 14)) (byAt s 15), wd (wd 0 (byAt s 17)) (byAt s 18), wd (wd (wd (wd (wd (wd 0 (byAt s 20)) (byAt s 21)) (byAt s 22)) (byAt s 23)) (byAt s 24)) (byAt s 25)] := by rw [ra_sep s 26 rfl, a26]
  rw [a27, fld_Y, fld_M, fld_D, fld_h, fld_m, fld_s, fld_u]
/-- The times of texts are the same by both packages. -/
theorem parse_any {L : List Int} (hl : L.length ≤ 80) (s : ByteArray) : ∃ a, F24_d 600 (rowsI L, s) = some a ∧ F31_d 600 (rowsI L, s) = some a := by
  obtain ⟨v, v1, v2, v3⟩ := valid_any hl
  have P : F24_d 600 (rowsI L, s) = parP 600 (rowsI L, s) := by
    show (match parP 600 (rowsI L, s) with | some y => some y | none => none) = _
    cases parP 600 (rowsI L, s) <;> rfl
  rw [P]
  unfold parP
  simp only [intsOf_rows, v1]
  cases v
  · refine ⟨(0, 1), rfl, ?_⟩
    simp only [F31_d, FSpec.d, F31_s, v2, Bool.not_false]
  · by_cases hs : s.size = 27
    · have zs : ((s.size : Int) != 27) = false := by rw [hs]; rfl
      rcases p_run (R := rowsI L) hs 27 600 0 (by omega) (by omega) (fun i hi => by omega) with ⟨A, h1, h2⟩ | ⟨h1, h2⟩
      · have h1' : F31_d14 600 (rowsI L, s, 0, 0, ([(AV.v (.int .i64 0)), (AV.v (.int .i64 0)), (AV.v (.int .i64 0)), (AV.v (.int .i64 0)), (AV.v (.int .i64 0)), (AV.v (.int .i64 0)), (AV.v (.int .i64 0))].map dat0)) = some (.inl (rowsI L, 0, 3, A)) := h1
        refine ⟨(0, 3), by simp only [h2, Bool.false_eq_true, if_false], ?_⟩
        simp only [F31_d, FSpec.d, F31_s, v2, Bool.not_true, zs, h1']
      · have h1' : F31_d14 600 (rowsI L, s, 0, 0, ([(AV.v (.int .i64 0)), (AV.v (.int .i64 0)), (AV.v (.int .i64 0)), (AV.v (.int .i64 0)), (AV.v (.int .i64 0)), (AV.v (.int .i64 0)), (AV.v (.int .i64 0))].map dat0)) = some (.inr (rowsI L, avs (ra s 27))) := h1
        obtain ⟨a, a1, a2⟩ := from_any hl (fldP s 27 89) (fldP s 27 77) (fldP s 27 68) (fldP s 27 104) (fldP s 27 109) (fldP s 27 115) (fldP s 27 117)
        refine ⟨a, by simp only [h2, if_true, a1], ?_⟩
        have ea : avs (ra s 27) = [AV.v (.int .i64 (fldP s 27 89)), AV.v (.int .i64 (fldP s 27 77)), AV.v (.int .i64 (fldP s 27 68)), AV.v (.int .i64 (fldP s 27 104)), AV.v (.int .i64 (fldP s 27 109)), AV.v (.int .i64 (fldP s 27 115)), AV.v (.int .i64 (fldP s 27 117))] := by rw [ra_end]; rfl
        rw [ea] at h1'
        simp only [F31_d, FSpec.d, F31_s, v2, Bool.not_true, zs, h1', List.getElem?_cons_zero, List.getElem?_cons_succ, if_true, a2]
    · have zs : ((s.size : Int) != 27) = true := bne_iff_ne.2 (by omega)
      have hg : goodP s = false := by unfold goodP; rw [decide_eq_false hs]; rfl
      refine ⟨(0, 3), by simp only [hg, Bool.false_eq_true, if_false], ?_⟩
      simp only [F31_d, FSpec.d, F31_s, v2, Bool.not_true, zs]
end Go.Proofs.YtaanjciokdpkmaaDoor
/- Utc, the plain law: the loops of UtcExact. -/
namespace Go.Proofs.YtaanjciokdpkmaaDoor
open Go.RowKit
set_option linter.unusedVariables false
set_option linter.unusedSimpArgs false
set_option linter.unnecessarySimpa false
abbrev C7 := Int × Int × Int × Int × Int × Int × Int
abbrev R9 := Int × Int × Int × Int × Int × Int × Int × List (List AV) × Int
def rows7 (cs : List C7) : List (List AV) := cs.map fun c => [AV.v (.int .i64 c.1), AV.v (.int .i64 c.2.1), AV.v (.int .i64 c.2.2.1), AV.v (.int .i64 c.2.2.2.1), AV.v (.int .i64 c.2.2.2.2.1), AV.v (.int .i64 c.2.2.2.2.2.1), AV.v (.int .i64 c.2.2.2.2.2.2)]
def rowsS (ts : List ByteArray) : List (List AV) := ts.map fun t => [AV.v (.string t)]
theorem l60 {L : List Int} (hl : L.length ≤ 80) (cs : List C7) (hc : cs.length ≤ 100) (a1 a3 : List (List AV)) (a5 : Int) (a6 : ByteArray) (a7 a8 : Int) (r : R9) : ∀ (k f i : Nat), i + k = cs.length → k < f → (F7_l60 600).L f (a1, rowsI L, a3, rows7 cs, a5, a6, a7, a8, (cs.length : Int), (i : Int), r) = some (.inr (a1, a3, a5, a6, a7, a8, r))
  | 0, f, i, hk, hf => by
    obtain ⟨f, rfl⟩ : ∃ f', f = f' + 1 := ⟨f - 1, by omega⟩
    show (F7_l60 600).b _ _ ((F7_l60 600).L f) some = _
    generalize (F7_l60 600).L f = Lf
    simp only [F7_l60, decide_eq_false (show ¬ (i : Int) < (cs.length : Int) by omega)]
  | k + 1, f, i, hk, hf => by
    obtain ⟨f, rfl⟩ : ∃ f', f = f' + 1 := ⟨f - 1, by omega⟩
    have ih := l60 hl cs hc a1 a3 a5 a6 a7 a8 r k f (i + 1) (by omega) (by omega)
    have hi : i < cs.length := by omega
    obtain ⟨⟨b1, b2, b3, b4, b5, b6, b7⟩, hb⟩ : ∃ c, cs[i] = c := ⟨_, rfl⟩
    have hr : (rows7 cs)[i]? = some [AV.v (.int .i64 b1), AV.v (.int .i64 b2), AV.v (.int .i64 b3), AV.v (.int .i64 b4), AV.v (.int .i64 b5), AV.v (.int .i64 b6), AV.v (.int .i64 b7)] := by
      unfold rows7
      rw [List.getElem?_map, List.getElem?_eq_getElem hi, hb]; rfl
    have h0 : (0 : Int) ≤ (i : Int) := by omega
    have e3 : i64 ((i : Int) + 1) = ((i + 1 : Nat) : Int) := by rw [i64_id (by omega)]; omega
    obtain ⟨a, f1, f2⟩ := from_any hl b1 b2 b3 b4 b5 b6 b7
    show (F7_l60 600).b _ _ ((F7_l60 600).L f) some = _
    generalize (F7_l60 600).L f = Lf at ih ⊢
    simp only [F7_l60, decide_eq_true (show (i : Int) < (cs.length : Int) by omega), h0, Int.toNat_natCast, hr, List.getElem?_cons_zero, List.getElem?_cons_succ, f1, f2, bne_self_eq_false, e3, if_true]
    exact ih
theorem l46 {L : List Int} (hl : L.length ≤ 80) (ts : List ByteArray) (hc : ts.length ≤ 100) (a1 a3 a4 : List (List AV)) (a6 : Int) (a7 : ByteArray) (a8 a9 a10 a11 : Int) (r : R9) : ∀ (k f i : Nat), i + k = ts.length → k < f → (F7_l46 600).L f (a1, rowsI L, a3, a4, rowsS ts, a6, a7, a8, a9, a10, a11, (ts.length : Int), (i : Int), r) = some (.inr (a1, rowsI L, a3, a4, a6, a7, a8, a9, a10, a11, r))
  | 0, f, i, hk, hf => by
    obtain ⟨f, rfl⟩ : ∃ f', f = f' + 1 := ⟨f - 1, by omega⟩
    show (F7_l46 600).b _ _ ((F7_l46 600).L f) some = _
    generalize (F7_l46 600).L f = Lf
    simp only [F7_l46, decide_eq_false (show ¬ (i : Int) < (ts.length : Int) by omega)]
  | k + 1, f, i, hk, hf => by
    obtain ⟨f, rfl⟩ : ∃ f', f = f' + 1 := ⟨f - 1, by omega⟩
    have ih := l46 hl ts hc a1 a3 a4 a6 a7 a8 a9 a10 a11 r k f (i + 1) (by omega) (by omega)
    have hi : i < ts.length := by omega
    have hr : (rowsS ts)[i]? = some [AV.v (.string ts[i])] := by
      unfold rowsS
      rw [List.getElem?_map, List.getElem?_eq_getElem hi]; rfl
    have h0 : (0 : Int) ≤ (i : Int) := by omega
    have e3 : i64 ((i : Int) + 1) = ((i + 1 : Nat) : Int) := by rw [i64_id (by omega)]; omega
    obtain ⟨a, f1, f2⟩ := parse_any hl ts[i]
    show (F7_l46 600).b _ _ ((F7_l46 600).L f) some = _
    generalize (F7_l46 600).L f = Lf at ih ⊢
    simp only [F7_l46, decide_eq_true (show (i : Int) < (ts.length : Int) by omega), h0, Int.toNat_natCast, hr, List.getElem?_cons_zero, f1, f2, bne_self_eq_false, e3, if_true]
    exact ih
theorem l41 {xs : List Int} {p : Int} (D : Dice xs p) {s : ByteArray} (hs : s.size ≤ 27) (a1 a2 a3 a4 : List (List AV)) (a5 : Int) (a6 : ByteArray) (a8 a9 a10 a11 c1 c2 c3 c4 c5 c6 c7 : Int) (f : Nat) : ∃ s' p', (F7_l41 600).L (f + 1) (a1, a2, a3, a4, a5, a6, s, a8, a9, a10, a11, c1, c2, c3, c4, c5, c6, c7, rowsI xs, p) = some (a1, a2, a3, a4, a5, a6, s', a8, a9, a10, a11, c1, c2, c3, c4, c5, c6, c7, rowsI xs, p') ∧ Dice xs p' := by
  show ∃ s' p', (F7_l41 600).b _ _ ((F7_l41 600).L f) some = _ ∧ _
  generalize (F7_l41 600).L f = Lf
  cases h : (s.toList == (⟨#[]⟩ : ByteArray).toList)
  · have hne : 1 ≤ s.size := by
      apply Classical.byContradiction
      intro hz
      have hz' : s.data.size = 0 := by
        have : s.size = s.data.size := rfl
        omega
      have e : s = ⟨#[]⟩ := ByteArray.ext (Array.eq_empty_of_size_eq_zero hz')
      rw [e] at h
      simp at h
    obtain ⟨v1, p1, g1, r1, D1⟩ := next_ok 600 (n := 3) (by omega) D
    by_cases hv : v1 = 0
    · have z : (v1 == 0) = true := beq_iff_eq.2 hv
      obtain ⟨v2, p2, g2, r2, D2⟩ := next_ok 600 (n := (s.size : Int)) (by omega) D1
      obtain ⟨v3, p3, g3, r3, D3⟩ := next_ok 600 (n := 4) (by omega) D2
      obtain ⟨u, hu, hT⟩ : ∃ u : ByteArray, u.size = 1 ∧ ([[(AV.v (.string (⟨#[48]⟩ : ByteArray)))], [(AV.v (.string (⟨#[57]⟩ : ByteArray)))], [(AV.v (.string (⟨#[90]⟩ : ByteArray)))], [(AV.v (.string (⟨#[58]⟩ : ByteArray)))]] : List (List AV))[v3.toNat]? = some [AV.v (.string u)] := by
        rcases (show v3 = 0 ∨ v3 = 1 ∨ v3 = 2 ∨ v3 = 3 by omega) with rfl | rfl | rfl | rfl <;> exact ⟨_, rfl, rfl⟩
      have e1 : i64 (v2 + 1) = v2 + 1 := i64_id (by omega)
      have b1 : 0 ≤ v2 ∧ v2 ≤ (s.size : Int) := by omega
      have b2 : 0 ≤ v2 + 1 ∧ v2 + 1 ≤ (s.size : Int) := by omega
      have b3 : (s.extract 0 v2.toNat).size + 1 ≤ 9223372036854775807 := by rw [ByteArray.size_extract]; omega
      have b4 : (s.extract 0 v2.toNat ++ u).size + (s.extract (v2 + 1).toNat s.size).size ≤ 9223372036854775807 := by rw [ByteArray.size_append, ByteArray.size_extract, ByteArray.size_extract]; omega
      refine ⟨s.extract 0 v2.toNat ++ u ++ s.extract (v2 + 1).toNat s.size, p3, ?_, D3⟩
      simp only [F7_l41, h, Bool.not_false, g1, z, g2, b1, and_self, if_true, g3, r3.1, hT, List.getElem?_cons_zero, hu, b3, e1, b2, b4]
    · have z : (v1 == 0) = false := beq_eq_false_iff_ne.2 hv
      refine ⟨s, p1, ?_, D1⟩
      simp only [F7_l41, h, Bool.not_false, g1, z]
  · refine ⟨s, p, ?_, D⟩
    simp only [F7_l41, h, Bool.not_true]
theorem l25 {L : List Int} (hl : L.length ≤ 80) {xs : List Int} (zs : List Int) (hz : zs.length ≤ 100) (a1 a3 : List (List AV)) (a5 : Int) (a6 : ByteArray) (a7 a8 c1 c2 c3 c4 c5 c6 c7 : Int) : ∀ (k f i : Nat) (p : Int), i + k = zs.length → k < f → Dice xs p → ∃ p', (F7_l25 600).L f (a1, rowsI L, a3, rowsI zs, a5, a6, a7, a8, (zs.length : Int), (i : Int), c1, c2, c3, c4, c5, c6, c7, rowsI xs, p) = some (.inr (a1, rowsI L, a3, a5, a6, a7, a8, c1, c2, c3, c4, c5, c6, c7, rowsI xs, p')) ∧ Dice xs p'
  | 0, f, i, p, hk, hf, D => by
    obtain ⟨f, rfl⟩ : ∃ f', f = f' + 1 := ⟨f - 1, by omega⟩
    refine ⟨p, ?_, D⟩
    show (F7_l25 600).b _ _ ((F7_l25 600).L f) some = _
    generalize (F7_l25 600).L f = Lf
    simp only [F7_l25, decide_eq_false (show ¬ (i : Int) < (zs.length : Int) by omega)]
  | k + 1, f, i, p, hk, hf, D => by
    obtain ⟨f, rfl⟩ : ∃ f', f = f' + 1 := ⟨f - 1, by omega⟩
    have hi : i < zs.length := by omega
    have hr := rowsI_get zs i hi
    have h0 : (0 : Int) ≤ (i : Int) := by omega
    have e3 : i64 ((i : Int) + 1) = ((i + 1 : Nat) : Int) := by rw [i64_id (by omega)]; omega
    obtain ⟨⟨y1, y2, y3, y4, y5, y6, y7, y8⟩, f1, f2⟩ := civ_any hl zs[i]
    obtain ⟨⟨u, ue⟩, f3, f4, f5⟩ := fmt_any hl zs[i]
    obtain ⟨o, f6, f7⟩ := off_any hl zs[i]
    obtain ⟨s', p1, g1, D1⟩ := l41 D (s := u) f5 a1 (rowsI L) a3 (rowsI zs) a5 a6 a7 a8 (zs.length : Int) (i : Int) c1 c2 c3 c4 c5 c6 c7 599
    have g1' : F7_d41 600 (a1, rowsI L, a3, rowsI zs, a5, a6, u, a7, a8, (zs.length : Int), (i : Int), c1, c2, c3, c4, c5, c6, c7, rowsI xs, p) = some (a1, rowsI L, a3, rowsI zs, a5, a6, s', a7, a8, (zs.length : Int), (i : Int), c1, c2, c3, c4, c5, c6, c7, rowsI xs, p1) := g1
    have g2 : F7_d46 600 (a1, rowsI L, a3, rowsI zs, [[(AV.v (.string s'))], [(AV.v (.string a6))]], a5, a6, a7, a8, (zs.length : Int), (i : Int), ([[(AV.v (.string s'))], [(AV.v (.string a6))]].length : Int), 0, c1, c2, c3, c4, c5, c6, c7, rowsI xs, p1) = some (.inr (a1, rowsI L, a3, rowsI zs, a5, a6, a7, a8, (zs.length : Int), (i : Int), c1, c2, c3, c4, c5, c6, c7, rowsI xs, p1)) := l46 hl [s', a6] (by show 2 ≤ 100; omega) a1 a3 (rowsI zs) a5 a6 a7 a8 (zs.length : Int) (i : Int) (c1, c2, c3, c4, c5, c6, c7, rowsI xs, p1) 2 600 0 rfl (by omega)
    obtain ⟨p', ih, D'⟩ := l25 hl zs hz a1 a3 a5 a6 a7 a8 c1 c2 c3 c4 c5 c6 c7 k f (i + 1) p1 (by omega) (by omega) D1
    refine ⟨p', ?_, D'⟩
    show (F7_l25 600).b _ _ ((F7_l25 600).L f) some = _
    generalize (F7_l25 600).L f = Lf at ih ⊢
    simp only [F7_l25, decide_eq_true (show (i : Int) < (zs.length : Int) by omega), h0, Int.toNat_natCast, hr, List.getElem?_cons_zero, f1, f2, f3, f4, f6, f7, beq_self_eq_true, Bool.and_self, Bool.not_true, bne_self_eq_false, g1', g2, e3, if_true]
    exact ih
theorem civ_dice {xs : List Int} {p : Int} (D : Dice xs p) : ∃ c1 c2 c3 c4 c5 c6 c7 p', F32_d 600 (rowsI xs, p) = some (c1, c2, c3, c4, c5, c6, c7, rowsI xs, p') ∧ Dice xs p' := by
  obtain ⟨v1, p1, g1, r1, D1⟩ := pick_ok 600 [1970, 1970, 1971, 2016, 2255, 1969, 2300] (by decide) D
  obtain ⟨v2, p2, g2, r2, D2⟩ := next_ok 600 (n := 12) (by omega) D1
  obtain ⟨v3, p3, g3, r3, D3⟩ := pick_ok 600 [1, 2, 3, 28, 29, 30, 31, 32, 0] (by decide) D2
  obtain ⟨v4, p4, g4, r4, D4⟩ := pick_ok 600 [23, 0, 12, 24, -1] (by decide) D3
  obtain ⟨v5, p5, g5, r5, D5⟩ := pick_ok 600 [59, 0, 30, 60] (by decide) D4
  obtain ⟨v6, p6, g6, r6, D6⟩ := pick_ok 600 [59, 60, 0, 61] (by decide) D5
  obtain ⟨v7, p7, g7, r7, D7⟩ := pick_ok 600 [0, 999999, 5, 1000000, -1] (by decide) D6
  obtain ⟨v8, p8, g8, r8, D8⟩ := next_ok 600 (n := 3) (by omega) D7
  have G1 : F25_d 600 ([[(AV.v (.int .i64 1970))], [(AV.v (.int .i64 1970))], [(AV.v (.int .i64 1971))], [(AV.v (.int .i64 2016))], [(AV.v (.int .i64 2255))], [(AV.v (.int .i64 1969))], [(AV.v (.int .i64 2300))]], rowsI xs, p) = some (v1, rowsI xs, p1) := g1
  have G3 : F25_d 600 ([[(AV.v (.int .i64 1))], [(AV.v (.int .i64 2))], [(AV.v (.int .i64 3))], [(AV.v (.int .i64 28))], [(AV.v (.int .i64 29))], [(AV.v (.int .i64 30))], [(AV.v (.int .i64 31))], [(AV.v (.int .i64 32))], [(AV.v (.int .i64 0))]], rowsI xs, p2) = some (v3, rowsI xs, p3) := g3
  have G4 : F25_d 600 ([[(AV.v (.int .i64 23))], [(AV.v (.int .i64 0))], [(AV.v (.int .i64 12))], [(AV.v (.int .i64 24))], [(AV.v (.int .i64 (-1)))]], rowsI xs, p3) = some (v4, rowsI xs, p4) := g4
  have G5 : F25_d 600 ([[(AV.v (.int .i64 59))], [(AV.v (.int .i64 0))], [(AV.v (.int .i64 30))], [(AV.v (.int .i64 60))]], rowsI xs, p4) = some (v5, rowsI xs, p5) := g5
  have G6 : F25_d 600 ([[(AV.v (.int .i64 59))], [(AV.v (.int .i64 60))], [(AV.v (.int .i64 0))], [(AV.v (.int .i64 61))]], rowsI xs, p5) = some (v6, rowsI xs, p6) := g6
  have G7 : F25_d 600 ([[(AV.v (.int .i64 0))], [(AV.v (.int .i64 999999))], [(AV.v (.int .i64 5))], [(AV.v (.int .i64 1000000))], [(AV.v (.int .i64 (-1)))]], rowsI xs, p6) = some (v7, rowsI xs, p7) := g7
  by_cases h : v8 > 0
  · obtain ⟨v9, p9, g9, r9, D9⟩ := next_ok 600 (n := 2) (by omega) D8
    obtain ⟨v10, p10, g10, r10, D10⟩ := next_ok 600 (n := 2) (by omega) D9
    refine ⟨1970, 1, v3, 23, 59, i64 (59 + v9), v10, p10, ?_, D10⟩
    simp only [F32_d, FSpec.d, F32_s, G1, g2, G3, G4, G5, G6, G7, g8, decide_eq_true h, g9, g10]
  · refine ⟨v1, i64 (1 + v2), v3, v4, v5, v6, v7, p8, ?_, D8⟩
    simp only [F32_d, FSpec.d, F32_s, G1, g2, G3, G4, G5, G6, G7, g8, decide_eq_false h]
end Go.Proofs.YtaanjciokdpkmaaDoor
/- Utc, the plain law: UtcExact. -/
namespace Go.Proofs.YtaanjciokdpkmaaDoor
open Go.RowKit
set_option linter.unusedVariables false
set_option linter.unusedSimpArgs false
set_option linter.unnecessarySimpa false
def rowsL (Ls : List (List Int)) : List (List AV) := Ls.map fun L => [AV.list 1 (rowsI L) none]
theorem l11 {ds : List Int} (G : Good ds) {xs : List Int} (Ls : List (List Int)) (hn : Ls.length ≤ 100) (hL : ∀ L ∈ Ls, L.length ≤ 80) (a3 : Int) (a4 : ByteArray) (c1 c2 c3 c4 c5 c6 c7 : Int) : ∀ (k f i : Nat) (p : Int), i + k = Ls.length → k < f → Dice xs p → (F7_l11 600).L f (rowsI (lp ds), rowsL Ls, a3, a4, (Ls.length : Int), (i : Int), c1, c2, c3, c4, c5, c6, c7, rowsI xs, p) = some (.inr ())
  | 0, f, i, p, hk, hf, D => by
    obtain ⟨f, rfl⟩ : ∃ f', f = f' + 1 := ⟨f - 1, by omega⟩
    show (F7_l11 600).b _ _ ((F7_l11 600).L f) some = _
    generalize (F7_l11 600).L f = Lf
    simp only [F7_l11, decide_eq_false (show ¬ (i : Int) < (Ls.length : Int) by omega)]
  | k + 1, f, i, p, hk, hf, D => by
    obtain ⟨f, rfl⟩ : ∃ f', f = f' + 1 := ⟨f - 1, by omega⟩
    have hi : i < Ls.length := by omega
    have hl := hL _ (List.getElem_mem hi)
    have hr : (rowsL Ls)[i]? = some [AV.list 1 (rowsI Ls[i]) none] := by
      unfold rowsL
      rw [List.getElem?_map, List.getElem?_eq_getElem hi]; rfl
    have hlst : lstOf 1 (AV.list 1 (rowsI Ls[i]) none) = some (rowsI Ls[i]) := rfl
    have h0 : (0 : Int) ≤ (i : Int) := by omega
    have e3 : i64 ((i : Int) + 1) = ((i + 1 : Nat) : Int) := by rw [i64_id (by omega)]; omega
    obtain ⟨v, v1, v2, -⟩ := valid_any hl
    obtain ⟨zs, p1, t1, hz, D1⟩ := times_ok G D a3
    obtain ⟨p2, g1, D2⟩ := l25 hl (xs := xs) zs (by omega) (rowsI (lp ds)) (rowsL Ls) a3 a4 (Ls.length : Int) (i : Int) c1 c2 c3 c4 c5 c6 c7 zs.length 600 0 p1 (by omega) (by omega) D1
    have g1' : F7_d25 600 (rowsI (lp ds), rowsI Ls[i], rowsL Ls, rowsI zs, a3, a4, (Ls.length : Int), (i : Int), (zs.length : Int), 0, c1, c2, c3, c4, c5, c6, c7, rowsI xs, p1) = some (.inr (rowsI (lp ds), rowsI Ls[i], rowsL Ls, a3, a4, (Ls.length : Int), (i : Int), c1, c2, c3, c4, c5, c6, c7, rowsI xs, p2)) := g1
    obtain ⟨d1, d2, d3, d4, d5, d6, d7, p3, g2, D3⟩ := civ_dice D2
    obtain ⟨e1, e2, e3', e4, e5, e6, e7, p4, g3, D4⟩ := civ_dice D3
    obtain ⟨f1, f2, f3, f4, f5, f6, f7, p5, g4, D5⟩ := civ_dice D4
    have g5 : F7_d60 600 (rowsI (lp ds), rowsI Ls[i], rowsL Ls, [[(AV.v (.int .i64 c1)), (AV.v (.int .i64 c2)), (AV.v (.int .i64 c3)), (AV.v (.int .i64 c4)), (AV.v (.int .i64 c5)), (AV.v (.int .i64 c6)), (AV.v (.int .i64 c7))], [(AV.v (.int .i64 d1)), (AV.v (.int .i64 d2)), (AV.v (.int .i64 d3)), (AV.v (.int .i64 d4)), (AV.v (.int .i64 d5)), (AV.v (.int .i64 d6)), (AV.v (.int .i64 d7))], [(AV.v (.int .i64 e1)), (AV.v (.int .i64 e2)), (AV.v (.int .i64 e3')), (AV.v (.int .i64 e4)), (AV.v (.int .i64 e5)), (AV.v (.int .i64 e6)), (AV.v (.int .i64 e7))], [(AV.v (.int .i64 f1)), (AV.v (.int .i64 f2)), (AV.v (.int .i64 f3)), (AV.v (.int .i64 f4)), (AV.v (.int .i64 f5)), (AV.v (.int .i64 f6)), (AV.v (.int .i64 f7))]], a3, a4, (Ls.length : Int), (i : Int), ([[(AV.v (.int .i64 c1)), (AV.v (.int .i64 c2)), (AV.v (.int .i64 c3)), (AV.v (.int .i64 c4)), (AV.v (.int .i64 c5)), (AV.v (.int .i64 c6)), (AV.v (.int .i64 c7))], [(AV.v (.int .i64 d1)), (AV.v (.int .i64 d2)), (AV.v (.int .i64 d3)), (AV.v (.int .i64 d4)), (AV.v (.int .i64 d5)), (AV.v (.int .i64 d6)), (AV.v (.int .i64 d7))], [(AV.v (.int .i64 e1)), (AV.v (.int .i64 e2)), (AV.v (.int .i64 e3')), (AV.v (.int .i64 e4)), (AV.v (.int .i64 e5)), (AV.v (.int .i64 e6)), (AV.v (.int .i64 e7))], [(AV.v (.int .i64 f1)), (AV.v (.int .i64 f2)), (AV.v (.int .i64 f3)), (AV.v (.int .i64 f4)), (AV.v (.int .i64 f5)), (AV.v (.int .i64 f6)), (AV.v (.int .i64 f7))]].length : Int), 0, c1, c2, c3, c4, c5, c6, c7, rowsI xs, p5) = some (.inr (rowsI (lp ds), rowsL Ls, a3, a4, (Ls.length : Int), (i : Int), c1, c2, c3, c4, c5, c6, c7, rowsI xs, p5)) :=
      l60 hl [(c1, c2, c3, c4, c5, c6, c7), (d1, d2, d3, d4, d5, d6, d7), (e1, e2, e3', e4, e5, e6, e7), (f1, f2, f3, f4, f5, f6, f7)] (by show 4 ≤ 100; omega) (rowsI (lp ds)) (rowsL Ls) a3 a4 (Ls.length : Int) (i : Int) (c1, c2, c3, c4, c5, c6, c7, rowsI xs, p5) 4 600 0 rfl (by omega)
    have ih := l11 G Ls hn hL a3 a4 c1 c2 c3 c4 c5 c6 c7 k f (i + 1) p5 (by omega) (by omega) D5
    show (F7_l11 600).b _ _ ((F7_l11 600).L f) some = _
    generalize (F7_l11 600).L f = Lf at ih ⊢
    simp only [F7_l11, decide_eq_true (show (i : Int) < (Ls.length : Int) by omega), h0, Int.toNat_natCast, hr, List.getElem?_cons_zero, hlst, v1, v2, beq_self_eq_true, Bool.not_true, t1, rowsI_len, g1', g2, g3, g4, g5, e3, if_true]
    exact ih
theorem exact_law {xs ys : List Int} (hb : ∀ x ∈ xs, -9223372036854775808 ≤ x ∧ x ≤ 9223372036854775807) (n : Int) (c1 c2 c3 c4 c5 c6 c7 : Int) (s : ByteArray) : F7_d 600 (rowsI xs, rowsI ys, n, c1, c2, c3, c4, c5, c6, c7, s) = some true := by
  by_cases hl : (xs.length : Int) ≤ 500
  · have L1 : F13_d 600 (rowsI xs) = some true := by simp only [F13_d, FSpec.d, F13_s, rowsI_len, decide_eq_true hl]
    by_cases hy : (ys.length : Int) > 80
    · simp only [F7_d, FSpec.d, F7_s, L1, Bool.not_true, rowsI_len, decide_eq_true hy, sane_ok]
    by_cases ht : (s.size : Int) > 60
    · simp only [F7_d, FSpec.d, F7_s, L1, Bool.not_true, rowsI_len, decide_eq_false hy, decide_eq_true ht, sane_ok]
    have R1 : F14_d 600 (rowsI xs) = some (rowsI xs, 0) := rfl
    obtain ⟨ds, p1, e1, ⟨G, hg⟩, D⟩ := leaps_ok4 (xs := xs) (p := 0) ⟨hb, by omega, by omega, by omega⟩
    obtain ⟨v, p2, e2, -, D2⟩ := pick_ok 600 [86400, 0, 86401, -1] (by decide) D
    have e2' : F25_d 600 ([[(AV.v (.int .i64 86400))], [(AV.v (.int .i64 0))], [(AV.v (.int .i64 86401))], [(AV.v (.int .i64 (-1)))]], rowsI xs, p1) = some (v, rowsI xs, p2) := e2
    have hm : 1000 ≤ maxBytes := by decide
    have b1 : (rowsI (lp ds)).length * 8 ≤ maxBytes := by rw [rowsI_len, lp_len]; omega
    have b2 : ((rowsI (lp ds)).length + [[(AV.v (.int .i64 v))]].length) * 8 ≤ maxBytes := by
      rw [rowsI_len, lp_len]
      show (ds.length + 1) * 8 ≤ _
      omega
    have L : F7_d11 600 (rowsI (lp ds), [[(AV.list 1 (rowsI (lp ds)) none)], [(AV.list 1 (rowsI (lp ds) ++ [[(AV.v (.int .i64 v))]]) none)], [(AV.list 1 (rowsI ys) none)]], n, s, ([[(AV.list 1 (rowsI (lp ds)) none)], [(AV.list 1 (rowsI (lp ds) ++ [[(AV.v (.int .i64 v))]]) none)], [(AV.list 1 (rowsI ys) none)]].length : Int), 0, c1, c2, c3, c4, c5, c6, c7, rowsI xs, p2) = some (.inr ()) := by
      rw [rowsI_snoc]
      exact l11 G [lp ds, lp ds ++ [v], ys] (by show 3 ≤ 100; omega) (fun L hL => by
        simp only [List.mem_cons, List.not_mem_nil, or_false] at hL
        rcases hL with rfl | rfl | rfl
        · rw [lp_len]; omega
        · rw [List.length_append, lp_len]; show ds.length + 1 ≤ 80; omega
        · omega) n s c1 c2 c3 c4 c5 c6 c7 3 600 0 p2 rfl (by omega) D2
    simp only [F7_d, FSpec.d, F7_s, L1, Bool.not_true, rowsI_len, decide_eq_false hy, decide_eq_false ht, R1, e1, e2', L, sane_ok]
    rw [rowsI_len] at b1 b2
    exact (if_pos b1).trans (if_pos b2)
  · have L1 : F13_d 600 (rowsI xs) = some false := by simp only [F13_d, FSpec.d, F13_s, rowsI_len, decide_eq_false hl]
    simp only [F7_d, FSpec.d, F7_s, L1, Bool.not_false, sane_ok]
end Go.Proofs.YtaanjciokdpkmaaDoor
/- Utc: UtcExact, the call; a civil time that came in. -/
namespace Go.Proofs.YtaanjciokdpkmaaDoor
open Go.ChangeShapes Go.WideShapes Go.ChangeAt Go.RowKit Go.Deep
set_option linter.unusedVariables false
set_option linter.unusedSimpArgs false
set_option linter.unnecessarySimpa false
section
variable {H : Type} {enc : TypeId × Value → H} {w : World}
set_option maxRecDepth 100000 in
theorem civ_in {b0 : Nat} {v : Value} {d : DataW H} {p : List MemPlace} (hv : Value.okWide Tryd.prog w .any b0 42 v) (h : DataW.Trod enc Tryd.prog w 0 (fun _ => true) true 42 v d p) :
    ∃ r : C7, v = .agg #[.int .i64 r.1, .int .i64 r.2.1, .int .i64 r.2.2.1, .int .i64 r.2.2.2.1, .int .i64 r.2.2.2.2.1, .int .i64 r.2.2.2.2.2.1, .int .i64 r.2.2.2.2.2.2] := by
  obtain ⟨cs, rfl, h0⟩ := agg_in (n := 3) (ls := [.int .i64, .int .i64, .int .i64, .int .i64, .int .i64, .int .i64, .int .i64]) Tryd.underlying42 (by kernel_rfl) hv h
  obtain ⟨v0, s0, rfl, k0, h1⟩ := AllOk.cons h0
  obtain ⟨v1, s1, rfl, k1, h2⟩ := AllOk.cons h1
  obtain ⟨v2, s2, rfl, k2, h3⟩ := AllOk.cons h2
  obtain ⟨v3, s3, rfl, k3, h4⟩ := AllOk.cons h3
  obtain ⟨v4, s4, rfl, k4, h5⟩ := AllOk.cons h4
  obtain ⟨v5, s5, rfl, k5, h6⟩ := AllOk.cons h5
  obtain ⟨v6, s6, rfl, k6, h7⟩ := AllOk.cons h6
  obtain rfl := AllOk.nil h7
  obtain ⟨x0, rfl, -⟩ := k0
  obtain ⟨x1, rfl, -⟩ := k1
  obtain ⟨x2, rfl, -⟩ := k2
  obtain ⟨x3, rfl, -⟩ := k3
  obtain ⟨x4, rfl, -⟩ := k4
  obtain ⟨x5, rfl, -⟩ := k5
  obtain ⟨x6, rfl, -⟩ := k6
  exact ⟨(x0, x1, x2, x3, x4, x5, x6), rfl⟩
end
/-- UtcExact returns true. -/
theorem utc_exact (a : Option Addr) (len cap : Nat) (a2 : Option Addr) (len2 cap2 : Nat) (n : Int) (c : C7) (s : ByteArray) (W : World) (w : IntsIn W (.slice a len cap)) (w2 : IntsIn W (.slice a2 len2 cap2)) (hn : -9223372036854775808 ≤ n ∧ n ≤ 9223372036854775807) (hs : s.size ≤ 140737488351232) (hgl : GlOk (memOf W) W [] (InT sig0 [])) : Calls Tryd.prog 7 #[.slice a len cap, .slice a2 len2 cap2, .int .i64 n, .agg #[.int .i64 c.1, .int .i64 c.2.1, .int .i64 c.2.2.1, .int .i64 c.2.2.2.1, .int .i64 c.2.2.2.2.1, .int .i64 c.2.2.2.2.2.1, .int .i64 c.2.2.2.2.2.2], .string s] W fun e w' => e = .returned (.bool true) ∧ Below W.heap.size W w' := by
  obtain ⟨xs, hb, hl, hr⟩ := w
  obtain ⟨ys, hb2, hl2, hr2⟩ := w2
  refine CallOk.calls ((F7_e 600).ok (rowsI xs, rowsI ys, n, c.1, c.2.1, c.2.2.1, c.2.2.2.1, c.2.2.2.2.1, c.2.2.2.2.2.1, c.2.2.2.2.2.2, s) true (exact_law hb n c.1 c.2.1 c.2.2.1 c.2.2.2.1 c.2.2.2.2.1 c.2.2.2.2.2.1 c.2.2.2.2.2.2 s)) W _ rfl (fun i h h' => ?_) hgl
  rcases (show i = 0 ∨ i = 1 ∨ i = 2 ∨ i = 3 ∨ i = 4 by have : i < 5 := h'; omega) with rfl | rfl | rfl | rfl | rfl
  · exact hr _ _
  · exact hr2 _ _
  · exact .v
  · refine .agg rfl (fun j hj => ?_) (fun j hj hj' => ?_)
    · have : j < 7 := hj
      rcases (show j = 0 ∨ j = 1 ∨ j = 2 ∨ j = 3 ∨ j = 4 ∨ j = 5 ∨ j = 6 by omega) with rfl | rfl | rfl | rfl | rfl | rfl | rfl <;> rfl
    · have : j < 7 := hj'
      rcases (show j = 0 ∨ j = 1 ∨ j = 2 ∨ j = 3 ∨ j = 4 ∨ j = 5 ∨ j = 6 by omega) with rfl | rfl | rfl | rfl | rfl | rfl | rfl <;> exact .v
  · exact .v
end Go.Proofs.YtaanjciokdpkmaaDoor
