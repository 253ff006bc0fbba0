/- Utc, the plain law: texts are found again (UtcBack). -/
import Derived.Test.YtaanjciokdpkmaaDoorUtR
namespace Go.Proofs.YtaanjciokdpkmaaDoor
open Go.RowKit
set_option linter.unusedVariables false
set_option linter.unusedSimpArgs false
set_option linter.unnecessarySimpa false
theorem dgt (n k : Nat) : ((Lib.dg n k).toNat : Int) = 48 + ((n / 10 ^ k % 10 : Nat) : Int) := by
  unfold Lib.dg
  have : n / 10 ^ k % 10 < 10 := Nat.mod_lt _ (by omega)
  rw [UInt8.toNat_ofNat']
  omega
def wd (v x : Int) : Int := wrap64 (wrap64 (10 * v) + (x - 48))
theorem wd_ok {v : Int} {q : Nat} (hv : 0 ≤ v ∧ v ≤ 1000000) (hq : q < 10) : wd v (48 + (q : Int)) = 10 * v + q := by
  unfold wd
  rw [IntWalk.wrap64_in _ (show -9223372036854775808 ≤ 10 * v ∧ 10 * v ≤ 9223372036854775807 by omega), IntWalk.wrap64_in _ (by omega)]
  omega
set_option maxRecDepth 100000 in
theorem fld_Y (s : ByteArray) : fldP s 27 89 = wd (wd (wd (wd 0 (byAt s 0)) (byAt s 1)) (byAt s 2)) (byAt s 3) := by rfl
set_option maxRecDepth 100000 in
theorem fld_M (s : ByteArray) : fldP s 27 77 = wd (wd 0 (byAt s 5)) (byAt s 6) := by rfl
set_option maxRecDepth 100000 in
theorem fld_D (s : ByteArray) : fldP s 27 68 = wd (wd 0 (byAt s 8)) (byAt s 9) := by rfl
set_option maxRecDepth 100000 in
theorem fld_h (s : ByteArray) : fldP s 27 104 = wd (wd 0 (byAt s 11)) (byAt s 12) := by rfl
set_option maxRecDepth 100000 in
theorem fld_m (s : ByteArray) : fldP s 27 109 = wd (wd 0 (byAt s 14)) (byAt s 15) := by rfl
set_option maxRecDepth 100000 in
theorem fld_s (s : ByteArray) : fldP s 27 115 = wd (wd 0 (byAt s 17)) (byAt s 18) := by rfl
set_option maxRecDepth 100000 in
theorem fld_u (s : ByteArray) : fldP s 27 117 = wd (wd (wd (wd (wd (wd 0 (byAt s 20)) (byAt s 21)) (byAt s 22)) (byAt s 23)) (byAt s 24)) (byAt s 25) := by rfl
theorem fmt_bytes (y m d hh mm ss us : Nat) : (fmtB y m d hh mm ss us).data.toList = [Lib.dg y 3, Lib.dg y 2, Lib.dg y 1, Lib.dg y 0, 45, Lib.dg m 1, Lib.dg m 0, 45, Lib.dg d 1, Lib.dg d 0, 84, Lib.dg hh 1, Lib.dg hh 0, 58, Lib.dg mm 1, Lib.dg mm 0, 58, Lib.dg ss 1, Lib.dg ss 0, 46, Lib.dg us 5, Lib.dg us 4, Lib.dg us 3, Lib.dg us 2, Lib.dg us 1, Lib.dg us 0, 90] := by
  rw [fmt_list]; rfl
theorem by_list (s : ByteArray) (j : Nat) : byAt s j = ((s.data.toList.getD j 0).toNat : Int) := by
  unfold byAt
  rw [Array.getD_eq_getD_getElem?, List.getD_eq_getElem?_getD, Array.getElem?_toList]
theorem twoQ {q0 q1 : Nat} (h0 : q0 < 10) (h1 : q1 < 10) : wd (wd 0 (48 + (q0 : Int))) (48 + (q1 : Int)) = 10 * (10 * 0 + (q0 : Int)) + (q1 : Int) := by
  rw [wd_ok (v := 0) (by omega) h0, wd_ok (v := 10 * 0 + (q0 : Int)) (by omega) h1]
theorem two {n : Nat} (h : n < 100) : wd (wd 0 ((Lib.dg n 1).toNat : Int)) ((Lib.dg n 0).toNat : Int) = n := by
  simp only [dgt]
  rw [twoQ (Nat.mod_lt _ (by omega)) (Nat.mod_lt _ (by omega))]
  omega
theorem fourQ {q0 q1 q2 q3 : Nat} (h0 : q0 < 10) (h1 : q1 < 10) (h2 : q2 < 10) (h3 : q3 < 10) : wd (wd (wd (wd 0 (48 + (q0 : Int))) (48 + (q1 : Int))) (48 + (q2 : Int))) (48 + (q3 : Int)) = 10 * (10 * (10 * (10 * 0 + (q0 : Int)) + (q1 : Int)) + (q2 : Int)) + (q3 : Int) := by
  rw [wd_ok (v := 0) (by omega) h0, wd_ok (v := 10 * 0 + (q0 : Int)) (by omega) h1, wd_ok (v := 10 * (10 * 0 + (q0 : Int)) + (q1 : Int)) (by omega) h2, wd_ok (v := 10 * (10 * (10 * 0 + (q0 : Int)) + (q1 : Int)) + (q2 : Int)) (by omega) h3]
theorem four {n : Nat} (h : n < 10000) : wd (wd (wd (wd 0 ((Lib.dg n 3).toNat : Int)) ((Lib.dg n 2).toNat : Int)) ((Lib.dg n 1).toNat : Int)) ((Lib.dg n 0).toNat : Int) = n := by
  simp only [dgt]
  rw [fourQ (Nat.mod_lt _ (by omega)) (Nat.mod_lt _ (by omega)) (Nat.mod_lt _ (by omega)) (Nat.mod_lt _ (by omega))]
  omega
theorem sixQ {q0 q1 q2 q3 q4 q5 : Nat} (h0 : q0 < 10) (h1 : q1 < 10) (h2 : q2 < 10) (h3 : q3 < 10) (h4 : q4 < 10) (h5 : q5 < 10) : wd (wd (wd (wd (wd (wd 0 (48 + (q0 : Int))) (48 + (q1 : Int))) (48 + (q2 : Int))) (48 + (q3 : Int))) (48 + (q4 : Int))) (48 + (q5 : Int)) = 10 * (10 * (10 * (10 * (10 * (10 * 0 + (q0 : Int)) + (q1 : Int)) + (q2 : Int)) + (q3 : Int)) + (q4 : Int)) + (q5 : Int) := by
  rw [wd_ok (v := 0) (by omega) h0, wd_ok (v := 10 * 0 + (q0 : Int)) (by omega) h1, wd_ok (v := 10 * (10 * 0 + (q0 : Int)) + (q1 : Int)) (by omega) h2, wd_ok (v := 10 * (10 * (10 * 0 + (q0 : Int)) + (q1 : Int)) + (q2 : Int)) (by omega) h3, wd_ok (v := 10 * (10 * (10 * (10 * 0 + (q0 : Int)) + (q1 : Int)) + (q2 : Int)) + (q3 : Int)) (by omega) h4, wd_ok (v := 10 * (10 * (10 * (10 * (10 * 0 + (q0 : Int)) + (q1 : Int)) + (q2 : Int)) + (q3 : Int)) + (q4 : Int)) (by omega) h5]
theorem six {n : Nat} (h : n < 1000000) : wd (wd (wd (wd (wd (wd 0 ((Lib.dg n 5).toNat : Int)) ((Lib.dg n 4).toNat : Int)) ((Lib.dg n 3).toNat : Int)) ((Lib.dg n 2).toNat : Int)) ((Lib.dg n 1).toNat : Int)) ((Lib.dg n 0).toNat : Int) = n := by
  simp only [dgt]
  rw [sixQ (Nat.mod_lt _ (by omega)) (Nat.mod_lt _ (by omega)) (Nat.mod_lt _ (by omega)) (Nat.mod_lt _ (by omega)) (Nat.mod_lt _ (by omega)) (Nat.mod_lt _ (by omega))]
  omega
theorem ok_dg {f : Int} (hf : isSep f = false) (n k : Nat) : okAt f ((Lib.dg n k).toNat : Int) = true := by
  have : n / 10 ^ k % 10 < 10 := Nat.mod_lt _ (by omega)
  unfold okAt
  rw [if_neg (by rw [hf]; decide), dgt, decide_eq_true (by omega), decide_eq_true (by omega)]
  rfl
theorem fmt_good (y m d hh mm ss us : Nat) : goodP (fmtB y m d hh mm ss us) = true := by
  have hb := fmt_bytes y m d hh mm ss us
  unfold goodP
  rw [Bool.and_eq_true]
  constructor
  · apply decide_eq_true
    show (fmtB y m d hh mm ss us).data.size = 27
    rw [← Array.length_toList, hb]; rfl
  · rw [List.all_eq_true]
    intro j hj
    have hj := List.mem_range.1 hj
    rw [by_list, hb]
    rcases (show j = 0 ∨ j = 1 ∨ j = 2 ∨ j = 3 ∨ j = 4 ∨ j = 5 ∨ j = 6 ∨ j = 7 ∨ j = 8 ∨ j = 9 ∨ j = 10 ∨ j = 11 ∨ j = 12 ∨ j = 13 ∨ j = 14 ∨ j = 15 ∨ j = 16 ∨ j = 17 ∨ j = 18 ∨ j = 19 ∨ j = 20 ∨ j = 21 ∨ j = 22 ∨ j = 23 ∨ j = 24 ∨ j = 25 ∨ j = 26 by omega) with rfl | rfl | rfl | rfl | rfl | rfl | rfl | rfl | rfl | rfl | rfl | rfl | rfl | rfl | rfl | rfl | rfl | rfl | rfl | rfl | rfl | rfl | rfl | rfl | rfl | rfl | rfl <;> first | exact ok_dg rfl _ _ | rfl
theorem fmt_fld {y m d hh mm ss us : Nat} (b : y < 10000 ∧ m < 100 ∧ d < 100 ∧ hh < 100 ∧ mm < 100 ∧ ss < 100 ∧ us < 1000000) : fldP (fmtB y m d hh mm ss us) 27 89 = y ∧ fldP (fmtB y m d hh mm ss us) 27 77 = m ∧ fldP (fmtB y m d hh mm ss us) 27 68 = d ∧ fldP (fmtB y m d hh mm ss us) 27 104 = hh ∧ fldP (fmtB y m d hh mm ss us) 27 109 = mm ∧ fldP (fmtB y m d hh mm ss us) 27 115 = ss ∧ fldP (fmtB y m d hh mm ss us) 27 117 = us := by
  obtain ⟨b1, b2, b3, b4, b5, b6, b7⟩ := b
  have hb := fmt_bytes y m d hh mm ss us
  simp only [fld_Y, fld_M, fld_D, fld_h, fld_m, fld_s, fld_u, by_list, hb]
  exact ⟨four b1, two b2, two b3, two b4, two b5, two b6, six b7⟩
/-- The text of a time leads back to it. -/
theorem text_back {ds : List Int} (G : Good ds) {t : Int} (h : 0 ≤ t ∧ t ≤ 9007199254740992) : ∃ y m d hh mm ss us : Int, ∃ u : ByteArray, F18_d 600 (rowsI (lp ds), t) = some (y, m, d, hh, mm, ss, us, 0) ∧ F23_d 600 (rowsI (lp ds), y, m, d, hh, mm, ss, us) = some (t, 0) ∧ F16_d 600 (rowsI (lp ds), t) = some (u, 0) ∧ F24_d 600 (rowsI (lp ds), u) = some (t, 0) ∧ u.size = 27 := by
  obtain ⟨p, b, -, S⟩ := spot_ok G (t / 1000000)
  obtain ⟨y, m, d, hh, mm, ss, us, f1, f2, bd, v, e, h1, h2, h3, h4⟩ := fmt_civ G h S _ rfl
  have F := from_ok G h S rfl v e h1 h2 h3 h4
  obtain ⟨g1, g2, g3, g4, g5, g6, g7⟩ := fmt_fld bd
  have hg := fmt_good y m d hh mm ss us
  refine ⟨y, m, d, hh, mm, ss, us, _, f2, F, f1, parseR (valid_ok G) hg (by rw [g1, g2, g3, g4, g5, g6, g7]; exact F), ?_⟩
  unfold goodP at hg
  rw [Bool.and_eq_true] at hg
  exact of_decide_eq_true hg.1
theorem times_loop {ds : List Int} (G : Good ds) {xs : List Int} : ∀ (k f : Nat) (zs : List Int) (i : Nat) (p : Int), i + k = ds.length → k < f → zs.length = 6 + i → Dice xs p → ∃ zs' p', (F20_l5 600).L f (rowsI zs, rowsI (lp ds), (ds.length : Int), (i : Int), rowsI xs, p) = some (rowsI zs', rowsI xs, p') ∧ zs'.length ≤ 10 ∧ Dice xs p'
  | 0, f, zs, i, p, hk, hf, hz, D => by
    have hl := G.len
    obtain ⟨f, rfl⟩ : ∃ f', f = f' + 1 := ⟨f - 1, by omega⟩
    refine ⟨zs, p, ?_, by omega, D⟩
    show (F20_l5 600).b _ _ ((F20_l5 600).L f) some = _
    generalize (F20_l5 600).L f = Lf
    simp only [F20_l5, decide_eq_false (show ¬ (i : Int) < (ds.length : Int) by omega)]
  | k + 1, f, zs, i, p, hk, hf, hz, D => by
    have hl := G.len
    obtain ⟨f, rfl⟩ : ∃ f', f = f' + 1 := ⟨f - 1, by omega⟩
    obtain ⟨v1, p1, n1, n2, D1⟩ := next_ok 600 (n := 3) (by omega) D
    obtain ⟨v2, p2, m1, m2, D2⟩ := next_ok 600 (n := 2) (by omega) D1
    have hlt : i < (lp ds).length := by rw [lp_len]; omega
    have hr := rowsI_get (lp ds) i hlt
    have e2 : i64 ((i : Int) + 1) = ((i + 1 : Nat) : Int) := by rw [i64_id (by omega)]; omega
    obtain ⟨w, hw⟩ : ∃ w, i64 (i64 (i64 (i64 ((lp ds)[i] * 1000000) + i64 (v1 * 1000000)) - 1000000) + i64 (v2 * 999999)) = w := ⟨_, rfl⟩
    obtain ⟨zs', p', e1, e3, e4⟩ := times_loop G k f (zs ++ [w]) (i + 1) p2 (by omega) (by omega) (by simp; omega) D2
    refine ⟨zs', p', ?_, e3, e4⟩
    show (F20_l5 600).b _ _ ((F20_l5 600).L f) some = _
    generalize (F20_l5 600).L f = Lf at e1 ⊢
    have hs : (zs.length + [[AV.v (.int .i64 w)]].length) * 8 ≤ maxBytes := by
      have : 1000 ≤ maxBytes := by decide
      simp
      omega
    simp only [F20_l5, decide_eq_true (show (i : Int) < (ds.length : Int) by omega), show (0 : Int) ≤ (i : Int) by omega, if_true, Int.toNat_natCast, hr, List.getElem?_cons_zero, n1, m1, hw, rowsI_len, e2, rowsI_snoc]
    exact (if_pos hs).trans e1
theorem mod_ok (N : Nat) (t : Int) {m : Int} (hm : m ≠ 0) : ∃ v, F21_d N (t, m) = some v := by
  exact ⟨(i64 ((t.tmod m) + m)).tmod m, by simp only [F21_d, FSpec.d, F21_s, if_neg hm]⟩
theorem times_ok {ds : List Int} (G : Good ds) {xs : List Int} {p : Int} (D : Dice xs p) (t : Int) : ∃ zs p', F20_d 600 (rowsI (lp ds), t, rowsI xs, p) = some (rowsI zs, rowsI xs, p') ∧ zs.length ≤ 10 ∧ Dice xs p' := by
  obtain ⟨v, hv⟩ := mod_ok 600 t (m := 9007199254740993) (by omega)
  have hl := G.len
  obtain ⟨zs, p', e1, e2, e3⟩ := times_loop G ds.length 600 [t, 0, 9007199254740992, 9007199254740993, -1, v] 0 p (by omega) (by omega) rfl D
  refine ⟨zs, p', ?_, e2, e3⟩
  have e1' : F20_d5 600 ([[(AV.v (.int .i64 t))], [(AV.v (.int .i64 0))], [(AV.v (.int .i64 9007199254740992))], [(AV.v (.int .i64 9007199254740993))], [(AV.v (.int .i64 (-1)))], [(AV.v (.int .i64 v))]], rowsI (lp ds), (ds.length : Int), 0, rowsI xs, p) = some (rowsI zs, rowsI xs, p') := e1
  simp only [F20_d, FSpec.d, F20_s, hv, rowsI_len, lp_len, e1']
theorem back_loop {ds : List Int} (G : Good ds) (zs : List Int) (hz : zs.length ≤ 10) : ∀ (k f i : Nat), i + k = zs.length → k < f → (F6_l10 600).L f (rowsI (lp ds), rowsI zs, (zs.length : Int), (i : Int)) = some (.inr ())
  | 0, f, i, hk, hf => by
    obtain ⟨f, rfl⟩ : ∃ f', f = f' + 1 := ⟨f - 1, by omega⟩
    show (F6_l10 600).b _ _ ((F6_l10 600).L f) some = _
    generalize (F6_l10 600).L f = Lf
    simp only [F6_l10, decide_eq_false (show ¬ (i : Int) < (zs.length : Int) by omega)]
  | k + 1, f, i, hk, hf => by
    obtain ⟨f, rfl⟩ : ∃ f', f = f' + 1 := ⟨f - 1, by omega⟩
    have ih := back_loop G zs hz k f (i + 1) (by omega) (by omega)
    show (F6_l10 600).b _ _ ((F6_l10 600).L f) some = _
    generalize (F6_l10 600).L f = Lf at ih ⊢
    have hlt : i < zs.length := by omega
    have hr := rowsI_get zs i hlt
    have e2 : i64 ((i : Int) + 1) = ((i + 1 : Nat) : Int) := by rw [i64_id (by omega)]; omega
    by_cases h : 0 ≤ zs[i] ∧ zs[i] ≤ 9007199254740992
    · obtain ⟨y, m, d, hh, mm, ss, us, u, g1, g2, g3, g4, g5⟩ := text_back G h
      have z1 : ((0 : Int) != 0) = false := rfl
      have z2 : (zs[i] != zs[i]) = false := by simp
      have z3 : ((u.size : Int) != 27) = false := by rw [g5]; rfl
      simp only [F6_l10, decide_eq_true (show (i : Int) < (zs.length : Int) by omega), show (0 : Int) ≤ (i : Int) by omega, if_true, Int.toNat_natCast, hr, List.getElem?_cons_zero, rin_ok, decide_eq_true h, Bool.not_true, g1, g2, g3, g4, z1, z2, z3, e2]
      exact ih
    · simp only [F6_l10, decide_eq_true (show (i : Int) < (zs.length : Int) by omega), show (0 : Int) ≤ (i : Int) by omega, if_true, Int.toNat_natCast, hr, List.getElem?_cons_zero, rin_ok, decide_eq_false h, Bool.not_false, e2]
      exact ih
theorem back_law {xs : List Int} (hb : ∀ x ∈ xs, -9223372036854775808 ≤ x ∧ x ≤ 9223372036854775807) (n : Int) : F6_d 600 (rowsI xs, n) = some true := by
  by_cases hl : (xs.length : Int) ≤ 500
  · have L1 : F13_d 600 (rowsI xs) = some true := by simp only [F13_d, FSpec.d, F13_s, rowsI_len, decide_eq_true hl]
    have R1 : F14_d 600 (rowsI xs) = some (rowsI xs, 0) := rfl
    obtain ⟨ds, p1, e1, G, D⟩ := leaps_ok (xs := xs) (p := 0) ⟨hb, by omega, by omega, by omega⟩
    obtain ⟨v, hv⟩ := mod_ok 600 n (m := 4000000000000000) (by omega)
    obtain ⟨zs, p2, e2, hz, D2⟩ := times_ok G D v
    have L : F6_d10 600 (rowsI (lp ds), rowsI zs, (zs.length : Int), 0) = some (.inr ()) := back_loop G zs hz zs.length 600 0 (by omega) (by omega)
    simp only [F6_d, FSpec.d, F6_s, L1, Bool.not_true, R1, e1, hv, e2, rowsI_len, L, sane_ok]
  · have L1 : F13_d 600 (rowsI xs) = some false := by simp only [F13_d, FSpec.d, F13_s, rowsI_len, decide_eq_false hl]
    simp only [F6_d, FSpec.d, F6_s, L1, Bool.not_false, sane_ok]
/-- UtcBack returns true. -/
theorem utc_back (a : Option Addr) (len cap : Nat) (n : Int) (W : World) (w : IntsIn W (.slice a len cap)) (hn : -9223372036854775808 ≤ n ∧ n ≤ 9223372036854775807) (hgl : GlOk (memOf W) W [] (InT sig0 [])) : Calls Tryd.prog 6 #[.slice a len cap, .int .i64 n] W fun e w' => e = .returned (.bool true) ∧ Below W.heap.size W w' := by
  obtain ⟨xs, hb, hl, hr⟩ := w
  refine CallOk.calls ((F6_e 600).ok (rowsI xs, n) true (back_law hb n)) W _ rfl (fun i h h' => ?_) hgl
  rcases (show i = 0 ∨ i = 1 by have : i < 2 := h'; omega) with rfl | rfl
  · exact hr _ _
  · exact .v
end Go.Proofs.YtaanjciokdpkmaaDoor
