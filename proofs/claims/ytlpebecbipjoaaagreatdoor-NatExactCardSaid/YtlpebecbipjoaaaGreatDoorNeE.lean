/- Natural numbers, the plain law: NatExact. -/
import Derived.Test.YtlpebecbipjoaaaGreatDoorNeH
namespace Go.Proofs.YtlpebecbipjoaaaGreatDoor
open Go.RowKit
set_option linter.unusedVariables false
set_option linter.unusedSimpArgs false
set_option linter.unnecessarySimpa false
theorem rowsS_get (S : List (List UInt8)) (k : Nat) (h : k < S.length) : (rowsS S)[k]? = some [AV.v (.string (BB S[k]))] := by simp [rowsS, h]
def rowsL (Q : List (List Int)) : List (List AV) := Q.map fun q => [AV.list 1 (rowsI q) none]
theorem rowsL_get (Q : List (List Int)) (k : Nat) (h : k < Q.length) : (rowsL Q)[k]? = some [AV.list 1 (rowsI Q[k]) none] := by simp [rowsL, h]
theorem lst_rows (q : List Int) : lstOf 1 (AV.list 1 (rowsI q) none) = some (rowsI q) := rfl
theorem ne_self (a : Int) : (a != a) = false := by simp
theorem str_loop {S : List (List UInt8)} (hS : ∀ s ∈ S, s.length ≤ 590) (hl : S.length ≤ 100) (x1 x2 x3 x4 x5 : List (List AV)) (x7 x8 : Int) (x9 : ByteArray) (x10 x11 : Int) (x14 : List (List AV)) (x15 : Int) : ∀ (k i f : Nat), k < f → i + k = S.length → (F3_l65 600).L f (x1, x2, x3, x4, x5, rowsS S, x7, x8, x9, x10, x11, (S.length : Int), (i : Int), x14, x15) = some (.inr (x1, x2, x3, x4, x5, x7, x8, x9, x10, x11, x14, x15))
  | 0, i, f, hf, hi => by
    obtain ⟨f, rfl⟩ : ∃ f', f = f' + 1 := ⟨f - 1, by omega⟩
    show (F3_l65 600).b _ _ ((F3_l65 600).L f) some = _
    generalize (F3_l65 600).L f = Lf
    simp only [F3_l65, decide_eq_false (show ¬ ((i : Int) < (S.length : Int)) by omega)]
  | k + 1, i, f, hf, hi => by
    obtain ⟨f, rfl⟩ : ∃ f', f = f' + 1 := ⟨f - 1, by omega⟩
    have hil : i < S.length := by omega
    have gs : ((rowsS S)[((i : Int)).toNat]? : Option (List AV)) = some [AV.v (.string (BB S[i]))] := by rw [show ((i : Int)).toNat = i by omega, rowsS_get S i hil]
    have P := parse_any (hS _ (List.getElem_mem hil))
    have R := same_refl (parseP_len S[i])
    have h0 : (0 : Int) ≤ (i : Int) := by omega
    have e1 : i64 ((i : Int) + 1) = ((i + 1 : Nat) : Int) := by rw [i64_id (by omega)]; omega
    have r := str_loop hS hl x1 x2 x3 x4 x5 x7 x8 x9 x10 x11 x14 x15 k (i + 1) f (by omega) (by omega)
    show (F3_l65 600).b _ _ ((F3_l65 600).L f) some = _
    generalize (F3_l65 600).L f = Lf at r ⊢
    simp only [F3_l65, decide_eq_true (show ((i : Int) < (S.length : Int)) by omega), gs, List.getElem?_cons_zero, P.1, P.2, ne_self, R, Bool.not_true, e1, r]
    exact if_pos h0
theorem div_loop2 {P Z : List Int} (hP : P.length ≤ 590) (hl : Z.length ≤ 100) (x1 x2 x3 x5 : List (List AV)) (x7 x8 : Int) (x9 : ByteArray) (x10 x11 : Int) (x14 : List (List AV)) (x15 : Int) : ∀ (k i f : Nat), k < f → i + k = Z.length → (F3_l42 600).L f (x1, x2, x3, rowsI P, x5, rowsI Z, x7, x8, x9, x10, x11, (Z.length : Int), (i : Int), x14, x15) = some (.inr (x1, x2, x3, rowsI P, x5, x7, x8, x9, x10, x11, x14, x15))
  | 0, i, f, hf, hi => by
    obtain ⟨f, rfl⟩ : ∃ f', f = f' + 1 := ⟨f - 1, by omega⟩
    show (F3_l42 600).b _ _ ((F3_l42 600).L f) some = _
    generalize (F3_l42 600).L f = Lf
    simp only [F3_l42, decide_eq_false (show ¬ ((i : Int) < (Z.length : Int)) by omega)]
  | k + 1, i, f, hf, hi => by
    obtain ⟨f, rfl⟩ : ∃ f', f = f' + 1 := ⟨f - 1, by omega⟩
    have hil : i < Z.length := by omega
    have gs : ((rowsI Z)[((i : Int)).toNat]? : Option (List AV)) = some [AV.v (.int .i64 Z[i])] := by rw [show ((i : Int)).toNat = i by omega, rowsI_get Z i hil]
    have A := idiv_ok hP Z[i]
    have B := rdiv_ok hP Z[i]
    have R := same_refl (divP_len P Z[i])
    have h0 : (0 : Int) ≤ (i : Int) := by omega
    have e1 : i64 ((i : Int) + 1) = ((i + 1 : Nat) : Int) := by rw [i64_id (by omega)]; omega
    have r := div_loop2 hP hl x1 x2 x3 x5 x7 x8 x9 x10 x11 x14 x15 k (i + 1) f (by omega) (by omega)
    show (F3_l42 600).b _ _ ((F3_l42 600).L f) some = _
    generalize (F3_l42 600).L f = Lf at r ⊢
    simp only [F3_l42, decide_eq_true (show ((i : Int) < (Z.length : Int)) by omega), gs, List.getElem?_cons_zero, A, B, ne_self, R, Bool.not_true, e1, r]
    exact (if_pos h0).trans (if_pos trivial)
theorem pair_loop {P : List Int} {Q : List (List Int)} (hP : P.length ≤ 590) (hQ : ∀ q ∈ Q, q.length ≤ 590) (hl : Q.length ≤ 100) (x1 x2 x3 x5 : List (List AV)) (x7 x8 : Int) (x9 : ByteArray) (x10 x11 : Int) (x14 : List (List AV)) (x15 : Int) : ∀ (k i f : Nat), k < f → i + k = Q.length → (F3_l23 600).L f (x1, x2, x3, rowsI P, x5, rowsL Q, x7, x8, x9, x10, x11, (Q.length : Int), (i : Int), x14, x15) = some (.inr (x1, x2, x3, rowsI P, x5, x7, x8, x9, x10, x11, x14, x15))
  | 0, i, f, hf, hi => by
    obtain ⟨f, rfl⟩ : ∃ f', f = f' + 1 := ⟨f - 1, by omega⟩
    show (F3_l23 600).b _ _ ((F3_l23 600).L f) some = _
    generalize (F3_l23 600).L f = Lf
    simp only [F3_l23, decide_eq_false (show ¬ ((i : Int) < (Q.length : Int)) by omega)]
  | k + 1, i, f, hf, hi => by
    obtain ⟨f, rfl⟩ : ∃ f', f = f' + 1 := ⟨f - 1, by omega⟩
    have hil : i < Q.length := by omega
    have hq := hQ _ (List.getElem_mem hil)
    have gs : ((rowsL Q)[((i : Int)).toNat]? : Option (List AV)) = some [AV.list 1 (rowsI Q[i]) none] := by rw [show ((i : Int)).toNat = i by omega, rowsL_get Q i hil]
    have A := add_any hP hq
    have A' := same_refl (addP_len P Q[i])
    have B := sub_any hP hq
    have B' := same_refl (subP_len P Q[i])
    have C := mul_any hP hq
    have C' := same_refl (mulP_len P Q[i])
    have D := cmp_any hP hq
    have h0 : (0 : Int) ≤ (i : Int) := by omega
    have e1 : i64 ((i : Int) + 1) = ((i + 1 : Nat) : Int) := by rw [i64_id (by omega)]; omega
    have r := pair_loop hP hQ hl x1 x2 x3 x5 x7 x8 x9 x10 x11 x14 x15 k (i + 1) f (by omega) (by omega)
    show (F3_l23 600).b _ _ ((F3_l23 600).L f) some = _
    generalize (F3_l23 600).L f = Lf at r ⊢
    simp only [F3_l23, decide_eq_true (show ((i : Int) < (Q.length : Int)) by omega), gs, List.getElem?_cons_zero, lst_rows, A.1, A.2, B.1, B.2, C.1, C.2, D.1, D.2, ne_self, A', B', C', Bool.not_true, e1, r]
    exact if_pos h0
open Classical in
theorem out_loop {A B Lg : List Int} (hA : A.length ≤ 590) (hB : B.length ≤ 590) (hLg : Lg.length ≤ 590) {Ps : List (List Int)} (hPs : ∀ q ∈ Ps, q.length ≤ 590) (hl : Ps.length ≤ 100) (n x : Int) {tl : List UInt8} (ht : tl.length ≤ 80) {xs : List Int} : ∀ (k i f : Nat) (p : Int), k < f → i + k = Ps.length → Dice xs p → (F3_l13 600).L f (rowsI A, rowsI B, rowsI Lg, rowsL Ps, n, x, BB tl, (Ps.length : Int), (i : Int), rowsI xs, p) = some (.inr x)
  | 0, i, f, p, hf, hi, D => by
    obtain ⟨f, rfl⟩ : ∃ f', f = f' + 1 := ⟨f - 1, by omega⟩
    show (F3_l13 600).b _ _ ((F3_l13 600).L f) some = _
    generalize (F3_l13 600).L f = Lf
    simp only [F3_l13, decide_eq_false (show ¬ ((i : Int) < (Ps.length : Int)) by omega)]
  | k + 1, i, f, p, hf, hi, D => by
    obtain ⟨f, rfl⟩ : ∃ f', f = f' + 1 := ⟨f - 1, by omega⟩
    have hil : i < Ps.length := by omega
    have hP := hPs _ (List.getElem_mem hil)
    have gs : ((rowsL Ps)[((i : Int)).toNat]? : Option (List AV)) = some [AV.list 1 (rowsI Ps[i]) none] := by rw [show ((i : Int)).toNat = i by omega, rowsL_get Ps i hil]
    generalize Ps[i] = P at *
    obtain ⟨v, p1, g1, g2, g3⟩ := next_ok 600 (n := 1000) (by omega) D
    obtain ⟨V, p2, h1, h2, h3⟩ := nat_ok (m := 3) (by omega) g3
    have h1' : F7_d 600 (3, rowsI xs, p1) = some (rowsI (nf V), rowsI xs, p2) := h1
    have hV : (nf V).length ≤ 590 := by have := (nf_len 3 V).2 h2; omega
    have r := out_loop hA hB hLg hPs hl n x ht k (i + 1) f p2 (by omega) (by omega) h3
    have L1 := pair_loop (P := P) (Q := [B, Lg]) hP (fun q hq => by simp at hq; rcases hq with e | e <;> (subst e; assumption)) (by simp) (rowsI A) (rowsI B) (rowsI Lg) (rowsL Ps) n x (BB tl) (Ps.length : Int) (i : Int) (rowsI xs) p 2 0 600 (by omega) (by simp)
    have L1' : F3_d23 600 (rowsI A, rowsI B, rowsI Lg, rowsI P, rowsL Ps, [[(AV.list 1 (rowsI B) none)], [(AV.list 1 (rowsI Lg) none)]], n, x, BB tl, (Ps.length : Int), (i : Int), ([[(AV.list 1 (rowsI B) none)], [(AV.list 1 (rowsI Lg) none)]].length : Int), 0, rowsI xs, p) = some (.inr (rowsI A, rowsI B, rowsI Lg, rowsI P, rowsL Ps, n, x, BB tl, (Ps.length : Int), (i : Int), rowsI xs, p)) := L1
    have ev : i64 (1 + v) = 1 + v := i64_id (by omega)
    have L2 := div_loop2 (P := P) (Z := [n, 1 + v, 1073741823, 1073741824]) hP (by simp) (rowsI A) (rowsI B) (rowsI Lg) (rowsL Ps) n x (BB tl) (Ps.length : Int) (i : Int) (rowsI xs) p1 4 0 600 (by omega) (by simp)
    have L2' : F3_d42 600 (rowsI A, rowsI B, rowsI Lg, rowsI P, rowsL Ps, [[(AV.v (.int .i64 n))], [(AV.v (.int .i64 (1 + v)))], [(AV.v (.int .i64 1073741823))], [(AV.v (.int .i64 1073741824))]], n, x, BB tl, (Ps.length : Int), (i : Int), ([[(AV.v (.int .i64 n))], [(AV.v (.int .i64 (1 + v)))], [(AV.v (.int .i64 1073741823))], [(AV.v (.int .i64 1073741824))]].length : Int), 0, rowsI xs, p1) = some (.inr (rowsI A, rowsI B, rowsI Lg, rowsI P, rowsL Ps, n, x, BB tl, (Ps.length : Int), (i : Int), rowsI xs, p1)) := L2
    have I1 := intR hP
    have I2 := rint_any hP
    have T := text_any hP
    have hT := textP_len P
    have V1 := valid_any P hP
    have V2 := rvalid_any P hP
    generalize textP P = tp at *
    obtain ⟨s, e⟩ := tp
    dsimp only at T hT
    have b0 : (⟨#[48]⟩ : ByteArray) = BB [48] := rfl
    have bx : (⟨#[120]⟩ : ByteArray) = BB [120] := rfl
    have L3 := str_loop (S := [tl, s, 48 :: s, s ++ [120]]) (fun q hq => by
      simp only [List.mem_cons, List.not_mem_nil, or_false] at hq
      rcases hq with e | e | e | e <;> (subst e; first | omega | (simp; omega))) (by simp) (rowsI A) (rowsI B) (rowsI Lg) (rowsI P) (rowsL Ps) n x (BB tl) (Ps.length : Int) (i : Int) (rowsI xs) p1 4 0 600 (by omega) (by simp)
    have L3' : F3_d65 600 (rowsI A, rowsI B, rowsI Lg, rowsI P, rowsL Ps, [[(AV.v (.string (BB tl)))], [(AV.v (.string (BB s)))], [(AV.v (.string (BB ([48] ++ s))))], [(AV.v (.string (BB (s ++ [120]))))]], n, x, BB tl, (Ps.length : Int), (i : Int), ([[(AV.v (.string (BB tl)))], [(AV.v (.string (BB s)))], [(AV.v (.string (BB ([48] ++ s))))], [(AV.v (.string (BB (s ++ [120]))))]].length : Int), 0, rowsI xs, p1) = some (.inr (rowsI A, rowsI B, rowsI Lg, rowsI P, rowsL Ps, n, x, BB tl, (Ps.length : Int), (i : Int), rowsI xs, p1)) := L3
    obtain ⟨⟨w1, u1, u2⟩, ⟨w2, u3, u4⟩, X, Y, E, u5, u6, u7, u8⟩ := frac_any (a := P) (b := B) (c := A) (d := nf V) hP hB hA hV
    have sx := same_refl u7
    have sy := same_refl u8
    have SF : F35_d 600 (rowsI X, rowsI Y, rowsI X, rowsI Y) = some true := by simp only [F35_d, FSpec.d, F35_s, sx, sy]
    have W := vf_any hP hB
    have h0 : (0 : Int) ≤ (i : Int) := by omega
    have e1 : i64 ((i : Int) + 1) = ((i + 1 : Nat) : Int) := by rw [i64_id (by omega)]; omega
    have z1 : (BB [48]).size + (BB s).size ≤ 9223372036854775807 := by rw [BB_size, BB_size]; simp; omega
    have z2 : (BB s).size + (BB [120]).size ≤ 9223372036854775807 := by rw [BB_size, BB_size]; simp; omega
    have eqB : ∀ b : Bool, (!(b == b)) = false := fun b => by cases b <;> rfl
    have eqS : ∀ l : List UInt8, (!(l == l)) = false := fun l => by simp
    show (F3_l13 600).b _ _ ((F3_l13 600).L f) some = _
    generalize (F3_l13 600).L f = Lf at r ⊢
    simp only [F3_l13, decide_eq_true (show ((i : Int) < (Ps.length : Int)) by omega), gs, List.getElem?_cons_zero, lst_rows, L1', g1, ev, L2', I1, I2, T.1, T.2, ne_self, eqS, V1, V2, eqB, b0, bx, BB_app, L3', h1', u1, u2, u3, u4, u5, u6, SF, Bool.not_true, W.1, W.2, e1, r]
    exact (if_pos h0).trans ((if_pos z1).trans (if_pos z2))
theorem from_any (x : Int) (h : -9223372036854775808 ≤ x ∧ x ≤ 9223372036854775807) : ∃ (L : List Int) (e : Int), F38_d 600 x = some (rowsI L, e) ∧ F39_d 600 x = some (rowsI L, e) ∧ L.length ≤ 590 := by
  by_cases hx : x < 0
  · refine ⟨[], 2, ?_, ?_, by simp⟩
    · simp only [F38_d, FSpec.d, F38_s, decide_eq_true hx]; rfl
    · simp only [F39_d, FSpec.d, F39_s, decide_eq_true hx]; rfl
  · refine ⟨nf x.toNat, 0, from_ok (by omega), rfrom_ok (by omega), ?_⟩
    have := (nf_len 3 x.toNat).2 (by
      show x.toNat < 1073741824 ^ 3
      omega)
    omega
theorem exact_law {xs raw : List Int} (hb : ∀ x ∈ xs, -9223372036854775808 ≤ x ∧ x ≤ 9223372036854775807) {n x : Int} (hx : -9223372036854775808 ≤ x ∧ x ≤ 9223372036854775807) (tl : List UInt8) : F3_d 600 (rowsI xs, rowsI raw, n, x, BB tl) = some true := by
  by_cases hl : (xs.length : Int) ≤ 500
  · by_cases hr : (raw.length : Int) > 80
    · simp only [F3_d, FSpec.d, F3_s, light_ok, decide_eq_true hl, Bool.not_true, rowsI_len, decide_eq_true hr, sane_ok]
    · by_cases ht : ((BB tl).size : Int) > 80
      · simp only [F3_d, FSpec.d, F3_s, light_ok, decide_eq_true hl, Bool.not_true, rowsI_len, decide_eq_false hr, decide_eq_true ht, sane_ok]
      · obtain ⟨A, p1, a1, a2, a3⟩ := nat_ok (xs := xs) (p := 0) (m := 5) (by omega) ⟨hb, by omega, by omega, by omega⟩
        obtain ⟨B, p2, b1, b2, b3⟩ := nat_ok (m := 5) (by omega) a3
        have a1' : F7_d 600 (5, rowsI xs, 0) = some (rowsI (nf A), rowsI xs, p1) := a1
        have b1' : F7_d 600 (5, rowsI xs, p1) = some (rowsI (nf B), rowsI xs, p2) := b1
        obtain ⟨v, p3, c1, c2, c3⟩ := pick_ok 600 [32, 63, 64] (by simp) b3
        have hv : 32 ≤ v ∧ v ≤ 64 := by simp only [List.mem_cons, List.not_mem_nil, or_false] at c2; omega
        obtain ⟨m, rfl⟩ := Int.eq_ofNat_of_zero_le (show 0 ≤ v by omega)
        have c1' : F8_d 600 ([[AV.v (.int .i64 32)], [AV.v (.int .i64 63)], [AV.v (.int .i64 64)]], rowsI xs, p2) = some ((m : Int), rowsI xs, p3) := c1
        obtain ⟨w, p4, d1, d2, d3⟩ := pick_ok 600 [0, -1, 1073741824, 5] (by simp) c3
        have d1' : F8_d 600 ([[AV.v (.int .i64 0)], [AV.v (.int .i64 (-1))], [AV.v (.int .i64 1073741824)], [AV.v (.int .i64 5)]], rowsI xs, p3) = some (w, rowsI xs, p4) := d1
        have hA : (nf A).length ≤ 5 := (nf_len 5 A).2 a2
        have hB : (nf B).length ≤ 5 := (nf_len 5 B).2 b2
        have htl : tl.length ≤ 80 := by rw [BB_size] at ht; omega
        have e1 : i64 (((m : Nat) : Int) - 1) = ((m - 1 : Nat) : Int) := by rw [i64_id (by omega)]; omega
        have g0 : ((0 + (m - 1)) * 1) = m - 1 := by omega
        have hmx : 100000 ≤ maxBytes := by decide
        have k1 : (0 : Int) ≤ (m : Int) ∧ (m : Int) ≤ (m : Int) ∧ m * 8 ≤ maxBytes := by omega
        have k2 : (0 : Int) ≤ ((m - 1 : Nat) : Int) ∧ ((m - 1 : Nat) : Int) < (m : Int) := by omega
        have k3 : m - 1 + 1 ≤ (cellsI (List.replicate m 0)).length := by rw [cellsI_len]; simp; omega
        have k4 : (nf A).length * 8 ≤ maxBytes := by omega
        have k5 := room (nf A).length (by omega) w
        have k6 : m * 1 ≤ (cellsI ((List.replicate m 0).set (m - 1) 536870912)).length := by rw [cellsI_len]; simp
        have ec : chunks ((cellsI ((List.replicate m 0).set (m - 1) 536870912)).take (m * 1)) 1 m = rowsI ((List.replicate m 0).set (m - 1) 536870912) := chunks_all _ _ (by simp)
        obtain ⟨Lf, hLf⟩ : ∃ Lf, (List.replicate m (0 : Int)).set (m - 1) 536870912 = Lf := ⟨_, rfl⟩
        have hLl : Lf.length = m := by rw [← hLf]; simp
        rw [hLf] at ec k6
        have O := out_loop (A := nf A) (B := nf B) (Lg := Lf) (by omega) (by omega) (by omega) (Ps := [nf A, nf A ++ [w], raw, Lf]) (fun q hq => by
          simp only [List.mem_cons, List.not_mem_nil, or_false] at hq
          rcases hq with e | e | e | e <;> (subst e; first | omega | (simp; omega))) (by simp) n x htl (xs := xs) 4 0 600 p4 (by omega) (by simp) d3
        have O' : F3_d13 600 (rowsI (nf A), rowsI (nf B), rowsI Lf, [[(AV.list 1 (rowsI (nf A)) none)], [(AV.list 1 (rowsI (nf A ++ [w])) none)], [(AV.list 1 (rowsI raw) none)], [(AV.list 1 (rowsI Lf) none)]], n, x, BB tl, ([[(AV.list 1 (rowsI (nf A)) none)], [(AV.list 1 (rowsI (nf A ++ [w])) none)], [(AV.list 1 (rowsI raw) none)], [(AV.list 1 (rowsI Lf) none)]].length : Int), 0, rowsI xs, p4) = some (.inr x) := O
        obtain ⟨FL, fe, f1, f2, f3⟩ := from_any x hx
        have sf := same_refl f3
        have zz : (fe == fe) = true := by simp
        simp only [F3_d, FSpec.d, F3_s, light_ok, decide_eq_true hl, Bool.not_true, rowsI_len, decide_eq_false hr, decide_eq_false ht, roll_ok, a1', b1', c1', Int.toNat_natCast, e1, g0, zeros_cells, cellsI_set, hLf, d1', rowsI_snoc, ec, O', f1, f2, zz, sf, sane_ok]
        exact (if_pos k1).trans ((if_pos k2).trans ((if_pos k3).trans ((if_pos k4).trans ((if_pos k5).trans (if_pos k6)))))
  · simp only [F3_d, FSpec.d, F3_s, light_ok, decide_eq_false hl, Bool.not_false, sane_ok]
end Go.Proofs.YtlpebecbipjoaaaGreatDoor
