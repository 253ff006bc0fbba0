/- DetectorExact, the plain law: Push of both packages. -/
import Derived.Test.YtaiadjadgpgnmaaDtXC
namespace Go.Proofs.Ytaiadjadgpgnmaa
open Go.RowKit
set_option linter.unusedVariables false
set_option linter.unusedSimpArgs false
set_option linter.unnecessarySimpa false
theorem pushb_loop {S L a b : Int} (h : DtOk S L a b) {z xs : List Int} {n0 : Nat} (R : ZRow z n0 xs) {base : Int} (hb : 0 ≤ base ∧ base ≤ 1073741823) (hz : z.length ≤ 1073741823) : ∀ (m k fu : Nat) (q : Trg × List Trg), m < fu → k + m = xs.length → q.2.length + m ≤ 1000000 →
    (F20_l16 600).L fu (rowsI xs, (xs.length : Int), (k : Int), 0, 0, 0, 0, ([] : List (List AV)), 0, 0, 0, 0, S, L, a, b, rowsI (pst z L.toNat (n0 + k)), base + (n0 + k : Nat), q.1.1, q.1.2.1, q.1.2.2, V z S.toNat (n0 + k), V z L.toNat (n0 + k), rowsT q.2) = some (0, 0, 0, 0, ([] : List (List AV)), 0, 0, 0, 0, S, L, a, b, rowsI (pst z L.toNat z.length), base + (z.length : Nat), (runT S L a b z base m (n0 + k) q).1.1, (runT S L a b z base m (n0 + k) q).1.2.1, (runT S L a b z base m (n0 + k) q).1.2.2, V z S.toNat z.length, V z L.toNat z.length, rowsT (runT S L a b z base m (n0 + k) q).2)
  | 0, k, fu, q, hf, hk, hE => by
    obtain ⟨f, rfl⟩ : ∃ f', fu = f' + 1 := ⟨fu - 1, by omega⟩
    have hl := R.len
    have e : n0 + k = z.length := by omega
    show (F20_l16 600).b _ _ ((F20_l16 600).L f) some = _
    have c : decide ((k : Int) < (xs.length : Int)) = false := by simp; omega
    simp only [F20_l16, c, e, runT]
  | m + 1, k, fu, q, hf, hk, hE => by
    obtain ⟨f, rfl⟩ : ∃ f', fu = f' + 1 := ⟨fu - 1, by omega⟩
    have hl := R.len
    have hlt : k < xs.length := by omega
    obtain ⟨⟨o, fo, p⟩, E⟩ := q
    simp only at hE
    have r := look_at h R hlt (base := base) hb hz (o := o) (f := fo) (p := p) (E := E) (by omega)
    have hT := tr1_len S L a b (base + (n0 + k : Nat)) (W z S.toNat (n0 + k)) (W z L.toNat (n0 + k)) (o, fo, p) E
    have r2 := pushb_loop h R hb hz m (k + 1) f (stp S L a b z base (n0 + k) ((o, fo, p), E)) (by omega) (by omega) (by unfold stp; simp only; omega)
    have c1 : decide ((k : Int) < (xs.length : Int)) = true := by simp; omega
    have c2 : (0 : Int) ≤ (k : Int) := by omega
    have c4 : i64 ((k : Int) + 1) = ((k + 1 : Nat) : Int) := by
      have := hz
      rw [i64_id (by omega)]; omega
    show (F20_l16 600).b _ _ ((F20_l16 600).L f) some = _
    obtain ⟨Lf, hL⟩ : ∃ Lf, Lf = (F20_l16 600).L f := ⟨_, rfl⟩
    rw [← hL] at r2 ⊢
    simp only [F20_l16, c1, c2, if_true, Int.toNat_natCast, rowsI_get xs k hlt, List.getElem?_cons_zero, r, c4]
    exact r2
theorem rpush_loop {S L a b : Int} (h : DtOk S L a b) {z : List Int} (hz : ∀ v ∈ z, Abs v) (hzl : z.length ≤ 1000) {base : Int} (hb : 0 ≤ base ∧ base ≤ 1073741823) {x2 x10 x19 : List (List AV)} {x6 x7 x8 x9 x11 x12 x13 x14 x15 x16 x17 x18 x20 x21 x22 x23 : Int} : ∀ (m i fu : Nat) (q : Trg × List Trg), m < fu → m = z.length - i → L ≤ i + 1 → q.2.length + m ≤ 100000 →
    (F30_l20 600).L fu (rowsT q.2, x2, rowsI z, base, (i : Int), x6, x7, x8, x9, x10, x11, x12, x13, x14, x15, x16, x17, x18, x19, x20, x21, x22, x23, S, L, a, b, q.1.1, q.1.2.1, q.1.2.2) = some (rowsT (runT S L a b z base m i q).2, x2, rowsI z, x6, x7, x8, x9, x10, x11, x12, x13, x14, x15, x16, x17, x18, x19, x20, x21, x22, x23, S, L, a, b, (runT S L a b z base m i q).1.1, (runT S L a b z base m i q).1.2.1, (runT S L a b z base m i q).1.2.2)
  | 0, i, fu, q, hf, hi, hL, hE => by
    obtain ⟨f, rfl⟩ : ∃ f', fu = f' + 1 := ⟨fu - 1, by omega⟩
    show (F30_l20 600).b _ _ ((F30_l20 600).L f) some = _
    have c : decide ((i : Int) < (z.length : Int)) = false := by rw [decide_eq_false_iff_not]; omega
    simp only [F30_l20, rowsI_len, c, runT]
  | m + 1, i, fu, q, hf, hi, hL, hE => by
    obtain ⟨f, rfl⟩ : ∃ f', fu = f' + 1 := ⟨fu - 1, by omega⟩
    have hlt : i < z.length := by omega
    obtain ⟨e, fl, s1, s2⟩ := rstep_ok h hz (by omega) hlt hL (base := base) hb.1 q.1 q.2
    have hE2 : (stp S L a b z base i (q.1, q.2)).2.length ≤ q.2.length + 1 := by
      rw [s2]; split <;> simp
    change (stp S L a b z base i q).2.length ≤ q.2.length + 1 at hE2
    have r := rpush_loop h hz hzl hb (x2 := x2) (x6 := x6) (x7 := x7) (x8 := x8) (x9 := x9) (x10 := x10) (x11 := x11) (x12 := x12) (x13 := x13) (x14 := x14) (x15 := x15) (x16 := x16) (x17 := x17) (x18 := x18) (x19 := x19) (x20 := x20) (x21 := x21) (x22 := x22) (x23 := x23) m (i + 1) f (stp S L a b z base i q) (by omega) (by omega) (by omega) (by omega)
    have c1 : decide ((i : Int) < (z.length : Int)) = true := by rw [decide_eq_true_iff]; omega
    have e2 : i64 ((i : Int) + 1) = ((i + 1 : Nat) : Int) := by rw [i64_id (by omega)]; omega
    have e3 : i64 (base + (i : Int)) = base + (i : Int) := i64_id (by omega)
    show (F30_l20 600).b _ _ ((F30_l20 600).L f) some = _
    obtain ⟨Lf, hLf⟩ : ∃ Lf, Lf = (F30_l20 600).L f := ⟨_, rfl⟩
    rw [← hLf] at r ⊢
    unfold runT
    change F44_d 600 _ = some ((stp S L a b z base i q).1.1, (stp S L a b z base i q).1.2.1, (stp S L a b z base i q).1.2.2, _) at s1
    change (stp S L a b z base i q).2 = _ at s2
    have hbb : ((rowsT q.2).length + [[AV.v (.int .i64 e.1), AV.v (.int .i64 e.2.1), AV.v (.int .i64 e.2.2)]].length) * 24 ≤ maxBytes := by
      rw [rowsT_len]; unfold maxBytes; simp; omega
    rw [s2] at r
    cases fl with
    | true =>
      simp only [F30_l20, rowsI_len, c1, e3, s1, hbb, if_true, rowsT_snoc, e2]
      exact r
    | false =>
      simp only [F30_l20, rowsI_len, c1, e3, s1, e2]
      exact r
abbrev Wt := Int × Int × Int × Int × List Int × Int × Int × Int × Int × List Trg × Int
/-- A push's result as the functions give it. -/
def outW (w : Wt) : Int × Int × Int × Int × (List (List AV)) × Int × Int × Int × Int × (List (List AV)) × Int :=
  (w.1, w.2.1, w.2.2.1, w.2.2.2.1, rowsI w.2.2.2.2.1, w.2.2.2.2.2.1, w.2.2.2.2.2.2.1, w.2.2.2.2.2.2.2.1, w.2.2.2.2.2.2.2.2.1, rowsT w.2.2.2.2.2.2.2.2.2.1, w.2.2.2.2.2.2.2.2.2.2)
def noW (e : Int) : Wt := (0, 0, 0, 0, [], 0, 0, 0, 0, [], e)
def okW (S L a b : Int) (z : List Int) (c : Int) (q : Trg × List Trg) : Wt := (S, L, a, b, pst z L.toNat z.length, c, q.1.1, q.1.2.1, q.1.2.2, q.2, 0)
def pushV (S L a b : Int) (pa : List Int) (c o f p : Int) (xs : List Int) : Wt :=
  if wB S L a b pa c o f p = true then (if c + (xs.length : Int) > 16777216 then noW 8 else if xs.all smpB = true then okW S L a b (pa ++ xs.map ab) (c + (xs.length : Int)) (runT S L a b (pa ++ xs.map ab) (c - (pa.length : Int)) xs.length pa.length ((o, f, p), [])) else noW 2) else noW 1
theorem push_good {S L a b : Int} {pa : List Int} {c o f p : Int} (w : wB S L a b pa c o f p = true) {xs : List Int} (hx : xs.all smpB = true) (hl : pa.length + xs.length ≤ 590) (hc : ¬ c + (xs.length : Int) > 16777216) :
    F20_d 600 (S, L, a, b, rowsI pa, c, o, f, p, rowsI xs) = some (outW (okW S L a b (pa ++ xs.map ab) (c + (xs.length : Int)) (runT S L a b (pa ++ xs.map ab) (c - (pa.length : Int)) xs.length pa.length ((o, f, p), [])))) := by
  have ⟨h, wl, wv, w1, w2, w3⟩ := WOk.of w
  have ⟨g1, g2, g3, g4, g5, g6⟩ := h
  have hs := all_smp hx
  have c1 : decide ((xs.length : Int) > 65536) = false := by rw [decide_eq_false_iff_not]; omega
  have e1 : i64 (c + (xs.length : Int)) = c + (xs.length : Int) := i64_id (by omega)
  have c2 : decide (c + (xs.length : Int) > 16777216) = false := decide_eq_false hc
  have zl : (pa ++ xs.map ab).length = pa.length + xs.length := by simp
  have R : ZRow (pa ++ xs.map ab) pa.length xs := {
    len := zl
    at_ := fun k hk => by rw [List.getElem_append_right (by omega)]; simp
    abs := fun v hv => by
      rcases List.mem_append.1 hv with hv | hv
      · exact wv v hv
      · exact abs_row hs v hv
    smp := hs }
  have ho := open_ok h (pa := pa) wv wl c o f p
  have tk : (pa ++ xs.map ab).take pa.length = pa := by rw [List.take_append_of_le_length (Nat.le_refl _), List.take_length]
  have p0 : pst (pa ++ xs.map ab) L.toNat pa.length = pa := by
    unfold pst
    rw [tk, show pa.length - (L.toNat - 1) = 0 by omega, List.drop_zero]
  have tp : P (pa ++ xs.map ab) pa.length = pa.sum := by unfold P; rw [tk]
  have s2 : pa.sum = V (pa ++ xs.map ab) L.toNat pa.length := by
    unfold V
    rw [tp, show pa.length - (L.toNat - 1) = 0 by omega, P_zero, Int.sub_zero]
  have s1 : (pa.drop (pa.length - (S.toNat - 1))).sum = V (pa ++ xs.map ab) S.toNat pa.length := by
    unfold V
    rw [← psum (by omega), tk]
  rw [s1, s2] at ho
  have r := pushb_loop h R (base := c - (pa.length : Int)) (by omega) (by omega) xs.length 0 600 ((o, f, p), []) (by omega) (by omega) (by simp; omega)
  rw [Nat.add_zero, p0, show c - (pa.length : Int) + ((pa.length : Nat) : Int) = c by omega, zl, show c - (pa.length : Int) + ((pa.length + xs.length : Nat) : Int) = c + (xs.length : Int) by omega] at r
  replace r : (F20_l16 600).L 600 (rowsI xs, (xs.length : Int), 0, 0, 0, 0, 0, ([] : List (List AV)), 0, 0, 0, 0, S, L, a, b, rowsI pa, c, o, f, p, V (pa ++ xs.map ab) S.toNat pa.length, V (pa ++ xs.map ab) L.toNat pa.length, []) = _ := r
  have hl2 := pst_len (z := pa ++ xs.map ab) (l := L.toNat) (i := pa.length + xs.length) (by omega)
  have cl := clone_ok (pst (pa ++ xs.map ab) L.toNat (pa.length + xs.length)) (by omega)
  simp only [F20_d, FSpec.d, F20_s, vw_any S L a b (pa := pa) (by omega), w, Bool.not_true, rowsI_len, c1, e1, c2, cont_any xs (by omega), hx, ho, F20_d16, r, cl]
  unfold outW okW
  rw [zl]
theorem rpush_good {S L a b : Int} {pa : List Int} {c o f p : Int} (w : wB S L a b pa c o f p = true) {xs : List Int} (hx : xs.all smpB = true) (hl : pa.length + xs.length ≤ 590) (hc : ¬ c + (xs.length : Int) > 16777216) :
    F30_d 600 (S, L, a, b, rowsI pa, c, o, f, p, rowsI xs) = some (outW (okW S L a b (pa ++ xs.map ab) (c + (xs.length : Int)) (runT S L a b (pa ++ xs.map ab) (c - (pa.length : Int)) xs.length pa.length ((o, f, p), [])))) := by
  have ⟨h, wl, wv, w1, w2, w3⟩ := WOk.of w
  have ⟨g1, g2, g3, g4, g5, g6⟩ := h
  have hs := all_smp hx
  have c1 : decide ((xs.length : Int) > 65536) = false := by rw [decide_eq_false_iff_not]; omega
  have e1 : i64 (c + (xs.length : Int)) = c + (xs.length : Int) := i64_id (by omega)
  have c2 : decide (c + (xs.length : Int) > 16777216) = false := decide_eq_false hc
  have zl : (pa ++ xs.map ab).length = pa.length + xs.length := by simp
  have hz : ∀ v ∈ pa ++ xs.map ab, Abs v := fun v hv => by
    rcases List.mem_append.1 hv with hv | hv
    · exact wv v hv
    · exact abs_row hs v hv
  have e3 : i64 (c - (pa.length : Int)) = c - (pa.length : Int) := i64_id (by omega)
  have e4 : i64 (L - 1) = L - 1 := i64_id (by omega)
  have e5 : (if L - 1 > (pa.length : Int) then L - 1 else (pa.length : Int)) = ((L.toNat - 1 : Nat) : Int) := by split <;> omega
  have b1 : pa.length * 8 ≤ maxBytes := by unfold maxBytes; omega
  have b2 : (pa.length + (xs.map ab).length) * 8 ≤ maxBytes := by rw [List.length_map]; unfold maxBytes; omega
  have r := rpush_loop h hz (by omega) (base := c - (pa.length : Int)) (by omega) (x2 := rowsI xs) (x6 := S) (x7 := L) (x8 := a) (x9 := b) (x10 := rowsI pa) (x11 := c) (x12 := o) (x13 := f) (x14 := p) (x15 := 0) (x16 := 0) (x17 := 0) (x18 := 0) (x19 := []) (x20 := 0) (x21 := 0) (x22 := 0) (x23 := 0) _ (L.toNat - 1) 600 ((o, f, p), []) (by omega) rfl (by omega) (by simp; omega)
  replace r : (F30_l20 600).L 600 ([], rowsI xs, rowsI (pa ++ xs.map ab), c - (pa.length : Int), ((L.toNat - 1 : Nat) : Int), S, L, a, b, rowsI pa, c, o, f, p, 0, 0, 0, 0, [], 0, 0, 0, 0, S, L, a, b, o, f, p) = _ := r
  have hq : runT S L a b (pa ++ xs.map ab) (c - (pa.length : Int)) ((pa ++ xs.map ab).length - (L.toNat - 1)) (L.toNat - 1) ((o, f, p), []) = runT S L a b (pa ++ xs.map ab) (c - (pa.length : Int)) xs.length pa.length ((o, f, p), []) := by
    by_cases e : pa.length = L.toNat - 1
    · rw [zl, ← e]
      congr 1
      omega
    · have hc0 := w2 (by omega)
      have ho : o < 0 := by rcases w3 with w3 | w3 <;> omega
      by_cases cc : pa.length + xs.length ≤ L.toNat - 1
      · rw [runT_quiet xs.length pa.length _ ho (by omega), zl, show pa.length + xs.length - (L.toNat - 1) = 0 by omega]
        rfl
      · obtain ⟨m, hm⟩ : ∃ m, xs.length = (L.toNat - 1 - pa.length) + m := ⟨xs.length - (L.toNat - 1 - pa.length), by omega⟩
        have e7 : runT S L a b (pa ++ xs.map ab) (c - (pa.length : Int)) xs.length pa.length ((o, f, p), []) = runT S L a b (pa ++ xs.map ab) (c - (pa.length : Int)) ((L.toNat - 1 - pa.length) + m) pa.length ((o, f, p), []) := by rw [← hm]
        rw [e7, runT_add, runT_quiet (L.toNat - 1 - pa.length) pa.length _ ho (by omega), zl, show pa.length + xs.length - (L.toNat - 1) = m by omega, show pa.length + (L.toNat - 1 - pa.length) = L.toNat - 1 by omega]
  rw [hq] at r
  have hp : (pa ++ xs.map ab).drop ((pa ++ xs.map ab).length - (L.toNat - 1)) = pst (pa ++ xs.map ab) L.toNat (pa ++ xs.map ab).length := by
    unfold pst
    rw [List.take_length]
  have e6 : i64 (((pa ++ xs.map ab).length : Int) - (if L - 1 < ((pa ++ xs.map ab).length : Int) then L - 1 else ((pa ++ xs.map ab).length : Int))) = (((pa ++ xs.map ab).length - (L.toNat - 1) : Nat) : Int) := by
    rw [i64_id (by split <;> omega)]
    split <;> omega
  have b3 : (0 : Int) ≤ (((pa ++ xs.map ab).length - (L.toNat - 1) : Nat) : Int) ∧ (((pa ++ xs.map ab).length - (L.toNat - 1) : Nat) : Int) ≤ ((pa ++ xs.map ab).length : Int) := by omega
  have b4 : (pst (pa ++ xs.map ab) L.toNat (pa ++ xs.map ab).length).length * 8 ≤ maxBytes := by
    rw [pst_len (Nat.le_refl _)]; unfold maxBytes; omega
  simp only [F30_d, FSpec.d, F30_s, rvw_any S L a b (pa := pa) (by omega), w, Bool.not_true, rowsI_len, c1, e1, c2, rng_any xs (by omega), hx, b1, if_true, absl_ok xs (by omega) hs, b2, rowsI_app, e3, e4, e5, F30_d20, r, e6, Int.toNat_natCast, rowsI_drop, hp]
  rw [if_pos b3, if_pos b4]
  rfl
theorem push_any (S L a b : Int) {pa : List Int} (c o f p : Int) {xs : List Int} (hl : pa.length + xs.length ≤ 590) : F20_d 600 (S, L, a, b, rowsI pa, c, o, f, p, rowsI xs) = some (outW (pushV S L a b pa c o f p xs)) := by
  have c1 : decide ((xs.length : Int) > 65536) = false := by rw [decide_eq_false_iff_not]; omega
  unfold pushV
  cases w : wB S L a b pa c o f p with
  | true =>
    rw [if_pos rfl]
    have w1 := (WOk.of w).c1
    have e1 : i64 (c + (xs.length : Int)) = c + (xs.length : Int) := i64_id (by omega)
    by_cases hc : c + (xs.length : Int) > 16777216
    · rw [if_pos hc]
      simp only [F20_d, FSpec.d, F20_s, vw_any S L a b (pa := pa) (by omega), w, Bool.not_true, rowsI_len, c1, e1, decide_eq_true hc]
      rfl
    · rw [if_neg hc]
      cases hx : xs.all smpB with
      | true => rw [if_pos rfl, push_good w hx hl hc]
      | false =>
        rw [if_neg Bool.false_ne_true]
        simp only [F20_d, FSpec.d, F20_s, vw_any S L a b (pa := pa) (by omega), w, Bool.not_true, rowsI_len, c1, e1, decide_eq_false hc, cont_any xs (by omega), hx, Bool.not_false]
        rfl
  | false =>
    rw [if_neg Bool.false_ne_true]
    simp only [F20_d, FSpec.d, F20_s, vw_any S L a b (pa := pa) (by omega), w, Bool.not_false]
    rfl
theorem rpush_any (S L a b : Int) {pa : List Int} (c o f p : Int) {xs : List Int} (hl : pa.length + xs.length ≤ 590) : F30_d 600 (S, L, a, b, rowsI pa, c, o, f, p, rowsI xs) = some (outW (pushV S L a b pa c o f p xs)) := by
  have c1 : decide ((xs.length : Int) > 65536) = false := by rw [decide_eq_false_iff_not]; omega
  unfold pushV
  cases w : wB S L a b pa c o f p with
  | true =>
    rw [if_pos rfl]
    have w1 := (WOk.of w).c1
    have e1 : i64 (c + (xs.length : Int)) = c + (xs.length : Int) := i64_id (by omega)
    by_cases hc : c + (xs.length : Int) > 16777216
    · rw [if_pos hc]
      simp only [F30_d, FSpec.d, F30_s, rvw_any S L a b (pa := pa) (by omega), w, Bool.not_true, rowsI_len, c1, e1, decide_eq_true hc]
      rfl
    · rw [if_neg hc]
      cases hx : xs.all smpB with
      | true => rw [if_pos rfl, rpush_good w hx hl hc]
      | false =>
        rw [if_neg Bool.false_ne_true]
        simp only [F30_d, FSpec.d, F30_s, rvw_any S L a b (pa := pa) (by omega), w, Bool.not_true, rowsI_len, c1, e1, decide_eq_false hc, rng_any xs (by omega), hx, Bool.not_false]
        rfl
  | false =>
    rw [if_neg Bool.false_ne_true]
    simp only [F30_d, FSpec.d, F30_s, rvw_any S L a b (pa := pa) (by omega), w, Bool.not_false]
    rfl
/-- Bounds of a push's lists. -/
theorem pushV_len (S L a b : Int) {pa : List Int} (c o f p : Int) {xs : List Int} : (pushV S L a b pa c o f p xs).2.2.2.2.1.length ≤ pa.length + xs.length ∧ (pushV S L a b pa c o f p xs).2.2.2.2.2.2.2.2.2.1.length ≤ xs.length := by
  unfold pushV
  split
  · split
    · simp [noW]
    · split
      · have h1 : (pst (pa ++ xs.map ab) L.toNat (pa ++ xs.map ab).length).length ≤ pa.length + xs.length := by
          unfold pst
          rw [List.length_drop, List.length_take, List.length_append, List.length_map]
          omega
        have h2 := runT_len S L a b (pa ++ xs.map ab) (c - (pa.length : Int)) xs.length pa.length ((o, f, p), [])
        simp only [List.length_nil, Nat.zero_add] at h2
        exact ⟨h1, h2⟩
      · simp [noW]
  · simp [noW]
end Go.Proofs.Ytaiadjadgpgnmaa
