/- DetectorExact, the plain law: the loops. (written by gen_dtxe.py) -/
import Derived.Test.YtaiadjadgpgnmaaDtXD
namespace Go.Proofs.Ytaiadjadgpgnmaa
open Go.RowKit
set_option linter.unusedVariables false
set_option linter.unusedSimpArgs false
set_option linter.unnecessarySimpa false
/-- Three lists of ints. -/
def Tab3 (T : List (List AV)) : Prop := ∀ k : Nat, k < 3 → ∃ v l, T[k]? = some [v] ∧ lstOf 1 v = some (rowsI l) ∧ l.length ≤ 150
theorem Tab3.mk {a b c : AV} {la lb lc : List Int} (h1 : lstOf 1 a = some (rowsI la) ∧ la.length ≤ 150) (h2 : lstOf 1 b = some (rowsI lb) ∧ lb.length ≤ 150) (h3 : lstOf 1 c = some (rowsI lc) ∧ lc.length ≤ 150) : Tab3 [[a], [b], [c]] := fun k hk => by
  have : k = 0 ∨ k = 1 ∨ k = 2 := by omega
  rcases this with rfl | rfl | rfl
  · exact ⟨a, la, rfl, h1⟩
  · exact ⟨b, lb, rfl, h2⟩
  · exact ⟨c, lc, rfl, h3⟩
def TabW (T : List (List AV)) : Prop := ∀ k : Nat, k < 3 → ∃ S L a b v c o f p, ∃ pa : List Int, T[k]? = some [I S, I L, I a, I b, v, I c, I o, I f, I p] ∧ lstOf 1 v = some (rowsI pa) ∧ pa.length ≤ 300
def TabD (T : List (List AV)) : Prop := ∀ k : Nat, k < 3 → ∃ S L a b, T[k]? = some [I S, I L, I a, I b]
theorem nat3 (i : Nat) : decide ((i : Int) < 3) = decide (i < 3) := by
  by_cases h : i < 3
  · rw [decide_eq_true h, decide_eq_true_iff]; omega
  · rw [decide_eq_false h, decide_eq_false_iff_not]; omega
theorem l89_loop {x1 x2 x3 : List (List AV)} {x5 x6 : Int} {T : List (List AV)} (hT : Tab3 T) {S L a b : Int} {pa : List Int} {c o f p : Int} (hl : pa.length ≤ 300) : ∀ (m i fu : Nat), m < fu → i + m = 3 →
    (F7_l89 600).L fu (x1, x2, x3, T, x5, x6, 3, (i : Int), S, L, a, b, rowsI pa, c, o, f, p) = some (.inr (x1, x2, x3, x5, x6, S, L, a, b, rowsI pa, c, o, f, p))
  | 0, i, fu, hf, hi => by
    obtain ⟨g, rfl⟩ : ∃ f', fu = f' + 1 := ⟨fu - 1, by omega⟩
    show (F7_l89 600).b _ _ ((F7_l89 600).L g) some = _
    have c1 : decide ((i : Int) < 3) = false := by rw [decide_eq_false_iff_not]; omega
    simp only [F7_l89, c1]
  | m + 1, i, fu, hf, hi => by
    obtain ⟨g, rfl⟩ : ∃ f', fu = f' + 1 := ⟨fu - 1, by omega⟩
    have c1 : decide ((i : Int) < 3) = true := by rw [decide_eq_true_iff]; omega
    have c2 : (0 : Int) ≤ (i : Int) := by omega
    have e2 : i64 ((i : Int) + 1) = ((i + 1 : Nat) : Int) := by rw [i64_id (by omega)]; omega
    obtain ⟨v, l, t1, t2, t3⟩ := hT i (by omega)
    have r := l89_loop (x1 := x1) (x2 := x2) (x3 := x3) (x5 := x5) (x6 := x6) hT (S := S) (L := L) (a := a) (b := b) (c := c) (o := o) (f := f) (p := p) hl m (i + 1) g (by omega) (by omega)
    show (F7_l89 600).b _ _ ((F7_l89 600).L g) some = _
    obtain ⟨Lf, hLf⟩ : ∃ Lf, Lf = (F7_l89 600).L g := ⟨_, rfl⟩
    rw [← hLf] at r ⊢
    have p1 := push_any S L a b (pa := pa) c o f p (xs := l) (by omega)
    have p2 := rpush_any S L a b (pa := pa) c o f p (xs := l) (by omega)
    have bl := pushV_len S L a b (pa := pa) c o f p (xs := l)
    obtain ⟨⟨S1, L1, a1, b1, pa1, c1', o1, f1, q1, E1, er⟩, hw⟩ : ∃ w, w = pushV S L a b pa c o f p l := ⟨_, rfl⟩
    rw [← hw] at p1 p2 bl
    simp only [outW] at p1 p2
    have s1 := same_ok E1 (by have := bl.2; simp only at this; omega)
    have s2 := samew_ok S1 L1 a1 b1 pa1 (by have := bl.1; simp only at this; omega) c1' o1 f1 q1
    simp only [F7_l89, c1, c2, if_true, Int.toNat_natCast, t1, List.getElem?_cons_zero, t2, p1, p2, bne_self_eq_false, s1, Bool.not_true, s2, vw_any S L a b (pa := pa) (by omega), rvw_any S L a b (pa := pa) (by omega), beq_self_eq_true, e2]
    exact r
theorem l79_loop {za zb : List Int} (h1 : za.length ≤ 150) (h2 : zb.length ≤ 150) {T : List (List AV)} (hT : TabW T) : ∀ (m i fu : Nat), m < fu → i + m = 3 →
    (F7_l79 600).L fu (rowsI za, rowsI zb, T, 3, (i : Int)) = some (.inr ())
  | 0, i, fu, hf, hi => by
    obtain ⟨g, rfl⟩ : ∃ f', fu = f' + 1 := ⟨fu - 1, by omega⟩
    show (F7_l79 600).b _ _ ((F7_l79 600).L g) some = _
    have c1 : decide ((i : Int) < 3) = false := by rw [decide_eq_false_iff_not]; omega
    simp only [F7_l79, c1]
  | m + 1, i, fu, hf, hi => by
    obtain ⟨g, rfl⟩ : ∃ f', fu = f' + 1 := ⟨fu - 1, by omega⟩
    have c1 : decide ((i : Int) < 3) = true := by rw [decide_eq_true_iff]; omega
    have c2 : (0 : Int) ≤ (i : Int) := by omega
    have e2 : i64 ((i : Int) + 1) = ((i + 1 : Nat) : Int) := by rw [i64_id (by omega)]; omega
    obtain ⟨S, L, a, b, v, c, o, f, p, pa, t1, t2, t3⟩ := hT i (by omega)
    have r := l79_loop h1 h2 hT m (i + 1) g (by omega) (by omega)
    have hTab : Tab3 [[AV.list 1 (rowsI zb) none], [AV.list 1 (rowsI za) none], [AV.v (.slice none 0 0)]] := Tab3.mk ⟨rfl, h2⟩ ⟨rfl, h1⟩ (lc := []) ⟨rfl, by simp⟩
    have r9 := l89_loop (x1 := rowsI za) (x2 := rowsI zb) (x3 := T) (x5 := 3) (x6 := (i : Int)) hTab (S := S) (L := L) (a := a) (b := b) (c := c) (o := o) (f := f) (p := p) t3 3 0 600 (by omega) (by omega)
    replace r9 : F7_d89 600 (rowsI za, rowsI zb, T, [[AV.list 1 (rowsI zb) none], [AV.list 1 (rowsI za) none], [AV.v (.slice none 0 0)]], 3, (i : Int), (([[AV.list 1 (rowsI zb) none], [AV.list 1 (rowsI za) none], [AV.v (.slice none 0 0)]].length : Nat) : Int), 0, S, L, a, b, rowsI pa, c, o, f, p) = _ := r9
    obtain ⟨E, er, f0, f1, f2⟩ := fin_any S L a b (pa := pa) (by omega) c o f p
    have s1 := same_ok E (by omega)
    show (F7_l79 600).b _ _ ((F7_l79 600).L g) some = _
    obtain ⟨Lf, hLf⟩ : ∃ Lf, Lf = (F7_l79 600).L g := ⟨_, rfl⟩
    rw [← hLf] at r ⊢
    simp only [F7_l79, c1, c2, if_true, Int.toNat_natCast, t1, List.getElem?_cons_zero, List.getElem?_cons_succ, t2, r9, f1, f2, bne_self_eq_false, s1, Bool.not_true, e2]
    exact r
theorem l47_loop {x1 x2 x4 x5 x18 x31 : List (List AV)} {x7 x8 x9 x10 x11 x14 x15 x16 x17 x19 x20 x21 x22 x23 x24 x25 x26 x32 : Int} {l : List Int} (hl : l.length ≤ 150) {u v S L a b : Int} : ∀ (m i fu : Nat), m < fu → i + m = 2 →
    (F7_l47 600).L fu (x1, x2, rowsI l, x4, x5, [[I u], [I v]], x7, x8, x9, x10, x11, 2, (i : Int), x14, x15, x16, x17, x18, x19, x20, x21, x22, x23, x24, x25, x26, S, L, a, b, x31, x32) = some (.inr (x1, x2, x4, x5, x7, x8, x9, x10, x11, x14, x15, x16, x17, x18, x19, x20, x21, x22, x23, x24, x25, x26, S, L, a, b, x31, x32))
  | 0, i, fu, hf, hi => by
    obtain ⟨g, rfl⟩ : ∃ f', fu = f' + 1 := ⟨fu - 1, by omega⟩
    show (F7_l47 600).b _ _ ((F7_l47 600).L g) some = _
    have c1 : decide ((i : Int) < 2) = false := by rw [decide_eq_false_iff_not]; omega
    simp only [F7_l47, c1]
  | m + 1, i, fu, hf, hi => by
    obtain ⟨g, rfl⟩ : ∃ f', fu = f' + 1 := ⟨fu - 1, by omega⟩
    have c1 : decide ((i : Int) < 2) = true := by rw [decide_eq_true_iff]; omega
    have c2 : (0 : Int) ≤ (i : Int) := by omega
    have e2 : i64 ((i : Int) + 1) = ((i + 1 : Nat) : Int) := by rw [i64_id (by omega)]; omega
    have ht : ∃ k : Int, ([[I u], [I v]] : List (List AV))[i]? = some [I k] := by
      have : i = 0 ∨ i = 1 := by omega
      rcases this with rfl | rfl
      · exact ⟨u, rfl⟩
      · exact ⟨v, rfl⟩
    obtain ⟨k, t1⟩ := ht
    have r := l47_loop (x1 := x1) (x2 := x2) (x4 := x4) (x5 := x5) (x7 := x7) (x8 := x8) (x9 := x9) (x10 := x10) (x11 := x11) (x14 := x14) (x15 := x15) (x16 := x16) (x17 := x17) (x18 := x18) (x19 := x19) (x20 := x20) (x21 := x21) (x22 := x22) (x23 := x23) (x24 := x24) (x25 := x25) (x26 := x26) (x31 := x31) (x32 := x32) hl (u := u) (v := v) (S := S) (L := L) (a := a) (b := b) m (i + 1) g (by omega) (by omega)
    show (F7_l47 600).b _ _ ((F7_l47 600).L g) some = _
    obtain ⟨Lf, hLf⟩ : ∃ Lf, Lf = (F7_l47 600).L g := ⟨_, rfl⟩
    rw [← hLf] at r ⊢
    simp only [F7_l47, c1, c2, if_true, Int.toNat_natCast, t1, List.getElem?_cons_zero, rat_any S L a b (xs := l) (by omega), rrat_any S L a b (xs := l) (by omega), bne_self_eq_false, e2]
    exact r
theorem l32_loop {x1 x2 x3 x14 : List (List AV)} {x5 x6 x7 x10 x11 x12 x13 x15 x16 x17 x18 x19 x20 x21 x22 : Int} {T : List (List AV)} (hT : Tab3 T) {S L a b : Int} {xs : List Int} : ∀ (m i fu : Nat) (p : Int), m < fu → i + m = 3 → Dice xs p →
    ∃ p', Dice xs p' ∧ (F7_l32 600).L fu (x1, x2, x3, T, x5, x6, x7, 3, (i : Int), x10, x11, x12, x13, x14, x15, x16, x17, x18, x19, x20, x21, x22, S, L, a, b, rowsI xs, p) = some (.inr (x1, x2, x3, x5, x6, x7, x10, x11, x12, x13, x14, x15, x16, x17, x18, x19, x20, x21, x22, S, L, a, b, rowsI xs, p'))
  | 0, i, fu, p, hf, hi, D => by
    obtain ⟨g, rfl⟩ : ∃ f', fu = f' + 1 := ⟨fu - 1, by omega⟩
    refine ⟨p, D, ?_⟩
    show (F7_l32 600).b _ _ ((F7_l32 600).L g) some = _
    have c1 : decide ((i : Int) < 3) = false := by rw [decide_eq_false_iff_not]; omega
    simp only [F7_l32, c1]
  | m + 1, i, fu, p, hf, hi, D => by
    obtain ⟨g, rfl⟩ : ∃ f', fu = f' + 1 := ⟨fu - 1, by omega⟩
    have c1 : decide ((i : Int) < 3) = true := by rw [decide_eq_true_iff]; omega
    have c2 : (0 : Int) ≤ (i : Int) := by omega
    have e2 : i64 ((i : Int) + 1) = ((i + 1 : Nat) : Int) := by rw [i64_id (by omega)]; omega
    obtain ⟨v, l, t1, t2, t3⟩ := hT i (by omega)
    obtain ⟨n, p1, n1, n2, D1⟩ := next_ok 600 (n := 60) (by omega) D
    obtain ⟨p', D', r⟩ := l32_loop (x1 := x1) (x2 := x2) (x3 := x3) (x5 := x5) (x6 := x6) (x7 := x7) (x10 := x10) (x11 := x11) (x12 := x12) (x13 := x13) (x14 := x14) (x15 := x15) (x16 := x16) (x17 := x17) (x18 := x18) (x19 := x19) (x20 := x20) (x21 := x21) (x22 := x22) hT (S := S) (L := L) (a := a) (b := b) m (i + 1) g p1 (by omega) (by omega) D1
    refine ⟨p', D', ?_⟩
    have r4 := l47_loop (x1 := x1) (x2 := x2) (x4 := x3) (x5 := T) (x7 := x5) (x8 := x6) (x9 := x7) (x10 := 3) (x11 := (i : Int)) (x14 := x10) (x15 := x11) (x16 := x12) (x17 := x13) (x18 := x14) (x19 := x15) (x20 := x16) (x21 := x17) (x22 := x18) (x23 := x19) (x24 := x20) (x25 := x21) (x26 := x22) (x31 := rowsI xs) (x32 := p1) (l := l) t3 (u := x5) (v := i64 (n - 1)) (S := S) (L := L) (a := a) (b := b) 2 0 600 (by omega) (by omega)
    replace r4 : F7_d47 600 (x1, x2, rowsI l, x3, T, [[I x5], [I (i64 (n - 1))]], x5, x6, x7, 3, (i : Int), (([[I x5], [I (i64 (n - 1))]].length : Nat) : Int), 0, x10, x11, x12, x13, x14, x15, x16, x17, x18, x19, x20, x21, x22, S, L, a, b, rowsI xs, p1) = _ := r4
    have s1 := same_ok (runV S L a b l).1 (by
      unfold runV
      have := outs_len S L a b (l.map ab)
      rw [List.length_map] at this
      split
      · split
        · simp only; omega
        · simp
      · simp)
    show (F7_l32 600).b _ _ ((F7_l32 600).L g) some = _
    obtain ⟨Lf, hLf⟩ : ∃ Lf, Lf = (F7_l32 600).L g := ⟨_, rfl⟩
    rw [← hLf] at r ⊢
    simp only [F7_l32, c1, c2, if_true, Int.toNat_natCast, t1, List.getElem?_cons_zero, t2, run_any S L a b (xs := l) (by omega), rrun_any S L a b (xs := l) (by omega), bne_self_eq_false, s1, Bool.not_true, valid_any, rvalid_any, beq_self_eq_true, n1, r4, e2]
    exact r
theorem l22_loop {x11 : List (List AV)} {x4 x7 x8 x9 x10 x12 x13 x14 x15 x16 x17 x18 x19 : Int} {za zb : List Int} (h1 : za.length ≤ 149) (h2 : zb.length ≤ 149) {T : List (List AV)} (hT : TabD T) {xs : List Int} : ∀ (m i fu : Nat) (p : Int), m < fu → i + m = 3 → Dice xs p →
    ∃ p', Dice xs p' ∧ (F7_l22 600).L fu (rowsI za, rowsI zb, T, x4, 3, (i : Int), x7, x8, x9, x10, x11, x12, x13, x14, x15, x16, x17, x18, x19, rowsI xs, p) = some (.inr (rowsI za, rowsI zb, x7, x8, x9, x10, x11, x12, x13, x14, x15, x16, x17, x18, x19, rowsI xs, p'))
  | 0, i, fu, p, hf, hi, D => by
    obtain ⟨g, rfl⟩ : ∃ f', fu = f' + 1 := ⟨fu - 1, by omega⟩
    refine ⟨p, D, ?_⟩
    show (F7_l22 600).b _ _ ((F7_l22 600).L g) some = _
    have c1 : decide ((i : Int) < 3) = false := by rw [decide_eq_false_iff_not]; omega
    simp only [F7_l22, c1]
  | m + 1, i, fu, p, hf, hi, D => by
    obtain ⟨g, rfl⟩ : ∃ f', fu = f' + 1 := ⟨fu - 1, by omega⟩
    have c1 : decide ((i : Int) < 3) = true := by rw [decide_eq_true_iff]; omega
    have c2 : (0 : Int) ≤ (i : Int) := by omega
    have e2 : i64 ((i : Int) + 1) = ((i + 1 : Nat) : Int) := by rw [i64_id (by omega)]; omega
    obtain ⟨S, L, a, b, t1⟩ := hT i (by omega)
    obtain ⟨w, p1, n1, n2, D1⟩ := pick_ok 600 [1073741823, 1073741824, -1073741823] (by simp) D
    replace n1 : F23_d 600 ([[AV.v (.int .i64 1073741823)], [AV.v (.int .i64 1073741824)], [AV.v (.int .i64 (-1073741823))]], rowsI xs, p) = some (w, rowsI xs, p1) := n1
    have b1 : zb.length * 8 ≤ maxBytes := by unfold maxBytes; omega
    have b2 : (zb.length + [[(AV.v (.int .i64 w))]].length) * 8 ≤ maxBytes := by unfold maxBytes; simp; omega
    have hTab : Tab3 [[AV.list 1 (rowsI zb) none], [AV.list 1 (rowsI za) none], [AV.list 1 (rowsI (zb ++ [w])) none]] := Tab3.mk ⟨rfl, by omega⟩ ⟨rfl, by omega⟩ ⟨rfl, by simp; omega⟩
    obtain ⟨p2, D2, r3⟩ := l32_loop (x1 := rowsI za) (x2 := rowsI zb) (x3 := T) (x5 := x4) (x6 := 3) (x7 := (i : Int)) (x10 := x7) (x11 := x8) (x12 := x9) (x13 := x10) (x14 := x11) (x15 := x12) (x16 := x13) (x17 := x14) (x18 := x15) (x19 := x16) (x20 := x17) (x21 := x18) (x22 := x19) hTab (S := S) (L := L) (a := a) (b := b) 3 0 600 p1 (by omega) (by omega) D1
    replace r3 : F7_d32 600 (rowsI za, rowsI zb, T, [[AV.list 1 (rowsI zb) none], [AV.list 1 (rowsI za) none], [AV.list 1 (rowsI (zb ++ [w])) none]], x4, 3, (i : Int), (([[AV.list 1 (rowsI zb) none], [AV.list 1 (rowsI za) none], [AV.list 1 (rowsI (zb ++ [w])) none]].length : Nat) : Int), 0, x7, x8, x9, x10, x11, x12, x13, x14, x15, x16, x17, x18, x19, S, L, a, b, rowsI xs, p1) = _ := r3
    obtain ⟨p', D', r⟩ := l22_loop (x4 := x4) (x7 := x7) (x8 := x8) (x9 := x9) (x10 := x10) (x11 := x11) (x12 := x12) (x13 := x13) (x14 := x14) (x15 := x15) (x16 := x16) (x17 := x17) (x18 := x18) (x19 := x19) h1 h2 hT m (i + 1) g p2 (by omega) (by omega) D2
    refine ⟨p', D', ?_⟩
    have st1 := start_any S L a b
    have st2 := rstart_any S L a b
    show (F7_l22 600).b _ _ ((F7_l22 600).L g) some = _
    obtain ⟨Lf, hLf⟩ : ∃ Lf, Lf = (F7_l22 600).L g := ⟨_, rfl⟩
    rw [← hLf] at r ⊢
    by_cases h : DtOk S L a b
    · rw [if_pos h] at st1 st2
      have sw := samew_ok S L a b [] (by simp) 0 (-1) 0 0
      replace sw : F29_d 600 (S, L, a, b, ([] : List (List AV)), 0, -1, 0, 0, S, L, a, b, ([] : List (List AV)), 0, -1, 0, 0) = some true := sw
      simp only [F7_l22, c1, c2, if_true, Int.toNat_natCast, t1, List.getElem?_cons_zero, List.getElem?_cons_succ, rowsI_len, b1, n1, b2, rowsI_snoc, r3, st1, st2, bne_self_eq_false, sw, Bool.not_true, e2]
      first | exact r | exact (if_pos trivial).trans r
    · rw [if_neg h] at st1 st2
      have sw := samew_ok 0 0 0 0 [] (by simp) 0 0 0 0
      replace sw : F29_d 600 (0, 0, 0, 0, ([] : List (List AV)), 0, 0, 0, 0, 0, 0, 0, 0, ([] : List (List AV)), 0, 0, 0, 0) = some true := sw
      simp only [F7_l22, c1, c2, if_true, Int.toNat_natCast, t1, List.getElem?_cons_zero, List.getElem?_cons_succ, rowsI_len, b1, n1, b2, rowsI_snoc, r3, st1, st2, bne_self_eq_false, sw, Bool.not_true, e2]
      first | exact r | exact (if_pos trivial).trans r
end Go.Proofs.Ytaiadjadgpgnmaa
