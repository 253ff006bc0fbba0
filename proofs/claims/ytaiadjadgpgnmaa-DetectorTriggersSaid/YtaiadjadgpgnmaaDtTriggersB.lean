/- DetectorTriggers: the law's second loop, and its call. -/
import Derived.Test.YtaiadjadgpgnmaaDtTriggers
namespace Go.Proofs.Ytaiadjadgpgnmaa
open Go.RowKit
set_option linter.unusedVariables false
set_option linter.unusedSimpArgs false
set_option linter.unnecessarySimpa false
theorem peak_loop {w : List Int} (hs : Small w) (hl : w.length ≤ 60) {R R2 : List (List AV)} {o k idx len c11 : Int} {op : Bool} {on off pk : Int} {lo hi : Nat} (hh : hi ≤ w.length) : ∀ (m j fu : Nat), m < fu → lo + j + m = hi →
    (F5_l59 600).L fu (rowsI w, R, R2, op, k, idx, (hi : Int), pkm (w.map ab) lo j, ((lo + j : Nat) : Int), len, c11, on, off, pk) = some (rowsI w, R, R2, op, k, idx, (hi : Int), pkm (w.map ab) lo (j + m), len, c11, on, off, pk)
  | 0, j, fu, hf, hj => by
    obtain ⟨f, rfl⟩ : ∃ f', fu = f' + 1 := ⟨fu - 1, by omega⟩
    show (F5_l59 600).b _ _ ((F5_l59 600).L f) some = _
    have c : decide (((lo + j : Nat) : Int) < (hi : Int)) = false := by rw [decide_eq_false_iff_not]; omega
    simp only [F5_l59, c, Nat.add_zero]
  | m + 1, j, fu, hf, hj => by
    obtain ⟨f, rfl⟩ : ∃ f', fu = f' + 1 := ⟨fu - 1, by omega⟩
    have hlt : lo + j < w.length := by omega
    have hx := hs _ (List.getElem_mem hlt)
    have c1 : decide (((lo + j : Nat) : Int) < (hi : Int)) = true := by rw [decide_eq_true_iff]; omega
    have c2 : (0 : Int) ≤ ((lo + j : Nat) : Int) := by omega
    have c4 : i64 (((lo + j : Nat) : Int) + 1) = ((lo + (j + 1) : Nat) : Int) := by rw [i64_id (by omega)]; omega
    have e0 : i64 (0 - w[lo + j]) = -w[lo + j] := by rw [i64_id (by omega)]; omega
    have eab : (if -w[lo + j] > w[lo + j] then -w[lo + j] else w[lo + j]) = ab w[lo + j] := rfl
    have g : (w.map ab).getD (lo + j) 0 = ab w[lo + j] := by
      rw [List.getD_eq_getElem?_getD, List.getElem?_map, List.getElem?_eq_getElem hlt]; rfl
    have ep : (if ab w[lo + j] > pkm (w.map ab) lo j then ab w[lo + j] else pkm (w.map ab) lo j) = pkm (w.map ab) lo (j + 1) := by
      simp only [pkm, g]
    have r := peak_loop hs hl (R := R) (R2 := R2) (o := o) (k := k) (idx := idx) (len := len) (c11 := c11) (op := op) (on := on) (off := off) (pk := pk) (lo := lo) hh m (j + 1) f (by omega) (by omega)
    rw [show j + 1 + m = j + (m + 1) by omega] at r
    show (F5_l59 600).b _ _ ((F5_l59 600).L f) some = _
    obtain ⟨Lf, hL⟩ : ∃ Lf, Lf = (F5_l59 600).L f := ⟨_, rfl⟩
    rw [← hL] at r ⊢
    simp only [F5_l59, c1, c2, if_true, Int.toNat_natCast, rowsI_get w _ hlt, List.getElem?_cons_zero, e0, eab, ep, c4]
    exact r
theorem chk_loop {w : List Int} (hs : Small w) (hl : w.length ≤ 60) {A : List Trg} (hA : Trgs (w.map ab) A) (ha : A.length ≤ 100) {op : Bool} {k : Int} : ∀ (m i fu : Nat), m < fu → i + m = A.length →
    (F5_l44 600).L fu (rowsI w, rowsT A, rowsT A, op, k, (A.length : Int), (i : Int)) = some (.inr (rowsT A, op, k))
  | 0, i, fu, hf, hi => by
    obtain ⟨f, rfl⟩ : ∃ f', fu = f' + 1 := ⟨fu - 1, by omega⟩
    show (F5_l44 600).b _ _ ((F5_l44 600).L f) some = _
    have c : decide ((i : Int) < (A.length : Int)) = false := by rw [decide_eq_false_iff_not]; omega
    simp only [F5_l44, c]
  | m + 1, i, fu, hf, hi => by
    obtain ⟨f, rfl⟩ : ∃ f', fu = f' + 1 := ⟨fu - 1, by omega⟩
    have hlt : i < A.length := by omega
    have c1 : decide ((i : Int) < (A.length : Int)) = true := by rw [decide_eq_true_iff]; omega
    have c2 : (0 : Int) ≤ (i : Int) := by omega
    have c4 : i64 ((i : Int) + 1) = ((i + 1 : Nat) : Int) := by rw [i64_id (by omega)]; omega
    have c5 : i64 ((i : Int) - 1) = (i : Int) - 1 := i64_id (by omega)
    have r := chk_loop hs hl hA ha (op := op) (k := k) m (i + 1) f (by omega) (by omega)
    obtain ⟨lo, hi', h1, h2, h3, h4, h5⟩ := hA.each _ (List.getElem_mem hlt)
    rw [List.length_map] at h2 h4
    have last := hA.last i hlt
    have asc := List.pairwise_iff_getElem.1 hA.asc
    have g1 := rowsT_get A i hlt
    have pl := peak_loop hs hl (R := rowsT A) (R2 := rowsT A) (o := 0) (k := k) (idx := (i : Int)) (len := (A.length : Int)) (c11 := (i : Int)) (op := op) (on := (lo : Int)) (off := A[i].2.1) (pk := A[i].2.2) (lo := lo) (hi := hi') h4 (hi' - lo) 0 600 (by omega) (by omega)
    rw [Nat.zero_add, ← h5] at pl
    replace pl : (F5_l59 600).L 600 (rowsI w, rowsT A, rowsT A, op, k, (i : Int), (hi' : Int), 0, (lo : Int), (A.length : Int), (i : Int), (lo : Int), A[i].2.1, A[i].2.2) = _ := pl
    have on : A[i].1 = (lo : Int) := h1
    have c6 : decide ((lo : Int) ≥ (hi' : Int)) = false := by rw [decide_eq_false_iff_not]; omega
    show (F5_l44 600).b _ _ ((F5_l44 600).L f) some = _
    obtain ⟨Lf, hL⟩ : ∃ Lf, Lf = (F5_l44 600).L f := ⟨_, rfl⟩
    rw [← hL] at r ⊢
    rw [on] at g1
    by_cases i0 : i = 0
    · have c7 : decide ((i : Int) > 0) = false := by rw [decide_eq_false_iff_not]; omega
      by_cases cf : A[i].2.1 < 0
      · have ho : A[i].2.1 = -1 ∧ hi' = w.length := by omega
        have hend := ho.2
        have c8 : decide (((i + 1 : Nat) : Int) < (A.length : Int)) = false := by
          have := last cf
          rw [decide_eq_false_iff_not]; omega
        rw [hend] at pl c6
        simp only [F5_l44, c1, c2, if_true, Int.toNat_natCast, g1, List.getElem?_cons_zero, List.getElem?_cons_succ, cf, decide_true, rowsI_len, rowsT_len, F5_d59, pl, bne_self_eq_false, c6, c7, c4, c8]
        exact r
      · have hend : A[i].2.1 = (hi' : Int) := by omega
        rw [← hend] at pl c6
        simp only [F5_l44, c1, c2, if_true, Int.toNat_natCast, g1, List.getElem?_cons_zero, List.getElem?_cons_succ, cf, decide_false, rowsI_len, rowsT_len, F5_d59, pl, bne_self_eq_false, c6, c7, c4]
        exact r
    · have c7 : decide ((i : Int) > 0) = true := by rw [decide_eq_true_iff]; omega
      have hlt' : i - 1 < A.length := by omega
      have c9 : (0 : Int) ≤ (i : Int) - 1 := by omega
      have t9 : ((i : Int) - 1).toNat = i - 1 := by omega
      have g2 := rowsT_get A (i - 1) hlt'
      have c10 : decide (A[i - 1].2.1 > (lo : Int)) = false := by
        have := asc (i - 1) i hlt' hlt (by omega)
        rw [decide_eq_false_iff_not]; omega
      by_cases cf : A[i].2.1 < 0
      · have ho : A[i].2.1 = -1 ∧ hi' = w.length := by omega
        have hend := ho.2
        have c8 : decide (((i + 1 : Nat) : Int) < (A.length : Int)) = false := by
          have := last cf
          rw [decide_eq_false_iff_not]; omega
        rw [hend] at pl c6
        simp only [F5_l44, c1, c2, if_true, Int.toNat_natCast, g1, List.getElem?_cons_zero, List.getElem?_cons_succ, cf, decide_true, rowsI_len, rowsT_len, F5_d59, pl, bne_self_eq_false, c6, c7, c5, c9, t9, g2, List.drop_succ_cons, List.drop_zero, c10, c4, c8]
        exact r
      · have hend : A[i].2.1 = (hi' : Int) := by omega
        rw [← hend] at pl c6
        simp only [F5_l44, c1, c2, if_true, Int.toNat_natCast, g1, List.getElem?_cons_zero, List.getElem?_cons_succ, cf, decide_false, rowsI_len, rowsT_len, F5_d59, pl, bne_self_eq_false, c6, c7, c5, c9, t9, g2, List.drop_succ_cons, List.drop_zero, c10, c4]
        exact r
theorem run_short {S L a b : Int} {z : List Int} : ∀ (k i : Nat), (i : Int) + k < L → runT S L a b z 0 k i none0 = none0
  | 0, i, h => rfl
  | k + 1, i, h => by
    unfold runT
    have : stp S L a b z 0 i none0 = none0 := by
      unfold stp tr1
      have : ¬ ((0 : Int) + i + 1 ≥ L) := by omega
      simp only [this, if_false]
      rfl
    rw [this]
    exact run_short k (i + 1) (by omega)
theorem triggers_ok (xs : List Int) (hx : ∀ x ∈ xs, -9223372036854775808 ≤ x ∧ x ≤ 9223372036854775807) : F5_d 600 (rowsI xs) = some true := by
  simp only [F5_d, FSpec.d, F5_s, light_ok]
  by_cases hl : (xs.length : Int) ≤ 500
  · have D : Dice xs 0 := ⟨hx, by omega, by omega, by omega⟩
    have hroll : F10_d 600 (rowsI xs) = some (rowsI xs, 0) := rfl
    obtain ⟨S, L, a, b, p1, d1, hd, hd2, D1⟩ := det_ok D
    obtain ⟨w, p2, w1, w2, hs, D2⟩ := wave_ok (n := 50) (by omega) D1
    have hd3 := hd.s1
    have hd4 := hd.sl
    have r1 := run_ok hd (xs := w) hs.smp (by omega)
    have e1 : i64 (L - 1) = ((L.toNat - 1 : Nat) : Int) := by rw [i64_id (by omega)]; omega
    have l2 := outs_len S L a b (w.map ab)
    rw [List.length_map] at l2
    have chk := chk_loop hs (by omega) (outs_trgs S L a b (w.map ab)) (by omega) (op := decide ((runT S L a b (w.map ab) 0 w.length 0 none0).1.1 ≥ 0)) (k := ((runT S L a b (w.map ab) 0 w.length 0 none0).2.length : Int)) _ 0 600 (by omega) (Nat.zero_add _)
    replace chk : (F5_l44 600).L 600 (rowsI w, rowsT (outs S L a b (w.map ab)), rowsT (outs S L a b (w.map ab)), decide ((runT S L a b (w.map ab) 0 w.length 0 none0).1.1 ≥ 0), ((runT S L a b (w.map ab) 0 w.length 0 none0).2.length : Int), ((outs S L a b (w.map ab)).length : Int), 0) = _ := chk
    have lo : (F5_l16 600).L 600 (rowsI w, rowsT (outs S L a b (w.map ab)), false, 0, ((L.toNat - 1 : Nat) : Int), S, L, a, b) = some (.inr (rowsI w, rowsT (outs S L a b (w.map ab)), decide ((runT S L a b (w.map ab) 0 w.length 0 none0).1.1 ≥ 0), ((runT S L a b (w.map ab) 0 w.length 0 none0).2.length : Int))) := by
      by_cases c : L.toNat - 1 ≤ w.length
      · have := trg_loop hd hs (by omega) (w.length - (L.toNat - 1)) (L.toNat - 1) 600 (by omega) (by omega) (by omega)
        rw [run_short (L.toNat - 1) 0 (by omega)] at this
        exact this
      · rw [run_short w.length 0 (by omega)]
        show (F5_l16 600).b _ _ ((F5_l16 600).L 599) some = _
        have c : decide (((L.toNat - 1 : Nat) : Int) < (w.length : Int)) = false := by rw [decide_eq_false_iff_not]; omega
        simp only [F5_l16, rowsI_len, c]
        rfl
    have hlen : (outs S L a b (w.map ab)).length = (runT S L a b (w.map ab) 0 w.length 0 none0).2.length + (if (runT S L a b (w.map ab) 0 w.length 0 none0).1.1 ≥ 0 then 1 else 0) := by
      unfold outs closed
      rw [List.length_map]
      split <;> simp
    have kl := runT_len S L a b (w.map ab) 0 w.length 0 none0
    have hz0 : none0.2.length = 0 := rfl
    rw [hz0] at kl
    simp only [hl, decide_true, Bool.not_true, hroll, d1, w1, r1, bne_self_eq_false, e1, F5_d16, lo, F5_d44, rowsT_len, chk, sane_ok]
    rw [hlen]
    generalize runT S L a b (w.map ab) 0 w.length 0 none0 = q at kl ⊢
    have e2 : i64 ((q.2.length : Int) + 1) = ((q.2.length + 1 : Nat) : Int) := by rw [i64_id (by omega)]; omega
    by_cases c : q.1.1 ≥ 0
    · have c3 : (((q.2.length + 1 : Nat) : Int) == (q.2.length : Int)) = false := by rw [beq_eq_false_iff_ne]; omega
      simp only [c, if_true, decide_true, c3, e2, beq_self_eq_true]
    · simp only [c, if_false, decide_false, Nat.add_zero, beq_self_eq_true, Bool.not_false]
  · simp only [hl, decide_false, Bool.not_false, sane_ok]
theorem detector_triggers (a : Option Addr) (len cap : Nat) (W : World) (hr : IntsIn W (.slice a len cap)) :
    Calls Try.prog 5 #[.slice a len cap] W fun e w' => e = .returned (.bool true) ∧ Below W.heap.size W w' := by
  obtain ⟨xs, h1, h2, h3⟩ := hr
  have ok := (F5_e 600).ok (rowsI xs) true (triggers_ok xs h1)
  refine CallOk.calls (args := [.list 1 (rowsI xs) none]) ok W _ rfl (fun i h h' => ?_)
  have : i = 0 := by simp at h; omega
  subst this
  exact h3 _ _
end Go.Proofs.Ytaiadjadgpgnmaa
