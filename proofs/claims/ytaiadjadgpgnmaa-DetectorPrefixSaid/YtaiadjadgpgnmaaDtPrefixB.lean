/- DetectorPrefix: the law's loops, and its call. -/
import Derived.Test.YtaiadjadgpgnmaaDtPrefix
namespace Go.Proofs.Ytaiadjadgpgnmaa
open Go.RowKit
set_option linter.unusedVariables false
set_option linter.unusedSimpArgs false
set_option linter.unnecessarySimpa false
theorem pre_loop {X : List (List AV)} {A B : List Trg} (h : Pre A B) (hl : A.length ≤ 500) {n S L a b : Int} : ∀ (m i fu : Nat), m < fu → i + m = A.length →
    (F3_l17 600).L fu (X, rowsT A, rowsT B, n, (A.length : Int), (i : Int), S, L, a, b) = some (.inr (X, rowsT B, n, S, L, a, b))
  | 0, i, fu, hf, hi => by
    obtain ⟨f, rfl⟩ : ∃ f', fu = f' + 1 := ⟨fu - 1, by omega⟩
    show (F3_l17 600).b _ _ ((F3_l17 600).L f) some = _
    have c : decide ((i : Int) < (A.length : Int)) = false := by simp; omega
    simp only [F3_l17, c]
  | m + 1, i, fu, hf, hi => by
    obtain ⟨f, rfl⟩ : ∃ f', fu = f' + 1 := ⟨fu - 1, by omega⟩
    have hlt : i < A.length := by omega
    have hlt2 : i < B.length := by have := h.len; omega
    have c1 : decide ((i : Int) < (A.length : Int)) = true := by simp; omega
    have c2 : (0 : Int) ≤ (i : Int) := by omega
    have c4 : i64 ((i : Int) + 1) = ((i + 1 : Nat) : Int) := by rw [i64_id (by omega)]; omega
    have c5 : i64 ((A.length : Int) - 1) = (A.length : Int) - 1 := i64_id (by omega)
    have r := pre_loop (X := X) h hl (n := n) (S := S) (L := L) (a := a) (b := b) m (i + 1) f (by omega) (by omega)
    have g1 := rowsT_get A i hlt
    have g2 := rowsT_get B i hlt2
    have on := h.on i hlt hlt2
    have same := h.same i hlt hlt2
    have last := h.last i hlt hlt2
    generalize A[i] = u at g1 on same last
    generalize B[i] = v at g2 on same last
    show (F3_l17 600).b _ _ ((F3_l17 600).L f) some = _
    obtain ⟨Lf, hL⟩ : ∃ Lf, Lf = (F3_l17 600).L f := ⟨_, rfl⟩
    rw [← hL] at r ⊢
    by_cases c : u.2.1 ≥ 0
    · have e := same c
      subst e
      have c6 : decide (u.2.1 < 0) = false := by simp; omega
      simp only [F3_l17, c1, c2, if_true, Int.toNat_natCast, g1, g2, List.drop_zero, List.drop_succ_cons, List.getElem?_cons_zero, List.getElem?_cons_succ, bne_self_eq_false, c, decide_true, beq_self_eq_true, Bool.and_self, Bool.not_true, c6, c4]
      exact r
    · obtain ⟨e1, e2⟩ := last (by omega)
      have c6 : decide (u.2.1 < 0) = true := by simp; omega
      have c7 : ((i : Int) != (A.length : Int) - 1) = false := by simp; omega
      have c8 : decide (v.2.2 < u.2.2) = false := by simp; omega
      simp only [F3_l17, c1, c2, if_true, Int.toNat_natCast, g1, g2, List.drop_zero, List.drop_succ_cons, List.getElem?_cons_zero, List.getElem?_cons_succ, on, bne_self_eq_false, c, decide_false, c6, rowsT_len, c5, c7, c8, c4]
      exact r
theorem bad_loop {X B D : List (List AV)} {A : List Trg} (hl : A.length ≤ 500) {S L a b T : Int} (hT : i64 (i64 ((D.length : Int) + L) - 1) = T) : ∀ (m i fu : Nat) (o : Bool), m < fu → i + m = A.length →
    (F3_l38 600).L fu (X, B, D, rowsT A, rowsT A, o, (A.length : Int), (i : Int), S, L, a, b) = some (X, B, D, rowsT A, (o || (A.drop i).any (bad T)), S, L, a, b)
  | 0, i, fu, o, hf, hi => by
    obtain ⟨f, rfl⟩ : ∃ f', fu = f' + 1 := ⟨fu - 1, by omega⟩
    show (F3_l38 600).b _ _ ((F3_l38 600).L f) some = _
    have c : decide ((i : Int) < (A.length : Int)) = false := by simp; omega
    simp only [F3_l38, c, List.drop_eq_nil_of_le (show A.length ≤ i by omega), List.any_nil, Bool.or_false]
  | m + 1, i, fu, o, hf, hi => by
    obtain ⟨f, rfl⟩ : ∃ f', fu = f' + 1 := ⟨fu - 1, by omega⟩
    have hlt : i < A.length := by omega
    have c1 : decide ((i : Int) < (A.length : Int)) = true := by simp; omega
    have c2 : (0 : Int) ≤ (i : Int) := by omega
    have c4 : i64 ((i : Int) + 1) = ((i + 1 : Nat) : Int) := by rw [i64_id (by omega)]; omega
    have r := bad_loop (X := X) (B := B) (D := D) hl (S := S) (L := L) (a := a) (b := b) hT m (i + 1) f (o || bad T A[i]) (by omega) (by omega)
    have e : (o || (A.drop i).any (bad T)) = ((o || bad T A[i]) || (A.drop (i + 1)).any (bad T)) := by
      rw [List.drop_eq_getElem_cons hlt, List.any_cons, Bool.or_assoc]
    rw [e]
    have g1 := rowsT_get A i hlt
    generalize A[i] = u at g1 r
    show (F3_l38 600).b _ _ ((F3_l38 600).L f) some = _
    obtain ⟨Lf, hL⟩ : ∃ Lf, Lf = (F3_l38 600).L f := ⟨_, rfl⟩
    rw [← hL] at r ⊢
    unfold bad at r ⊢
    cases o with
    | true =>
      simp only [F3_l38, c1, c2, if_true, Int.toNat_natCast, g1, List.getElem?_cons_zero, List.getElem?_cons_succ, c4]
      exact r
    | false =>
      by_cases d1 : u.1 < T
      · by_cases d2 : u.2.1 < 0
        · simp only [d1, d2, decide_true, Bool.true_and, Bool.true_or, Bool.or_true, Bool.false_or] at r ⊢
          simp only [F3_l38, c1, c2, if_true, Int.toNat_natCast, g1, List.getElem?_cons_zero, List.getElem?_cons_succ, hT, d1, d2, decide_true, c4]
          exact r
        · simp only [d1, d2, decide_true, decide_false, Bool.true_and, Bool.false_or] at r ⊢
          simp only [F3_l38, c1, c2, if_true, Int.toNat_natCast, g1, List.getElem?_cons_zero, List.getElem?_cons_succ, hT, d1, d2, decide_true, decide_false, c4]
          exact r
      · simp only [d1, decide_false, Bool.false_and, Bool.or_false] at r ⊢
        simp only [F3_l38, c1, c2, if_true, Int.toNat_natCast, g1, List.getElem?_cons_zero, List.getElem?_cons_succ, hT, d1, decide_false, c4]
        exact r
theorem late_loop {A : List Trg} (hl : A.length ≤ 500) (hA : ∀ t ∈ A, -1 ≤ t.1 ∧ t.1 ≤ 100000 ∧ -1 ≤ t.2.1 ∧ t.2.1 ≤ 100000) {M : Int} (hM : 0 ≤ M ∧ M ≤ 100000) : ∀ (m i fu : Nat) (acc : List Trg), m < fu → i + m = A.length → acc.length ≤ i →
    (F14_l5 600).L fu (rowsT acc, rowsT A, M, (A.length : Int), (i : Int)) = some (rowsT (acc ++ lateL M (A.drop i)))
  | 0, i, fu, acc, hf, hi, ha => by
    obtain ⟨f, rfl⟩ : ∃ f', fu = f' + 1 := ⟨fu - 1, by omega⟩
    show (F14_l5 600).b _ _ ((F14_l5 600).L f) some = _
    have c : decide ((i : Int) < (A.length : Int)) = false := by simp; omega
    simp only [F14_l5, c, List.drop_eq_nil_of_le (show A.length ≤ i by omega)]
    simp [lateL]
  | m + 1, i, fu, acc, hf, hi, ha => by
    obtain ⟨f, rfl⟩ : ∃ f', fu = f' + 1 := ⟨fu - 1, by omega⟩
    have hlt : i < A.length := by omega
    have c1 : decide ((i : Int) < (A.length : Int)) = true := by simp; omega
    have c2 : (0 : Int) ≤ (i : Int) := by omega
    have c4 : i64 ((i : Int) + 1) = ((i + 1 : Nat) : Int) := by rw [i64_id (by omega)]; omega
    have hu := hA _ (List.getElem_mem hlt)
    have g1 := rowsT_get A i hlt
    have e : lateL M (A.drop i) = (if A[i].1 ≥ M then [sftT M A[i]] else []) ++ lateL M (A.drop (i + 1)) := by
      rw [List.drop_eq_getElem_cons hlt]
      unfold lateL
      rw [List.filter_cons]
      by_cases c : A[i].1 ≥ M <;> simp [c]
    rw [e, ← List.append_assoc]
    have r := late_loop hl hA hM m (i + 1) f (acc ++ (if A[i].1 ≥ M then [sftT M A[i]] else [])) (by omega) (by omega) (by rw [List.length_append]; split <;> simp <;> omega)
    generalize A[i] = u at g1 hu r
    have hb : ∀ q : List AV, ((rowsT acc).length + [q].length) * 24 ≤ maxBytes := fun q => by
      rw [rowsT_len]; unfold maxBytes; simp; omega
    show (F14_l5 600).b _ _ ((F14_l5 600).L f) some = _
    obtain ⟨Lf, hL⟩ : ∃ Lf, Lf = (F14_l5 600).L f := ⟨_, rfl⟩
    rw [← hL] at r ⊢
    have e1 : i64 (u.1 - M) = u.1 - M := i64_id (by omega)
    have e2 : i64 (u.2.1 - M) = u.2.1 - M := i64_id (by omega)
    by_cases d1 : u.1 ≥ M
    · by_cases d2 : u.2.1 ≥ 0
      · simp only [d1, d2, if_true, sftT] at r ⊢
        simp only [F14_l5, c1, c2, if_true, Int.toNat_natCast, g1, List.getElem?_cons_zero, List.getElem?_cons_succ, d1, d2, decide_true, e1, e2, hb, rowsT_snoc, c4]
        exact r
      · simp only [d1, d2, if_true, if_false, sftT] at r ⊢
        simp only [F14_l5, c1, c2, if_true, Int.toNat_natCast, g1, List.getElem?_cons_zero, List.getElem?_cons_succ, d1, d2, decide_true, decide_false, e1, e2, hb, rowsT_snoc, c4]
        exact r
    · simp only [d1, if_false, List.append_nil] at r ⊢
      simp only [F14_l5, c1, c2, if_true, Int.toNat_natCast, g1, List.getElem?_cons_zero, List.getElem?_cons_succ, d1, decide_false, c4]
      exact r
theorem keep_loop {B : List (List AV)} {A : List Trg} (hl : A.length ≤ 500) {S L a b : Int} (hLL : i64 (L - 1) = L - 1) : ∀ (m i fu : Nat) (acc : List Trg), m < fu → i + m = A.length → acc.length ≤ i →
    (F3_l53 600).L fu (rowsT acc, B, rowsT A, (A.length : Int), (i : Int), S, L, a, b) = some (rowsT (acc ++ keepL L (A.drop i)), B)
  | 0, i, fu, acc, hf, hi, ha => by
    obtain ⟨f, rfl⟩ : ∃ f', fu = f' + 1 := ⟨fu - 1, by omega⟩
    show (F3_l53 600).b _ _ ((F3_l53 600).L f) some = _
    have c : decide ((i : Int) < (A.length : Int)) = false := by simp; omega
    simp only [F3_l53, c, List.drop_eq_nil_of_le (show A.length ≤ i by omega)]
    simp [keepL]
  | m + 1, i, fu, acc, hf, hi, ha => by
    obtain ⟨f, rfl⟩ : ∃ f', fu = f' + 1 := ⟨fu - 1, by omega⟩
    have hlt : i < A.length := by omega
    have c1 : decide ((i : Int) < (A.length : Int)) = true := by simp; omega
    have c2 : (0 : Int) ≤ (i : Int) := by omega
    have c4 : i64 ((i : Int) + 1) = ((i + 1 : Nat) : Int) := by rw [i64_id (by omega)]; omega
    have g1 := rowsT_get A i hlt
    have e : keepL L (A.drop i) = (if A[i].1 ≥ L - 1 then [A[i]] else []) ++ keepL L (A.drop (i + 1)) := by
      rw [List.drop_eq_getElem_cons hlt]
      unfold keepL
      rw [List.filter_cons]
      by_cases c : A[i].1 ≥ L - 1 <;> simp [c]
    rw [e, ← List.append_assoc]
    have r := keep_loop (B := B) hl (S := S) (a := a) (b := b) hLL m (i + 1) f (acc ++ (if A[i].1 ≥ L - 1 then [A[i]] else [])) (by omega) (by omega) (by rw [List.length_append]; split <;> simp <;> omega)
    generalize A[i] = u at g1 r
    have hb : ∀ q : List AV, ((rowsT acc).length + [q].length) * 24 ≤ maxBytes := fun q => by
      rw [rowsT_len]; unfold maxBytes; simp; omega
    show (F3_l53 600).b _ _ ((F3_l53 600).L f) some = _
    obtain ⟨Lf, hL⟩ : ∃ Lf, Lf = (F3_l53 600).L f := ⟨_, rfl⟩
    rw [← hL] at r ⊢
    by_cases d1 : u.1 ≥ L - 1
    · simp only [d1, if_true] at r ⊢
      simp only [F3_l53, c1, c2, if_true, Int.toNat_natCast, g1, List.getElem?_cons_zero, List.getElem?_cons_succ, hLL, d1, decide_true, hb, rowsT_snoc, c4]
      exact r
    · simp only [d1, if_false, List.append_nil] at r ⊢
      simp only [F3_l53, c1, c2, if_true, Int.toNat_natCast, g1, List.getElem?_cons_zero, List.getElem?_cons_succ, hLL, d1, decide_false, c4]
      exact r
theorem outs_in {S L a b : Int} (z : List Int) (hz : z.length ≤ 1000) : ∀ t ∈ outs S L a b z, -1 ≤ t.1 ∧ t.1 ≤ 100000 ∧ -1 ≤ t.2.1 ∧ t.2.1 ≤ 100000 := fun t ht => by
  have := Inv.run (S := S) (L := L) (a := a) (b := b) (z := z) (lo := 0) (base := 0) z.length 0 Inv.none0 (by omega)
  unfold outs closed at ht
  split at ht
  · rcases List.mem_append.1 ht with ht | ht
    · have := this.ended t ht; omega
    · simp at ht
      subst ht
      rcases this.opn with e | e
      · rw [e]; simp
      · omega
  · have := this.ended t ht; omega
theorem lateL_len (M : Int) (l : List Trg) : (lateL M l).length ≤ l.length := by
  unfold lateL; rw [List.length_map]; exact List.length_filter_le ..
theorem Small.smp {w : List Int} (h : Small w) : ∀ x ∈ w, Smp x := fun x hx => by
  have := h x hx
  unfold Smp; omega
theorem prefix_ok (xs : List Int) (hx : ∀ x ∈ xs, -9223372036854775808 ≤ x ∧ x ≤ 9223372036854775807) (n : Int) (hn : 0 ≤ n ∧ n ≤ 255) : F3_d 600 (rowsI xs, n) = some true := by
  simp only [F3_d, FSpec.d, F3_s, light_ok]
  by_cases hl : (xs.length : Int) ≤ 500
  · have D : Dice xs 0 := ⟨hx, by omega, by omega, by omega⟩
    have hroll : F10_d 600 (rowsI xs) = some (rowsI xs, 0) := rfl
    obtain ⟨S, L, a, b, p1, d1, hd, hd2, D1⟩ := det_ok D
    obtain ⟨w, p2, w1, w2, hs, D2⟩ := wave_ok (n := 60) (by omega) D1
    have hd3 := hd.s1
    have hd4 := hd.sl
    have hwn : IntKind.i64.wrap n = n := i64_id (by omega)
    have e1 : i64 ((w.length : Int) + 1) = (w.length : Int) + 1 := i64_id (by omega)
    obtain ⟨k, hk, hk2⟩ : ∃ k : Nat, n.tmod ((w.length : Int) + 1) = (k : Int) ∧ k ≤ w.length := by
      have h1 := Int.tmod_nonneg ((w.length : Int) + 1) hn.1
      have h2 := Int.tmod_lt_of_pos n (show (0 : Int) < (w.length : Int) + 1 by omega)
      exact ⟨(n.tmod ((w.length : Int) + 1)).toNat, by omega, by omega⟩
    have n0 : ¬ (w.length : Int) + 1 = 0 := by omega
    have b1 : (0 : Int) ≤ (k : Int) ∧ (k : Int) ≤ (w.length : Int) := by omega
    have r1 := run_ok hd (xs := w.take k) (fun x h => hs.smp x (List.mem_of_mem_take h)) (by rw [List.length_take]; omega)
    have r2 := run_ok hd (xs := w) hs.smp (by omega)
    rw [List.map_take] at r1
    have hpre : Pre (outs S L a b ((w.map ab).take k)) (outs S L a b (w.map ab)) := pre_law (by simp; omega)
    have l1 := outs_len S L a b ((w.map ab).take k)
    have l2 := outs_len S L a b (w.map ab)
    rw [List.length_take, List.length_map] at l1
    rw [List.length_map] at l2
    have r3 := pre_loop (X := rowsI w) hpre (by omega) (n := (k : Int)) (S := S) (L := L) (a := a) (b := b) _ 0 600 (by omega) (Nat.zero_add _)
    replace r3 : (F3_l17 600).L 600 (rowsI w, rowsT (outs S L a b ((w.map ab).take k)), rowsT (outs S L a b (w.map ab)), (k : Int), ((outs S L a b ((w.map ab).take k)).length : Int), 0, S, L, a, b) = _ := r3
    have c1 : decide (((outs S L a b ((w.map ab).take k)).length : Int) > ((outs S L a b (w.map ab)).length : Int)) = false := by
      have := hpre.len
      simp; omega
    obtain ⟨M, hM⟩ : ∃ M : Nat, (M : Int) = L + k := ⟨(L + k).toNat, by omega⟩
    have e2 : i64 (L + (k : Int)) = (M : Int) := by rw [i64_id (by omega)]; omega
    have b2 : (0 : Int) ≤ (M : Int) ∧ (M : Int) ≤ (M : Int) ∧ M * 8 ≤ maxBytes := ⟨by omega, by omega, by unfold maxBytes; omega⟩
    have b3 : M * 1 ≤ (cellsI (List.replicate M 0)).length := by rw [cellsI_len]; simp
    have s1 : (cellsI (List.replicate M 0)).take (M * 1) = cellsI (List.replicate M 0) := List.take_of_length_le (by rw [cellsI_len]; simp)
    have s2 : chunks (cellsI (List.replicate M 0)) 1 M = rowsI (List.replicate M 0) := by
      have := chunks_one (List.replicate M 0)
      rwa [List.length_replicate] at this
    have b4 : (M + w.length) * 8 ≤ maxBytes := by unfold maxBytes; omega
    have r4 := run_ok hd (xs := List.replicate M 0 ++ w) (fun x h => by
      rcases List.mem_append.1 h with h | h
      · rw [List.eq_of_mem_replicate h]; unfold Smp; omega
      · exact hs.smp x h) (by simp; omega)
    have z1 : (List.replicate M 0 ++ w).map ab = lead M (w.map ab) := by
      rw [List.map_append, List.map_replicate]; rfl
    rw [z1] at r4
    have l3 := outs_len S L a b (lead M (w.map ab))
    have l4 : (lead M (w.map ab)).length = M + w.length := by unfold lead; simp
    have e3 : i64 (i64 (((rowsI (List.replicate M 0)).length : Int) + L) - 1) = M + L - 1 := by
      rw [rowsI_len, List.length_replicate, i64_id (x := (M : Int) + L) (by omega), i64_id (by omega)]
    have r5 := bad_loop (X := rowsI w) (B := rowsT (outs S L a b (w.map ab))) (D := rowsI (List.replicate M 0)) (A := outs S L a b (lead M (w.map ab))) (by omega) (S := S) (L := L) (a := a) (b := b) e3 _ 0 600 false (by omega) (Nat.zero_add _)
    rw [List.drop_zero, Bool.false_or] at r5
    replace r5 : (F3_l38 600).L 600 (rowsI w, rowsT (outs S L a b (w.map ab)), rowsI (List.replicate M 0), rowsT (outs S L a b (lead M (w.map ab))), rowsT (outs S L a b (lead M (w.map ab))), false, ((outs S L a b (lead M (w.map ab))).length : Int), 0, S, L, a, b) = _ := r5
    have r6 := late_loop (A := outs S L a b (lead M (w.map ab))) (by omega) (outs_in _ (by omega)) (M := M) (by omega) _ 0 600 [] (by omega) (Nat.zero_add _) (by simp)
    rw [List.drop_zero, List.nil_append] at r6
    replace r6 : (F14_l5 600).L 600 (([] : List (List AV)), rowsT (outs S L a b (lead M (w.map ab))), (M : Int), ((outs S L a b (lead M (w.map ab))).length : Int), 0) = _ := r6
    have l5 := lateL_len (M : Int) (outs S L a b (lead M (w.map ab)))
    have hL1 : i64 (L - 1) = L - 1 := i64_id (by omega)
    have r7 := keep_loop (B := rowsT (outs S L a b (w.map ab))) (A := lateL (M : Int) (outs S L a b (lead M (w.map ab)))) (by omega) (S := S) (L := L) (a := a) (b := b) hL1 _ 0 600 [] (by omega) (Nat.zero_add _) (by simp)
    rw [List.drop_zero, List.nil_append] at r7
    replace r7 : (F3_l53 600).L 600 (([] : List (List AV)), rowsT (outs S L a b (w.map ab)), rowsT (lateL (M : Int) (outs S L a b (lead M (w.map ab)))), ((lateL (M : Int) (outs S L a b (lead M (w.map ab)))).length : Int), 0, S, L, a, b) = _ := r7
    have law := lead_law hd (z := w.map ab) (zrow w hs.smp).abs (M := M)
    simp only [hl, decide_true, Bool.not_true, hroll, d1, w1, rowsI_len, e1, n0, if_false, hwn, hk, b1, and_self, if_true, Int.toNat_natCast, rowsI_take, r1, r2, bne_self_eq_false, rowsT_len, c1, F3_d17, r3, e2, zeros_cells, s1, s2, List.length_replicate, rowsI_app, r4, F3_d38, r5]
    rw [if_pos b2, if_pos b3, if_pos b4]
    by_cases g1 : (w.length : Int) ≥ L
    · cases g2 : (outs S L a b (lead M (w.map ab))).any (bad (M + L - 1)) with
      | true => simp only [g1, decide_true, Bool.not_true, sane_ok]
      | false =>
        have q := law (by simp; omega) g2
        rw [q] at r7
        simp only [g1, decide_true, Bool.not_false, F14_d, FSpec.d, F14_s, F14_d5, rowsT_len, r6, F3_d53, r7, same_ok (outs S L a b (w.map ab)) (by omega), sane_ok]
    · simp only [g1, decide_false, sane_ok]
  · simp only [hl, decide_false, Bool.not_false, sane_ok]
theorem detector_prefix (a : Option Addr) (len cap : Nat) (n : Int) (W : World) (hr : IntsIn W (.slice a len cap)) (hn : 0 ≤ n ∧ n ≤ 255) :
    Calls Try.prog 3 #[.slice a len cap, .int .u8 n] W fun e w' => e = .returned (.bool true) ∧ Below W.heap.size W w' := by
  obtain ⟨xs, h1, h2, h3⟩ := hr
  have ok := (F3_e 600).ok (rowsI xs, n) true (prefix_ok xs h1 n hn)
  refine CallOk.calls (args := [.list 1 (rowsI xs) none, .v (.int .u8 n)]) ok W _ rfl (fun i h h' => ?_)
  have : i = 0 ∨ i = 1 := by simp at h; omega
  rcases this with rfl | rfl
  · exact h3 _ _
  · exact .v
end Go.Proofs.Ytaiadjadgpgnmaa
