/- DetectorStream: Push, the law's loop, and its call. -/
import Derived.Test.YtaiadjadgpgnmaaDtStream
namespace Go.Proofs.Ytaiadjadgpgnmaa
open Go.RowKit
set_option linter.unusedVariables false
set_option linter.unusedSimpArgs false
set_option linter.unnecessarySimpa false
theorem Small.smp {w : List Int} (h : Small w) : ∀ x ∈ w, Smp x := fun x hx => by
  have := h x hx
  unfold Smp; omega
theorem part_sum {z : List Int} {j k : Nat} (h : k ≤ j) : ((z.take j).drop k).sum = P z j - P z k := by
  have e : (z.take j).take k ++ (z.take j).drop k = z.take j := List.take_append_drop ..
  have := congrArg List.sum e
  rw [List.sum_append, List.take_take, Nat.min_eq_left h] at this
  unfold P
  omega
theorem push_loop {S L a b : Int} (h : DtOk S L a b) {z xs : List Int} {n0 : Nat} (R : ZRow z n0 xs) (hz : z.length ≤ 1073741823) : ∀ (m k fu : Nat) (q : Trg × List Trg), m < fu → k + m = xs.length → q.2.length + m ≤ 1000000 →
    (F20_l16 600).L fu (rowsI xs, (xs.length : Int), (k : Int), 0, 0, 0, 0, ([] : List (List AV)), 0, 0, 0, 0, S, L, a, b, rowsI (pst z L.toNat (n0 + k)), (0 : Int) + (n0 + k : Nat), q.1.1, q.1.2.1, q.1.2.2, V z S.toNat (n0 + k), V z L.toNat (n0 + k), rowsT q.2) = some (0, 0, 0, 0, ([] : List (List AV)), 0, 0, 0, 0, S, L, a, b, rowsI (pst z L.toNat z.length), (0 : Int) + (z.length : Nat), (runT S L a b z 0 m (n0 + k) q).1.1, (runT S L a b z 0 m (n0 + k) q).1.2.1, (runT S L a b z 0 m (n0 + k) q).1.2.2, V z S.toNat z.length, V z L.toNat z.length, rowsT (runT S L a b z 0 m (n0 + k) q).2)
  | 0, k, fu, q, hf, hk, hE => by
    obtain ⟨f, rfl⟩ : ∃ f', fu = f' + 1 := ⟨fu - 1, by omega⟩
    have hl := R.len
    have e : n0 + k = z.length := by omega
    show (F20_l16 600).b _ _ ((F20_l16 600).L f) some = _
    have c : decide ((k : Int) < (xs.length : Int)) = false := by simp; omega
    simp only [F20_l16, c, e, runT]
  | m + 1, k, fu, q, hf, hk, hE => by
    obtain ⟨f, rfl⟩ : ∃ f', fu = f' + 1 := ⟨fu - 1, by omega⟩
    have hl := R.len
    have hlt : k < xs.length := by omega
    obtain ⟨⟨o, fo, p⟩, E⟩ := q
    simp only at hE
    have r := look_at h R hlt (base := 0) (by omega) hz (o := o) (f := fo) (p := p) (E := E) (by omega)
    have hT := tr1_len S L a b (0 + (n0 + k : Nat)) (W z S.toNat (n0 + k)) (W z L.toNat (n0 + k)) (o, fo, p) E
    have r2 := push_loop h R hz m (k + 1) f (stp S L a b z 0 (n0 + k) ((o, fo, p), E)) (by omega) (by omega) (by unfold stp; simp only; omega)
    have c1 : decide ((k : Int) < (xs.length : Int)) = true := by simp; omega
    have c2 : (0 : Int) ≤ (k : Int) := by omega
    have c4 : i64 ((k : Int) + 1) = ((k + 1 : Nat) : Int) := by
      have := hz
      rw [i64_id (by omega)]; omega
    show (F20_l16 600).b _ _ ((F20_l16 600).L f) some = _
    obtain ⟨Lf, hL⟩ : ∃ Lf, Lf = (F20_l16 600).L f := ⟨_, rfl⟩
    rw [← hL] at r2 ⊢
    simp only [F20_l16, c1, c2, if_true, Int.toNat_natCast, rowsI_get xs k hlt, List.getElem?_cons_zero, r, c4]
    exact r2
theorem pst_take {z : List Int} {l i m : Nat} (h : i ≤ m) : pst (z.take m) l i = pst z l i := by
  unfold pst; rw [List.take_take, Nat.min_eq_left h]
theorem push_ok {S L a b : Int} (h : DtOk S L a b) {z : List Int} (hz : ∀ v ∈ z, Abs v) (hzl : z.length ≤ 590) {xs : List Int} (hs : ∀ x ∈ xs, Smp x) {i : Nat} (hi : i + xs.length ≤ z.length) (hat : ∀ (k : Nat) (hk : k < xs.length), z[i + k]'(by omega) = ab xs[k]) {t : Trg} (hw : Wat L i t) :
    F20_d 600 (S, L, a, b, rowsI (pst z L.toNat i), (i : Int), t.1, t.2.1, t.2.2, rowsI xs) = some (S, L, a, b, rowsI (pst z L.toNat (i + xs.length)), ((i + xs.length : Nat) : Int), (runT S L a b z 0 xs.length i (t, [])).1.1, (runT S L a b z 0 xs.length i (t, [])).1.2.1, (runT S L a b z 0 xs.length i (t, [])).1.2.2, rowsT (runT S L a b z 0 xs.length i (t, [])).2, 0) := by
  have ⟨g1, g2, g3, g4, g5, g6⟩ := h
  have R : ZRow (z.take (i + xs.length)) i xs := {
    len := by rw [List.length_take]; omega
    at_ := fun k hk => by rw [List.getElem_take]; exact hat k hk
    abs := fun v hv => hz v (List.mem_of_mem_take hv)
    smp := hs }
  have zl : (z.take (i + xs.length)).length = i + xs.length := by rw [List.length_take]; omega
  have hl := pst_len (z := z) (l := L.toNat) (i := i) (by omega)
  have ho := open_ok h (pa := pst z L.toNat i) (fun v hv => hz v (mem_pst hv)) (by omega) (i : Int) t.1 t.2.1 t.2.2
  have s1 : ((pst z L.toNat i).drop ((pst z L.toNat i).length - (S.toNat - 1))).sum = V z S.toNat i := by
    rw [hl]
    unfold pst V
    have e : i - (L.toNat - 1) + (i - (i - (L.toNat - 1)) - (S.toNat - 1)) = i - (S.toNat - 1) := by omega
    rw [List.drop_drop, e, part_sum (by omega)]
  have s2 : (pst z L.toNat i).sum = V z L.toNat i := by
    unfold pst V
    rw [part_sum (by omega)]
  rw [s1, s2] at ho
  have v1 : ∀ n, V (z.take (i + xs.length)) n i = V z n i := fun n => by
    unfold V; rw [P_take (by omega), P_take (by omega)]
  have r := push_loop h R (by omega) xs.length 0 600 (t, []) (by omega) (by omega) (by simp; omega)
  rw [Nat.add_zero, pst_take (by omega), v1, v1, zl, pst_take (by omega), runT_take _ _ _ (by omega), Int.zero_add, Int.zero_add] at r
  replace r : (F20_l16 600).L 600 (rowsI xs, (xs.length : Int), 0, 0, 0, 0, 0, ([] : List (List AV)), 0, 0, 0, 0, S, L, a, b, rowsI (pst z L.toNat i), (i : Int), t.1, t.2.1, t.2.2, V z S.toNat i, V z L.toNat i, []) = _ := r
  have c1 : decide ((xs.length : Int) > 65536) = false := by rw [decide_eq_false_iff_not]; omega
  have e1 : i64 ((i : Int) + (xs.length : Int)) = (i : Int) + (xs.length : Int) := i64_id (by omega)
  have c2 : decide ((i : Int) + (xs.length : Int) > 16777216) = false := by rw [decide_eq_false_iff_not]; omega
  have hl2 := pst_len (z := z) (l := L.toNat) (i := i + xs.length) (by omega)
  have cl := clone_ok (pst z L.toNat (i + xs.length)) (by omega)
  simp only [F20_d, FSpec.d, F20_s, vw_ok h hz hzl (show i ≤ z.length by omega) hw, Bool.not_true, rowsI_len, c1, e1, c2, cont_ok xs (by omega) hs, ho, F20_d16, r, cl]
theorem stream_loop {S L a b : Int} (h : DtOk S L a b) {w : List Int} (hs : Small w) (hl : w.length ≤ 60) {xs : List Int} : ∀ (m i fu : Nat) (p : Int), m < fu → i + m = w.length → Dice xs p →
    (F6_l12 600).L fu (rowsT (runT S L a b (w.map ab) 0 i 0 none0).2, rowsI w, 0, (i : Int), S, L, a, b, S, L, a, b, rowsI (pst (w.map ab) L.toNat i), (i : Int), (runT S L a b (w.map ab) 0 i 0 none0).1.1, (runT S L a b (w.map ab) 0 i 0 none0).1.2.1, (runT S L a b (w.map ab) 0 i 0 none0).1.2.2, rowsI xs, p) = some (.inr (rowsT (runT S L a b (w.map ab) 0 w.length 0 none0).2, rowsI w, 0, S, L, a, b, S, L, a, b, rowsI (pst (w.map ab) L.toNat w.length), (w.length : Int), (runT S L a b (w.map ab) 0 w.length 0 none0).1.1, (runT S L a b (w.map ab) 0 w.length 0 none0).1.2.1, (runT S L a b (w.map ab) 0 w.length 0 none0).1.2.2)) := by
  intro m
  induction m using Nat.strongRecOn with
  | _ m ih =>
    intro i fu p hf hi D
    obtain ⟨f, rfl⟩ : ∃ f', fu = f' + 1 := ⟨fu - 1, by omega⟩
    have hz := (zrow w hs.smp).abs
    by_cases hm : m = 0
    · have e : i = w.length := by omega
      subst e
      show (F6_l12 600).b _ _ ((F6_l12 600).L f) some = _
      have c : decide ((w.length : Int) < (w.length : Int)) = false := by simp
      simp only [F6_l12, rowsI_len, c]
    · obtain ⟨y, p1, n1, n2, D1⟩ := next_ok 600 (n := 9) (by omega) D
      have c1 : decide ((i : Int) < (w.length : Int)) = true := by rw [decide_eq_true_iff]; omega
      have e1 : i64 ((i : Int) + 1) = (i : Int) + 1 := i64_id (by omega)
      have e2 : i64 ((i : Int) + 1 + y) = (i : Int) + 1 + y := i64_id (by omega)
      obtain ⟨j, hj, hj1, hj2⟩ : ∃ j : Nat, (if (w.length : Int) < (i : Int) + 1 + y then (w.length : Int) else (i : Int) + 1 + y) = (j : Int) ∧ i < j ∧ j ≤ w.length := by
        by_cases c : (w.length : Int) < (i : Int) + 1 + y
        · exact ⟨w.length, by rw [if_pos c], by omega, by omega⟩
        · exact ⟨((i : Int) + 1 + y).toNat, by rw [if_neg c]; omega, by omega, by omega⟩
      have b1 : (0 : Int) ≤ (i : Int) ∧ (i : Int) ≤ (j : Int) ∧ (j : Int) ≤ (w.length : Int) := by omega
      have xl : ((w.take j).drop i).length = j - i := by rw [List.length_drop, List.length_take]; omega
      have wat : Wat L i (runT S L a b (w.map ab) 0 i 0 none0).1 := by
        have := Wat.run (S := S) (L := L) (a := a) (b := b) hz i 0 (q := none0) ⟨.inl rfl⟩
        rwa [Nat.zero_add] at this
      have po := push_ok h hz (by simp; omega) (xs := (w.take j).drop i) (fun x hx => hs.smp x (List.mem_of_mem_take (List.mem_of_mem_drop hx))) (i := i) (by rw [xl]; simp; omega) (fun k hk => by
        rw [List.getElem_map, List.getElem_drop, List.getElem_take]) wat
      rw [xl, show i + (j - i) = j by omega] at po
      have e3 : runT S L a b (w.map ab) 0 j 0 none0 = ((runT S L a b (w.map ab) 0 (j - i) i ((runT S L a b (w.map ab) 0 i 0 none0).1, [])).1, (runT S L a b (w.map ab) 0 i 0 none0).2 ++ (runT S L a b (w.map ab) 0 (j - i) i ((runT S L a b (w.map ab) 0 i 0 none0).1, [])).2) := by
        have q1 := runT_add S L a b (w.map ab) 0 i (j - i) 0 none0
        rw [Nat.zero_add, show i + (j - i) = j by omega] at q1
        have q2 := runT_pre S L a b (w.map ab) 0 (j - i) i (runT S L a b (w.map ab) 0 i 0 none0).1 (runT S L a b (w.map ab) 0 i 0 none0).2 []
        rw [List.append_nil] at q2
        rw [q1]
        exact q2
      have r := ih (w.length - j) (by omega) j f p1 (by omega) (by omega) D1
      have watj : Wat L j (runT S L a b (w.map ab) 0 j 0 none0).1 := by
        have := Wat.run (S := S) (L := L) (a := a) (b := b) hz j 0 (q := none0) ⟨.inl rfl⟩
        rwa [Nat.zero_add] at this
      rw [e3] at r watj
      have k1 := runT_len S L a b (w.map ab) 0 i 0 none0
      have k0 : none0.2.length = 0 := rfl
      rw [k0] at k1
      have k2 := runT_len S L a b (w.map ab) 0 (j - i) i ((runT S L a b (w.map ab) 0 i 0 none0).1, [])
      generalize runT S L a b (w.map ab) 0 (j - i) i ((runT S L a b (w.map ab) 0 i 0 none0).1, []) = Q at po r watj k2 ⊢
      simp only [List.length_nil] at k2
      have rv := rvw_ok h hz (by simp; omega) (i := j) (by simp; omega) (o := Q.1.1) (f := Q.1.2.1) (p := Q.1.2.2) watj
      have hb : ((runT S L a b (w.map ab) 0 i 0 none0).2.length + Q.2.length) * 24 ≤ maxBytes := by unfold maxBytes; omega
      have ap : rowsT (runT S L a b (w.map ab) 0 i 0 none0).2 ++ rowsT Q.2 = rowsT ((runT S L a b (w.map ab) 0 i 0 none0).2 ++ Q.2) := by simp [rowsT]
      show (F6_l12 600).b _ _ ((F6_l12 600).L f) some = _
      obtain ⟨Lf, hLf⟩ : ∃ Lf, Lf = (F6_l12 600).L f := ⟨_, rfl⟩
      rw [← hLf] at r ⊢
      simp only [F6_l12, rowsI_len, c1, beq_self_eq_true, n1, e1, e2, hj, Int.toNat_natCast, rowsI_take, rowsI_drop, po, bne_self_eq_false, rv, Bool.not_true, rowsT_len, ap]
      exact (if_pos b1).trans ((if_pos hb).trans r)
theorem stream_ok (xs : List Int) (hx : ∀ x ∈ xs, -9223372036854775808 ≤ x ∧ x ≤ 9223372036854775807) : F6_d 600 (rowsI xs) = some true := by
  simp only [F6_d, FSpec.d, F6_s, light_ok]
  by_cases hl : (xs.length : Int) ≤ 500
  · have D : Dice xs 0 := ⟨hx, by omega, by omega, by omega⟩
    have hroll : F10_d 600 (rowsI xs) = some (rowsI xs, 0) := rfl
    obtain ⟨S, L, a, b, p1, d1, hd, hd2, D1⟩ := det_ok D
    obtain ⟨w, p2, w1, w2, hs, D2⟩ := wave_ok (n := 60) (by omega) D1
    have hz := (zrow w hs.smp).abs
    have r1 := run_ok hd (xs := w) hs.smp (by omega)
    have lo := stream_loop (S := S) (L := L) (a := a) (b := b) hd hs (by omega) w.length 0 600 p2 (by omega) (by omega) D2
    replace lo : (F6_l12 600).L 600 (([] : List (List AV)), rowsI w, 0, 0, S, L, a, b, S, L, a, b, rowsI (pst (w.map ab) L.toNat 0), 0, -1, 0, 0, rowsI xs, p2) = _ := lo
    have p0 : rowsI (pst (w.map ab) L.toNat 0) = [] := by simp [pst, rowsI]
    rw [p0] at lo
    have wat : Wat L w.length (runT S L a b (w.map ab) 0 w.length 0 none0).1 := by
      have := Wat.run (S := S) (L := L) (a := a) (b := b) hz w.length 0 (q := none0) ⟨.inl rfl⟩
      rwa [Nat.zero_add] at this
    have hq : outs S L a b (w.map ab) = closed (runT S L a b (w.map ab) 0 w.length 0 none0) := by unfold outs; rw [List.length_map]
    have kl := runT_len S L a b (w.map ab) 0 w.length 0 none0
    have k0 : none0.2.length = 0 := rfl
    rw [k0] at kl
    have vw := vw_ok hd hz (by simp; omega) (i := w.length) (by simp) (o := (runT S L a b (w.map ab) 0 w.length 0 none0).1.1) (f := (runT S L a b (w.map ab) 0 w.length 0 none0).1.2.1) (p := (runT S L a b (w.map ab) 0 w.length 0 none0).1.2.2) wat
    have so := same_ok (outs S L a b (w.map ab)) (by
      have := outs_len S L a b (w.map ab)
      rw [List.length_map] at this
      omega)
    rw [hq] at r1 so
    simp only [hl, decide_true, Bool.not_true, hroll, d1, w1, start_ok hd, F6_d12, lo, F22_d, FSpec.d, F22_s, vw, r1]
    generalize runT S L a b (w.map ab) 0 w.length 0 none0 = q at kl so ⊢
    unfold closed at so ⊢
    by_cases c : q.1.1 ≥ 0
    · have c2 : decide (q.1.1 < 0) = false := by rw [decide_eq_false_iff_not]; omega
      have hb : (q.2.length + [[AV.v (.int .i64 q.1.1), AV.v (.int .i64 q.1.2.1), AV.v (.int .i64 q.1.2.2)]].length) * 24 ≤ maxBytes := by unfold maxBytes; simp; omega
      simp only [c, if_true] at so ⊢
      simp only [c2, beq_self_eq_true, rowsI_len, rowsT_len, hb, if_true, rowsT_snoc, so, sane_ok]
    · have c2 : decide (q.1.1 < 0) = true := by rw [decide_eq_true_iff]; omega
      have hb : (q.2.length + ([] : List (List AV)).length) * 24 ≤ maxBytes := by unfold maxBytes; simp; omega
      simp only [c, if_false] at so ⊢
      simp only [c2, beq_self_eq_true, rowsI_len, rowsT_len, hb, if_true, List.append_nil, so, sane_ok]
  · simp only [hl, decide_false, Bool.not_false, sane_ok]
theorem detector_stream (a : Option Addr) (len cap : Nat) (W : World) (hr : IntsIn W (.slice a len cap)) :
    Calls Try.prog 6 #[.slice a len cap] W fun e w' => e = .returned (.bool true) ∧ Below W.heap.size W w' := by
  obtain ⟨xs, h1, h2, h3⟩ := hr
  have ok := (F6_e 600).ok (rowsI xs) true (stream_ok xs h1)
  refine CallOk.calls (args := [.list 1 (rowsI xs) none]) ok W _ rfl (fun i h h' => ?_)
  have : i = 0 := by simp at h; omega
  subst this
  exact h3 _ _
end Go.Proofs.Ytaiadjadgpgnmaa
