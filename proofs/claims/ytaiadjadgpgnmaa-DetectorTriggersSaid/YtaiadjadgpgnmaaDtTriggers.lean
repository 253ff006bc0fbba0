/- DetectorTriggers, the plain law, and its call. -/
import Derived.Test.YtaiadjadgpgnmaaDtE
namespace Go.Proofs.Ytaiadjadgpgnmaa
open Go.RowKit
set_option linter.unusedVariables false
set_option linter.unusedSimpArgs false
set_option linter.unnecessarySimpa false
/-- The greatest of n values from index lo on. -/
def pkm (z : List Int) (lo : Nat) : Nat → Int
  | 0 => 0
  | n + 1 => if z.getD (lo + n) 0 > pkm z lo n then z.getD (lo + n) 0 else pkm z lo n
structure PInv (z : List Int) (i : Nat) (q : Trg × List Trg) : Prop where
  ended : ∀ t ∈ q.2, ∃ o e : Nat, t.1 = o ∧ t.2.1 = e ∧ o < e ∧ e ≤ i ∧ t.2.2 = pkm z o (e - o)
  opn : q.1 = (-1, 0, 0) ∨ ∃ o : Nat, q.1.1 = o ∧ o < i ∧ q.1.2.1 = -1 ∧ q.1.2.2 = pkm z o (i - o) ∧ ∀ t ∈ q.2, t.2.1 ≤ q.1.1
  asc : q.2.Pairwise fun t u => t.2.1 ≤ u.1
theorem PInv.stp {S L a b : Int} {z : List Int} {i : Nat} {q : Trg × List Trg} (h : PInv z i q) : PInv z (i + 1) (stp S L a b z 0 i q) := by
  have mono : ∀ t ∈ q.2, ∃ o e : Nat, t.1 = o ∧ t.2.1 = e ∧ o < e ∧ e ≤ i + 1 ∧ t.2.2 = pkm z o (e - o) := fun t ht => by
    obtain ⟨o, e, h1, h2, h3, h4, h5⟩ := h.ended t ht
    exact ⟨o, e, h1, h2, h3, by omega, h5⟩
  rcases stp_cases S L a b z 0 i q with ⟨e, _⟩ | ⟨e, _, c, _⟩ | ⟨e, _, c, _⟩
  · rw [e]
    refine ⟨mono, ?_, h.asc⟩
    rcases h.opn with h | ⟨o, h1, h2, h3, h4, h5⟩
    · left; simp only [h, tr2_none]
    · right
      refine ⟨o, ?_, by omega, ?_, ?_, ?_⟩
      · simp only; rw [(tr2_on _ _).1, h1]
      · simp only; rw [(tr2_on _ _).2.1, h3]
      · simp only
        unfold tr2
        rw [if_pos (by omega), h4, show i + 1 - o = (i - o) + 1 by omega]
        simp only [pkm, show o + (i - o) = i by omega]
      · intro t ht
        simp only
        rw [(tr2_on _ _).1]
        exact h5 t ht
  · rw [e]
    rcases h.opn with h' | ⟨o, h1, h2, h3, h4, h5⟩
    · rw [h'] at c; simp at c
    · refine ⟨fun t ht => ?_, .inl rfl, ?_⟩
      · rcases List.mem_append.1 ht with ht | ht
        · exact mono t ht
        · simp at ht
          subst ht
          exact ⟨o, i, h1, by simp, h2, by omega, h4⟩
      · rw [List.pairwise_append]
        refine ⟨h.asc, by simp, fun t ht u hu => ?_⟩
        simp at hu
        subst hu
        exact h5 t ht
  · rw [e]
    refine ⟨mono, .inr ⟨i, ?_, by omega, ?_, ?_, ?_⟩, h.asc⟩
    · simp only; rw [(tr2_on _ _).1]; simp
    · simp only; rw [(tr2_on _ _).2.1]
    · simp only
      unfold tr2
      rw [if_pos (by simp only; omega), show i + 1 - i = 0 + 1 by omega]
      rfl
    · intro t ht
      obtain ⟨o, e, h1, h2, h3, h4, h5⟩ := h.ended t ht
      simp only
      rw [(tr2_on _ _).1]
      simp only
      omega
theorem PInv.run {S L a b : Int} {z : List Int} : ∀ (k i : Nat) {q : Trg × List Trg}, PInv z i q → PInv z (i + k) (runT S L a b z 0 k i q)
  | 0, i, q, h => h
  | k + 1, i, q, h => by
    have := PInv.run (S := S) (L := L) (a := a) (b := b) k (i + 1) (h.stp (S := S) (L := L) (a := a) (b := b))
    rw [show i + (k + 1) = i + 1 + k by omega]
    exact this
theorem PInv.none0 {z : List Int} {i : Nat} : PInv z i none0 := ⟨fun t ht => (by cases ht), .inl rfl, List.Pairwise.nil⟩
/-- What the law's second loop asks of the triggers. -/
structure Trgs (z : List Int) (l : List Trg) : Prop where
  each : ∀ t ∈ l, ∃ o e : Nat, t.1 = o ∧ (t.2.1 = e ∨ t.2.1 = -1 ∧ e = z.length) ∧ o < e ∧ e ≤ z.length ∧ t.2.2 = pkm z o (e - o)
  asc : l.Pairwise fun t u => t.2.1 ≤ u.1
  last : ∀ (i : Nat) (h : i < l.length), l[i].2.1 < 0 → i + 1 = l.length
theorem outs_trgs (S L a b : Int) (z : List Int) : Trgs z (outs S L a b z) := by
  have h := PInv.run (S := S) (L := L) (a := a) (b := b) (z := z) z.length 0 PInv.none0
  unfold outs closed
  generalize runT S L a b z 0 z.length 0 none0 = q at h
  rw [Nat.zero_add] at h
  have each : ∀ t ∈ q.2, ∃ o e : Nat, t.1 = o ∧ (t.2.1 = e ∨ t.2.1 = -1 ∧ e = z.length) ∧ o < e ∧ e ≤ z.length ∧ t.2.2 = pkm z o (e - o) := fun t ht => by
    obtain ⟨o, e, h1, h2, h3, h4, h5⟩ := h.ended t ht
    exact ⟨o, e, h1, .inl h2, h3, h4, h5⟩
  have pos : ∀ t ∈ q.2, 0 ≤ t.2.1 := fun t ht => by
    obtain ⟨o, e, h1, h2, h3, h4, h5⟩ := h.ended t ht
    omega
  split
  · rename_i c
    rcases h.opn with h' | ⟨o, h1, h2, h3, h4, h5⟩
    · rw [h'] at c; simp at c
    · refine ⟨fun t ht => ?_, ?_, fun i hi c => ?_⟩
      · rcases List.mem_append.1 ht with ht | ht
        · exact each t ht
        · simp at ht
          subst ht
          exact ⟨o, z.length, h1, .inr ⟨h3, rfl⟩, h2, by omega, h4⟩
      · rw [List.pairwise_append]
        refine ⟨h.asc, by simp, fun t ht u hu => ?_⟩
        simp at hu
        subst hu
        exact h5 t ht
      · by_cases hi2 : i < q.2.length
        · rw [List.getElem_append_left hi2] at c
          have := pos _ (List.getElem_mem hi2)
          omega
        · simp at hi ⊢; omega
  · refine ⟨each, h.asc, fun i hi c => ?_⟩
    have := pos _ (List.getElem_mem hi)
    omega
/-! Sums of parts. -/
theorem part_sum {z : List Int} {j k : Nat} (h : k ≤ j) : ((z.take j).drop k).sum = P z j - P z k := by
  have e : (z.take j).take k ++ (z.take j).drop k = z.take j := List.take_append_drop ..
  have := congrArg List.sum e
  rw [List.sum_append, List.take_take, Nat.min_eq_left h] at this
  unfold P
  omega
theorem ratio_ok {S L a b : Int} (h : DtOk S L a b) {xs : List Int} (hx : ∀ x ∈ xs, Smp x) (hl : xs.length ≤ 590) {i : Nat} (h1 : L ≤ i + 1) (h2 : i < xs.length) : F16_d 600 (S, L, a, b, rowsI xs, (i : Int)) = some (W (xs.map ab) S.toNat i, W (xs.map ab) L.toNat i, 0) := by
  have ⟨g1, g2, g3, g4, g5, g6⟩ := h
  have c1 : decide ((xs.length : Int) > 65536) = false := by simp; omega
  have e1 : i64 (L - 1) = L - 1 := i64_id (by omega)
  have e2 : i64 ((xs.length : Int) - 1) = (xs.length : Int) - 1 := i64_id (by omega)
  have c2 : decide ((i : Int) ≥ L - 1) = true := by simp; omega
  have c3 : decide ((i : Int) ≤ (xs.length : Int) - 1) = true := by simp; omega
  have e3 : i64 ((i : Int) + 1) = ((i + 1 : Nat) : Int) := by rw [i64_id (by omega)]; omega
  have e4 : i64 ((i : Int) - S) = (i : Int) - S := i64_id (by omega)
  have e5 : i64 ((i : Int) - S + 1) = ((i + 1 - S.toNat : Nat) : Int) := by rw [i64_id (by omega)]; omega
  have e6 : i64 ((i : Int) - L) = (i : Int) - L := i64_id (by omega)
  have e7 : i64 ((i : Int) - L + 1) = ((i + 1 - L.toNat : Nat) : Int) := by rw [i64_id (by omega)]; omega
  have b1 : (0 : Int) ≤ ((i + 1 - S.toNat : Nat) : Int) ∧ ((i + 1 - S.toNat : Nat) : Int) ≤ ((i + 1 : Nat) : Int) ∧ ((i + 1 : Nat) : Int) ≤ (xs.length : Int) := by omega
  have b2 : (0 : Int) ≤ ((i + 1 - L.toNat : Nat) : Int) ∧ ((i + 1 - L.toNat : Nat) : Int) ≤ ((i + 1 : Nat) : Int) ∧ ((i + 1 : Nat) : Int) ≤ (xs.length : Int) := by omega
  have s : ∀ n : Nat, F38_d 600 (rowsI ((xs.take (i + 1)).drop (i + 1 - n))) = some (W (xs.map ab) n i) := fun n => by
    rw [sum_ok _ (by rw [List.length_drop, List.length_take]; omega) (fun x hx' => hx x (List.mem_of_mem_take (List.mem_of_mem_drop hx')))]
    rw [List.map_drop, List.map_take, part_sum (by omega)]
    rfl
  simp only [F16_d, FSpec.d, F16_s, valid_ok h, Bool.not_true, rowsI_len, c1, cont_ok xs hl hx, F37_d, F37_s, e1, e2, c2, c3, e3, e4, e5, e6, e7, Int.toNat_natCast, rowsI_take, rowsI_drop, s]
  rw [if_pos b1, if_pos b2]
theorem far_ok {S L a b p sh lg : Int} (hL : 0 ≤ L ∧ L ≤ 512) (hS : 0 ≤ S ∧ S ≤ 512) (hp : 0 ≤ p ∧ p ≤ 10000) (hs : 0 ≤ sh ∧ sh ≤ 1000000) (hg : 0 ≤ lg ∧ lg ≤ 1000000) (N : Nat) : F17_d N (p, lg, sh, S, L, a, b) = some (reachB S L p sh lg, lg, sh, S, L, a, b) := by
  have l1 : 0 ≤ 100 * sh * L := Int.mul_nonneg (by omega) hL.1
  have l2 : 100 * sh * L ≤ 100000000 * 512 := Int.mul_le_mul (by omega) hL.2 hL.1 (by omega)
  have p0 : 0 ≤ p * lg := Int.mul_nonneg hp.1 hg.1
  have p1 : p * lg ≤ 10000 * 1000000 := Int.mul_le_mul hp.2 hg.2 hg.1 (by omega)
  have q0 : 0 ≤ p * lg * S := Int.mul_nonneg p0 hS.1
  have q1 : p * lg * S ≤ 10000000000 * 512 := Int.mul_le_mul (by omega) hS.2 hS.1 (by omega)
  have e1 : i64 (100 * sh) = 100 * sh := i64_id (by omega)
  have e2 : i64 (100 * sh * L) = 100 * sh * L := i64_id (by omega)
  have e3 : i64 (p * lg) = p * lg := i64_id (by omega)
  have e4 : i64 (p * lg * S) = p * lg * S := i64_id (by omega)
  have m1 : 100 * sh * L = 100 * L * sh := by rw [Int.mul_assoc, Int.mul_assoc, Int.mul_comm sh L]
  have m2 : p * lg * S = p * S * lg := by rw [Int.mul_assoc, Int.mul_assoc, Int.mul_comm lg S]
  unfold reachB
  by_cases c : lg > 0
  · have c2 : (lg != 0) = true := by simp; omega
    simp only [F17_d, FSpec.d, F17_s, c, decide_true, e1, e2, e3, e4, c2, Bool.true_and]
    rw [m1, m2]
  · have c2 : (lg != 0) = false := by simp; omega
    simp only [F17_d, FSpec.d, F17_s, c, decide_false, c2, Bool.false_and]
theorem Small.smp {w : List Int} (h : Small w) : ∀ x ∈ w, Smp x := fun x hx => by
  have := h x hx
  unfold Smp; omega
theorem W_small {z : List Int} (hz : ∀ v ∈ z, 0 ≤ v ∧ v ≤ 79) {n i : Nat} (hn : n ≤ 512) (hi : i < z.length) : 0 ≤ W z n i ∧ W z n i ≤ 1000000 := by
  have key : ∀ (k : Nat), k ≤ n → k ≤ i + 1 → 0 ≤ P z (i + 1) - P z (i + 1 - k) ∧ P z (i + 1) - P z (i + 1 - k) ≤ k * 79 := fun k => by
    induction k with
    | zero => intro _ _; simp
    | succ k ih =>
      intro h1 h2
      have := ih (by omega) (by omega)
      have e : i + 1 - k = (i - k) + 1 := by omega
      have e3 := P_succ (z := z) (i := i - k) (by omega)
      rw [e, e3] at this
      have hv := hz _ (List.getElem_mem (show i - k < z.length by omega))
      rw [show i + 1 - (k + 1) = i - k by omega]
      push_cast
      omega
  unfold W
  by_cases c : n ≤ i + 1
  · have := key n (by omega) c; omega
  · have := key (i + 1) (by omega) (by omega)
    rw [show i + 1 - (i + 1) = i + 1 - n by omega] at this
    omega
/-- The triggers from a state on: those that have ended, then the open one. -/
theorem outs_from (S L a b : Int) (z : List Int) {i : Nat} (hi : i ≤ z.length) : ∃ more, outs S L a b z = (runT S L a b z 0 i 0 none0).2 ++ more ∧ ((runT S L a b z 0 i 0 none0).1.1 ≥ 0 → ∃ u r, more = u :: r ∧ u.1 = (runT S L a b z 0 i 0 none0).1.1) := by
  obtain ⟨m, hm⟩ : ∃ m, z.length = i + m := ⟨z.length - i, by omega⟩
  have hA : Inv 0 (0 + ((0 + i : Nat) : Int)) (runT S L a b z 0 i 0 none0) := Inv.run i 0 Inv.none0 (by omega)
  have e : outs S L a b z = closed (runT S L a b z 0 m i (runT S L a b z 0 i 0 none0)) := by
    unfold outs
    rw [hm, runT_add, Nat.zero_add]
  rw [e]
  generalize runT S L a b z 0 i 0 none0 = A at hA
  obtain ⟨t, E⟩ := A
  have p := runT_pre S L a b z 0 m i t E []
  rw [List.append_nil] at p
  rw [p, closed_pre]
  refine ⟨_, rfl, fun h => ?_⟩
  rcases hA.opn with e | ⟨o1, o2, o3⟩
  · simp only at e; rw [e] at h; simp at h
  · obtain ⟨u, more, u1, u2, _⟩ := run_open S L a b z 0 m i t h o3
    exact ⟨u, more, u1, u2⟩
theorem trg_loop {S L a b : Int} (h : DtOk S L a b) {w : List Int} (hs : Small w) (hl : w.length ≤ 60) : ∀ (m i fu : Nat), m < fu → i + m = w.length → L ≤ i + 1 →
    (F5_l16 600).L fu (rowsI w, rowsT (outs S L a b (w.map ab)), decide ((runT S L a b (w.map ab) 0 i 0 none0).1.1 ≥ 0), ((runT S L a b (w.map ab) 0 i 0 none0).2.length : Int), (i : Int), S, L, a, b) = some (.inr (rowsI w, rowsT (outs S L a b (w.map ab)), decide ((runT S L a b (w.map ab) 0 w.length 0 none0).1.1 ≥ 0), ((runT S L a b (w.map ab) 0 w.length 0 none0).2.length : Int)))
  | 0, i, fu, hf, hi, hL => by
    obtain ⟨f, rfl⟩ : ∃ f', fu = f' + 1 := ⟨fu - 1, by omega⟩
    show (F5_l16 600).b _ _ ((F5_l16 600).L f) some = _
    have c : decide ((i : Int) < (w.length : Int)) = false := by simp; omega
    have e : i = w.length := by omega
    subst e
    simp only [F5_l16, rowsI_len, c]
  | m + 1, i, fu, hf, hi, hL => by
    obtain ⟨f, rfl⟩ : ∃ f', fu = f' + 1 := ⟨fu - 1, by omega⟩
    have ⟨g1, g2, g3, g4, g5, g6⟩ := h
    have hlt : i < w.length := by omega
    have hz : ∀ v ∈ w.map ab, 0 ≤ v ∧ v ≤ 79 := fun v hv => by
      obtain ⟨x, hx, rfl⟩ := List.mem_map.1 hv
      have := hs x hx
      unfold ab; split <;> omega
    have hzl : i < (w.map ab).length := by simp; omega
    have ws := W_small hz (n := S.toNat) (i := i) (by omega) hzl
    have wl := W_small hz (n := L.toNat) (i := i) (by omega) hzl
    have c1 : decide ((i : Int) < (w.length : Int)) = true := by simp; omega
    have c4 : i64 ((i : Int) + 1) = ((i + 1 : Nat) : Int) := by rw [i64_id (by omega)]; omega
    have r := trg_loop h hs hl m (i + 1) f (by omega) (by omega) (by omega)
    have e1 : runT S L a b (w.map ab) 0 (i + 1) 0 none0 = stp S L a b (w.map ab) 0 i (runT S L a b (w.map ab) 0 i 0 none0) := by
      rw [runT_add, Nat.zero_add]; rfl
    obtain ⟨more, m1, m2⟩ := outs_from S L a b (w.map ab) (i := i) (by omega)
    obtain ⟨more', m1', m2'⟩ := outs_from S L a b (w.map ab) (i := i + 1) (by simp; omega)
    rw [e1] at r m1' m2'
    have ra := far_ok (a := a) (b := b) (show 0 ≤ L ∧ L ≤ 512 by omega) (show 0 ≤ S ∧ S ≤ 512 by omega) (show 0 ≤ a ∧ a ≤ 10000 by omega) ws wl 600
    have rb := far_ok (a := a) (b := b) (show 0 ≤ L ∧ L ≤ 512 by omega) (show 0 ≤ S ∧ S ≤ 512 by omega) (show 0 ≤ b ∧ b ≤ 10000 by omega) ws wl 600
    have rt := ratio_ok h hs.smp (by omega) hL hlt
    have hlen := runT_len S L a b (w.map ab) 0 i 0 none0
    have hz0 : none0.2.length = 0 := rfl
    rw [hz0] at hlen
    show (F5_l16 600).b _ _ ((F5_l16 600).L f) some = _
    obtain ⟨Lf, hLf⟩ : ∃ Lf, Lf = (F5_l16 600).L f := ⟨_, rfl⟩
    rw [← hLf] at r ⊢
    have hge : (0 : Int) + (i : Int) + 1 ≥ L := by omega
    rcases stp_cases S L a b (w.map ab) 0 i (runT S L a b (w.map ab) 0 i 0 none0) with ⟨e, n1, n2⟩ | ⟨e, _, c, c3⟩ | ⟨e, _, c, c3⟩
    · rw [e] at r
      simp only [(tr2_on _ _).1] at r
      by_cases c : (runT S L a b (w.map ab) 0 i 0 none0).1.1 ≥ 0
      · have rch : reachB S L b (W (w.map ab) S.toNat i) (W (w.map ab) L.toNat i) = true := by
          cases q : reachB S L b (W (w.map ab) S.toNat i) (W (w.map ab) L.toNat i) with
          | true => rfl
          | false => exact absurd ⟨hge, c, q⟩ n1
        simp only [c, decide_true] at r ⊢
        simp only [F5_l16, rowsI_len, c1, rt, bne_self_eq_false, Bool.not_true, rb, rch, c4]
        exact r
      · have rch : reachB S L a (W (w.map ab) S.toNat i) (W (w.map ab) L.toNat i) = false := by
          cases q : reachB S L a (W (w.map ab) S.toNat i) (W (w.map ab) L.toNat i) with
          | false => rfl
          | true => exact absurd ⟨hge, by omega, q⟩ n2
        simp only [c, decide_false] at r ⊢
        simp only [F5_l16, rowsI_len, c1, rt, bne_self_eq_false, Bool.not_false, ra, rch, c4]
        exact r
    · rw [e] at r m1'
      simp only at m1'
      have hk : (runT S L a b (w.map ab) 0 i 0 none0).2.length < (outs S L a b (w.map ab)).length := by rw [m1']; simp
      have gk := rowsT_get _ _ hk
      have ek : (outs S L a b (w.map ab))[(runT S L a b (w.map ab) 0 i 0 none0).2.length] = ((runT S L a b (w.map ab) 0 i 0 none0).1.1, 0 + (i : Int), (runT S L a b (w.map ab) 0 i 0 none0).1.2.2) := by
        simp only [m1']
        rw [List.getElem_append_left (by simp)]
        simp
      rw [ek] at gk
      have c0 : (0 : Int) ≤ ((runT S L a b (w.map ab) 0 i 0 none0).2.length : Int) := by omega
      have ck : i64 (((runT S L a b (w.map ab) 0 i 0 none0).2.length : Int) + 1) = (((runT S L a b (w.map ab) 0 i 0 none0).2.length + 1 : Nat) : Int) := by rw [i64_id (by omega)]; omega
      have cn : decide ((-1 : Int) ≥ 0) = false := rfl
      simp only [List.length_append, List.length_singleton, cn] at r
      simp only [c, decide_true]
      simp only [F5_l16, rowsI_len, c1, rt, bne_self_eq_false, Bool.not_true, rb, c3, Bool.not_false, c0, if_true, Int.toNat_natCast, gk, List.drop_succ_cons, List.drop_zero, List.getElem?_cons_zero, Int.zero_add, ck, c4]
      exact r
    · rw [e] at r m1' m2'
      simp only [(tr2_on _ _).1] at r m1' m2'
      obtain ⟨u, rr, u1, u2⟩ := m2' (by omega)
      have hk : (runT S L a b (w.map ab) 0 i 0 none0).2.length < (outs S L a b (w.map ab)).length := by rw [m1', u1]; simp
      have gk := rowsT_get _ _ hk
      have ek : (outs S L a b (w.map ab))[(runT S L a b (w.map ab) 0 i 0 none0).2.length].1 = (i : Int) := by
        simp only [m1', u1]
        rw [List.getElem_append_right (by simp)]
        simp [u2]
      rw [ek] at gk
      have c0 : (0 : Int) ≤ ((runT S L a b (w.map ab) 0 i 0 none0).2.length : Int) := by omega
      have cg : decide ((((runT S L a b (w.map ab) 0 i 0 none0).2.length : Nat) : Int) ≥ ((outs S L a b (w.map ab)).length : Int)) = false := by rw [decide_eq_false_iff_not]; omega
      have cy : decide ((0 : Int) + (i : Int) ≥ 0) = true := by rw [decide_eq_true_iff]; omega
      have cn : ¬ (runT S L a b (w.map ab) 0 i 0 none0).1.1 ≥ 0 := by omega
      simp only [cy] at r
      simp only [cn, decide_false]
      simp only [F5_l16, rowsI_len, rowsT_len, c1, rt, bne_self_eq_false, Bool.not_false, ra, c3, cg, c0, if_true, Int.toNat_natCast, gk, List.drop_zero, List.getElem?_cons_zero, c4]
      exact r
end Go.Proofs.Ytaiadjadgpgnmaa
