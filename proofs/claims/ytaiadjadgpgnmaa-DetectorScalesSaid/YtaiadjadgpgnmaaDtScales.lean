/- DetectorScales, the plain law, and its call. -/
import Derived.Test.YtaiadjadgpgnmaaDtD
namespace Go.Proofs.Ytaiadjadgpgnmaa
open Go.RowKit
set_option linter.unusedVariables false
set_option linter.unusedSimpArgs false
set_option linter.unnecessarySimpa false
def scT (K : Int) (t : Trg) : Trg := (t.1, t.2.1, t.2.2 * K)
def scQ (K : Int) (q : Trg × List Trg) : Trg × List Trg := (scT K q.1, q.2.map (scT K))
theorem P_scale (z : List Int) (K : Int) (n : Nat) : P (z.map (· * K)) n = P z n * K := by
  unfold P
  rw [← List.map_take]
  generalize z.take n = l
  induction l with
  | nil => simp
  | cons x r ih => rw [List.map_cons, List.sum_cons, List.sum_cons, ih, Int.add_mul]
theorem W_scale (z : List Int) (K : Int) (n i : Nat) : W (z.map (· * K)) n i = W z n i * K := by
  unfold W; rw [P_scale, P_scale, Int.sub_mul]
theorem reach_scale {S L p sh lg K : Int} (hK : 0 < K) : reachB S L p (sh * K) (lg * K) = reachB S L p sh lg := by
  unfold reachB
  have e1 : 100 * L * (sh * K) = 100 * L * sh * K := (Int.mul_assoc (100 * L) sh K).symm
  have e2 : p * S * (lg * K) = p * S * lg * K := (Int.mul_assoc (p * S) lg K).symm
  have c : (lg * K != 0) = (lg != 0) := by
    have : lg * K = 0 ↔ lg = 0 := by
      constructor
      · intro h
        rcases Int.mul_eq_zero.1 h with h | h
        · exact h
        · omega
      · intro h; rw [h]; simp
    by_cases h : lg = 0
    · simp [h]
    · have h2 : ¬ lg * K = 0 := fun h' => h (this.1 h')
      show (!(lg * K == 0)) = (!(lg == 0))
      rw [beq_eq_false_iff_ne.2 h2, beq_eq_false_iff_ne.2 h]
  rw [e1, e2, c]
  congr 1
  have : (100 * L * sh * K ≥ p * S * lg * K) ↔ (100 * L * sh ≥ p * S * lg) := ⟨fun h => Int.le_of_mul_le_mul_right h hK, fun h => Int.mul_le_mul_of_nonneg_right h (by omega)⟩
  simp only [this]
theorem stp_scale {S L a b : Int} {z : List Int} {base K : Int} (hK : 0 < K) (i : Nat) (q : Trg × List Trg) : stp S L a b (z.map (· * K)) base i (scQ K q) = scQ K (stp S L a b z base i q) := by
  obtain ⟨⟨o, f, p⟩, E⟩ := q
  have g : (z.map (· * K)).getD i 0 = z.getD i 0 * K := by
    simp only [List.getD_eq_getElem?_getD, List.getElem?_map]
    cases z[i]? <;> simp
  have t1 : tr1 S L a b (base + i) (W (z.map (· * K)) S.toNat i) (W (z.map (· * K)) L.toNat i) (scT K (o, f, p)) (E.map (scT K)) = scQ K (tr1 S L a b (base + i) (W z S.toNat i) (W z L.toNat i) (o, f, p) E) := by
    unfold tr1 scQ
    simp only [W_scale, reach_scale hK, scT]
    split
    · split
      · split <;> simp [scT]
      · split <;> simp [scT]
    · simp [scT]
  unfold stp
  simp only [scQ] at t1 ⊢
  rw [t1, g]
  simp only
  congr 1
  generalize (tr1 S L a b (base + i) (W z S.toNat i) (W z L.toNat i) (o, f, p) E).1 = t
  unfold tr2 scT
  simp only
  split
  · have : (z.getD i 0 * K > t.2.2 * K) ↔ (z.getD i 0 > t.2.2) := ⟨fun h => Int.lt_of_mul_lt_mul_right h (by omega), fun h => Int.mul_lt_mul_of_pos_right h hK⟩
    simp only [this]
    split <;> rfl
  · rfl
theorem runT_scale {S L a b : Int} {z : List Int} {base K : Int} (hK : 0 < K) : ∀ (k i : Nat) (q : Trg × List Trg), runT S L a b (z.map (· * K)) base k i (scQ K q) = scQ K (runT S L a b z base k i q)
  | 0, i, q => rfl
  | k + 1, i, q => by
    unfold runT
    rw [stp_scale hK, runT_scale hK k]
theorem outs_scale {S L a b : Int} {z : List Int} {K : Int} (hK : 0 < K) : outs S L a b (z.map (· * K)) = (outs S L a b z).map (scT K) := by
  unfold outs
  have e : none0 = scQ K none0 := by simp [none0, scQ, scT]
  rw [e, runT_scale hK, List.length_map, ← e]
  unfold closed scQ
  by_cases g : (runT S L a b z 0 z.length 0 none0).1.1 ≥ 0
  · have g' : (scT K (runT S L a b z 0 z.length 0 none0).1).1 ≥ 0 := g
    simp only [g, g', if_true, List.map_append, List.map_cons, List.map_nil]
  · have g' : ¬ (scT K (runT S L a b z 0 z.length 0 none0).1).1 ≥ 0 := g
    simp only [g, g', if_false]
theorem P_rep (n : Int) (N j : Nat) (h : j ≤ N) : P (List.replicate N n) j = j * n := by
  unfold P
  rw [List.take_replicate, Nat.min_eq_left h]
  clear h
  induction j with
  | zero => simp
  | succ j ih => rw [List.replicate_succ, List.sum_cons, ih]; push_cast; rw [Int.add_mul]; omega
theorem W_rep {n : Int} {N i s : Nat} (hs : s ≤ i + 1) (h : i < N) : W (List.replicate N n) s i = s * n := by
  unfold W
  rw [P_rep n N _ (by omega), P_rep n N _ (by omega), ← Int.sub_mul]
  congr 1
  omega
theorem reach_flat {S L p n : Int} (hS : 0 < S) (hL : 0 < L) (hn : 0 ≤ n) : reachB S L p (S * n) (L * n) = decide (0 < n ∧ p ≤ 100) := by
  unfold reachB
  by_cases h0 : n = 0
  · subst h0; simp
  · have hp : 0 < n := by omega
    have m1 : 0 < L * n := Int.mul_pos hL hp
    have m2 : 0 < S * (L * n) := Int.mul_pos hS m1
    have c : (L * n != 0) = true := by
      have : ¬ L * n = 0 := by omega
      simp [bne, this]
    have e1 : 100 * L * (S * n) = 100 * (S * (L * n)) := by
      rw [Int.mul_assoc, Int.mul_left_comm L S n]
    have e2 : p * S * (L * n) = p * (S * (L * n)) := by rw [Int.mul_assoc]
    rw [c, e1, e2, Bool.true_and]
    congr 1
    refine propext ⟨fun h => ⟨hp, Int.le_of_mul_le_mul_right h m2⟩, fun h => Int.mul_le_mul_of_nonneg_right h.2 (by omega)⟩
theorem stp_early {S L a b : Int} {z : List Int} {i : Nat} (h : (i : Int) + 1 < L) : stp S L a b z 0 i none0 = none0 := by
  unfold stp tr1
  have : ¬ ((0 : Int) + i + 1 ≥ L) := by omega
  simp only [this, if_false]
  rfl
theorem run_early {S L a b : Int} {z : List Int} : ∀ (k i : Nat), (i : Int) + k < L → runT S L a b z 0 k i none0 = none0
  | 0, i, h => rfl
  | k + 1, i, h => by
    unfold runT
    rw [stp_early (by omega)]
    exact run_early k (i + 1) (by omega)
theorem stp_flat {S L a b n : Int} (h : DtOk S L a b) (hn : 0 ≤ n) {N i : Nat} (hi : i < N) (q : Trg × List Trg) : stp S L a b (List.replicate N n) 0 i q = (tr2 n (if (i : Int) + 1 ≥ L then (if q.1.1 ≥ 0 then (if 0 < n ∧ b ≤ 100 then q else ((-1, 0, 0), q.2 ++ [(q.1.1, (i : Int), q.1.2.2)])) else (if 0 < n ∧ a ≤ 100 then (((i : Int), -1, 0), q.2) else q)) else q).1, (if (i : Int) + 1 ≥ L then (if q.1.1 ≥ 0 then (if 0 < n ∧ b ≤ 100 then q else ((-1, 0, 0), q.2 ++ [(q.1.1, (i : Int), q.1.2.2)])) else (if 0 < n ∧ a ≤ 100 then (((i : Int), -1, 0), q.2) else q)) else q).2) := by
  obtain ⟨h1, h2, h3, h4, h5, h6⟩ := h
  have g : (List.replicate N n).getD i 0 = n := by simp [List.getD_eq_getElem?_getD, List.getElem?_replicate, hi]
  unfold stp tr1
  rw [g, Int.zero_add]
  by_cases c : (i : Int) + 1 ≥ L
  · have w1 : W (List.replicate N n) S.toNat i = S * n := by rw [W_rep (by omega) hi]; congr 1; omega
    have w2 : W (List.replicate N n) L.toNat i = L * n := by rw [W_rep (by omega) hi]; congr 1; omega
    simp only [c, if_true, w1, w2, reach_flat (show 0 < S by omega) (show 0 < L by omega) hn, decide_eq_true_eq]
  · simp only [c, if_false]
theorem flat_none {S L a b n : Int} (h : DtOk S L a b) (hn : 0 ≤ n) {N : Nat} (hc : a > 100 ∨ n = 0) : ∀ (k i : Nat), i + k ≤ N → runT S L a b (List.replicate N n) 0 k i none0 = none0
  | 0, i, _ => rfl
  | k + 1, i, hi => by
    unfold runT
    have e : stp S L a b (List.replicate N n) 0 i none0 = none0 := by
      rw [stp_flat h hn (by omega)]
      have c1 : ¬ (none0.1.1 ≥ 0) := by simp [none0]
      have c2 : ¬ (0 < n ∧ a ≤ 100) := by omega
      simp only [c1, c2, if_false, ite_self]
      rfl
    rw [e]
    exact flat_none h hn hc k (i + 1) (by omega)
theorem flat_open {S L a b n : Int} (h : DtOk S L a b) (hn : 0 < n) {N : Nat} (hb : b ≤ 100) {o : Int} (ho : 0 ≤ o) : ∀ (k i : Nat), i + k ≤ N → runT S L a b (List.replicate N n) 0 k i ((o, -1, n), []) = ((o, -1, n), [])
  | 0, i, _ => rfl
  | k + 1, i, hi => by
    unfold runT
    have e : stp S L a b (List.replicate N n) 0 i ((o, -1, n), []) = ((o, -1, n), []) := by
      rw [stp_flat h (by omega) (by omega)]
      have c2 : 0 < n ∧ b ≤ 100 := by omega
      have c1 : o ≥ 0 := ho
      simp only [c1, c2, and_self, if_true, ite_self]
      unfold tr2
      simp only [c1, if_true, Int.lt_irrefl, gt_iff_lt, if_false]
    rw [e]
    exact flat_open h hn hb ho k (i + 1) (by omega)
theorem outs_flat {S L a b n : Int} (h : DtOk S L a b) (hn : 0 ≤ n) (N : Nat) : outs S L a b (List.replicate N n) = if a > 100 ∨ n = 0 ∨ (N : Int) < L then [] else [(L - 1, -1, n)] := by
  have ⟨h1, h2, h3, h4, h5, h6⟩ := h
  unfold outs
  rw [List.length_replicate]
  by_cases c1 : a > 100 ∨ n = 0
  · rw [flat_none h hn c1 N 0 (by omega), if_pos (by omega)]
    rfl
  · by_cases c2 : (N : Int) < L
    · rw [run_early N 0 (by omega), if_pos (by omega)]
      rfl
    · rw [if_neg (by omega)]
      obtain ⟨m, hm⟩ : ∃ m, N = (L.toNat - 1) + (m + 1) := ⟨N - L.toNat, by omega⟩
      have e1 := runT_add S L a b (List.replicate N n) 0 (L.toNat - 1) (m + 1) 0 none0
      rw [run_early (L.toNat - 1) 0 (by omega), Nat.zero_add, ← hm] at e1
      rw [e1]
      unfold runT
      have e2 : stp S L a b (List.replicate N n) 0 (L.toNat - 1) none0 = ((L - 1, -1, n), []) := by
        rw [stp_flat h hn (by omega)]
        have k1 : ((L.toNat - 1 : Nat) : Int) = L - 1 := by omega
        have k2 : L - 1 + 1 ≥ L := by omega
        have k3 : ¬ (none0.1.1 ≥ 0) := by simp [none0]
        have k4 : 0 < n ∧ a ≤ 100 := by omega
        simp only [k1, k2, k3, k4, and_self, if_true, if_false]
        unfold tr2
        have k5 : L - 1 ≥ 0 := by omega
        have k6 : n > 0 := by omega
        simp only [k5, k6, if_true]
        rfl
      rw [e2, flat_open h (by omega) (by omega) (by omega) m _ (by omega)]
      unfold closed
      have k5 : L - 1 ≥ 0 := by omega
      simp only [k5, if_true, List.nil_append]
/-- Bounds of peaks. -/
def PkIn (M : Int) (t : Trg) : Prop := 0 ≤ t.2.2 ∧ t.2.2 ≤ M
theorem run_peak {S L a b base M : Int} {z : List Int} (hM : 0 ≤ M) (hz : ∀ i, z.getD i 0 ≤ M) : ∀ (k i : Nat) (q : Trg × List Trg), PkIn M q.1 → (∀ t ∈ q.2, PkIn M t) → PkIn M (runT S L a b z base k i q).1 ∧ ∀ t ∈ (runT S L a b z base k i q).2, PkIn M t
  | 0, i, q, h1, h2 => ⟨h1, h2⟩
  | k + 1, i, q, h1, h2 => by
    unfold runT
    obtain ⟨⟨o, f, p⟩, E⟩ := q
    have key : PkIn M (tr1 S L a b (base + i) (W z S.toNat i) (W z L.toNat i) (o, f, p) E).1 ∧ ∀ t ∈ (tr1 S L a b (base + i) (W z S.toNat i) (W z L.toNat i) (o, f, p) E).2, PkIn M t := by
      unfold tr1
      split
      · split
        · split
          · exact ⟨h1, h2⟩
          · refine ⟨⟨by simp, hM⟩, fun t ht => ?_⟩
            rcases List.mem_append.1 ht with ht | ht
            · exact h2 t ht
            · simp at ht; subst ht; exact h1
        · split
          · exact ⟨⟨by simp, hM⟩, h2⟩
          · exact ⟨h1, h2⟩
      · exact ⟨h1, h2⟩
    refine run_peak hM hz k (i + 1) _ ?_ key.2
    have hv := hz i
    unfold stp tr2
    simp only
    split
    · refine ⟨?_, ?_⟩
      · simp only; have := key.1.1; split <;> omega
      · simp only; have := key.1.2; split <;> omega
    · exact key.1
theorem outs_peak {S L a b M : Int} {z : List Int} (hM : 0 ≤ M) (hz : ∀ v ∈ z, v ≤ M) : ∀ t ∈ outs S L a b z, PkIn M t := by
  have hz' : ∀ i, z.getD i 0 ≤ M := fun i => by
    rw [List.getD_eq_getElem?_getD]
    cases e : z[i]? with
    | none => exact hM
    | some v => exact hz v (List.mem_of_getElem? e)
  have ⟨k1, k2⟩ := run_peak (S := S) (L := L) (a := a) (b := b) (base := 0) hM hz' z.length 0 none0 ⟨by simp [none0], hM⟩ (fun t ht => by cases ht)
  intro t ht
  unfold outs closed at ht
  split at ht
  · rcases List.mem_append.1 ht with ht | ht
    · exact k2 t ht
    · simp at ht; subst ht; exact k1
  · exact k2 t ht
theorem scal_loop {xs : List Int} (hs : Small xs) (hl : xs.length ≤ 60) {k n S L a b : Int} (hk : -128 ≤ k ∧ k ≤ 127) (hn : 0 ≤ n ∧ n ≤ 255) : ∀ (m i fu : Nat) (F : List Int), m < fu → i + m = xs.length → F.length = i → (∀ v ∈ F, v = n ∨ v = -n) →
    ∃ F', (F4_l15 600).L fu (rowsI ((xs.take i).map (· * k)), rowsI F, rowsI xs, rowsI xs, n, k, (xs.length : Int), (i : Int), S, L, a, b) = some (rowsI (xs.map (· * k)), rowsI F', rowsI xs, n, k, S, L, a, b) ∧ F'.length = xs.length ∧ ∀ v ∈ F', v = n ∨ v = -n
  | 0, i, fu, F, hf, hi, hF, hv => by
    obtain ⟨f, rfl⟩ : ∃ f', fu = f' + 1 := ⟨fu - 1, by omega⟩
    refine ⟨F, ?_, by omega, hv⟩
    show (F4_l15 600).b _ _ ((F4_l15 600).L f) some = _
    have c : decide ((i : Int) < (xs.length : Int)) = false := by simp; omega
    simp only [F4_l15, c, List.take_of_length_le (show xs.length ≤ i by omega)]
  | m + 1, i, fu, F, hf, hi, hF, hv => by
    obtain ⟨f, rfl⟩ : ∃ f', fu = f' + 1 := ⟨fu - 1, by omega⟩
    have hlt : i < xs.length := by omega
    have hx := hs _ (List.getElem_mem hlt)
    have c1 : decide ((i : Int) < (xs.length : Int)) = true := by simp; omega
    have c2 : (0 : Int) ≤ (i : Int) := by omega
    have c4 : i64 ((i : Int) + 1) = ((i + 1 : Nat) : Int) := by rw [i64_id (by omega)]; omega
    have b1 : ∀ (l : List Int) (r : List AV), l.length ≤ 60 → ((rowsI l).length + [r].length) * 8 ≤ maxBytes := fun l r h => by
      rw [rowsI_len]; unfold maxBytes; simp; omega
    have hw : IntKind.i64.wrap n = n := i64_id (by omega)
    have hfl : i64 (n * i64 (1 - i64 (2 * (i : Int).tmod 2))) = n ∨ i64 (n * i64 (1 - i64 (2 * (i : Int).tmod 2))) = -n := by
      have h2 := Int.tmod_nonneg (a := (i : Int)) 2 (by omega)
      have h3 := Int.tmod_lt_of_pos (i : Int) (show (0 : Int) < 2 by omega)
      have : (i : Int).tmod 2 = 0 ∨ (i : Int).tmod 2 = 1 := by omega
      rcases this with h | h
      · left; rw [h, i64_id (x := 2 * 0) (by omega), i64_id (x := 1 - 2 * 0) (by omega), i64_id (by omega)]; omega
      · right; rw [h, i64_id (x := 2 * 1) (by omega), i64_id (x := 1 - 2 * 1) (by omega), i64_id (by omega)]; omega
    have hk1 : xs[i] * k ≤ 79 * 128 ∧ -(79 * 128) ≤ xs[i] * k := by
      have p1 : (xs[i] * k).natAbs ≤ 79 * 128 := by
        rw [Int.natAbs_mul]; exact Nat.mul_le_mul (by omega) (by omega)
      omega
    have hk2 : i64 (xs[i] * k) = xs[i] * k := i64_id (by omega)
    have hY : (xs.take i).map (· * k) ++ [xs[i] * k] = (xs.take (i + 1)).map (· * k) := by
      rw [List.take_add_one, List.getElem?_eq_getElem hlt, List.map_append]; rfl
    obtain ⟨F', r, r2, r3⟩ := scal_loop hs hl hk hn (S := S) (L := L) (a := a) (b := b) m (i + 1) f (F ++ [i64 (n * i64 (1 - i64 (2 * (i : Int).tmod 2)))]) (by omega) (by omega) (by simp [hF]) (fun v hv' => by
      rcases List.mem_append.1 hv' with h | h
      · exact hv v h
      · simp at h; subst h; exact hfl)
    refine ⟨F', ?_, r2, r3⟩
    show (F4_l15 600).b _ _ ((F4_l15 600).L f) some = _
    obtain ⟨Lf, hL⟩ : ∃ Lf, Lf = (F4_l15 600).L f := ⟨_, rfl⟩
    rw [← hL] at r ⊢
    have b2 := b1 ((xs.take i).map (· * k)) [(AV.v (.int .i64 (xs[i] * k)))] (by simp; omega)
    have b3 := b1 F [(AV.v (.int .i64 (i64 (n * i64 (1 - i64 (2 * (i : Int).tmod 2))))))] (by omega)
    simp only [F4_l15, c1, c2, if_true, Int.toNat_natCast, rowsI_get xs i hlt, List.getElem?_cons_zero, hk2, hw, b2, b3, rowsI_snoc, hY, c4]
    exact r
theorem scmp_loop {X F : List (List AV)} {E : List Trg} (hE : ∀ t ∈ E, PkIn 79 t) (hl : E.length ≤ 100) {k n S L a b : Int} (hk : -128 ≤ k ∧ k ≤ 127) : ∀ (m i fu : Nat), m < fu → i + m = E.length →
    (F4_l32 600).L fu (X, rowsT E, rowsT (E.map (scT (ab k))), F, n, k, (E.length : Int), (i : Int), S, L, a, b) = some (.inr (X, F, n, S, L, a, b))
  | 0, i, fu, hf, hi => by
    obtain ⟨f, rfl⟩ : ∃ f', fu = f' + 1 := ⟨fu - 1, by omega⟩
    show (F4_l32 600).b _ _ ((F4_l32 600).L f) some = _
    have c : decide ((i : Int) < (E.length : Int)) = false := by simp; omega
    simp only [F4_l32, c]
  | m + 1, i, fu, hf, hi => by
    obtain ⟨f, rfl⟩ : ∃ f', fu = f' + 1 := ⟨fu - 1, by omega⟩
    have hlt : i < E.length := by omega
    have hp := hE _ (List.getElem_mem hlt)
    unfold PkIn at hp
    have c1 : decide ((i : Int) < (E.length : Int)) = true := by simp; omega
    have c2 : (0 : Int) ≤ (i : Int) := by omega
    have c4 : i64 ((i : Int) + 1) = ((i + 1 : Nat) : Int) := by rw [i64_id (by omega)]; omega
    have hlt2 : i < (E.map (scT (ab k))).length := by simp; omega
    have e0 : i64 (0 - k) = -k := by rw [i64_id (by omega)]; omega
    have eab : (if -k > k then -k else k) = ab k := rfl
    have hab : 0 ≤ ab k ∧ ab k ≤ 128 := by unfold ab; split <;> omega
    have p1 : (E[i].2.2 * ab k).natAbs ≤ 79 * 128 := by
      rw [Int.natAbs_mul]; exact Nat.mul_le_mul (by omega) (by omega)
    have ep : i64 (E[i].2.2 * ab k) = E[i].2.2 * ab k := i64_id (by omega)
    have g2 := rowsT_get (E.map (scT (ab k))) i hlt2
    rw [List.getElem_map] at g2
    have r := scmp_loop (X := X) (F := F) (n := n) (S := S) (L := L) (a := a) (b := b) hE hl hk m (i + 1) f (by omega) (by omega)
    show (F4_l32 600).b _ _ ((F4_l32 600).L f) some = _
    obtain ⟨Lf, hL⟩ : ∃ Lf, Lf = (F4_l32 600).L f := ⟨_, rfl⟩
    rw [← hL] at r ⊢
    simp only [F4_l32, c1, c2, if_true, Int.toNat_natCast, rowsT_get E i hlt, g2, scT, List.drop_zero, List.drop_succ_cons, List.getElem?_cons_zero, bne_self_eq_false, e0, eab, ep, c4]
    exact r
theorem Small.smp {w : List Int} (h : Small w) : ∀ x ∈ w, Smp x := fun x hx => by
  have := h x hx
  unfold Smp; omega
theorem ab_mul (x k : Int) : ab (x * k) = ab x * ab k := by
  have e : ∀ y : Int, ab y = (y.natAbs : Int) := fun y => by unfold ab; split <;> omega
  rw [e, e, e, Int.natAbs_mul]
  push_cast
  rfl
theorem scales_tail {xs : List Int} (hs : Small xs) (hl : 1 ≤ xs.length ∧ xs.length ≤ 40) {k n S L a b : Int} (h : DtOk S L a b) (hk : -128 ≤ k ∧ k ≤ 127) (hk0 : k ≠ 0) (hn : 0 ≤ n ∧ n ≤ 255) :
    ∃ F, (F4_l15 600).L 600 (([] : List (List AV)), ([] : List (List AV)), rowsI xs, rowsI xs, n, k, (xs.length : Int), 0, S, L, a, b) = some (rowsI (xs.map (· * k)), rowsI F, rowsI xs, n, k, S, L, a, b) ∧
      F13_d 600 (S, L, a, b, rowsI xs) = some (rowsT (outs S L a b (xs.map ab)), 0) ∧ F13_d 600 (S, L, a, b, rowsI (xs.map (· * k))) = some (rowsT ((outs S L a b (xs.map ab)).map (scT (ab k))), 0) ∧
      F13_d 600 (S, L, a, b, rowsI F) = some (rowsT (if a > 100 ∨ n = 0 ∨ (xs.length : Int) < L then [] else [(L - 1, -1, n)]), 0) ∧
      (F4_l32 600).L 600 (rowsI xs, rowsT (outs S L a b (xs.map ab)), rowsT ((outs S L a b (xs.map ab)).map (scT (ab k))), rowsT (if a > 100 ∨ n = 0 ∨ (xs.length : Int) < L then [] else [(L - 1, -1, n)]), n, k, ((outs S L a b (xs.map ab)).length : Int), 0, S, L, a, b) = some (.inr (rowsI xs, rowsT (if a > 100 ∨ n = 0 ∨ (xs.length : Int) < L then [] else [(L - 1, -1, n)]), n, S, L, a, b)) := by
  obtain ⟨F, r1, r2, r3⟩ := scal_loop hs (by omega) (S := S) (L := L) (a := a) (b := b) hk hn xs.length 0 600 [] (by omega) (by omega) rfl (fun v hv => by cases hv)
  have hF : F.map ab = List.replicate xs.length n := by
    rw [List.eq_replicate_iff]
    refine ⟨by simp [r2], fun v hv => ?_⟩
    obtain ⟨x, hx, rfl⟩ := List.mem_map.1 hv
    rcases r3 x hx with e | e <;> rw [e] <;> unfold ab <;> split <;> omega
  have hFs : ∀ x ∈ F, Smp x := fun x hx => by
    rcases r3 x hx with e | e <;> rw [e] <;> unfold Smp <;> omega
  have hY : (xs.map (· * k)).map ab = (xs.map ab).map (· * ab k) := by
    rw [List.map_map, List.map_map]
    exact List.map_congr_left fun x _ => ab_mul x k
  have hYs : ∀ x ∈ xs.map (· * k), Smp x := fun x hx => by
    obtain ⟨v, hv, rfl⟩ := List.mem_map.1 hx
    have := hs v hv
    have p1 : (v * k).natAbs ≤ 79 * 128 := by
      rw [Int.natAbs_mul]; exact Nat.mul_le_mul (by omega) (by omega)
    unfold Smp; omega
  have hK : 0 < ab k := by unfold ab; split <;> omega
  have l1 : (outs S L a b (xs.map ab)).length ≤ 41 := by
    unfold outs closed
    have := runT_len S L a b (xs.map ab) 0 (xs.map ab).length 0 none0
    rw [List.length_map] at this
    simp only [none0, List.length_nil] at this
    split
    · rw [List.length_append, List.length_singleton]; simp only [none0, List.length_map]; omega
    · simp only [none0, List.length_map]; omega
  have pk : ∀ t ∈ outs S L a b (xs.map ab), PkIn 79 t := outs_peak (by omega) fun v hv => by
    obtain ⟨x, hx, rfl⟩ := List.mem_map.1 hv
    have := hs x hx
    unfold ab; split <;> omega
  have q1 := run_ok h hs.smp (by omega)
  have q2 := run_ok h hYs (by simp; omega)
  have q3 := run_ok h hFs (by omega)
  rw [hY, outs_scale hK] at q2
  rw [hF, outs_flat h hn.1] at q3
  exact ⟨F, r1, q1, q2, q3, scmp_loop pk (by omega) hk (outs S L a b (xs.map ab)).length 0 600 (by omega) (by omega)⟩
theorem scales_ok (xs : List Int) (hx : ∀ x ∈ xs, -9223372036854775808 ≤ x ∧ x ≤ 9223372036854775807) (y n : Int) (hy : -128 ≤ y ∧ y ≤ 127) (hn : 0 ≤ n ∧ n ≤ 255) : F4_d 600 (rowsI xs, y, n) = some true := by
  simp only [F4_d, FSpec.d, F4_s, light_ok]
  by_cases hl : (xs.length : Int) ≤ 500
  · have D : Dice xs 0 := ⟨hx, by omega, by omega, by omega⟩
    have hroll : F10_d 600 (rowsI xs) = some (rowsI xs, 0) := rfl
    obtain ⟨S, L, a, b, p1, d1, hd, hd2, D1⟩ := det_ok D
    obtain ⟨w, p2, w1, w2, hs, D2⟩ := wave_ok (n := 40) (by omega) D1
    have hw : IntKind.i64.wrap y = y := i64_id (by omega)
    have hwn : IntKind.i64.wrap n = n := i64_id (by omega)
    have hd3 := hd.s1
    have hd4 := hd.sl
    have hL1 : i64 (L - 1) = L - 1 := i64_id (by omega)
    obtain ⟨k, hk, hk0, hkk⟩ : ∃ k : Int, (-128 ≤ k ∧ k ≤ 127) ∧ k ≠ 0 ∧ k = (if y = 0 then 5 else y) := ⟨_, by split <;> omega, by split <;> omega, rfl⟩
    obtain ⟨F, r1, r2, r3, r4, r5⟩ := scales_tail hs (by omega) hd hk hk0 hn
    by_cases hy0 : y = 0
    · have hk5 : k = 5 := by rw [hkk, if_pos hy0]
      subst hk5
      have cy : (y == 0) = true := by simp [hy0]
      by_cases g : a > 100 ∨ n = 0 ∨ (w.length : Int) < L
      · rw [if_pos g] at r4 r5
        simp only [hl, decide_true, Bool.not_true, hroll, d1, w1, hw, cy, rowsI_len, F4_d15, r1, r2, r3, r4, bne_self_eq_false, rowsT_len, List.length_map, F4_d32, r5, sane_ok]
        by_cases c1 : a > 100
        · simp only [c1, decide_true]; rfl
        · by_cases c2 : n = 0
          · simp only [c1, c2, decide_false, beq_self_eq_true]; rfl
          · have c2' : (n == 0) = false := by simp [c2]
            have c3 : (w.length : Int) < L := by omega
            simp only [c1, c2', c3, decide_false, decide_true]; rfl
      · rw [if_neg g] at r4 r5
        have c1 : ¬ a > 100 := by omega
        have c2' : (n == 0) = false := by simp; omega
        have c3 : ¬ (w.length : Int) < L := by omega
        have g0 : (rowsT [(L - 1, -1, n)])[(0 : Int).toNat]? = some [I (L - 1), I (-1), I n] := rfl
        have z0 : (0 : Int) ≤ 0 := by omega
        have l1 : (((rowsT [(L - 1, -1, n)]).length : Int) == 1) = true := rfl
        simp only [hl, decide_true, Bool.not_true, hroll, d1, w1, hw, cy, rowsI_len, F4_d15, r1, r2, r3, r4, bne_self_eq_false, rowsT_len, List.length_map, F4_d32, r5, sane_ok, c1, c2', c3, decide_false]
        simp [rowsT, hL1, hwn]
    · have hky : k = y := by rw [hkk, if_neg hy0]
      subst hky
      have cy : (k == 0) = false := by simp [hy0]
      by_cases g : a > 100 ∨ n = 0 ∨ (w.length : Int) < L
      · rw [if_pos g] at r4 r5
        simp only [hl, decide_true, Bool.not_true, hroll, d1, w1, hw, cy, rowsI_len, F4_d15, r1, r2, r3, r4, bne_self_eq_false, rowsT_len, List.length_map, F4_d32, r5, sane_ok]
        by_cases c1 : a > 100
        · simp only [c1, decide_true]; rfl
        · by_cases c2 : n = 0
          · simp only [c1, c2, decide_false, beq_self_eq_true]; rfl
          · have c2' : (n == 0) = false := by simp [c2]
            have c3 : (w.length : Int) < L := by omega
            simp only [c1, c2', c3, decide_false, decide_true]; rfl
      · rw [if_neg g] at r4 r5
        have c1 : ¬ a > 100 := by omega
        have c2' : (n == 0) = false := by simp; omega
        have c3 : ¬ (w.length : Int) < L := by omega
        simp only [hl, decide_true, Bool.not_true, hroll, d1, w1, hw, cy, rowsI_len, F4_d15, r1, r2, r3, r4, bne_self_eq_false, rowsT_len, List.length_map, F4_d32, r5, sane_ok, c1, c2', c3, decide_false]
        simp [rowsT, hL1, hwn]
  · simp only [hl, decide_false, Bool.not_false, sane_ok]
theorem detector_scales (a : Option Addr) (len cap : Nat) (y n : Int) (W : World) (hr : IntsIn W (.slice a len cap)) (hy : -128 ≤ y ∧ y ≤ 127) (hn : 0 ≤ n ∧ n ≤ 255) :
    Calls Try.prog 4 #[.slice a len cap, .int .i8 y, .int .u8 n] W fun e w' => e = .returned (.bool true) ∧ Below W.heap.size W w' := by
  obtain ⟨xs, h1, h2, h3⟩ := hr
  have ok := (F4_e 600).ok (rowsI xs, y, n) true (scales_ok xs h1 y n hy hn)
  refine CallOk.calls (args := [.list 1 (rowsI xs) none, .v (.int .i8 y), .v (.int .u8 n)]) ok W _ rfl (fun i h h' => ?_)
  have : i = 0 ∨ i = 1 ∨ i = 2 := by simp at h; omega
  rcases this with rfl | rfl | rfl
  · exact h3 _ _
  · exact .v
  · exact .v
end Go.Proofs.Ytaiadjadgpgnmaa
