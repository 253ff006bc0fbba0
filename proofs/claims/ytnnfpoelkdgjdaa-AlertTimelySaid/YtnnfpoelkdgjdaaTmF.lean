/- Several texts as one (written by pack.py). -/
import Derived.Test.YtnnfpoelkdgjdaaTmE
section
namespace Go.Proofs.Ytnnfpoelkdgjdaa
open Go.RowKit
set_option linter.unusedVariables false
set_option linter.unusedSimpArgs false
set_option linter.unnecessarySimpa false
def rowM (q : Int × Int) : List AV := [AV.v (.int .i64 q.1), AV.v (.int .i64 q.2)]
def mi (i : Int) : List (Int × Int) → Option Int
  | [] => none
  | q :: M => if i = q.1 then some q.2 else mi i M
def mput (i v : Int) : List (Int × Int) → List (Int × Int)
  | [] => [(i, v)]
  | q :: M => if i = q.1 then (i, v) :: M else q :: mput i v M
theorem eqCsM (i : Int) (q : Int × Int) : eqCs [AV.v (.int .i64 i)] (rowM q) = (i == q.1) := by
  show ((i == q.1) && true) = _
  rw [Bool.and_true]
theorem mpInt_mi (i : Int) : ∀ M : List (Int × Int), mpInt [AV.v (.int .i64 i)] (M.map rowM) = mi i M
  | [] => rfl
  | q :: M => by
    have ih := mpInt_mi i M
    unfold mpInt at ih ⊢
    simp only [List.map_cons, mpFind, eqCsM, mi]
    by_cases h : i = q.1
    · have e : (i == q.1) = true := by simp [h]
      rw [e, if_pos h]; rfl
    · have e : (i == q.1) = false := by simp [h]
      rw [e, if_neg h]; exact ih
theorem mpPut_mput (i v : Int) : ∀ M : List (Int × Int), mpPut [AV.v (.int .i64 i)] [AV.v (.int .i64 i), AV.v (.int .i64 v)] (M.map rowM) = (mput i v M).map rowM
  | [] => rfl
  | q :: M => by
    simp only [List.map_cons, mpPut, eqCsM, mput]
    by_cases h : i = q.1
    · have e : (i == q.1) = true := by simp [h]
      rw [e, if_pos h]; rfl
    · have e : (i == q.1) = false := by simp [h]
      rw [e, if_neg h, mpPut_mput i v M]; rfl
theorem mi_mput (i v j : Int) : ∀ M : List (Int × Int), mi j (mput i v M) = if j = i then some v else mi j M
  | [] => by simp only [mput, mi]
  | q :: M => by
    unfold mput
    by_cases h : i = q.1
    · rw [if_pos h]
      simp only [mi]
      by_cases h2 : j = i
      · rw [if_pos h2, if_pos h2]
      · rw [if_neg h2, if_neg h2, if_neg (by omega)]
    · rw [if_neg h]
      simp only [mi, mi_mput i v j M]
      by_cases h2 : j = i
      · have h3 : ¬ j = q.1 := by omega
        simp only [h2, h3, h, if_true, if_false]
      · simp only [h2, if_false]
def Good (L : List RT4) (di ev now : Int) (E : List RT0) (M : List (Int × Int)) (b : RT6) : Prop :=
  (kiB b = 1 ∧ idB b = nuB b ∧ tmF L di ev now (evB b) = true ∧ evB b ∈ E) ∨
  (kiB b = 2 ∧ (∃ t, mi (idB b) M = some t ∧ 0 ≤ t ∧ t ≤ now ∧ now - t ≥ ev) ∧ lvB b = lvF L di ev (evB b)) ∨
  (kiB b = 3 ∧ ∃ t, mi (idB b) M = some t)
theorem evB_s (b : RT6) : Rs6_5_25 b = evB b := rfl
theorem evB_n (b : RT6) : Rs6_5_9 b = nmE (evB b) := rfl
theorem told_ok {L : List RT4} {di ev now number : Int} {E : List RT0} (P : Pol L di ev) (hE : E.length ≤ 500) (hnow : 0 ≤ now ∧ now ≤ 1000000) (hnum : 0 ≤ number ∧ number ≤ 1000) (b0 T1 src : List (List AV)) (i p : Int) (T : List RT6) (hT : T.length ≤ 500) (M0 : List (Int × Int)) (hn : ∀ k (h : k < T.length), nuB T[k] = number + k) (ha : ∀ b ∈ T, atB b = now) (hg : ∀ b ∈ T, Good L di ev now E M0 b) (hd : T.Pairwise fun a b => idB a ≠ idB b) :
    ∀ (d k f : Nat) (M : List (Int × Int)), k + d = T.length → d < f → (∀ j, mi j M = if ∃ m, ∃ h : m < T.length, m < k ∧ idB T[m] = j then some now else mi j M0) →
    ∃ M', (F3_l25 600).L f (E.map Ren0, b0, T1, T.map Ren6, number, now, i, (T.length : Int), (k : Int), L.map Ren4, di, ev, src, p, M.map rowM) = some (.inr (b0, T1, number, now, i, L.map Ren4, di, ev, src, p, M'.map rowM)) ∧ ∀ j, mi j M' = if ∃ b ∈ T, idB b = j then some now else mi j M0 := by
  intro d
  induction d with
  | zero =>
    intro k f M hk hf hM
    obtain ⟨f, rfl⟩ : ∃ f', f = f' + 1 := ⟨f - 1, by omega⟩
    refine ⟨M, ?_, fun j => ?_⟩
    · show (F3_l25 600).b _ _ ((F3_l25 600).L f) some = _
      simp only [F3_l25]
      have e2 : decide ((k : Int) < (T.length : Int)) = false := by rw [decide_eq_false_iff_not]; omega
      simp only [e2]
    · rw [hM j]
      by_cases h : ∃ b ∈ T, idB b = j
      · rw [if_pos h, if_pos ?_]
        obtain ⟨b, hb, e⟩ := h
        obtain ⟨m, hm, e2⟩ := List.getElem_of_mem hb
        exact ⟨m, hm, by omega, by rw [e2]; exact e⟩
      · rw [if_neg h, if_neg ?_]
        rintro ⟨m, hm, _, e⟩
        exact h ⟨_, List.getElem_mem hm, e⟩
  | succ d ih =>
    intro k f M hk hf hM
    obtain ⟨f, rfl⟩ : ∃ f', f = f' + 1 := ⟨f - 1, by omega⟩
    have hkl : k < T.length := by omega
    have e2 : decide ((k : Int) < (T.length : Int)) = true := by rw [decide_eq_true_iff]; omega
    have e3 : (0 : Int) ≤ (k : Int) := by omega
    obtain ⟨b, hb⟩ : ∃ b, T[k] = b := ⟨_, rfl⟩
    have hbT : b ∈ T := by rw [← hb]; exact List.getElem_mem hkl
    have hnb : nuB b = number + k := by rw [← hb]; exact hn k hkl
    have hab := ha b hbT
    have hmi : mi (idB b) M = mi (idB b) M0 := by
      rw [hM, if_neg]
      rintro ⟨m, hm, hmk, e⟩
      refine List.pairwise_iff_getElem.1 hd m k hm hkl hmk ?_
      rw [e, hb]
    obtain ⟨M', r1, r2⟩ := ih (k + 1) f (mput (idB b) now M) (by omega) (by omega) (fun j => by
      rw [mi_mput, hM j]
      by_cases h : j = idB b
      · rw [if_pos h, if_pos ⟨k, hkl, by omega, by rw [hb, h]⟩]
      · rw [if_neg h]
        by_cases h2 : ∃ m, ∃ h : m < T.length, m < k ∧ idB T[m] = j
        · obtain ⟨m, q1, q2, q3⟩ := h2
          rw [if_pos ⟨m, q1, q2, q3⟩, if_pos ⟨m, q1, by omega, q3⟩]
        · rw [if_neg h2, if_neg]
          rintro ⟨m, q1, q2, q3⟩
          by_cases hmk : m = k
          · subst hmk; rw [hb] at q3; exact h q3.symm
          · exact h2 ⟨m, q1, by omega, q3⟩)
    refine ⟨M', ?_, r2⟩
    have e4 : i64 (number + (k : Int)) = number + k := i64_id (by omega)
    have e5 : (nuB b != number + (k : Int)) = false := by rw [hnb]; simp
    have e6 : (atB b != now) = false := by rw [hab]; simp
    have hput := mpPut_mput (idB b) now M
    have hint := mpInt_mi (idB b) M
    rw [hmi] at hint
    show (F3_l25 600).b _ _ ((F3_l25 600).L f) some = _
    obtain ⟨Lf, hLf⟩ : ∃ Lf, Lf = (F3_l25 600).L f := ⟨_, rfl⟩
    rw [← hLf] at r1 ⊢
    simp only [F3_l25]
    simp only [e2, e3, if_true, Int.toNat_natCast, get6 T k hkl, hb, Rrd6_en, e4, e5, e6, hput, nat_succ (show k < 1000000 by omega)]
    rcases hg b hbT with ⟨k1, k2, k3, k4⟩ | ⟨k1, ⟨t, k2, k5, k6, k3⟩, k4⟩ | ⟨k1, t, k2⟩
    · have c1 : (kiB b == 1) = true := by rw [k1]; rfl
      have c2 : (idB b != nuB b) = false := by rw [k2]; simp
      have c3 := tmF_ok P (evB b) now
      rw [k3] at c3
      obtain ⟨v, v1, v2⟩ := rindex_ok E (nmE (evB b)) hE
      have c4 : decide (v < 0) = false := by
        rw [decide_eq_false_iff_not]
        rcases v2 with ⟨m, hm, _, rfl⟩ | ⟨hno, _⟩
        · omega
        · obtain ⟨m, hm, e⟩ := List.getElem_of_mem k4
          exact absurd (by rw [e]) (hno m hm)
      simp only [c1, c2, evB_s, evB_n, c3, Bool.not_true, v1, c4]
      exact r1
    · have c1 : (kiB b == 1) = false := by rw [k1]; rfl
      have c2 : (kiB b == 2) = true := by rw [k1]; rfl
      rw [k2] at hint
      have c3 : i64 (now - t) = now - t := i64_id (by omega)
      have c4 : decide (now - t < ev) = false := by rw [decide_eq_false_iff_not]; omega
      have c5 : (lvB b != lvF L di ev (evB b)) = false := by rw [k4]; simp
      simp only [c1, c2, hint, Option.isSome_some, Option.getD_some, Bool.not_true, c3, c4, evB_s, lvR_ok P, c5]
      exact r1
    · have c1 : (kiB b == 1) = false := by rw [k1]; rfl
      have c2 : (kiB b == 2) = false := by rw [k1]; rfl
      have c3 : (kiB b == 3) = true := by rw [k1]; rfl
      rw [k2] at hint
      simp only [c1, c2, c3, hint, Option.isSome_some, Bool.not_true]
      exact r1
section
variable (lv : RT0 → Int) (mv : RT0 → RT0 → Bool) (tm : RT0 → Bool) (ev now : Int) (E : List RT0)
theorem ph1_num : ∀ (A : List RT3) (o : List Int) (n : Int) (k : Nat) (h : k < (ph1 lv mv ev now E A o n).2.length), nuB (ph1 lv mv ev now E A o n).2[k] = n + k
  | [], o, n, k, h => by simp [ph1] at h
  | a :: A, [], n, k, h => by simp [ph1] at h
  | a :: A, i :: o, n, k, h => by
    by_cases h0 : (s1 lv mv ev now a (evI E i)).2 = 0
    · have e : (ph1 lv mv ev now E (a :: A) (i :: o) n).2 = (ph1 lv mv ev now E A o n).2 := by rw [ph1]; simp only [h0, if_true, List.nil_append]
      simp only [e]
      rw [e] at h
      exact ph1_num A o n k h
    · have e : (ph1 lv mv ev now E (a :: A) (i :: o) n).2 = bul n (s1 lv mv ev now a (evI E i)).2 (s1 lv mv ev now a (evI E i)).1 now :: (ph1 lv mv ev now E A o (n + 1)).2 := by rw [ph1]; simp only [h0, if_false]; rfl
      simp only [e]
      rw [e] at h
      cases k with
      | zero => show n = _; omega
      | succ k =>
        rw [List.getElem_cons_succ, ph1_num A o (n + 1) k (by simpa using h)]
        omega
theorem ph2_num (fw : Nat → Bool) : ∀ (R : List RT0) (i : Nat) (n : Int) (k : Nat) (h : k < (ph2 lv tm now fw R i n).2.length), nuB (ph2 lv tm now fw R i n).2[k] = n + k
  | [], i, n, k, h => by simp [ph2] at h
  | e :: R, i, n, k, h => by
    by_cases hc : fw i = false ∧ tm e = true
    · have e1 : (ph2 lv tm now fw (e :: R) i n).2 = bul n 1 (mkA n false (nmE e) (lv e) e now) now :: (ph2 lv tm now fw R (i + 1) (n + 1)).2 := by rw [ph2, if_pos hc]
      simp only [e1]
      rw [e1] at h
      cases k with
      | zero => show n = _; omega
      | succ k =>
        rw [List.getElem_cons_succ, ph2_num fw R (i + 1) (n + 1) k (by simpa using h)]
        omega
    · have e1 : (ph2 lv tm now fw (e :: R) i n).2 = (ph2 lv tm now fw R (i + 1) n).2 := by rw [ph2, if_neg hc]
      simp only [e1]
      rw [e1] at h
      exact ph2_num fw R (i + 1) n k h
theorem ph1_bul : ∀ (A : List RT3) (o : List Int) (n : Int), ∀ b ∈ (ph1 lv mv ev now E A o n).2, ∃ k, ∃ h : k < A.length, ∃ h' : k < o.length, (s1 lv mv ev now A[k] (evI E o[k])).2 ≠ 0 ∧ ∃ m, b = bul m (s1 lv mv ev now A[k] (evI E o[k])).2 (s1 lv mv ev now A[k] (evI E o[k])).1 now
  | [], o, n => fun b h => by simp [ph1] at h
  | a :: A, [], n => fun b h => by simp [ph1] at h
  | a :: A, i :: o, n => fun b hb => by
    unfold ph1 at hb
    rcases List.mem_append.1 hb with h | h
    · by_cases h0 : (s1 lv mv ev now a (evI E i)).2 = 0
      · simp only [h0, if_true] at h; cases h
      · simp only [h0, if_false] at h
        exact ⟨0, by simp, by simp, h0, n, List.mem_singleton.1 h⟩
    · obtain ⟨k, h1, h2, h3, m, h4⟩ := ph1_bul A o _ b h
      exact ⟨k + 1, by simpa using h1, by simpa using h2, h3, m, h4⟩
theorem ph1_ids : ∀ (A : List RT3) (o : List Int) (n : Int), (A.Pairwise fun a b => idA a < idA b) → (ph1 lv mv ev now E A o n).2.Pairwise fun a b => idB a ≠ idB b
  | [], o, n, h => by simp [ph1]
  | a :: A, [], n, h => by simp [ph1]
  | a :: A, i :: o, n, h => by
    rw [List.pairwise_cons] at h
    unfold ph1
    rw [List.pairwise_append]
    refine ⟨?_, ph1_ids A o _ h.2, fun x hx y hy e => ?_⟩
    · split <;> simp
    · by_cases h0 : (s1 lv mv ev now a (evI E i)).2 = 0
      · simp only [h0, if_true] at hx; cases hx
      · simp only [h0, if_false] at hx
        have hx := List.mem_singleton.1 hx
        obtain ⟨k, h1, h2, h3, m, h4⟩ := ph1_bul lv mv ev now E A o _ y hy
        rw [hx, h4] at e
        have e : idA (s1 lv mv ev now a (evI E i)).1 = idA (s1 lv mv ev now A[k] (evI E o[k])).1 := e
        rw [s1_id, s1_id] at e
        have := h.1 _ (List.getElem_mem h1)
        omega
theorem ph1_has : ∀ (A : List RT3) (o : List Int) (n : Int), A.length = o.length → ∀ k (h : k < A.length) (h' : k < o.length), (s1 lv mv ev now A[k] (evI E o[k])).2 ≠ 0 → ∃ b ∈ (ph1 lv mv ev now E A o n).2, idB b = idA A[k]
  | [], o, n, hl, k, h, h', h0 => by cases h
  | a :: A, [], n, hl, k, h, h', h0 => by cases h'
  | a :: A, i :: o, n, hl, k, h, h', h0 => by
    unfold ph1
    cases k with
    | zero =>
      simp only [List.getElem_cons_zero] at h0 ⊢
      refine ⟨bul n (s1 lv mv ev now a (evI E i)).2 (s1 lv mv ev now a (evI E i)).1 now, List.mem_append_left _ ?_, s1_id lv mv ev now a (evI E i)⟩
      rw [if_neg h0]
      exact List.mem_singleton.2 rfl
    | succ k =>
      obtain ⟨b, hb, e⟩ := ph1_has A o (if (s1 lv mv ev now a (evI E i)).2 = 0 then n else n + 1) (by simpa using hl) k (by simpa using h) (by simpa using h') (by simpa using h0)
      exact ⟨b, List.mem_append_right _ hb, by simpa using e⟩
theorem ph2_has (fw : Nat → Bool) : ∀ (R : List RT0) (i : Nat) (n : Int), ∀ a ∈ (ph2 lv tm now fw R i n).1, ∃ b ∈ (ph2 lv tm now fw R i n).2, idB b = idA a
  | [], i, n => fun a h => by simp [ph2] at h
  | e :: R, i, n => fun a ha => by
    by_cases hc : fw i = false ∧ tm e = true
    · rw [ph2, if_pos hc] at ha ⊢
      rcases List.mem_cons.1 ha with h | h
      · exact ⟨_, List.mem_cons_self, by rw [h]; rfl⟩
      · obtain ⟨b, hb, e2⟩ := ph2_has fw R (i + 1) (n + 1) a h
        exact ⟨b, List.mem_cons_of_mem _ hb, e2⟩
    · rw [ph2, if_neg hc] at ha ⊢
      exact ph2_has fw R (i + 1) n a ha
theorem ph2_bul (fw : Nat → Bool) : ∀ (R : List RT0) (i : Nat) (n : Int), ∀ b ∈ (ph2 lv tm now fw R i n).2, ∃ e ∈ R, tm e = true ∧ ∃ m, n ≤ m ∧ b = bul m 1 (mkA m false (nmE e) (lv e) e now) now
  | [], i, n => fun b h => by simp [ph2] at h
  | e :: R, i, n => fun b hb => by
    unfold ph2 at hb
    split at hb
    · rename_i hc
      rcases List.mem_cons.1 hb with h | h
      · exact ⟨e, List.mem_cons_self, hc.2, n, Int.le_refl n, h⟩
      · obtain ⟨x, h1, h2, m, h3, h4⟩ := ph2_bul fw R (i + 1) (n + 1) b h
        exact ⟨x, List.mem_cons_of_mem _ h1, h2, m, by omega, h4⟩
    · obtain ⟨x, h1, h2, m, h3, h4⟩ := ph2_bul fw R (i + 1) n b hb
      exact ⟨x, List.mem_cons_of_mem _ h1, h2, m, h3, h4⟩
theorem ph2_ids (fw : Nat → Bool) : ∀ (R : List RT0) (i : Nat) (n : Int), (ph2 lv tm now fw R i n).2.Pairwise fun a b => idB a ≠ idB b
  | [], i, n => by simp [ph2]
  | e :: R, i, n => by
    unfold ph2
    split
    · refine .cons (fun y hy e2 => ?_) (ph2_ids fw R (i + 1) (n + 1))
      obtain ⟨x, h1, h2, m, h3, h4⟩ := ph2_bul lv tm now fw R (i + 1) (n + 1) y hy
      rw [h4] at e2
      have e2 : n = m := e2
      omega
    · exact ph2_ids fw R (i + 1) n
theorem s1_told (a : RT3) : ∀ x, ((s1 lv mv ev now a x).2 = 0 ∧ atA (s1 lv mv ev now a x).1 = atA a) ∨ ((s1 lv mv ev now a x).2 = 3 ∧ atA (s1 lv mv ev now a x).1 = now) ∨ ((s1 lv mv ev now a x).2 = 2 ∧ atA (s1 lv mv ev now a x).1 = now ∧ now - atA a ≥ ev ∧ lvA (s1 lv mv ev now a x).1 = lv (evA (s1 lv mv ev now a x).1))
  | none => by
    unfold s1
    dsimp only
    split
    · exact .inl ⟨rfl, rfl⟩
    · exact .inr (.inl ⟨rfl, rfl⟩)
  | some e => by
    unfold s1
    dsimp only
    split
    · exact .inl ⟨rfl, rfl⟩
    · split
      · exact .inr (.inl ⟨rfl, rfl⟩)
      · split
        · rename_i h; exact .inr (.inr ⟨rfl, rfl, h.1, rfl⟩)
        · exact .inl ⟨rfl, rfl⟩
end
def Jn (A : List RT3) (M : List (Int × Int)) : Prop := ∀ a ∈ A, mi (idA a) M = some (atA a)
theorem step_told {L : List RT4} {di ev number now now' : Int} {A : List RT3} {E : List RT0} {m : Nat} {o : List Int} {t : List Bool} (P : Pol L di ev) (O : Ok A number now) (hE : Evs 0 m E) (F : Fo A E o t) (hn : now ≤ now') (M0 : List (Int × Int)) (J : Jn A M0) :
    (∀ k (h : k < (stB L di ev now' E A o number).length), nuB (stB L di ev now' E A o number)[k] = number + k) ∧ (∀ b ∈ stB L di ev now' E A o number, atB b = now') ∧ (∀ b ∈ stB L di ev now' E A o number, Good L di ev now' E M0 b) ∧ (stB L di ev now' E A o number).Pairwise (fun a b => idB a ≠ idB b) ∧
    ∀ M', (∀ j, mi j M' = if ∃ b ∈ stB L di ev now' E A o number, idB b = j then some now' else mi j M0) → Jn (stA L di ev now' E A o number) M' := by
  have hlo := F.lo
  have n1 := ph1_num (lvF L di ev) (mvF L di ev) ev now' E A o number
  have b1 := ph1_bul (lvF L di ev) (mvF L di ev) ev now' E A o number
  have i1 := ph1_ids (lvF L di ev) (mvF L di ev) ev now' E A o number O.asc
  have g1 := ph1_get (lvF L di ev) (mvF L di ev) ev now' E A o number hlo.symm
  have l1 := (ph1_len (lvF L di ev) (mvF L di ev) ev now' E A o number hlo.symm).1
  have n2 := ph2_num (lvF L di ev) (tmF L di ev now') now' (fwO o) E 0 (number + (ph1 (lvF L di ev) (mvF L di ev) ev now' E A o number).2.length)
  have b2 := ph2_bul (lvF L di ev) (tmF L di ev now') now' (fwO o) E 0 (number + (ph1 (lvF L di ev) (mvF L di ev) ev now' E A o number).2.length)
  have i2 := ph2_ids (lvF L di ev) (tmF L di ev now') now' (fwO o) E 0 (number + (ph1 (lvF L di ev) (mvF L di ev) ev now' E A o number).2.length)
  have m2 := ph2_mem (lvF L di ev) (tmF L di ev now') now' (fwO o) E 0 (number + (ph1 (lvF L di ev) (mvF L di ev) ev now' E A o number).2.length)
  have c2 := ph2_has (lvF L di ev) (tmF L di ev now') now' (fwO o) E 0 (number + (ph1 (lvF L di ev) (mvF L di ev) ev now' E A o number).2.length)
  have a1 := ph1_has (lvF L di ev) (mvF L di ev) ev now' E A o number hlo.symm
  unfold stA stB
  obtain ⟨p, hp⟩ : ∃ p, ph1 (lvF L di ev) (mvF L di ev) ev now' E A o number = p := ⟨_, rfl⟩
  rw [hp] at n2 b2 i2 m2 c2 b1 i1 a1 l1 ⊢
  have n1 : ∀ k (h : k < p.2.length), nuB p.2[k] = number + k := by subst hp; exact n1
  have g1 : ∀ (k : Nat) (hk : k < A.length) (hk' : k < o.length) (hk2 : k < p.1.length), p.1[k] = (s1 (lvF L di ev) (mvF L di ev) ev now' A[k] (evI E o[k])).1 := by subst hp; exact g1
  obtain ⟨r, hr⟩ : ∃ r, ph2 (lvF L di ev) (tmF L di ev now') now' (fwO o) E 0 (number + p.2.length) = r := ⟨_, rfl⟩
  rw [hr] at b2 i2 m2 c2 ⊢
  have n2 : ∀ k (h : k < r.2.length), nuB r.2[k] = number + p.2.length + k := by subst hr; exact n2
  refine ⟨fun k h => ?_, fun b hb => ?_, fun b hb => ?_, ?_, fun M' hM' => ?_⟩
  · rw [List.getElem_append]
    split
    · rename_i h1; exact n1 k h1
    · rename_i h1
      rw [n2 (k - p.2.length) (by rw [List.length_append] at h; omega)]
      omega
  · rcases List.mem_append.1 hb with h | h
    · obtain ⟨k, _, _, _, m, rfl⟩ := b1 b h; rfl
    · obtain ⟨e, _, _, m, _, rfl⟩ := b2 b h; rfl
  · rcases List.mem_append.1 hb with h | h
    · obtain ⟨k, h1, h2, h3, m, rfl⟩ := b1 b h
      have hj := J _ (List.getElem_mem h1)
      have hat := O.rng _ (List.getElem_mem h1)
      have hid : idB (bul m (s1 (lvF L di ev) (mvF L di ev) ev now' A[k] (evI E o[k])).2 (s1 (lvF L di ev) (mvF L di ev) ev now' A[k] (evI E o[k])).1 now') = idA A[k] := s1_id _ _ _ _ _ _
      rcases s1_told (lvF L di ev) (mvF L di ev) ev now' A[k] (evI E o[k]) with ⟨q, _⟩ | ⟨q, _⟩ | ⟨q, _, q2, q3⟩
      · exact absurd q h3
      · exact .inr (.inr ⟨q, _, by rw [hid]; exact hj⟩)
      · exact .inr (.inl ⟨q, ⟨_, by rw [hid]; exact hj, by omega, by omega, q2⟩, q3⟩)
    · obtain ⟨e, h1, h2, m, _, rfl⟩ := b2 b h
      exact .inl ⟨rfl, rfl, h2, h1⟩
  · rw [List.pairwise_append]
    refine ⟨i1, i2, fun x hx y hy e => ?_⟩
    obtain ⟨k, h1, h2, h3, m, rfl⟩ := b1 x hx
    obtain ⟨e', _, _, m', h4, rfl⟩ := b2 y hy
    have e : idA (s1 (lvF L di ev) (mvF L di ev) ev now' A[k] (evI E o[k])).1 = m' := e
    rw [s1_id] at e
    have := O.rng _ (List.getElem_mem h1)
    omega
  · intro a ha
    rw [hM']
    rcases List.mem_append.1 ha with h | h
    · obtain ⟨k, hk, e⟩ := List.getElem_of_mem h
      have hkA : k < A.length := by omega
      have hko : k < o.length := by omega
      rw [g1 k hkA hko hk] at e
      by_cases h0 : (s1 (lvF L di ev) (mvF L di ev) ev now' A[k] (evI E o[k])).2 = 0
      · rw [if_neg, ← e, s1_id, J _ (List.getElem_mem hkA)]
        · rcases s1_told (lvF L di ev) (mvF L di ev) ev now' A[k] (evI E o[k]) with ⟨_, q⟩ | ⟨q, _⟩ | ⟨q, _⟩
          · rw [q]
          · omega
          · omega
        · rintro ⟨b, hb, eb⟩
          rw [← e, s1_id] at eb
          rcases List.mem_append.1 hb with h1 | h1
          · obtain ⟨j, h2, h3, h4, m, rfl⟩ := b1 b h1
            have eb : idA (s1 (lvF L di ev) (mvF L di ev) ev now' A[j] (evI E o[j])).1 = idA A[k] := eb
            rw [s1_id] at eb
            have hjk : j = k := by
              rcases Nat.lt_trichotomy j k with x | x | x
              · have := List.pairwise_iff_getElem.1 O.asc j k h2 hkA x; omega
              · exact x
              · have := List.pairwise_iff_getElem.1 O.asc k j hkA h2 x; omega
            subst hjk
            exact h4 h0
          · obtain ⟨e', _, _, m', h4, rfl⟩ := b2 b h1
            have eb : m' = idA A[k] := eb
            have := O.rng _ (List.getElem_mem hkA)
            omega
      · obtain ⟨b, hb, eb⟩ := a1 k hkA hko h0
        rw [if_pos ⟨b, List.mem_append_left _ hb, by rw [eb, ← e, s1_id]⟩, ← e]
        rcases s1_told (lvF L di ev) (mvF L di ev) ev now' A[k] (evI E o[k]) with ⟨q, _⟩ | ⟨_, q⟩ | ⟨_, q, _⟩
        · exact absurd q h0
        · rw [q]
        · rw [q]
    · obtain ⟨b, hb, eb⟩ := c2 a h
      obtain ⟨j, _, _, _, mm, ea⟩ := m2 a h
      rw [if_pos ⟨b, List.mem_append_right _ hb, eb⟩, ea]
      rfl
theorem timely_loop {L : List RT4} {di ev : Int} (P : Pol L di ev) {xs : List Int} : ∀ (d i f : Nat) (A : List RT3) (number now p : Int) (M : List (Int × Int)), i + d = 8 → d < f → Ok A number now → Jn A M → A.length ≤ 4 * i → number ≤ 36 * i → now ≤ 1000 + 300 * i → Sc xs p →
    (F3_l9 600).L f (A.map Ren3, number, now, (i : Int), L.map Ren4, di, ev, rowsI xs, p, M.map rowM) = some (.inr ()) := by
  intro d
  induction d with
  | zero =>
    intro i f A number now p M hi hf O J h1 h2 h3 D
    obtain ⟨f, rfl⟩ : ∃ f', f = f' + 1 := ⟨f - 1, by omega⟩
    show (F3_l9 600).b _ _ ((F3_l9 600).L f) some = _
    simp only [F3_l9]
    have e2 : decide ((i : Int) < 8) = false := by rw [decide_eq_false_iff_not]; omega
    simp only [e2]
  | succ d ih =>
    intro i f A number now p M hi hf O J h1 h2 h3 D
    obtain ⟨f, rfl⟩ : ∃ f', f = f' + 1 := ⟨f - 1, by omega⟩
    have hnow := O.now
    have hnum := O.num
    obtain ⟨v, p1, g1, m1, D1⟩ := n_ok 600 (n := 300) (by omega) D
    obtain ⟨E, p2, g2, l2, hE, D2⟩ := evs_ok 4 (by omega) D1
    replace g2 : F10_d 600 (4, rowsI xs, p1) = some (E.map Ren0, rowsI xs, p2) := g2
    have hE' := hE.ok (show 4 ≤ 5 by omega)
    obtain ⟨o, t, F, -, g3⟩ := step_ok' P O hE' (now' := now + v) (by omega)
    have hlo := F.lo
    have Ob : Ok (stA L di ev (now + v) E A o number) (number + (stB L di ev (now + v) E A o number).length) (now + v) := O.step (show 4 ≤ 5 by omega) hE F (by omega) (by omega) (by omega) _ _ _ _
    obtain ⟨a1, a2⟩ := ph1_len (lvF L di ev) (mvF L di ev) ev (now + v) E A o number hlo.symm
    obtain ⟨b1, b2⟩ := ph2_len (lvF L di ev) (tmF L di ev (now + v)) (now + v) (fwO o) E 0 (number + (ph1 (lvF L di ev) (mvF L di ev) ev (now + v) E A o number).2.length)
    have hBl : (stB L di ev (now + v) E A o number).length ≤ A.length + 4 := by unfold stB; rw [List.length_append]; omega
    have hAl : (stA L di ev (now + v) E A o number).length ≤ A.length + 4 := by unfold stA; rw [List.length_append]; omega
    obtain ⟨c1, c2, c3, c4, c5⟩ := step_told P O hE F (show now ≤ now + v by omega) M J
    obtain ⟨b, hb⟩ : ∃ b, stA L di ev (now + v) E A o number = b := ⟨_, rfl⟩
    obtain ⟨B, hB⟩ : ∃ B, stB L di ev (now + v) E A o number = B := ⟨_, rfl⟩
    rw [hb] at g3 Ob hAl c5
    rw [hB] at g3 Ob hBl c2 c3 c4 c5
    have c1 : ∀ k (h : k < B.length), nuB B[k] = number + k := by subst hB; exact c1
    obtain ⟨M', q1, q2⟩ := told_ok P (show E.length ≤ 500 by omega) (show 0 ≤ now + v ∧ now + v ≤ 1000000 by omega) (show 0 ≤ number ∧ number ≤ 1000 by omega) (b.map Ren3) (B.map Ren6) (rowsI xs) (i : Int) p2 B (by omega) M c1 c2 c3 c4 B.length 0 600 M (by omega) (by omega) (fun j => by
      rw [if_neg]
      rintro ⟨m, _, h, _⟩
      omega)
    replace q1 : (F3_l25 600).L 600 (E.map Ren0, b.map Ren3, B.map Ren6, B.map Ren6, number, now + v, (i : Int), (B.length : Int), 0, L.map Ren4, di, ev, rowsI xs, p2, M.map rowM) = some (.inr (b.map Ren3, B.map Ren6, number, now + v, (i : Int), L.map Ren4, di, ev, rowsI xs, p2, M'.map rowM)) := q1
    have r1 := ih (i + 1) f b (number + B.length) (now + v) p2 M' (by omega) (by omega) Ob (c5 M' q2) (by omega) (by omega) (by omega) D2
    show (F3_l9 600).b _ _ ((F3_l9 600).L f) some = _
    obtain ⟨Lf, hLf⟩ : ∃ Lf, Lf = (F3_l9 600).L f := ⟨_, rfl⟩
    rw [← hLf] at r1 ⊢
    simp only [F3_l9]
    have e2 : decide ((i : Int) < 8) = true := by rw [decide_eq_true_iff]; omega
    have e1 : ((0 : Int) != 0) = false := by decide
    have e5 : i64 (now + v) = now + v := i64_id (by omega)
    have e6 : i64 (number + (B.length : Int)) = number + B.length := i64_id (by omega)
    simp only [e2, g1, g2, e5, g3, e1, List.length_map, F3_d25, q1, e6, nat_succ (show i < 1000000 by omega)]
    exact r1
theorem timely_law (xs : List Int) : F3_d 600 (rowsI xs) = some true := by
  obtain ⟨g0, D0⟩ := new_ok 600 xs
  obtain ⟨L, di, ev, p1, g1, P, D1⟩ := policy_ok D0
  have O0 : Ok [] 0 1000 := ⟨by simp, List.Pairwise.nil, fun a h => (by cases h), List.Pairwise.nil, fun a h => (by cases h), by omega, by omega⟩
  have h := timely_loop P 8 0 600 [] 0 1000 p1 [] rfl (by omega) O0 (fun a h => by cases h) (by simp) (by omega) (by omega) D1
  replace h : (F3_l9 600).L 600 ([], 0, 1000, 0, L.map Ren4, di, ev, rowsI (xs.take 2000), p1, []) = some (.inr ()) := h
  simp only [F3_d, FSpec.d, F3_s, g0, g1, F3_d9, h, awake_ok]
theorem alert_timely (a : Option Addr) (len cap : Nat) (W : World) (hr : IntsIn W (.slice a len cap)) :
    Calls Try.prog 3 #[.slice a len cap] W fun e w' => e = .returned (.bool true) ∧ Below W.heap.size W w' := by
  obtain ⟨xs, h1, h2, h3⟩ := hr
  have ok := (F3_e 600).ok (rowsI xs) true (timely_law xs)
  refine CallOk.calls (args := [.list 1 (rowsI xs) none]) ok W _ rfl (fun i h h' => ?_)
  obtain rfl : i = 0 := by simp at h; omega
  exact h3 _ _
end Go.Proofs.Ytnnfpoelkdgjdaa
end
