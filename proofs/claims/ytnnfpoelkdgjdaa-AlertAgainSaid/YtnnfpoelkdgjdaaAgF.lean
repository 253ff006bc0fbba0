/- Several texts as one (written by pack.py). -/
import Derived.Test.YtnnfpoelkdgjdaaAgE
section
namespace Go.Proofs.Ytnnfpoelkdgjdaa
set_option linter.unusedVariables false
set_option linter.unusedSimpArgs false
set_option linter.unnecessarySimpa false
@[reducible] def eqP (a b : RT1) : Bool := (((a.1 == b.1) && ((a.2.1 == b.2.1) && ((a.2.2.1 == b.2.2.1) && ((a.2.2.2.1 == b.2.2.2.1) && true)))) && ((a.2.2.2.2.1 == b.2.2.2.2.1) && ((a.2.2.2.2.2.1 == b.2.2.2.2.2.1) && ((a.2.2.2.2.2.2.1 == b.2.2.2.2.2.2.1) && ((a.2.2.2.2.2.2.2.1 == b.2.2.2.2.2.2.2.1) && ((a.2.2.2.2.2.2.2.2.1 == b.2.2.2.2.2.2.2.2.1) && true))))))
theorem ba_iff {a b : ByteArray} : (a == b) = true ↔ a = b := by
  constructor
  · intro h
    obtain ⟨x⟩ := a
    obtain ⟨y⟩ := b
    have : (x == y) = true := h
    rw [eq_of_beq this]
  · rintro rfl
    obtain ⟨x⟩ := a
    exact beq_self_eq_true x
theorem eqP_tt (a : RT1) : eqP a a = true := by
  simp only [eqP, Bool.and_eq_true, beq_self_eq_true, ba_iff, and_self]
theorem eqP_eq {a b : RT1} (h : eqP a b = true) : a = b := by
  obtain ⟨a1, a2, a3, a4, a5, a6, a7, a8, a9, a10⟩ := a
  obtain ⟨b1, b2, b3, b4, b5, b6, b7, b8, b9, b10⟩ := b
  simp only [eqP, Bool.and_eq_true, beq_iff_eq, ba_iff] at h
  obtain ⟨⟨h1, h2, h3, h4, -⟩, h5, h6, h7, h8, h9, -⟩ := h
  subst h1 h2 h3 h4 h5 h6 h7 h8 h9
  rfl
theorem eqP_ff {a b : RT1} (h : a ≠ b) : eqP a b = false := by
  cases e : eqP a b with
  | false => rfl
  | true => exact absurd (eqP_eq e) h
theorem get1 (P : List RT1) (k : Nat) (h : k < P.length) : (P.map Ren1)[k]? = some (Ren1 P[k]) := by simp [h]
theorem get0 (P : List RT0) (k : Nat) (h : k < P.length) : (P.map Ren0)[k]? = some (Ren0 P[k]) := by simp [h]
theorem get3 (P : List RT3) (k : Nat) (h : k < P.length) : (P.map Ren3)[k]? = some (Ren3 P[k]) := by simp [h]
theorem mem_drop_cons {α : Type} {P : List α} {k : Nat} (h : k < P.length) (p : α) : p ∈ P.drop k ↔ p = P[k] ∨ p ∈ P.drop (k + 1) := by
  rw [List.drop_eq_getElem_cons h, List.mem_cons]
theorem nat_succ {k : Nat} (h : k < 1000000) : i64 ((k : Int) + 1) = ((k + 1 : Nat) : Int) := by rw [i64_id (by omega)]; omega
theorem index_loop (P : List RT1) (p : RT1) (hP : P.length ≤ 500) : ∀ (d k f : Nat), k + d = P.length → d < f → ∃ y, (F78_l4 600).L f (P.map Ren1, (P.length : Int), (k : Int), p) = some y ∧ ((p ∈ P.drop k ∧ ∃ j : Nat, y = .inl (j : Int)) ∨ (p ∉ P.drop k ∧ y = .inr ())) := by
  intro d
  induction d with
  | zero =>
    intro k f hk hf
    obtain ⟨f, rfl⟩ : ∃ f', f = f' + 1 := ⟨f - 1, by omega⟩
    refine ⟨.inr (), ?_, .inr ⟨by rw [List.drop_eq_nil_of_le (by omega)]; simp, rfl⟩⟩
    show (F78_l4 600).b _ _ ((F78_l4 600).L f) some = _
    simp only [F78_l4]
    have e2 : decide ((k : Int) < (P.length : Int)) = false := by rw [decide_eq_false_iff_not]; omega
    simp only [e2]
  | succ d ih =>
    intro k f hk hf
    obtain ⟨f, rfl⟩ : ∃ f', f = f' + 1 := ⟨f - 1, by omega⟩
    have hkl : k < P.length := by omega
    have e2 : decide ((k : Int) < (P.length : Int)) = true := by rw [decide_eq_true_iff]; omega
    have e3 : (0 : Int) ≤ (k : Int) := by omega
    by_cases hc : p = P[k]
    · refine ⟨.inl (k : Int), ?_, .inl ⟨(mem_drop_cons hkl p).2 (.inl hc), k, rfl⟩⟩
      show (F78_l4 600).b _ _ ((F78_l4 600).L f) some = _
      simp only [F78_l4]
      have e4 : eqP p P[k] = true := by rw [← hc]; exact eqP_tt p
      simp only [e2, e3, if_true, Int.toNat_natCast, get1 P k hkl, Rrd1_en, e4]
    · obtain ⟨y, r1, r2⟩ := ih (k + 1) f (by omega) (by omega)
      refine ⟨y, ?_, ?_⟩
      · show (F78_l4 600).b _ _ ((F78_l4 600).L f) some = _
        obtain ⟨Lf, hLf⟩ : ∃ Lf, Lf = (F78_l4 600).L f := ⟨_, rfl⟩
        rw [← hLf] at r1 ⊢
        simp only [F78_l4]
        have e4 : eqP p P[k] = false := eqP_ff hc
        simp only [e2, e3, if_true, Int.toNat_natCast, get1 P k hkl, Rrd1_en, e4, nat_succ (show k < 1000000 by omega)]
        exact r1
      · rcases r2 with ⟨h1, h2⟩ | ⟨h1, h2⟩
        · exact .inl ⟨(mem_drop_cons hkl p).2 (.inr h1), h2⟩
        · exact .inr ⟨fun h => ((mem_drop_cons hkl p).1 h).elim hc h1, h2⟩
theorem contains_ok (P : List RT1) (p : RT1) (hP : P.length ≤ 500) : ∃ b, F62_d 600 (P.map Ren1, p) = some b ∧ (b = true ↔ p ∈ P) := by
  obtain ⟨y, h1, h2⟩ := index_loop P p hP P.length 0 600 (by omega) (by omega)
  replace h1 : (F78_l4 600).L 600 (P.map Ren1, (P.length : Int), 0, p) = some y := h1
  rw [List.drop_zero] at h2
  simp only [F62_d, FSpec.d, F62_s, F78_d, F78_s, F78_d4, List.length_map, h1]
  rcases h2 with ⟨h2, j, rfl⟩ | ⟨h2, rfl⟩
  · exact ⟨_, rfl, by simp [h2]⟩
  · exact ⟨_, rfl, by simp [h2]⟩
def Com (P Q : List RT1) : Prop := ∃ p ∈ P, p ∈ Q
theorem shared_loop (P Q : List RT1) (e : RT0) (he : pkE e = Q.map Ren1) (hP : P.length ≤ 500) (hQ : Q.length ≤ 500) : ∀ (d k f : Nat), k + d = P.length → d < f → ∃ y, (F77_l4 600).L f (P.map Ren1, (P.length : Int), (k : Int), e) = some y ∧ ((Com (P.drop k) Q ∧ ∃ j : Nat, y = .inl ((j : Int), e)) ∨ (¬ Com (P.drop k) Q ∧ y = .inr e)) := by
  intro d
  induction d with
  | zero =>
    intro k f hk hf
    obtain ⟨f, rfl⟩ : ∃ f', f = f' + 1 := ⟨f - 1, by omega⟩
    refine ⟨.inr e, ?_, .inr ⟨by (rw [List.drop_eq_nil_of_le (by omega)]; rintro ⟨p, h, -⟩; cases h), rfl⟩⟩
    show (F77_l4 600).b _ _ ((F77_l4 600).L f) some = _
    simp only [F77_l4]
    have e2 : decide ((k : Int) < (P.length : Int)) = false := by rw [decide_eq_false_iff_not]; omega
    simp only [e2]
  | succ d ih =>
    intro k f hk hf
    obtain ⟨f, rfl⟩ : ∃ f', f = f' + 1 := ⟨f - 1, by omega⟩
    have hkl : k < P.length := by omega
    have e2 : decide ((k : Int) < (P.length : Int)) = true := by rw [decide_eq_true_iff]; omega
    have e3 : (0 : Int) ≤ (k : Int) := by omega
    obtain ⟨b, hb, hb2⟩ := contains_ok Q P[k] hQ
    rw [← he] at hb
    have hs : F61_d 600 (P[k], e) = some (b, e) := by
      simp only [F61_d, FSpec.d, F61_s]
      simp only [hb]
    cases b with
    | true =>
      refine ⟨.inl ((k : Int), e), ?_, .inl ⟨⟨P[k], (mem_drop_cons hkl _).2 (.inl rfl), hb2.1 rfl⟩, k, rfl⟩⟩
      show (F77_l4 600).b _ _ ((F77_l4 600).L f) some = _
      simp only [F77_l4]
      simp only [e2, e3, if_true, Int.toNat_natCast, get1 P k hkl, Rrd1_en, hs]
    | false =>
      obtain ⟨y, r1, r2⟩ := ih (k + 1) f (by omega) (by omega)
      refine ⟨y, ?_, ?_⟩
      · show (F77_l4 600).b _ _ ((F77_l4 600).L f) some = _
        obtain ⟨Lf, hLf⟩ : ∃ Lf, Lf = (F77_l4 600).L f := ⟨_, rfl⟩
        rw [← hLf] at r1 ⊢
        simp only [F77_l4]
        simp only [e2, e3, if_true, Int.toNat_natCast, get1 P k hkl, Rrd1_en, hs, nat_succ (show k < 1000000 by omega)]
        exact r1
      · rcases r2 with ⟨⟨p, q1, q2⟩, h2⟩ | ⟨h1, h2⟩
        · exact .inl ⟨⟨p, (mem_drop_cons hkl p).2 (.inr q1), q2⟩, h2⟩
        · refine .inr ⟨fun ⟨p, q1, q2⟩ => ?_, h2⟩
          rcases (mem_drop_cons hkl p).1 q1 with e | e
          · subst e; exact absurd (hb2.2 q2) (by simp)
          · exact h1 ⟨p, e, q2⟩
theorem shared_ok (P Q : List RT1) (a e : RT0) (ha : pkE a = P.map Ren1) (he : pkE e = Q.map Ren1) (hP : P.length ≤ 500) (hQ : Q.length ≤ 500) : ∃ b, F38_d 600 (a, e) = some b ∧ (b = true ↔ Com P Q) := by
  obtain ⟨y, h1, h2⟩ := shared_loop P Q e he hP hQ P.length 0 600 (by omega) (by omega)
  replace h1 : (F77_l4 600).L 600 (P.map Ren1, (P.length : Int), 0, e) = some y := h1
  rw [List.drop_zero] at h2
  have ha' : a.2.2.2.2.2.2.2.2.2.1 = P.map Ren1 := ha
  simp only [F38_d, FSpec.d, F38_s, F60_d, F60_s, F77_d, F77_s, F77_d4, ha', List.length_map, h1]
  rcases h2 with ⟨h2, j, rfl⟩ | ⟨h2, rfl⟩
  · exact ⟨_, rfl, by simp [h2]⟩
  · exact ⟨_, rfl, by simp [h2]⟩
end Go.Proofs.Ytnnfpoelkdgjdaa
end
section
namespace Go.Proofs.Ytnnfpoelkdgjdaa
set_option linter.unusedVariables false
set_option linter.unusedSimpArgs false
set_option linter.unnecessarySimpa false
theorem nm0 (e : RT0) : Rrd1 ((Ren0 e).drop 0) = some (nmE e) := rfl
theorem sorted_ok (n f c : Nat) (hn : n < 5) (h1 : f < c) (h2 : c ≤ 4) (h3 : f ≤ 1) : F66_d 600 ((pks n f c).map Ren1) = some true := by
  rcases (show n = 0 ∨ n = 1 ∨ n = 2 ∨ n = 3 ∨ n = 4 by omega) with rfl | rfl | rfl | rfl | rfl <;> rcases (show (f = 0 ∧ c = 1) ∨ (f = 0 ∧ c = 2) ∨ (f = 0 ∧ c = 3) ∨ (f = 0 ∧ c = 4) ∨ (f = 1 ∧ c = 2) ∨ (f = 1 ∧ c = 3) ∨ (f = 1 ∧ c = 4) by omega) with ⟨rfl, rfl⟩ | ⟨rfl, rfl⟩ | ⟨rfl, rfl⟩ | ⟨rfl, rfl⟩ | ⟨rfl, rfl⟩ | ⟨rfl, rfl⟩ | ⟨rfl, rfl⟩ <;> kernel_rfl
theorem name_ok (n f c : Nat) (hn : n < 5) (h1 : f < c) (h2 : c ≤ 4) (h3 : f ≤ 1) : F67_d 600 ((pks n f c).map Ren1) = some (pick n f) := by
  rcases (show n = 0 ∨ n = 1 ∨ n = 2 ∨ n = 3 ∨ n = 4 by omega) with rfl | rfl | rfl | rfl | rfl <;> rcases (show (f = 0 ∧ c = 1) ∨ (f = 0 ∧ c = 2) ∨ (f = 0 ∧ c = 3) ∨ (f = 0 ∧ c = 4) ∨ (f = 1 ∧ c = 2) ∨ (f = 1 ∧ c = 3) ∨ (f = 1 ∧ c = 4) by omega) with ⟨rfl, rfl⟩ | ⟨rfl, rfl⟩ | ⟨rfl, rfl⟩ | ⟨rfl, rfl⟩ | ⟨rfl, rfl⟩ | ⟨rfl, rfl⟩ | ⟨rfl, rfl⟩ <;> kernel_rfl
theorem rname_ok (n f c : Nat) (hn : n < 5) (h1 : f < c) (h2 : c ≤ 4) (h3 : f ≤ 1) : F83_d 600 ((pks n f c).map Ren1) = some (pick n f) := by
  rcases (show n = 0 ∨ n = 1 ∨ n = 2 ∨ n = 3 ∨ n = 4 by omega) with rfl | rfl | rfl | rfl | rfl <;> rcases (show (f = 0 ∧ c = 1) ∨ (f = 0 ∧ c = 2) ∨ (f = 0 ∧ c = 3) ∨ (f = 0 ∧ c = 4) ∨ (f = 1 ∧ c = 2) ∨ (f = 1 ∧ c = 3) ∨ (f = 1 ∧ c = 4) by omega) with ⟨rfl, rfl⟩ | ⟨rfl, rfl⟩ | ⟨rfl, rfl⟩ | ⟨rfl, rfl⟩ | ⟨rfl, rfl⟩ | ⟨rfl, rfl⟩ | ⟨rfl, rfl⟩ <;> kernel_rfl
theorem rsort_ok (n f c : Nat) (hn : n < 5) (h1 : f < c) (h2 : c ≤ 4) (h3 : f ≤ 1) : F84_d 600 ((pks n f c).map Ren1) = some ((pks n f c).map Ren1) := by
  rcases (show n = 0 ∨ n = 1 ∨ n = 2 ∨ n = 3 ∨ n = 4 by omega) with rfl | rfl | rfl | rfl | rfl <;> rcases (show (f = 0 ∧ c = 1) ∨ (f = 0 ∧ c = 2) ∨ (f = 0 ∧ c = 3) ∨ (f = 0 ∧ c = 4) ∨ (f = 1 ∧ c = 2) ∨ (f = 1 ∧ c = 3) ∨ (f = 1 ∧ c = 4) by omega) with ⟨rfl, rfl⟩ | ⟨rfl, rfl⟩ | ⟨rfl, rfl⟩ | ⟨rfl, rfl⟩ | ⟨rfl, rfl⟩ | ⟨rfl, rfl⟩ | ⟨rfl, rfl⟩ <;> kernel_rfl
theorem rsame_ok (n f c : Nat) (hn : n < 5) (h1 : f < c) (h2 : c ≤ 4) (h3 : f ≤ 1) : F64_d 600 ((pks n f c).map Ren1, (pks n f c).map Ren1) = some true := by
  rcases (show n = 0 ∨ n = 1 ∨ n = 2 ∨ n = 3 ∨ n = 4 by omega) with rfl | rfl | rfl | rfl | rfl <;> rcases (show (f = 0 ∧ c = 1) ∨ (f = 0 ∧ c = 2) ∨ (f = 0 ∧ c = 3) ∨ (f = 0 ∧ c = 4) ∨ (f = 1 ∧ c = 2) ∨ (f = 1 ∧ c = 3) ∨ (f = 1 ∧ c = 4) by omega) with ⟨rfl, rfl⟩ | ⟨rfl, rfl⟩ | ⟨rfl, rfl⟩ | ⟨rfl, rfl⟩ | ⟨rfl, rfl⟩ | ⟨rfl, rfl⟩ | ⟨rfl, rfl⟩ <;> kernel_rfl
theorem less_ok (n m f g : Nat) (hn : n < m) (hm : m < 5) (hf : f ≤ 1) (hg : g ≤ 1) : F68_d 600 (pick n f, pick m g) = some (-1) ∧ F85_d 600 (pick n f, pick m g) = some (-1) := by
  rcases (show (n = 0 ∧ m = 1) ∨ (n = 0 ∧ m = 2) ∨ (n = 0 ∧ m = 3) ∨ (n = 0 ∧ m = 4) ∨ (n = 1 ∧ m = 2) ∨ (n = 1 ∧ m = 3) ∨ (n = 1 ∧ m = 4) ∨ (n = 2 ∧ m = 3) ∨ (n = 2 ∧ m = 4) ∨ (n = 3 ∧ m = 4) by omega) with ⟨rfl, rfl⟩ | ⟨rfl, rfl⟩ | ⟨rfl, rfl⟩ | ⟨rfl, rfl⟩ | ⟨rfl, rfl⟩ | ⟨rfl, rfl⟩ | ⟨rfl, rfl⟩ | ⟨rfl, rfl⟩ | ⟨rfl, rfl⟩ | ⟨rfl, rfl⟩ <;> rcases (show f = 0 ∨ f = 1 by omega) with rfl | rfl <;> rcases (show g = 0 ∨ g = 1 by omega) with rfl | rfl <;> exact ⟨by kernel_rfl, by kernel_rfl⟩
@[reducible] def tmP (p : RT1) : Int := p.2.2.2.2.1
theorem pks_tm {n f c : Nat} (hc : c ≤ 4) : ∀ p ∈ pks n f c, 1000 + 400 * (n : Int) ≤ tmP p ∧ tmP p < 1000 + 400 * (n + 1 : Nat) := fun p hp => by
  obtain ⟨i, hi, rfl⟩ := List.mem_map.1 hp
  rw [List.mem_range'] at hi
  obtain ⟨j, hj, rfl⟩ := hi
  simp only [tmP, pick]
  omega
theorem pick_inj {n i m j : Nat} (hi : i < 4) (hj : j < 4) (h : pick n i = pick m j) : n = m ∧ i = j := by
  have := congrArg tmP h
  simp only [tmP, pick] at this
  omega
theorem pks_nodup (n f c : Nat) (hc : c ≤ 4) : (pks n f c).Pairwise fun a b => a ≠ b := by
  unfold pks
  rw [List.pairwise_map]
  refine (List.pairwise_lt_range' (s := f) (n := c - f)).imp_of_mem fun {a b} ha hb hab h => ?_
  rw [List.mem_range'] at ha hb
  obtain ⟨i, hi, rfl⟩ := ha
  obtain ⟨j, hj, rfl⟩ := hb
  have := pick_inj (by omega) (by omega) h
  omega
theorem eqCs1 (a b : RT1) : eqCs (Ren1 a) (Ren1 b) = eqP a b := by
  show (a.1 == b.1 && (a.2.1 == b.2.1 && (a.2.2.1 == b.2.2.1 && (a.2.2.2.1 == b.2.2.2.1 && (a.2.2.2.2.1 == b.2.2.2.2.1 && (a.2.2.2.2.2.1 == b.2.2.2.2.2.1 && (a.2.2.2.2.2.2.1 == b.2.2.2.2.2.2.1 && (a.2.2.2.2.2.2.2.1 == b.2.2.2.2.2.2.2.1 && (a.2.2.2.2.2.2.2.2.1 == b.2.2.2.2.2.2.2.2.1 && true))))))))) = _
  simp only [eqP, Bool.and_true, Bool.and_assoc]
theorem has_no : ∀ (M : List RT1) (p : RT1), p ∉ M → mpHas (Ren1 p) (M.map Ren1) = false ∧ mpPut (Ren1 p) (Ren1 p) (M.map Ren1) = (M ++ [p]).map Ren1
  | [], p, h => ⟨rfl, rfl⟩
  | q :: M, p, h => by
    have h1 : p ≠ q := fun e => h (by rw [e]; exact List.mem_cons_self)
    obtain ⟨i1, i2⟩ := has_no M p (fun e => h (List.mem_cons_of_mem _ e))
    have e : eqCs (Ren1 p) (Ren1 q) = false := by rw [eqCs1]; exact eqP_ff h1
    refine ⟨?_, ?_⟩
    · unfold mpHas at i1 ⊢
      simp only [List.map_cons, mpFind, e]
      exact i1
    · simp only [List.map_cons, mpPut, e, i2, List.cons_append]
theorem seen_loop (A B : List (List AV)) (la i : Int) (P : List RT1) (hP : P.length ≤ 500) (hd : P.Pairwise fun a b => a ≠ b) : ∀ (d k f : Nat) (M : List RT1), k + d = P.length → d < f → (∀ p ∈ P.drop k, p ∉ M) → (F44_l19 600).L f (A, B, P.map Ren1, la, i, (P.length : Int), (k : Int), M.map Ren1) = some (.inr (A, B, la, i, (M ++ P.drop k).map Ren1)) := by
  intro d
  induction d with
  | zero =>
    intro k f M hk hf hM
    obtain ⟨f, rfl⟩ : ∃ f', f = f' + 1 := ⟨f - 1, by omega⟩
    show (F44_l19 600).b _ _ ((F44_l19 600).L f) some = _
    simp only [F44_l19]
    have e2 : decide ((k : Int) < (P.length : Int)) = false := by rw [decide_eq_false_iff_not]; omega
    simp only [e2]
    rw [List.drop_eq_nil_of_le (by omega), List.append_nil]
  | succ d ih =>
    intro k f M hk hf hM
    obtain ⟨f, rfl⟩ : ∃ f', f = f' + 1 := ⟨f - 1, by omega⟩
    have hkl : k < P.length := by omega
    have e2 : decide ((k : Int) < (P.length : Int)) = true := by rw [decide_eq_true_iff]; omega
    have e3 : (0 : Int) ≤ (k : Int) := by omega
    obtain ⟨m1, m2⟩ := has_no M P[k] (hM _ ((mem_drop_cons hkl _).2 (.inl rfl)))
    have r1 := ih (k + 1) f (M ++ [P[k]]) (by omega) (by omega) (fun p hp hm => by
      rcases List.mem_append.1 hm with h | h
      · exact hM p ((mem_drop_cons hkl p).2 (.inr hp)) h
      · have h := List.mem_singleton.1 h
        obtain ⟨j, hj, e⟩ := List.getElem_of_mem hp
        rw [List.getElem_drop] at e
        rw [List.length_drop] at hj
        exact List.pairwise_iff_getElem.1 hd k (k + 1 + j) hkl (by omega) (by omega) (by rw [e, h]))
    show (F44_l19 600).b _ _ ((F44_l19 600).L f) some = _
    obtain ⟨Lf, hLf⟩ : ∃ Lf, Lf = (F44_l19 600).L f := ⟨_, rfl⟩
    rw [← hLf] at r1 ⊢
    simp only [F44_l19]
    simp only [e2, e3, if_true, Int.toNat_natCast, get1 P k hkl, Rrd1_en, m1, m2, nat_succ (show k < 1000000 by omega)]
    rw [r1, List.append_assoc]
    congr 4
    rw [List.drop_eq_getElem_cons hkl]
    rfl
theorem valid_loop (A : List RT0) (hA : A.length ≤ 5) : ∀ (R : List RT0) (k lo f : Nat) (M : List RT1), A.drop k = R → R.length < f → k + R.length = A.length → Evs lo 5 R → (∀ q ∈ M, tmP q < 1000 + 400 * (lo : Int)) → (∀ (h : 0 < k) (h' : k - 1 < A.length), ∃ n g, n < lo ∧ g ≤ 1 ∧ nmE A[k - 1] = pick n g) →
    (F44_l5 600).L f (A.map Ren0, A.map Ren0, (A.length : Int), (k : Int), M.map Ren1) = some (.inr ())
  | [], k, lo, f, M, hR, hf, hk, hE, hM, hN => by
    obtain ⟨f, rfl⟩ : ∃ f', f = f' + 1 := ⟨f - 1, by omega⟩
    show (F44_l5 600).b _ _ ((F44_l5 600).L f) some = _
    simp only [F44_l5]
    have e2 : decide ((k : Int) < (A.length : Int)) = false := by rw [decide_eq_false_iff_not]; simp at hk; omega
    simp only [e2]
  | e :: R, k, lo, f, M, hR, hf, hk, hE, hM, hN => by
    obtain ⟨f, rfl⟩ : ∃ f', f = f' + 1 := ⟨f - 1, by omega⟩
    rw [List.length_cons] at hf hk
    have hkl : k < A.length := by omega
    have hek : A[k] = e := by
      have := List.drop_eq_getElem_cons hkl
      rw [hR] at this
      exact (List.cons.inj this).1.symm
    obtain ⟨n, hn, ⟨g, c, c1, c2, c3, c4, c5, c6⟩, hE'⟩ := hE
    have hn5 : n + 1 ≤ 5 := by
      have : ∀ (L : List RT0) (lo hi : Nat), Evs lo hi L → lo ≤ hi := fun L => by
        induction L with
        | nil => exact fun lo hi h => h
        | cons a L ih => exact fun lo hi ⟨n, h1, _, h3⟩ => by have := ih _ _ h3; omega
      exact this _ _ _ hE'
    have e2 : decide ((k : Int) < (A.length : Int)) = true := by rw [decide_eq_true_iff]; omega
    have e3 : (0 : Int) ≤ (k : Int) := by omega
    have r1 := valid_loop A hA R (k + 1) (n + 1) f (M ++ pks n g c) (by rw [← List.tail_drop, hR]; rfl) (by omega) (by omega) hE' (fun q hq => by
      rcases List.mem_append.1 hq with h | h
      · have := hM q h; omega
      · exact (pks_tm c2 q h).2) (fun _ h' => ⟨n, g, by omega, c3, by simp only [Nat.add_sub_cancel]; rw [hek]; exact c4⟩)
    have s1 := sorted_ok n g c (by omega) c1 c2 c3
    have s2 := name_ok n g c (by omega) c1 c2 c3
    have sl := seen_loop (A.map Ren0) (A.map Ren0) (A.length : Int) (k : Int) (pks n g c) (by rw [pks_len]; omega) (pks_nodup n g c c2) (pks n g c).length 0 600 M (by omega) (by rw [pks_len]; omega) (fun p hp hm => by
      have h1 := (pks_tm c2 p hp).1
      have h2 := hM p hm
      omega)
    rw [List.drop_zero] at sl
    replace sl : (F44_l19 600).L 600 (A.map Ren0, A.map Ren0, (pks n g c).map Ren1, (A.length : Int), (k : Int), ((pks n g c).length : Int), 0, M.map Ren1) = some (.inr (A.map Ren0, A.map Ren0, (A.length : Int), (k : Int), (M ++ pks n g c).map Ren1)) := sl
    have c5' : e.2.2.2.2.2.2.2.2.2.1 = (pks n g c).map Ren1 := c5
    have e4 : (((pks n g c).length : Int) == 0) = false := by rw [pks_len]; simp; omega
    have e5 : eqP (nmE e) (pick n g) = true := by rw [c4]; exact eqP_tt _
    show (F44_l5 600).b _ _ ((F44_l5 600).L f) some = _
    obtain ⟨Lf, hLf⟩ : ∃ Lf, Lf = (F44_l5 600).L f := ⟨_, rfl⟩
    rw [← hLf] at r1 ⊢
    simp only [F44_l5]
    simp only [e2, e3, if_true, Int.toNat_natCast, get0 A k hkl, hek, Rrd0_en, c5', List.length_map, e4, s1, s2, e5, Bool.not_true]
    by_cases hk0 : (k : Int) > 0
    · have hk1 : i64 ((k : Int) - 1) = ((k - 1 : Nat) : Int) := by rw [i64_id (by omega)]; omega
      obtain ⟨n', g', z1, z2, z3⟩ := hN (by omega) (by omega)
      have hl := (less_ok n' n g' g (by omega) (by omega) z2 c3).1
      rw [← c4] at hl
      rw [← z3] at hl
      have e6 : decide ((-1 : Int) ≥ 0) = false := by decide
      have e7 : (0 : Int) ≤ ((k - 1 : Nat) : Int) := by omega
      simp only [hk0, decide_true, hk1, e7, if_true, Int.toNat_natCast, get0 A (k - 1) (by omega), nm0, hl, e6, sl, nat_succ (show k < 1000000 by omega)]
      exact r1
    · simp only [hk0, decide_false, sl, nat_succ (show k < 1000000 by omega)]
      exact r1
theorem evs_lo {L : List RT0} {lo hi : Nat} : Evs lo hi L → L.length + lo ≤ hi := by
  induction L generalizing lo with
  | nil => intro h; have h' : lo ≤ hi := h; rw [List.length_nil]; omega
  | cons a L ih => exact fun ⟨n, h1, _, h3⟩ => by have := ih h3; rw [List.length_cons]; omega
theorem event_valid {A : List RT0} {m : Nat} (hm : m ≤ 5) (h : Evs 0 m A) : F44_d 600 (A.map Ren0) = some true := by
  have hl := evs_lo h
  have := valid_loop A (by omega) A 0 0 600 [] rfl (by omega) (by omega) (h.mono hm) (fun q hq => by cases hq) (fun h => by omega)
  replace this : (F44_l5 600).L 600 (A.map Ren0, A.map Ren0, (A.length : Int), 0, []) = some (.inr ()) := this
  simp only [F44_d, FSpec.d, F44_s, F44_d5, List.length_map, this]
def PkOk (e : RT0) : Prop := ∃ P : List RT1, P.length ≤ 4 ∧ pkE e = P.map Ren1
theorem EvAt.pk {n : Nat} {e : RT0} (h : EvAt n e) : PkOk e := by
  obtain ⟨f, c, h1, h2, h3, h4, h5, h6⟩ := h
  exact ⟨pks n f c, by rw [pks_len]; omega, h5⟩
theorem Evs.all : ∀ {E : List RT0} {lo hi : Nat}, Evs lo hi E → ∀ e ∈ E, ∃ n, lo ≤ n ∧ n < hi ∧ EvAt n e
  | [], lo, hi, h, e, he => by cases he
  | a :: E, lo, hi, h, e, he => by
    obtain ⟨n, h1, h2, h3⟩ := h
    have := evs_lo h3
    rcases List.mem_cons.1 he with h | h
    · subst h; exact ⟨n, h1, by omega, h2⟩
    · obtain ⟨m, q1, q2, q3⟩ := h3.all e h
      exact ⟨m, by omega, q2, q3⟩
theorem Evs.names : ∀ {E : List RT0} {lo hi : Nat}, Evs lo hi E → E.Pairwise fun a b => nmE a ≠ nmE b
  | [], lo, hi, h => .nil
  | a :: E, lo, hi, h => by
    obtain ⟨n, h1, ⟨f, c, c1, c2, c3, c4, c5, c6⟩, h3⟩ := h
    refine .cons (fun b hb e => ?_) h3.names
    obtain ⟨m, q1, q2, f', c', z1, z2, z3, z4, z5, z6⟩ := h3.all b hb
    rw [c4, z4] at e
    have := pick_inj (by omega) (by omega) e
    omega
theorem Evs.pk {E : List RT0} {lo hi : Nat} (h : Evs lo hi E) : ∀ e ∈ E, PkOk e := fun e he => by
  obtain ⟨n, _, _, q⟩ := h.all e he
  exact q.pk
structure EvOk (E : List RT0) : Prop where
  v : F44_d 600 (E.map Ren0) = some true
  l : E.length ≤ 5
  names : E.Pairwise fun a b => nmE a ≠ nmE b
  pk : ∀ e ∈ E, PkOk e
theorem Evs.ok {E : List RT0} {m : Nat} (hm : m ≤ 5) (h : Evs 0 m E) : EvOk E := ⟨event_valid hm h, by have := evs_lo h; omega, h.names, h.pk⟩
end Go.Proofs.Ytnnfpoelkdgjdaa
end
section
namespace Go.Proofs.Ytnnfpoelkdgjdaa
set_option linter.unusedVariables false
set_option linter.unusedSimpArgs false
set_option linter.unnecessarySimpa false
theorem com_in (A B : List (List AV)) (P Q : List RT1) (i : Nat) (hi : i < P.length) (hA : A = P.map Ren1) (hB : B = Q.map Ren1) (hQ : Q.length ≤ 500) : ∀ (d k f : Nat), k + d = Q.length → d < f → ∃ y, (F86_l12 600).L f (A, B, (i : Int), (k : Int)) = some y ∧ ((P[i] ∈ Q.drop k ∧ y = .inl (A, B, true, (i : Int))) ∨ (P[i] ∉ Q.drop k ∧ y = .inr (A, B, (i : Int)))) := by
  subst hA hB
  intro d
  induction d with
  | zero =>
    intro k f hk hf
    obtain ⟨f, rfl⟩ : ∃ f', f = f' + 1 := ⟨f - 1, by omega⟩
    refine ⟨_, ?_, .inr ⟨by rw [List.drop_eq_nil_of_le (by omega)]; simp, rfl⟩⟩
    show (F86_l12 600).b _ _ ((F86_l12 600).L f) some = _
    simp only [F86_l12]
    have e2 : decide ((k : Int) < (Q.length : Int)) = false := by rw [decide_eq_false_iff_not]; omega
    simp only [List.length_map, e2]
  | succ d ih =>
    intro k f hk hf
    obtain ⟨f, rfl⟩ : ∃ f', f = f' + 1 := ⟨f - 1, by omega⟩
    have hkl : k < Q.length := by omega
    have e2 : decide ((k : Int) < (Q.length : Int)) = true := by rw [decide_eq_true_iff]; omega
    have e3 : (0 : Int) ≤ (k : Int) := by omega
    have e4 : (0 : Int) ≤ (i : Int) := by omega
    by_cases hc : P[i] = Q[k]
    · refine ⟨_, ?_, .inl ⟨(mem_drop_cons hkl _).2 (.inl hc), rfl⟩⟩
      show (F86_l12 600).b _ _ ((F86_l12 600).L f) some = _
      simp only [F86_l12]
      have e5 : eqP P[i] Q[k] = true := by rw [hc]; exact eqP_tt _
      simp only [List.length_map, e2, e3, e4, if_true, Int.toNat_natCast, get1 Q k hkl, get1 P i hi, Rrd1_en, e5]
    · obtain ⟨y, r1, r2⟩ := ih (k + 1) f (by omega) (by omega)
      refine ⟨y, ?_, ?_⟩
      · show (F86_l12 600).b _ _ ((F86_l12 600).L f) some = _
        obtain ⟨Lf, hLf⟩ : ∃ Lf, Lf = (F86_l12 600).L f := ⟨_, rfl⟩
        rw [← hLf] at r1 ⊢
        simp only [F86_l12]
        have e5 : eqP P[i] Q[k] = false := eqP_ff hc
        simp only [List.length_map, e2, e3, e4, if_true, Int.toNat_natCast, get1 Q k hkl, get1 P i hi, Rrd1_en, e5, nat_succ (show k < 1000000 by omega)]
        exact r1
      · rcases r2 with ⟨h1, h2⟩ | ⟨h1, h2⟩
        · exact .inl ⟨(mem_drop_cons hkl _).2 (.inr h1), h2⟩
        · exact .inr ⟨fun h => ((mem_drop_cons hkl _).1 h).elim hc h1, h2⟩
theorem com_out (P Q : List RT1) (hP : P.length ≤ 500) (hQ : Q.length ≤ 500) : ∀ (d k f : Nat), k + d = P.length → d < f → ∃ y, (F86_l4 600).L f (P.map Ren1, Q.map Ren1, (k : Int)) = some y ∧ ((Com (P.drop k) Q ∧ y = .inl true) ∨ (¬ Com (P.drop k) Q ∧ y = .inr ())) := by
  intro d
  induction d with
  | zero =>
    intro k f hk hf
    obtain ⟨f, rfl⟩ : ∃ f', f = f' + 1 := ⟨f - 1, by omega⟩
    refine ⟨_, ?_, .inr ⟨by (rw [List.drop_eq_nil_of_le (by omega)]; rintro ⟨p, h, -⟩; cases h), rfl⟩⟩
    show (F86_l4 600).b _ _ ((F86_l4 600).L f) some = _
    simp only [F86_l4]
    have e2 : decide ((k : Int) < (P.length : Int)) = false := by rw [decide_eq_false_iff_not]; omega
    simp only [List.length_map, e2]
  | succ d ih =>
    intro k f hk hf
    obtain ⟨f, rfl⟩ : ∃ f', f = f' + 1 := ⟨f - 1, by omega⟩
    have hkl : k < P.length := by omega
    have e2 : decide ((k : Int) < (P.length : Int)) = true := by rw [decide_eq_true_iff]; omega
    obtain ⟨z, q1, q2⟩ := com_in _ _ P Q k hkl rfl rfl hQ Q.length 0 600 (by omega) (by omega)
    replace q1 : (F86_l12 600).L 600 (P.map Ren1, Q.map Ren1, (k : Int), 0) = some z := q1
    rw [List.drop_zero] at q2
    rcases q2 with ⟨g1, rfl⟩ | ⟨g1, rfl⟩
    · refine ⟨_, ?_, .inl ⟨⟨P[k], (mem_drop_cons hkl _).2 (.inl rfl), g1⟩, rfl⟩⟩
      show (F86_l4 600).b _ _ ((F86_l4 600).L f) some = _
      simp only [F86_l4]
      simp only [List.length_map, e2, F86_d12, q1]
    · obtain ⟨y, r1, r2⟩ := ih (k + 1) f (by omega) (by omega)
      refine ⟨y, ?_, ?_⟩
      · show (F86_l4 600).b _ _ ((F86_l4 600).L f) some = _
        obtain ⟨Lf, hLf⟩ : ∃ Lf, Lf = (F86_l4 600).L f := ⟨_, rfl⟩
        rw [← hLf] at r1 ⊢
        simp only [F86_l4]
        simp only [List.length_map, e2, F86_d12, q1, nat_succ (show k < 1000000 by omega)]
        exact r1
      · rcases r2 with ⟨⟨p, h1, h2⟩, h3⟩ | ⟨h1, h2⟩
        · exact .inl ⟨⟨p, (mem_drop_cons hkl _).2 (.inr h1), h2⟩, h3⟩
        · refine .inr ⟨fun ⟨p, h, h'⟩ => ?_, h2⟩
          rcases (mem_drop_cons hkl _).1 h with e | e
          · subst e; exact g1 h'
          · exact h1 ⟨p, e, h'⟩
theorem com34 (P Q : List RT1) (hP : P.length ≤ 500) (hQ : Q.length ≤ 500) : ∃ b, F86_d 600 (P.map Ren1, Q.map Ren1) = some b ∧ (b = true ↔ Com P Q) := by
  obtain ⟨y, h1, h2⟩ := com_out P Q hP hQ P.length 0 600 (by omega) (by omega)
  replace h1 : (F86_l4 600).L 600 (P.map Ren1, Q.map Ren1, 0) = some y := h1
  rw [List.drop_zero] at h2
  simp only [F86_d, FSpec.d, F86_s, F86_d4, h1]
  rcases h2 with ⟨h2, rfl⟩ | ⟨h2, rfl⟩
  · exact ⟨_, rfl, by simp [h2]⟩
  · exact ⟨_, rfl, by simp [h2]⟩
theorem cmm_in (A B : List (List AV)) (P Q : List RT1) (i : Nat) (hi : i < P.length) (hA : A = P.map Ren1) (hB : B = Q.map Ren1) (hQ : Q.length ≤ 500) : ∀ (d k f : Nat), k + d = Q.length → d < f → ∃ y, (F74_l12 600).L f (A, B, (i : Int), (k : Int)) = some y ∧ ((P[i] ∈ Q.drop k ∧ y = .inl (A, B, true, (i : Int))) ∨ (P[i] ∉ Q.drop k ∧ y = .inr (A, B, (i : Int)))) := by
  subst hA hB
  intro d
  induction d with
  | zero =>
    intro k f hk hf
    obtain ⟨f, rfl⟩ : ∃ f', f = f' + 1 := ⟨f - 1, by omega⟩
    refine ⟨_, ?_, .inr ⟨by rw [List.drop_eq_nil_of_le (by omega)]; simp, rfl⟩⟩
    show (F74_l12 600).b _ _ ((F74_l12 600).L f) some = _
    simp only [F74_l12]
    have e2 : decide ((k : Int) < (Q.length : Int)) = false := by rw [decide_eq_false_iff_not]; omega
    simp only [List.length_map, e2]
  | succ d ih =>
    intro k f hk hf
    obtain ⟨f, rfl⟩ : ∃ f', f = f' + 1 := ⟨f - 1, by omega⟩
    have hkl : k < Q.length := by omega
    have e2 : decide ((k : Int) < (Q.length : Int)) = true := by rw [decide_eq_true_iff]; omega
    have e3 : (0 : Int) ≤ (k : Int) := by omega
    have e4 : (0 : Int) ≤ (i : Int) := by omega
    by_cases hc : P[i] = Q[k]
    · refine ⟨_, ?_, .inl ⟨(mem_drop_cons hkl _).2 (.inl hc), rfl⟩⟩
      show (F74_l12 600).b _ _ ((F74_l12 600).L f) some = _
      simp only [F74_l12]
      have e5 : eqP P[i] Q[k] = true := by rw [hc]; exact eqP_tt _
      simp only [List.length_map, e2, e3, e4, if_true, Int.toNat_natCast, get1 Q k hkl, get1 P i hi, Rrd1_en, e5]
    · obtain ⟨y, r1, r2⟩ := ih (k + 1) f (by omega) (by omega)
      refine ⟨y, ?_, ?_⟩
      · show (F74_l12 600).b _ _ ((F74_l12 600).L f) some = _
        obtain ⟨Lf, hLf⟩ : ∃ Lf, Lf = (F74_l12 600).L f := ⟨_, rfl⟩
        rw [← hLf] at r1 ⊢
        simp only [F74_l12]
        have e5 : eqP P[i] Q[k] = false := eqP_ff hc
        simp only [List.length_map, e2, e3, e4, if_true, Int.toNat_natCast, get1 Q k hkl, get1 P i hi, Rrd1_en, e5, nat_succ (show k < 1000000 by omega)]
        exact r1
      · rcases r2 with ⟨h1, h2⟩ | ⟨h1, h2⟩
        · exact .inl ⟨(mem_drop_cons hkl _).2 (.inr h1), h2⟩
        · exact .inr ⟨fun h => ((mem_drop_cons hkl _).1 h).elim hc h1, h2⟩
theorem cmm_out (P Q : List RT1) (hP : P.length ≤ 500) (hQ : Q.length ≤ 500) : ∀ (d k f : Nat), k + d = P.length → d < f → ∃ y, (F74_l4 600).L f (P.map Ren1, Q.map Ren1, (k : Int)) = some y ∧ ((Com (P.drop k) Q ∧ y = .inl true) ∨ (¬ Com (P.drop k) Q ∧ y = .inr ())) := by
  intro d
  induction d with
  | zero =>
    intro k f hk hf
    obtain ⟨f, rfl⟩ : ∃ f', f = f' + 1 := ⟨f - 1, by omega⟩
    refine ⟨_, ?_, .inr ⟨by (rw [List.drop_eq_nil_of_le (by omega)]; rintro ⟨p, h, -⟩; cases h), rfl⟩⟩
    show (F74_l4 600).b _ _ ((F74_l4 600).L f) some = _
    simp only [F74_l4]
    have e2 : decide ((k : Int) < (P.length : Int)) = false := by rw [decide_eq_false_iff_not]; omega
    simp only [List.length_map, e2]
  | succ d ih =>
    intro k f hk hf
    obtain ⟨f, rfl⟩ : ∃ f', f = f' + 1 := ⟨f - 1, by omega⟩
    have hkl : k < P.length := by omega
    have e2 : decide ((k : Int) < (P.length : Int)) = true := by rw [decide_eq_true_iff]; omega
    obtain ⟨z, q1, q2⟩ := cmm_in _ _ P Q k hkl rfl rfl hQ Q.length 0 600 (by omega) (by omega)
    replace q1 : (F74_l12 600).L 600 (P.map Ren1, Q.map Ren1, (k : Int), 0) = some z := q1
    rw [List.drop_zero] at q2
    rcases q2 with ⟨g1, rfl⟩ | ⟨g1, rfl⟩
    · refine ⟨_, ?_, .inl ⟨⟨P[k], (mem_drop_cons hkl _).2 (.inl rfl), g1⟩, rfl⟩⟩
      show (F74_l4 600).b _ _ ((F74_l4 600).L f) some = _
      simp only [F74_l4]
      simp only [List.length_map, e2, F74_d12, q1]
    · obtain ⟨y, r1, r2⟩ := ih (k + 1) f (by omega) (by omega)
      refine ⟨y, ?_, ?_⟩
      · show (F74_l4 600).b _ _ ((F74_l4 600).L f) some = _
        obtain ⟨Lf, hLf⟩ : ∃ Lf, Lf = (F74_l4 600).L f := ⟨_, rfl⟩
        rw [← hLf] at r1 ⊢
        simp only [F74_l4]
        simp only [List.length_map, e2, F74_d12, q1, nat_succ (show k < 1000000 by omega)]
        exact r1
      · rcases r2 with ⟨⟨p, h1, h2⟩, h3⟩ | ⟨h1, h2⟩
        · exact .inl ⟨⟨p, (mem_drop_cons hkl _).2 (.inr h1), h2⟩, h3⟩
        · refine .inr ⟨fun ⟨p, h, h'⟩ => ?_, h2⟩
          rcases (mem_drop_cons hkl _).1 h with e | e
          · subst e; exact g1 h'
          · exact h1 ⟨p, e, h'⟩
theorem com36 (P Q : List RT1) (hP : P.length ≤ 500) (hQ : Q.length ≤ 500) : ∃ b, F74_d 600 (P.map Ren1, Q.map Ren1) = some b ∧ (b = true ↔ Com P Q) := by
  obtain ⟨y, h1, h2⟩ := cmm_out P Q hP hQ P.length 0 600 (by omega) (by omega)
  replace h1 : (F74_l4 600).L 600 (P.map Ren1, Q.map Ren1, 0) = some y := h1
  rw [List.drop_zero] at h2
  simp only [F74_d, FSpec.d, F74_s, F74_d4, h1]
  rcases h2 with ⟨h2, rfl⟩ | ⟨h2, rfl⟩
  · exact ⟨_, rfl, by simp [h2]⟩
  · exact ⟨_, rfl, by simp [h2]⟩
end Go.Proofs.Ytnnfpoelkdgjdaa
end
section
namespace Go.Proofs.Ytnnfpoelkdgjdaa
set_option linter.unusedVariables false
set_option linter.unusedSimpArgs false
set_option linter.unnecessarySimpa false
theorem pk0 (e : RT0) : (((Ren0 e).drop 9).drop 0)[0]? = some (AV.list 9 (pkE e) none) := rfl
theorem lst9 (xs : List (List AV)) : lstOf 9 (AV.list 9 xs none) = some xs := by simp [lstOf]
theorem apart_loop (A : List RT0) (P : List RT1) (i : Nat) (hi : i ≤ A.length) (hA : A.length ≤ 500) (hP : P.length ≤ 500) (h : ∀ k (h : k < A.length), k < i → ∃ Q : List RT1, Q.length ≤ 500 ∧ pkE A[k] = Q.map Ren1 ∧ ¬ Com P Q) : ∀ (d k f : Nat), k + d = i → d < f → (F73_l17 600).L f (A.map Ren0, P.map Ren1, (i : Int), (k : Int)) = some (.inr (A.map Ren0, (i : Int))) := by
  intro d
  induction d with
  | zero =>
    intro k f hk hf
    obtain ⟨f, rfl⟩ : ∃ f', f = f' + 1 := ⟨f - 1, by omega⟩
    show (F73_l17 600).b _ _ ((F73_l17 600).L f) some = _
    simp only [F73_l17]
    have e2 : decide ((k : Int) < (i : Int)) = false := by rw [decide_eq_false_iff_not]; omega
    simp only [e2]
  | succ d ih =>
    intro k f hk hf
    obtain ⟨f, rfl⟩ : ∃ f', f = f' + 1 := ⟨f - 1, by omega⟩
    have hkl : k < A.length := by omega
    have e2 : decide ((k : Int) < (i : Int)) = true := by rw [decide_eq_true_iff]; omega
    have e3 : (0 : Int) ≤ (k : Int) := by omega
    obtain ⟨Q, q1, q2, q3⟩ := h k hkl (by omega)
    obtain ⟨b, b1, b2⟩ := com34 P Q hP q1
    obtain rfl : b = false := by cases b with | false => rfl | true => exact absurd (b2.1 rfl) q3
    have r1 := ih (k + 1) f (by omega) (by omega)
    show (F73_l17 600).b _ _ ((F73_l17 600).L f) some = _
    obtain ⟨Lf, hLf⟩ : ∃ Lf, Lf = (F73_l17 600).L f := ⟨_, rfl⟩
    rw [← hLf] at r1 ⊢
    simp only [F73_l17]
    simp only [e2, e3, if_true, Int.toNat_natCast, get0 A k hkl, pk0, lst9, q2, b1, nat_succ (show k < 1000000 by omega)]
    exact r1
theorem rvalid_loop (A : List RT0) (hA : A.length ≤ 5) : ∀ (R : List RT0) (k lo f : Nat), A.drop k = R → R.length < f → k + R.length = A.length → Evs lo 5 R → (∀ j (h : j < A.length), j < k → ∃ n, n < lo ∧ EvAt n A[j]) →
    (F73_l4 600).L f (A.map Ren0, (k : Int)) = some (.inr ())
  | [], k, lo, f, hR, hf, hk, hE, hN => by
    obtain ⟨f, rfl⟩ : ∃ f', f = f' + 1 := ⟨f - 1, by omega⟩
    show (F73_l4 600).b _ _ ((F73_l4 600).L f) some = _
    simp only [F73_l4]
    have e2 : decide ((k : Int) < (A.length : Int)) = false := by rw [decide_eq_false_iff_not]; simp at hk; omega
    simp only [List.length_map, e2]
  | e :: R, k, lo, f, hR, hf, hk, hE, hN => by
    obtain ⟨f, rfl⟩ : ∃ f', f = f' + 1 := ⟨f - 1, by omega⟩
    rw [List.length_cons] at hf hk
    have hkl : k < A.length := by omega
    have hek : A[k] = e := by
      have := List.drop_eq_getElem_cons hkl
      rw [hR] at this
      exact (List.cons.inj this).1.symm
    obtain ⟨n, hn, hev, hE'⟩ := hE
    have hn5 := evs_lo hE'
    have r1 := rvalid_loop A hA R (k + 1) (n + 1) f (by rw [← List.tail_drop, hR]; rfl) (by omega) (by omega) hE' (fun j h hj => by
      by_cases hc : j = k
      · subst hc; exact ⟨n, by omega, by rw [hek]; exact hev⟩
      · obtain ⟨m, h1, h2⟩ := hN j h (by omega); exact ⟨m, by omega, h2⟩)
    obtain ⟨g, c, c1, c2, c3, c4, c5, c6⟩ := hev
    have e2 : decide ((k : Int) < (A.length : Int)) = true := by rw [decide_eq_true_iff]; omega
    have e3 : (0 : Int) ≤ (k : Int) := by omega
    have s1 := rname_ok n g c (by omega) c1 c2 c3
    have s2 := rsort_ok n g c (by omega) c1 c2 c3
    have s3 := rsame_ok n g c (by omega) c1 c2 c3
    have sl := apart_loop A (pks n g c) k (by omega) (by omega) (by rw [pks_len]; omega) (fun j h hj => by
      obtain ⟨m, h1, g', c', z1, z2, z3, z4, z5, z6⟩ := hN j h hj
      refine ⟨pks m g' c', by rw [pks_len]; omega, z5, fun ⟨p, q1, q2⟩ => ?_⟩
      have t1 := (pks_tm c2 p q1).1
      have t2 := (pks_tm z2 p q2).2
      omega) k 0 600 (by omega) (by omega)
    replace sl : (F73_l17 600).L 600 (A.map Ren0, (pks n g c).map Ren1, (k : Int), 0) = some (.inr (A.map Ren0, (k : Int))) := sl
    have e4 : (((pks n g c).length : Int) == 0) = false := by rw [pks_len]; simp; omega
    have e5 : eqP (nmE e) (pick n g) = true := by rw [c4]; exact eqP_tt _
    show (F73_l4 600).b _ _ ((F73_l4 600).L f) some = _
    obtain ⟨Lf, hLf⟩ : ∃ Lf, Lf = (F73_l4 600).L f := ⟨_, rfl⟩
    rw [← hLf] at r1 ⊢
    simp only [F73_l4]
    simp only [List.length_map, e2, e3, if_true, Int.toNat_natCast, get0 A k hkl, hek, pk0, lst9, c5, e4, nm0, s1, s2, s3, e5, Bool.not_true]
    by_cases hk0 : (k : Int) > 0
    · have hk1 : i64 ((k : Int) - 1) = ((k - 1 : Nat) : Int) := by rw [i64_id (by omega)]; omega
      obtain ⟨n', z0, g', c', z1, z2, z3, z4, z5, z6⟩ := hN (k - 1) (by omega) (by omega)
      have hl := (less_ok n' n g' g (by omega) (by omega) z3 c3).2
      rw [← c4] at hl
      rw [← z4] at hl
      have e6 : decide ((-1 : Int) ≥ 0) = false := by decide
      have e7 : (0 : Int) ≤ ((k - 1 : Nat) : Int) := by omega
      simp only [hk0, decide_true, hk1, e7, if_true, Int.toNat_natCast, get0 A (k - 1) (by omega), nm0, hl, e6, F73_d17, sl, nat_succ (show k < 1000000 by omega)]
      exact r1
    · simp only [hk0, decide_false, F73_d17, sl, nat_succ (show k < 1000000 by omega)]
      exact r1
theorem event_rvalid {A : List RT0} {m : Nat} (hm : m ≤ 5) (h : Evs 0 m A) : F73_d 600 (A.map Ren0) = some true := by
  have hl := evs_lo h
  have := rvalid_loop A (by omega) A 0 0 600 rfl (by omega) (by omega) (h.mono hm) (fun j _ hj => by omega)
  replace this : (F73_l4 600).L 600 (A.map Ren0, 0) = some (.inr ()) := this
  simp only [F73_d, FSpec.d, F73_s, F73_d4, this]
end Go.Proofs.Ytnnfpoelkdgjdaa
end
section
namespace Go.Proofs.Ytnnfpoelkdgjdaa
set_option linter.unusedVariables false
set_option linter.unusedSimpArgs false
set_option linter.unnecessarySimpa false
structure RlOkk (r : RT4) : Prop where
  m : -1000 ≤ r.1 ∧ r.1 ≤ 1000
  p : 1 ≤ r.2.1 ∧ r.2.1 ≤ 4
  f : 0 ≤ r.2.2.1 ∧ r.2.2.1 ≤ 100000
  d : 0 ≤ r.2.2.2.1 ∧ r.2.2.2.1 ≤ 100000
structure Pol (L : List RT4) (di ev : Int) : Prop where
  l : 1 ≤ L.length ∧ L.length ≤ 3
  r : ∀ r ∈ L, RlOkk r
  di : 0 ≤ di ∧ di ≤ 1000
  ev : 0 ≤ ev ∧ ev ≤ 500
theorem get4 (P : List RT4) (k : Nat) (h : k < P.length) : (P.map Ren4)[k]? = some (Ren4 P[k]) := by simp [h]
theorem pol_loop (xs0 : List Int) (b1 b2 : Int) : ∀ (d f : Nat) (p : Int) (L : List RT4), d < f → L.length + d ≤ 100 → Sc xs0 p → (∀ r ∈ L, RlOkk r) →
    ∃ (L' : List RT4) (p' : Int), (F8_l5 600).L f ((d : Int), rowsI xs0, p, [], 0, 0, L.map Ren4, b1, b2) = some (rowsI xs0, p', [], 0, 0, L'.map Ren4, b1, b2) ∧ L'.length = L.length + d ∧ (∀ r ∈ L', RlOkk r) ∧ Sc xs0 p' := by
  intro d
  induction d with
  | zero =>
    intro f p L hf hd D hL
    obtain ⟨f, rfl⟩ : ∃ f', f = f' + 1 := ⟨f - 1, by omega⟩
    refine ⟨L, p, ?_, by omega, hL, D⟩
    show (F8_l5 600).b _ _ ((F8_l5 600).L f) some = _
    simp only [F8_l5]
    rfl
  | succ d ih =>
    intro f p L hf hd D hL
    obtain ⟨f, rfl⟩ : ∃ f', f = f' + 1 := ⟨f - 1, by omega⟩
    obtain ⟨v1, p1, h1, m1, D1⟩ := n_ok 600 (n := 400) (by omega) D
    obtain ⟨v2, p2, h2, m2, D2⟩ := n_ok 600 (n := 4) (by omega) D1
    obtain ⟨v3, p3, h3, m3, D3⟩ := pick_ok 600 [0, 10, 100, 10000] (by simp) D2
    replace h3 : F23_d 600 ([[AV.v (.int .i64 0)], [AV.v (.int .i64 10)], [AV.v (.int .i64 100)], [AV.v (.int .i64 10000)]], rowsI xs0, p2) = some (v3, rowsI xs0, p3) := h3
    obtain ⟨v4, p4, h4, m4, D4⟩ := pick_ok 600 [0, 500, 2000, 100000] (by simp) D3
    replace h4 : F23_d 600 ([[AV.v (.int .i64 0)], [AV.v (.int .i64 500)], [AV.v (.int .i64 2000)], [AV.v (.int .i64 100000)]], rowsI xs0, p3) = some (v4, rowsI xs0, p4) := h4
    obtain ⟨L', p', r1, r2, r3, r4⟩ := ih f p4 (L ++ [(v1 - 100, 1 + v2, v3, v4, ())]) (by omega) (by simp; omega) D4 (fun r hr => by
      rcases List.mem_append.1 hr with h | h
      · exact hL r h
      · have h := List.mem_singleton.1 h
        subst h
        simp at m3 m4
        exact ⟨by dsimp only; omega, by dsimp only; omega, by dsimp only; omega, by dsimp only; omega⟩)
    refine ⟨L', p', ?_, by rw [r2]; simp; omega, r3, r4⟩
    show (F8_l5 600).b _ _ ((F8_l5 600).L f) some = _
    obtain ⟨Lf, hLf⟩ : ∃ Lf, Lf = (F8_l5 600).L f := ⟨_, rfl⟩
    rw [← hLf] at r1 ⊢
    simp only [F8_l5]
    have hk : decide (((d + 1 : Nat) : Int) > 0) = true := by simp
    have hi : i64 (((d + 1 : Nat) : Int) - 1) = (d : Int) := by rw [i64_id (by omega)]; omega
    have e1 : i64 (v1 - 100) = v1 - 100 := i64_id (by omega)
    have e2 : i64 (1 + v2) = 1 + v2 := i64_id (by omega)
    have hb : ∀ r : List AV, ((L.map Ren4).length + [r].length) * 32 ≤ maxBytes := fun r => by
      rw [List.length_map]; unfold maxBytes; simp; omega
    simp only [hk, hi, h1, h2, h3, h4, e1, e2, hb, if_true]
    rw [List.map_append] at r1
    exact r1
theorem policy_ok {xs : List Int} {p : Int} (D : Sc xs p) : ∃ (L : List RT4) (di ev p' : Int), F8_d 600 (rowsI xs, p) = some (L.map Ren4, di, ev, rowsI xs, p') ∧ Pol L di ev ∧ Sc xs p' := by
  obtain ⟨v1, p1, h1, m1, D1⟩ := pick_ok 600 [0, 2, 10, 1000] (by simp) D
  replace h1 : F23_d 600 ([[AV.v (.int .i64 0)], [AV.v (.int .i64 2)], [AV.v (.int .i64 10)], [AV.v (.int .i64 1000)]], rowsI xs, p) = some (v1, rowsI xs, p1) := h1
  obtain ⟨v2, p2, h2, m2, D2⟩ := pick_ok 600 [0, 0, 50, 500] (by simp) D1
  replace h2 : F23_d 600 ([[AV.v (.int .i64 0)], [AV.v (.int .i64 0)], [AV.v (.int .i64 50)], [AV.v (.int .i64 500)]], rowsI xs, p1) = some (v2, rowsI xs, p2) := h2
  obtain ⟨v3, p3, h3, m3, D3⟩ := n_ok 600 (n := 3) (by omega) D2
  obtain ⟨L, p4, h4, hl, hL, D4⟩ := pol_loop xs v1 v2 (1 + v3).toNat 600 p3 [] (by omega) (by simp; omega) D3 (fun r h => by cases h)
  rw [show (((1 + v3).toNat : Nat) : Int) = 1 + v3 by omega] at h4
  replace h4 : (F8_l5 600).L 600 (1 + v3, rowsI xs, p3, [], 0, 0, [], v1, v2) = some (rowsI xs, p4, [], 0, 0, L.map Ren4, v1, v2) := h4
  have e1 : i64 (1 + v3) = 1 + v3 := i64_id (by omega)
  simp at m1 m2
  refine ⟨L, v1, v2, p4, ?_, ⟨by simp at hl; omega, hL, by omega, by omega⟩, D4⟩
  simp only [F8_d, FSpec.d, F8_s]
  simp only [h1, h2, h3, e1, F8_d5, h4]
def toRl (r : RT4) : Rl := ⟨r.1, r.2.1, r.2.2.1, r.2.2.2.1⟩
theorem rls_map : ∀ L : List RT4, rlsOf (L.map Ren4) = some (L.map toRl)
  | [] => rfl
  | r :: L => by
    show (match rlOf (Ren4 r), rlsOf (L.map Ren4) with | some x, some l => some (x :: l) | _, _ => none) = _
    rw [rls_map L]
    rfl
def lev (L : List RT4) (di ev : Int) (e : RT0) : Nat := levF (L.map toRl) di ev (lvEv (L.map Ren4, di, ev, e))
theorem level_is {L : List RT4} (di ev : Int) (e : RT0) (h : L.length ≤ 1000) : F31_d 600 (L.map Ren4, di, ev, e) = some (lev L di ev e : Int) := by
  simp only [F31_d, FSpec.d, F31_s, rls_map]
  have : (L.map toRl).length ≤ 1000000 := by rw [List.length_map]; omega
  simp only [this, if_true]
  rfl
theorem lev_le (L : List RT4) (di ev : Int) (e : RT0) : lev L di ev e ≤ L.length := by
  unfold lev levF
  split
  · exact Nat.le_trans (levN_le _ _ _) (by rw [List.length_map]; exact Nat.le_refl _)
  · exact Nat.zero_le _
theorem valid_rl (N : Nat) {r : RT4} (h : RlOkk r) : F65_d N r = some true := by
  obtain ⟨⟨m1, m2⟩, ⟨p1, p2⟩, ⟨f1, f2⟩, ⟨d1, d2⟩⟩ := h
  simp only [F65_d, FSpec.d, F65_s]
  have e1 : decide (r.1 ≥ -1000) = true := by rw [decide_eq_true_iff]; omega
  have e2 : decide (r.1 ≤ 2000) = true := by rw [decide_eq_true_iff]; omega
  have e3 : decide (r.2.1 ≥ 1) = true := by rw [decide_eq_true_iff]; omega
  have e4 : decide (r.2.1 ≤ 64) = true := by rw [decide_eq_true_iff]; omega
  have e5 : decide ((if r.2.2.2.1 < r.2.2.1 then r.2.2.2.1 else r.2.2.1) ≥ 0) = true := by rw [decide_eq_true_iff]; split <;> omega
  have e6 : decide ((if r.2.2.2.1 > r.2.2.1 then r.2.2.2.1 else r.2.2.1) ≤ 9007199254740992) = true := by rw [decide_eq_true_iff]; split <;> omega
  simp only [e1, e2, e3, e4, e5, e6]
theorem validate_loop {L : List RT4} (hL : ∀ r ∈ L, RlOkk r) (hl : L.length ≤ 500) : ∀ (d k f : Nat), k + d = L.length → d < f → (F43_l8 600).L f (L.map Ren4, (L.length : Int), (k : Int)) = some (.inr ()) := by
  intro d
  induction d with
  | zero =>
    intro k f hk hf
    obtain ⟨f, rfl⟩ : ∃ f', f = f' + 1 := ⟨f - 1, by omega⟩
    show (F43_l8 600).b _ _ ((F43_l8 600).L f) some = _
    simp only [F43_l8]
    have e2 : decide ((k : Int) < (L.length : Int)) = false := by rw [decide_eq_false_iff_not]; omega
    simp only [e2]
  | succ d ih =>
    intro k f hk hf
    obtain ⟨f, rfl⟩ : ∃ f', f = f' + 1 := ⟨f - 1, by omega⟩
    have hkl : k < L.length := by omega
    have e2 : decide ((k : Int) < (L.length : Int)) = true := by rw [decide_eq_true_iff]; omega
    have e3 : (0 : Int) ≤ (k : Int) := by omega
    have r1 := ih (k + 1) f (by omega) (by omega)
    show (F43_l8 600).b _ _ ((F43_l8 600).L f) some = _
    obtain ⟨Lf, hLf⟩ : ∃ Lf, Lf = (F43_l8 600).L f := ⟨_, rfl⟩
    rw [← hLf] at r1 ⊢
    simp only [F43_l8]
    simp only [e2, e3, if_true, Int.toNat_natCast, get4 L k hkl, Rrd4_en, valid_rl 600 (hL _ (List.getElem_mem hkl)), Bool.not_true, nat_succ (show k < 1000000 by omega)]
    exact r1
theorem validate_ok {L : List RT4} {di ev : Int} (P : Pol L di ev) : F43_d 600 (L.map Ren4, di, ev) = some 0 := by
  obtain ⟨⟨l1, l2⟩, hL, ⟨d1, d2⟩, ⟨v1, v2⟩⟩ := P
  have h := validate_loop hL (by omega) L.length 0 600 (by omega) (by omega)
  replace h : (F43_l8 600).L 600 (L.map Ren4, (L.length : Int), 0) = some (.inr ()) := h
  simp only [F43_d, FSpec.d, F43_s, List.length_map]
  have e1 : decide ((L.length : Int) < 1) = false := by rw [decide_eq_false_iff_not]; omega
  have e2 : decide ((L.length : Int) > 8) = false := by rw [decide_eq_false_iff_not]; omega
  have e3 : decide ((if ev < di then ev else di) < 0) = false := by rw [decide_eq_false_iff_not]; split <;> omega
  have e4 : decide ((if ev > di then ev else di) > 9007199254740992) = false := by rw [decide_eq_false_iff_not]; split <;> omega
  simp only [e1, e2, e3, e4, F43_d8, h]
theorem within_ok (N : Nat) {x : Int} (h : 0 ≤ x ∧ x ≤ 100000) : F54_d N x = some true := by
  simp only [F54_d, FSpec.d, F54_s]
  have e1 : decide (x ≥ 0) = true := by rw [decide_eq_true_iff]; omega
  have e2 : decide (x ≤ 9007199254740992) = true := by rw [decide_eq_true_iff]; omega
  simp only [e1, e2]
theorem rvalidate_loop {L : List RT4} (di ev : Int) (hL : ∀ r ∈ L, RlOkk r) (hl : L.length ≤ 500) : ∀ (d k f : Nat), k + d = L.length → d < f → (F33_l8 600).L f ((k : Int), L.map Ren4, di, ev) = some (.inr ()) := by
  intro d
  induction d with
  | zero =>
    intro k f hk hf
    obtain ⟨f, rfl⟩ : ∃ f', f = f' + 1 := ⟨f - 1, by omega⟩
    show (F33_l8 600).b _ _ ((F33_l8 600).L f) some = _
    simp only [F33_l8]
    have e2 : decide ((k : Int) < (L.length : Int)) = false := by rw [decide_eq_false_iff_not]; omega
    simp only [List.length_map, e2]
  | succ d ih =>
    intro k f hk hf
    obtain ⟨f, rfl⟩ : ∃ f', f = f' + 1 := ⟨f - 1, by omega⟩
    have hkl : k < L.length := by omega
    have e2 : decide ((k : Int) < (L.length : Int)) = true := by rw [decide_eq_true_iff]; omega
    have e3 : (0 : Int) ≤ (k : Int) := by omega
    have r1 := ih (k + 1) f (by omega) (by omega)
    obtain ⟨⟨m1, m2⟩, ⟨p1, p2⟩, hf', hd'⟩ := hL _ (List.getElem_mem hkl)
    have a1 : decide (L[k].1 < -1000) = false := by rw [decide_eq_false_iff_not]; omega
    have a2 : decide (L[k].1 > 2000) = false := by rw [decide_eq_false_iff_not]; omega
    have a3 : decide (L[k].2.1 < 1) = false := by rw [decide_eq_false_iff_not]; omega
    have a4 : decide (L[k].2.1 > 64) = false := by rw [decide_eq_false_iff_not]; omega
    show (F33_l8 600).b _ _ ((F33_l8 600).L f) some = _
    obtain ⟨Lf, hLf⟩ : ∃ Lf, Lf = (F33_l8 600).L f := ⟨_, rfl⟩
    rw [← hLf] at r1 ⊢
    simp only [F33_l8]
    simp only [List.length_map, e2, e3, if_true, Int.toNat_natCast, get4 L k hkl, Rrd4_en, a1, a2, a3, a4, within_ok 600 hf', within_ok 600 hd', Bool.not_true, nat_succ (show k < 1000000 by omega)]
    exact r1
theorem rvalidate_ok {L : List RT4} {di ev : Int} (P : Pol L di ev) : F33_d 600 (L.map Ren4, di, ev) = some 0 := by
  obtain ⟨⟨l1, l2⟩, hL, ⟨d1, d2⟩, ⟨v1, v2⟩⟩ := P
  have h := rvalidate_loop di ev hL (by omega) L.length 0 600 (by omega) (by omega)
  replace h : (F33_l8 600).L 600 (0, L.map Ren4, di, ev) = some (.inr ()) := h
  simp only [F33_d, FSpec.d, F33_s, List.length_map]
  have e1 : decide ((L.length : Int) < 1) = false := by rw [decide_eq_false_iff_not]; omega
  have e2 : decide ((L.length : Int) > 8) = false := by rw [decide_eq_false_iff_not]; omega
  simp only [e1, e2, within_ok 600 (show 0 ≤ di ∧ di ≤ 100000 by omega), within_ok 600 (show 0 ≤ ev ∧ ev ≤ 100000 by omega), Bool.not_true, F33_d8, h]
end Go.Proofs.Ytnnfpoelkdgjdaa
end
section
namespace Go.Proofs.Ytnnfpoelkdgjdaa
set_option linter.unusedVariables false
set_option linter.unusedSimpArgs false
set_option linter.unnecessarySimpa false
@[reducible] def tmE (e : RT0) : Int := e.2.2.2.2.2.2.2.2.2.2.2.2.2.1
theorem dr3 (r : RT4) : ((Ren4 r).drop 3)[0]? = some (AV.v (.int .i64 r.2.2.2.1)) := rfl
theorem timely_ok {L : List RT4} {di ev : Int} (P : Pol L di ev) (e : RT0) (now : Int) : ∃ b, F12_d 600 (L.map Ren4, di, ev, e, now) = some b ∧ (lev L di ev e = 0 → b = false) := by
  have hl := P.l
  simp only [F12_d, FSpec.d, F12_s]
  rw [level_is di ev e (by omega)]
  have h2 := lev_le L di ev e
  by_cases h0 : lev L di ev e = 0
  · simp only [h0]
    exact ⟨false, rfl, fun _ => rfl⟩
  · have e1 : ((lev L di ev e : Int) == 0) = false := by simp; omega
    have e2 : i64 ((lev L di ev e : Int) - 1) = ((lev L di ev e - 1 : Nat) : Int) := by rw [i64_id (by omega)]; omega
    have e3 : (0 : Int) ≤ ((lev L di ev e - 1 : Nat) : Int) := by omega
    simp only [e1, e2]
    cases hd : decide (i64 (now - tmE e) ≥ 0) with
    | true =>
      simp only [e3, if_true, Int.toNat_natCast, get4 L _ (show lev L di ev e - 1 < L.length by omega), dr3]
      exact ⟨_, rfl, fun h => absurd h h0⟩
    | false => exact ⟨false, rfl, fun _ => rfl⟩
theorem gvalid_loop (x y z : Int) : ∀ (d k f : Nat), k + d = 3 → d < f → ∃ q, (F70_l5 600).L f (x, y, z, (k : Int), -1048576, -1048576, -16384) = some q := by
  intro d
  induction d with
  | zero =>
    intro k f hk hf
    obtain ⟨f, rfl⟩ : ∃ f', f = f' + 1 := ⟨f - 1, by omega⟩
    refine ⟨.inr (), ?_⟩
    show (F70_l5 600).b _ _ ((F70_l5 600).L f) some = _
    simp only [F70_l5]
    have e2 : decide ((k : Int) < 3) = false := by rw [decide_eq_false_iff_not]; omega
    simp only [e2]
  | succ d ih =>
    intro k f hk hf
    obtain ⟨f, rfl⟩ : ∃ f', f = f' + 1 := ⟨f - 1, by omega⟩
    obtain ⟨q, r1⟩ := ih (k + 1) f (by omega) (by omega)
    show ∃ q, (F70_l5 600).b _ _ ((F70_l5 600).L f) some = some q
    obtain ⟨Lf, hLf⟩ : ∃ Lf, Lf = (F70_l5 600).L f := ⟨_, rfl⟩
    rw [← hLf] at r1 ⊢
    simp only [F70_l5]
    have e2 : decide ((k : Int) < 3) = true := by rw [decide_eq_true_iff]; omega
    have hz : (0 : Int) ≤ (k : Int) ∧ (k : Int) < 3 := by omega
    obtain ⟨a, ha⟩ : ∃ a, [AV.v (.int .i64 x), AV.v (.int .i64 y), AV.v (.int .i64 z)][k * 1]? = some (AV.v (.int .i64 a)) := by
      rcases (show k = 0 ∨ k = 1 ∨ k = 2 by omega) with rfl | rfl | rfl <;> exact ⟨_, rfl⟩
    obtain ⟨b, hb⟩ : ∃ b, [AV.v (.int .i64 (-1048576)), AV.v (.int .i64 (-1048576)), AV.v (.int .i64 (-16384))][0 + k * 1]? = some (AV.v (.int .i64 b)) := by
      rcases (show k = 0 ∨ k = 1 ∨ k = 2 by omega) with rfl | rfl | rfl <;> exact ⟨_, rfl⟩
    simp only [e2, hz, and_self, if_true, Int.toNat_natCast, ha, hb, nat_succ (show k < 1000000 by omega)]
    cases decide (a < b) with
    | true => exact ⟨_, rfl⟩
    | false =>
      cases decide (a > 1048576) with
      | true => exact ⟨_, rfl⟩
      | false => exact ⟨q, r1⟩
theorem gvalid_ok (x y z : Int) : ∃ b, F70_d 600 (x, y, z) = some b := by
  obtain ⟨q, h⟩ := gvalid_loop x y z 3 0 600 rfl (by omega)
  replace h : (F70_l5 600).L 600 (x, y, z, 0, -1048576, -1048576, -16384) = some q := h
  have hf : F71_d 600 (x, y, z) = some (x, y, z) := rfl
  simp only [F70_d, FSpec.d, F70_s, hf, F70_d5, h]
  rcases q with q | q
  · exact ⟨_, rfl⟩
  · exact ⟨_, rfl⟩
theorem square_loop (x y z u v w : Int) : ∀ (d k f : Nat) (s : Int), k + d = 3 → d < f → ∃ q : Int, (F51_l9 600).L f (s, u, v, w, (k : Int), x, y, z) = some q ∧ (u = x → v = y → w = z → s = 0 → q = 0) := by
  intro d
  induction d with
  | zero =>
    intro k f s hk hf
    obtain ⟨f, rfl⟩ : ∃ f', f = f' + 1 := ⟨f - 1, by omega⟩
    refine ⟨s, ?_, fun _ _ _ h => h⟩
    show (F51_l9 600).b _ _ ((F51_l9 600).L f) some = _
    simp only [F51_l9]
    have e2 : decide ((k : Int) < 3) = false := by rw [decide_eq_false_iff_not]; omega
    simp only [e2]
  | succ d ih =>
    intro k f s hk hf
    obtain ⟨f, rfl⟩ : ∃ f', f = f' + 1 := ⟨f - 1, by omega⟩
    have e2 : decide ((k : Int) < 3) = true := by rw [decide_eq_true_iff]; omega
    have hz : (0 : Int) ≤ (k : Int) ∧ (k : Int) < 3 := by omega
    obtain ⟨a, ha, ha2⟩ : ∃ a, [AV.v (.int .i64 u), AV.v (.int .i64 v), AV.v (.int .i64 w)][k * 1]? = some (AV.v (.int .i64 a)) ∧ (k = 0 ∧ a = u ∨ k = 1 ∧ a = v ∨ k = 2 ∧ a = w) := by
      rcases (show k = 0 ∨ k = 1 ∨ k = 2 by omega) with rfl | rfl | rfl <;> exact ⟨_, rfl, by simp⟩
    obtain ⟨b, hb, hb2⟩ : ∃ b, [AV.v (.int .i64 x), AV.v (.int .i64 y), AV.v (.int .i64 z)][0 + k * 1]? = some (AV.v (.int .i64 b)) ∧ (k = 0 ∧ b = x ∨ k = 1 ∧ b = y ∨ k = 2 ∧ b = z) := by
      rcases (show k = 0 ∨ k = 1 ∨ k = 2 by omega) with rfl | rfl | rfl <;> exact ⟨_, rfl, by simp⟩
    obtain ⟨q, r1, r2⟩ := ih (k + 1) f (i64 (s + i64 (i64 (a - b) * i64 (a - b)))) (by omega) (by omega)
    refine ⟨q, ?_, fun e1 e2 e3 e4 => r2 e1 e2 e3 ?_⟩
    · show (F51_l9 600).b _ _ ((F51_l9 600).L f) some = _
      obtain ⟨Lf, hLf⟩ : ∃ Lf, Lf = (F51_l9 600).L f := ⟨_, rfl⟩
      rw [← hLf] at r1 ⊢
      simp only [F51_l9]
      simp only [e2, hz, and_self, if_true, Int.toNat_natCast, ha, hb, nat_succ (show k < 1000000 by omega)]
      exact r1
    · have : a = b := by
        rcases ha2 with ⟨h1, h2⟩ | ⟨h1, h2⟩ | ⟨h1, h2⟩ <;> rcases hb2 with ⟨h3, h4⟩ | ⟨h3, h4⟩ | ⟨h3, h4⟩ <;> first | omega | (subst h2 h4; assumption)
      subst this e4
      rw [show a - a = 0 by omega]
      decide
theorem square_ok (x y z u v w : Int) : ∃ q, F51_d 600 (x, y, z, u, v, w) = some q ∧ (x = u → y = v → z = w → q = 0) := by
  obtain ⟨b1, h1⟩ := gvalid_ok x y z
  obtain ⟨b2, h2⟩ := gvalid_ok u v w
  have f1 : F71_d 600 (x, y, z) = some (x, y, z) := rfl
  have f2 : F71_d 600 (u, v, w) = some (u, v, w) := rfl
  obtain ⟨q, h3, h4⟩ := square_loop u v w x y z 3 0 600 0 rfl (by omega)
  replace h3 : (F51_l9 600).L 600 (0, x, y, z, 0, u, v, w) = some q := h3
  simp only [F51_d, FSpec.d, F51_s, h1, h2, f1, f2, F51_d9, h3]
  cases b1 with
  | false => exact ⟨0, rfl, fun _ _ _ => rfl⟩
  | true =>
    cases b2 with
    | false => exact ⟨0, rfl, fun _ _ _ => rfl⟩
    | true => exact ⟨q, rfl, fun e1 e2 e3 => h4 e1 e2 e3 rfl⟩
theorem moved_ok {L : List RT4} {di ev : Int} (P : Pol L di ev) (a e : RT0) : ∃ b, F32_d 600 (L.map Ren4, di, ev, a, e) = some b ∧ (a = e → loE a ≤ hiE a → b = false) := by
  have hl := P.l
  have hdi := P.di
  obtain ⟨q, hq, hq0⟩ := square_ok a.2.2.2.2.2.2.2.2.2.2.1 a.2.2.2.2.2.2.2.2.2.2.2.1 a.2.2.2.2.2.2.2.2.2.2.2.2.1 e.2.2.2.2.2.2.2.2.2.2.1 e.2.2.2.2.2.2.2.2.2.2.2.1 e.2.2.2.2.2.2.2.2.2.2.2.2.1
  simp only [F32_d, FSpec.d, F32_s, validate_ok P, level_is di ev _ (show L.length ≤ 1000 by omega), hq]
  have e1 : ((0 : Int) != 0) = false := by decide
  have e2 : decide (di ≤ 4194304) = true := by rw [decide_eq_true_iff]; omega
  simp only [e1, e2]
  cases hlv : ((lev L di ev a : Int) != (lev L di ev e : Int)) with
  | true => exact ⟨_, rfl, fun h => by subst h; simp at hlv⟩
  | false =>
    cases hs : decide (q > i64 (di * di)) with
    | true =>
      refine ⟨_, rfl, fun h _ => ?_⟩
      subst h
      rw [hq0 rfl rfl rfl, decide_eq_true_iff] at hs
      have : 0 ≤ di * di := Int.mul_nonneg hdi.1 hdi.1
      have h2 : di * di ≤ 1000 * 1000 := Int.mul_le_mul hdi.2 hdi.2 hdi.1 (by omega)
      rw [i64_id (by omega)] at hs
      omega
    | false =>
      obtain ⟨ap, hap, hap0⟩ : ∃ ap, F52_d 600 (tmE a, tmE e) = some ap ∧ (a = e → ap = 0) := by
        simp only [F52_d, FSpec.d, F52_s]
        cases decide (tmE a < tmE e) with
        | true => exact ⟨_, rfl, fun h => by subst h; rw [Int.sub_self]; decide⟩
        | false => exact ⟨_, rfl, fun h => by subst h; rw [Int.sub_self]; decide⟩
      obtain ⟨ag, hag, hag0⟩ : ∃ ag, F53_d 600 (loE a, hiE a, loE e, hiE e) = some ag ∧ (a = e → loE a ≤ hiE a → ag = true) := by
        simp only [F53_d, FSpec.d, F53_s]
        exact ⟨_, rfl, fun h h2 => by subst h; rw [decide_eq_true_iff]; split <;> split <;> omega⟩
      simp only [hap, hag]
      cases hx : decide (ap > IntKind.u64.wrap di) with
      | true =>
        refine ⟨_, rfl, fun h _ => ?_⟩
        rw [hap0 h, decide_eq_true_iff] at hx
        have : (0 : Int) ≤ IntKind.u64.wrap di := by
          rw [show IntKind.u64.wrap di = di from IntWalk.u64_in _ (by omega)]
          omega
        omega
      | false => exact ⟨_, rfl, fun h h2 => by rw [hag0 h h2]; rfl⟩
end Go.Proofs.Ytnnfpoelkdgjdaa
end
section
namespace Go.Proofs.Ytnnfpoelkdgjdaa
set_option linter.unusedVariables false
set_option linter.unusedSimpArgs false
set_option linter.unnecessarySimpa false
theorem meets_ok (r : RT4) (e : RT0) (X : LvX) (hX : X.2.2.2 = e) : F34_d 600 (r, e) = some (meetsB (toRl r) (lvEv X)) := by
  subst hX
  simp only [F34_d, FSpec.d, F34_s]
  have : meetsB (toRl r) (lvEv X) = (decide ((lvEv X).ct ≥ 1) && (decide ((lvEv X).lo ≥ r.1) && (decide (((lvEv X).n : Int) ≥ r.2.1) && decide ((lvEv X).mf ≤ r.2.2.1)))) := by
    unfold meetsB
    rw [Bool.eq_iff_iff]
    simp [toRl]
    exact decide_eq_true_iff
  rw [this]
  show (match decide ((lvEv X).ct ≥ 1) with | true => _ | false => _) = _
  cases decide ((lvEv X).ct ≥ 1) with
  | false => rfl
  | true =>
    show (match decide ((lvEv X).lo ≥ r.1) with | true => _ | false => _) = _
    cases decide ((lvEv X).lo ≥ r.1) with
    | false => rfl
    | true =>
      show (match decide (((lvEv X).n : Int) ≥ r.2.1) with | true => _ | false => _) = _
      cases decide (((lvEv X).n : Int) ≥ r.2.1) with
      | false => rfl
      | true => rfl
theorem rlevel_loop {L : List RT4} {di ev : Int} (P : Pol L di ev) (e : RT0) : ∀ (d k f : Nat), k + d = L.length → d < f → (F14_l5 600).L f ((levN (L.map toRl) (lvEv (L.map Ren4, di, ev, e)) k : Int), (k : Int), L.map Ren4, di, ev, e) = some ((levN (L.map toRl) (lvEv (L.map Ren4, di, ev, e)) L.length : Nat) : Int) := by
  have hl := P.l
  intro d
  induction d with
  | zero =>
    intro k f hk hf
    obtain ⟨f, rfl⟩ : ∃ f', f = f' + 1 := ⟨f - 1, by omega⟩
    show (F14_l5 600).b _ _ ((F14_l5 600).L f) some = _
    simp only [F14_l5]
    have e2 : decide ((k : Int) < (L.length : Int)) = false := by rw [decide_eq_false_iff_not]; omega
    simp only [List.length_map, e2]
    rw [show k = L.length by omega]
  | succ d ih =>
    intro k f hk hf
    obtain ⟨f, rfl⟩ : ∃ f', f = f' + 1 := ⟨f - 1, by omega⟩
    have hkl : k < L.length := by omega
    have e2 : decide ((k : Int) < (L.length : Int)) = true := by rw [decide_eq_true_iff]; omega
    have e3 : (0 : Int) ≤ (k : Int) := by omega
    have e4 : ((0 : Int) == 0) = true := by decide
    have r1 := ih (k + 1) f (by omega) (by omega)
    have hm := meets_ok L[k] e (L.map Ren4, di, ev, e) rfl
    have hstep : levN (L.map toRl) (lvEv (L.map Ren4, di, ev, e)) (k + 1) = if meetsB (toRl L[k]) (lvEv (L.map Ren4, di, ev, e)) = true then k + 1 else levN (L.map toRl) (lvEv (L.map Ren4, di, ev, e)) k := by
      have : ((L.map toRl)[k]?.getD rl0) = toRl L[k] := by simp [hkl]
      rw [levN, this]
    show (F14_l5 600).b _ _ ((F14_l5 600).L f) some = _
    obtain ⟨Lf, hLf⟩ : ∃ Lf, Lf = (F14_l5 600).L f := ⟨_, rfl⟩
    rw [← hLf] at r1 ⊢
    rw [hstep] at r1
    simp only [F14_l5]
    simp only [List.length_map, e2, rvalidate_ok P, e4, e3, if_true, Int.toNat_natCast, get4 L k hkl, Rrd4_en, hm, nat_succ (show k < 1000000 by omega)]
    cases hb : meetsB (toRl L[k]) (lvEv (L.map Ren4, di, ev, e)) with
    | true => rw [hb] at r1; exact r1
    | false => rw [hb] at r1; exact r1
theorem vE_zero {L : List RT4} {di ev : Int} (P : Pol L di ev) : vE (L.map toRl) di ev = 0 := by
  obtain ⟨⟨l1, l2⟩, hL, ⟨d1, d2⟩, ⟨v1, v2⟩⟩ := P
  unfold vE
  rw [if_pos]
  refine ⟨by rw [List.length_map]; omega, by omega, by omega, fun r hr => ?_⟩
  obtain ⟨q, hq, rfl⟩ := List.mem_map.1 hr
  obtain ⟨⟨m1, m2⟩, ⟨p1, p2⟩, ⟨f1, f2⟩, ⟨d1, d2⟩⟩ := hL q hq
  unfold validB toRl
  rw [decide_eq_true_iff]
  dsimp only
  omega
theorem lev_eq {L : List RT4} {di ev : Int} (P : Pol L di ev) (e : RT0) : lev L di ev e = levN (L.map toRl) (lvEv (L.map Ren4, di, ev, e)) L.length := by
  unfold lev levF
  rw [if_pos (vE_zero P), List.length_map]
theorem rlevel_ok {L : List RT4} {di ev : Int} (P : Pol L di ev) (e : RT0) : F14_d 600 (L.map Ren4, di, ev, e) = some (lev L di ev e : Int) := by
  have hl := P.l
  have h := rlevel_loop P e L.length 0 600 (by omega) (by omega)
  replace h : (F14_l5 600).L 600 (0, 0, L.map Ren4, di, ev, e) = some ((levN (L.map toRl) (lvEv (L.map Ren4, di, ev, e)) L.length : Nat) : Int) := h
  simp only [F14_d, FSpec.d, F14_s, F14_d5, h]
  rw [lev_eq P]
theorem rgvalid_ok (x y z : Int) : ∃ b, F87_d 600 (x, y, z) = some b := by
  simp only [F87_d, FSpec.d, F87_s]
  (repeat' split) <;> exact ⟨_, rfl⟩
theorem rsquare_ok (x y z u v w : Int) : ∃ q, F76_d 600 (x, y, z, u, v, w) = some q := by
  obtain ⟨b1, h1⟩ := rgvalid_ok x y z
  obtain ⟨b2, h2⟩ := rgvalid_ok u v w
  have hs : ∀ a : Int, F88_d 600 a = some (i64 (a * a)) := fun a => rfl
  simp only [F76_d, FSpec.d, F76_s, h1, h2, hs]
  cases b1 with
  | false => exact ⟨_, rfl⟩
  | true =>
    cases b2 with
    | false => exact ⟨_, rfl⟩
    | true => exact ⟨_, rfl⟩
theorem rmoved_ok {L : List RT4} {di ev : Int} (P : Pol L di ev) (a e : RT0) : ∃ b, F57_d 600 (L.map Ren4, di, ev, a, e) = some b := by
  have e1 : ((0 : Int) != 0) = false := by decide
  obtain ⟨q, hq⟩ := rsquare_ok a.2.2.2.2.2.2.2.2.2.2.1 a.2.2.2.2.2.2.2.2.2.2.2.1 a.2.2.2.2.2.2.2.2.2.2.2.2.1 e.2.2.2.2.2.2.2.2.2.2.1 e.2.2.2.2.2.2.2.2.2.2.2.1 e.2.2.2.2.2.2.2.2.2.2.2.2.1
  have hag : F75_d 600 (loE a, hiE a, loE e, hiE e) = some (decide ((if loE e > loE a then loE e else loE a) ≤ (if hiE e < hiE a then hiE e else hiE a))) := rfl
  simp only [F57_d, FSpec.d, F57_s, rvalidate_ok P, rlevel_ok P, hq, e1, hag]
  (repeat' split) <;> first | exact ⟨_, rfl⟩ | skip
theorem rtimely_ok {L : List RT4} {di ev : Int} (P : Pol L di ev) (e : RT0) (now : Int) : ∃ b, F59_d 600 (L.map Ren4, di, ev, e, now) = some b := by
  have hl := P.l
  simp only [F59_d, FSpec.d, F59_s, rlevel_ok P]
  have h2 := lev_le L di ev e
  by_cases h0 : lev L di ev e = 0
  · simp only [h0]
    exact ⟨false, rfl⟩
  · have e1 : ((lev L di ev e : Int) == 0) = false := by simp; omega
    have e2 : i64 ((lev L di ev e : Int) - 1) = ((lev L di ev e - 1 : Nat) : Int) := by rw [i64_id (by omega)]; omega
    have e3 : (0 : Int) ≤ ((lev L di ev e - 1 : Nat) : Int) := by omega
    simp only [e1, e2]
    cases hd : decide (i64 (now - tmE e) ≥ 0) with
    | true =>
      simp only [e3, if_true, Int.toNat_natCast, get4 L _ (show lev L di ev e - 1 < L.length by omega), dr3]
      exact ⟨_, rfl⟩
    | false => exact ⟨false, rfl⟩
end Go.Proofs.Ytnnfpoelkdgjdaa
end
section
namespace Go.Proofs.Ytnnfpoelkdgjdaa
set_option linter.unusedVariables false
set_option linter.unusedSimpArgs false
set_option linter.unnecessarySimpa false
theorem id3 (a : RT3) : ((Ren3 a).drop 0)[0]? = some (AV.v (.int .i64 (idA a))) := rfl
theorem wd3 (a : RT3) : ((Ren3 a).drop 1)[0]? = some (AV.v (.bool (wdA a))) := rfl
theorem at3 (a : RT3) : ((Ren3 a).drop 37)[0]? = some (AV.v (.int .i64 (atA a))) := rfl
theorem lv3 (a : RT3) : ((Ren3 a).drop 11)[0]? = some (AV.v (.int .i64 (lvA a))) := rfl
theorem nm3 (a : RT3) : Rrd1 ((Ren3 a).drop 2) = some (nmA a) := rfl
theorem ev3 (a : RT3) : Rrd0 ((Ren3 a).drop 12) = some (evA a) := rfl
structure Ok (al : List RT3) (number now : Int) : Prop where
  len : al.length ≤ 100
  asc : al.Pairwise fun a b => idA a < idA b
  rng : ∀ a ∈ al, 0 ≤ idA a ∧ idA a < number ∧ 0 ≤ atA a ∧ atA a ≤ now
  nm : al.Pairwise fun a b => wdA a = false → wdA b = false → nmA a ≠ nmA b
  pk : ∀ a ∈ al, ∃ P : List RT1, P.length ≤ 4 ∧ pkE (evA a) = P.map Ren1
  num : 0 ≤ number ∧ number ≤ 800
  now : 0 ≤ now ∧ now ≤ 1000000
theorem drop_eq {α : Type} {A : List α} {k : Nat} {e : α} {R : List α} (hR : A.drop k = e :: R) : ∃ h : k < A.length, A[k] = e ∧ A.drop (k + 1) = R := by
  have hkl : k < A.length := by
    rcases Nat.lt_or_ge k A.length with h | h
    · exact h
    · rw [List.drop_eq_nil_of_le h] at hR; cases hR
  have := List.drop_eq_getElem_cons hkl
  rw [hR] at this
  exact ⟨hkl, (List.cons.inj this).1.symm, (List.cons.inj this).2.symm⟩
theorem avalid_loop (A : List RT3) (hA : A.length ≤ 500) : ∀ (R : List RT3) (k f : Nat) (last : Int) (M : List RT1), A.drop k = R → R.length < f → k + R.length = A.length →
    R.Pairwise (fun a b => idA a < idA b) → (∀ a ∈ R, last < idA a) → (∀ a ∈ R, idA a < 1000 ∧ 0 ≤ atA a ∧ atA a ≤ 1000000) → R.Pairwise (fun a b => wdA a = false → wdA b = false → nmA a ≠ nmA b) → (∀ a ∈ R, wdA a = false → nmA a ∉ M) →
    (F18_l10 600).L f (A.map Ren3, last, (A.length : Int), (k : Int), M.map Ren1) = some (.inr ())
  | [], k, f, last, M, hR, hf, hk, h1, h2, h3, h4, h5 => by
    obtain ⟨f, rfl⟩ : ∃ f', f = f' + 1 := ⟨f - 1, by omega⟩
    show (F18_l10 600).b _ _ ((F18_l10 600).L f) some = _
    simp only [F18_l10]
    have e2 : decide ((k : Int) < (A.length : Int)) = false := by rw [decide_eq_false_iff_not]; simp at hk; omega
    simp only [e2]
  | e :: R, k, f, last, M, hR, hf, hk, h1, h2, h3, h4, h5 => by
    obtain ⟨f, rfl⟩ : ∃ f', f = f' + 1 := ⟨f - 1, by omega⟩
    rw [List.length_cons] at hf hk
    obtain ⟨hkl, hek, hR'⟩ := drop_eq hR
    rw [List.pairwise_cons] at h1 h4
    have he := h3 e List.mem_cons_self
    have e2 : decide ((k : Int) < (A.length : Int)) = true := by rw [decide_eq_true_iff]; omega
    have e3 : (0 : Int) ≤ (k : Int) := by omega
    have a1 : decide (idA e ≤ last) = false := by rw [decide_eq_false_iff_not]; have := h2 e List.mem_cons_self; omega
    have a2 : decide (idA e ≥ 1000) = false := by rw [decide_eq_false_iff_not]; omega
    have a3 : decide (atA e < 0) = false := by rw [decide_eq_false_iff_not]; omega
    have a4 : decide (atA e > 18014398509481984) = false := by rw [decide_eq_false_iff_not]; omega
    show (F18_l10 600).b _ _ ((F18_l10 600).L f) some = _
    obtain ⟨Lf, hLf⟩ : ∃ Lf, Lf = (F18_l10 600).L f := ⟨_, rfl⟩
    cases hw : wdA e with
    | true =>
      have r1 := avalid_loop A hA R (k + 1) f (idA e) M hR' (by omega) (by omega) h1.2 h1.1 (fun a ha => h3 a (List.mem_cons_of_mem _ ha)) h4.2 (fun a ha => h5 a (List.mem_cons_of_mem _ ha))
      rw [← hLf] at r1 ⊢
      simp only [F18_l10]
      simp only [e2, e3, if_true, Int.toNat_natCast, get3 A k hkl, hek, Rrd3_en, a1, a2, a3, a4, hw, nat_succ (show k < 1000000 by omega)]
      exact r1
    | false =>
      obtain ⟨m1, m2⟩ := has_no M (nmA e) (h5 e List.mem_cons_self hw)
      have r1 := avalid_loop A hA R (k + 1) f (idA e) (M ++ [nmA e]) hR' (by omega) (by omega) h1.2 h1.1 (fun a ha => h3 a (List.mem_cons_of_mem _ ha)) h4.2 (fun a ha hwa hm => by
        rcases List.mem_append.1 hm with h | h
        · exact h5 a (List.mem_cons_of_mem _ ha) hwa h
        · exact h4.1 a ha hw hwa (List.mem_singleton.1 h).symm)
      rw [← hLf] at r1 ⊢
      simp only [F18_l10]
      simp only [e2, e3, if_true, Int.toNat_natCast, get3 A k hkl, hek, Rrd3_en, a1, a2, a3, a4, hw, m1, m2, nat_succ (show k < 1000000 by omega)]
      exact r1
theorem alert_valid {A : List RT3} {number now : Int} (O : Ok A number now) : F18_d 600 (A.map Ren3) = some true := by
  have hl := O.len
  have h := avalid_loop A (by omega) A 0 600 (-1) [] rfl (by omega) (by omega) O.asc (fun a ha => by have := O.rng a ha; omega) (fun a ha => by have := O.rng a ha; have := O.num; have := O.now; omega) O.nm (fun a _ _ h => by cases h)
  replace h : (F18_l10 600).L 600 (A.map Ren3, -1, (A.length : Int), 0, []) = some (.inr ()) := h
  have e1 : decide ((A.length : Int) > 200) = false := by rw [decide_eq_false_iff_not]; omega
  simp only [F18_d, FSpec.d, F18_s, List.length_map, e1, F18_d10, h]
theorem rnames_loop (A : List RT3) (hA : A.length ≤ 500) (h : A.Pairwise (fun a b => wdA a = false → wdA b = false → nmA a ≠ nmA b)) (i : Nat) (hi : i < A.length) : ∀ (d k f : Nat), k + d = i → d < f → (F72_l16 600).L f (A.map Ren3, (i : Int), (k : Int)) = some (.inr (A.map Ren3, (i : Int))) := by
  intro d
  induction d with
  | zero =>
    intro k f hk hf
    obtain ⟨f, rfl⟩ : ∃ f', f = f' + 1 := ⟨f - 1, by omega⟩
    show (F72_l16 600).b _ _ ((F72_l16 600).L f) some = _
    simp only [F72_l16]
    have e2 : decide ((k : Int) < (i : Int)) = false := by rw [decide_eq_false_iff_not]; omega
    simp only [e2]
  | succ d ih =>
    intro k f hk hf
    obtain ⟨f, rfl⟩ : ∃ f', f = f' + 1 := ⟨f - 1, by omega⟩
    have hkl : k < A.length := by omega
    have e2 : decide ((k : Int) < (i : Int)) = true := by rw [decide_eq_true_iff]; omega
    have e3 : (0 : Int) ≤ (k : Int) := by omega
    have e4 : (0 : Int) ≤ (i : Int) := by omega
    have r1 := ih (k + 1) f (by omega) (by omega)
    show (F72_l16 600).b _ _ ((F72_l16 600).L f) some = _
    obtain ⟨Lf, hLf⟩ : ∃ Lf, Lf = (F72_l16 600).L f := ⟨_, rfl⟩
    rw [← hLf] at r1 ⊢
    simp only [F72_l16]
    simp only [e2, e4, if_true, Int.toNat_natCast, get3 A i hi, wd3, nat_succ (show k < 1000000 by omega)]
    cases hw : wdA A[i] with
    | true => exact r1
    | false =>
      simp only [Bool.not_false, e3, if_true, get3 A k hkl, wd3]
      cases hw2 : wdA A[k] with
      | true => exact r1
      | false =>
        have hne : eqP (nmA A[i]) (nmA A[k]) = false := eqP_ff (Ne.symm (List.pairwise_iff_getElem.1 h k i hkl hi (by omega) hw2 hw))
        simp only [Bool.not_false, nm3, hne]
        exact r1
theorem rvalid_aloop (A : List RT3) (hA : A.length ≤ 500) (h1 : A.Pairwise fun a b => idA a < idA b) (h2 : ∀ a ∈ A, 0 ≤ idA a ∧ idA a < 1000 ∧ 0 ≤ atA a ∧ atA a ≤ 1000000) (h3 : A.Pairwise (fun a b => wdA a = false → wdA b = false → nmA a ≠ nmA b)) : ∀ (d k f : Nat), k + d = A.length → d < f → (F72_l4 600).L f (A.map Ren3, (k : Int)) = some (.inr (A.map Ren3)) := by
  intro d
  induction d with
  | zero =>
    intro k f hk hf
    obtain ⟨f, rfl⟩ : ∃ f', f = f' + 1 := ⟨f - 1, by omega⟩
    show (F72_l4 600).b _ _ ((F72_l4 600).L f) some = _
    simp only [F72_l4]
    have e2 : decide ((k : Int) < (A.length : Int)) = false := by rw [decide_eq_false_iff_not]; omega
    simp only [List.length_map, e2]
  | succ d ih =>
    intro k f hk hf
    obtain ⟨f, rfl⟩ : ∃ f', f = f' + 1 := ⟨f - 1, by omega⟩
    have hkl : k < A.length := by omega
    have e2 : decide ((k : Int) < (A.length : Int)) = true := by rw [decide_eq_true_iff]; omega
    have e3 : (0 : Int) ≤ (k : Int) := by omega
    have r1 := ih (k + 1) f (by omega) (by omega)
    obtain ⟨q1, q2, q3, q4⟩ := h2 _ (List.getElem_mem hkl)
    have a1 : decide (idA A[k] < 0) = false := by rw [decide_eq_false_iff_not]; omega
    have a2 : decide (idA A[k] ≥ 1000) = false := by rw [decide_eq_false_iff_not]; omega
    have a3 : decide (atA A[k] < 0) = false := by rw [decide_eq_false_iff_not]; omega
    have a4 : decide (atA A[k] > 18014398509481984) = false := by rw [decide_eq_false_iff_not]; omega
    have hn := rnames_loop A hA h3 k hkl k 0 600 (by omega) (by omega)
    replace hn : (F72_l16 600).L 600 (A.map Ren3, (k : Int), 0) = some (.inr (A.map Ren3, (k : Int))) := hn
    show (F72_l4 600).b _ _ ((F72_l4 600).L f) some = _
    obtain ⟨Lf, hLf⟩ : ∃ Lf, Lf = (F72_l4 600).L f := ⟨_, rfl⟩
    rw [← hLf] at r1 ⊢
    simp only [F72_l4]
    simp only [List.length_map, e2, e3, if_true, Int.toNat_natCast, get3 A k hkl, id3, at3, a1, a2, a3, a4, F72_d16, hn, nat_succ (show k < 1000000 by omega)]
    by_cases hk0 : (k : Int) > 0
    · have hk1 : i64 ((k : Int) - 1) = ((k - 1 : Nat) : Int) := by rw [i64_id (by omega)]; omega
      have e7 : (0 : Int) ≤ ((k - 1 : Nat) : Int) := by omega
      have a5 : decide (idA A[k] ≤ idA A[k - 1]) = false := by
        rw [decide_eq_false_iff_not]
        have := List.pairwise_iff_getElem.1 h1 (k - 1) k (by omega) hkl (by omega)
        omega
      simp only [hk0, decide_true, hk1, e7, if_true, Int.toNat_natCast, get3 A (k - 1) (by omega), id3, a5]
      exact r1
    · simp only [hk0, decide_false]
      exact r1
theorem ralert_valid {A : List RT3} {number now : Int} (O : Ok A number now) : F72_d 600 (A.map Ren3) = some true := by
  have hl := O.len
  have h := rvalid_aloop A (by omega) O.asc (fun a ha => by have := O.rng a ha; have := O.num; have := O.now; omega) O.nm A.length 0 600 (by omega) (by omega)
  replace h : (F72_l4 600).L 600 (A.map Ren3, 0) = some (.inr (A.map Ren3)) := h
  have e1 : decide ((A.length : Int) ≤ 200) = true := by rw [decide_eq_true_iff]; omega
  simp only [F72_d, FSpec.d, F72_s, F72_d4, h, List.length_map, e1]
theorem late_loop (A : List RT3) (now : Int) (hA : A.length ≤ 500) (h : ∀ a ∈ A, atA a ≤ now) : ∀ (d k f : Nat), k + d = A.length → d < f → (F63_l4 600).L f (A.map Ren3, (A.length : Int), (k : Int), now) = some (.inr now) := by
  intro d
  induction d with
  | zero =>
    intro k f hk hf
    obtain ⟨f, rfl⟩ : ∃ f', f = f' + 1 := ⟨f - 1, by omega⟩
    show (F63_l4 600).b _ _ ((F63_l4 600).L f) some = _
    simp only [F63_l4]
    have e2 : decide ((k : Int) < (A.length : Int)) = false := by rw [decide_eq_false_iff_not]; omega
    simp only [e2]
  | succ d ih =>
    intro k f hk hf
    obtain ⟨f, rfl⟩ : ∃ f', f = f' + 1 := ⟨f - 1, by omega⟩
    have hkl : k < A.length := by omega
    have e2 : decide ((k : Int) < (A.length : Int)) = true := by rw [decide_eq_true_iff]; omega
    have e3 : (0 : Int) ≤ (k : Int) := by omega
    have r1 := ih (k + 1) f (by omega) (by omega)
    have hq : F46_d 600 (A[k], now) = some (false, now) := by
      simp only [F46_d, FSpec.d, F46_s]
      have : decide (now < atA A[k]) = false := by
        rw [decide_eq_false_iff_not]
        have := h _ (List.getElem_mem hkl)
        omega
      rw [this]
    show (F63_l4 600).b _ _ ((F63_l4 600).L f) some = _
    obtain ⟨Lf, hLf⟩ : ∃ Lf, Lf = (F63_l4 600).L f := ⟨_, rfl⟩
    rw [← hLf] at r1 ⊢
    simp only [F63_l4]
    simp only [e2, e3, if_true, Int.toNat_natCast, get3 A k hkl, Rrd3_en, hq, nat_succ (show k < 1000000 by omega)]
    exact r1
theorem late_ok (A : List RT3) (now : Int) (hA : A.length ≤ 500) (h : ∀ a ∈ A, atA a ≤ now) : F45_d 600 (A.map Ren3, now) = some (false, now) := by
  have h := late_loop A now hA h A.length 0 600 (by omega) (by omega)
  replace h : (F63_l4 600).L 600 (A.map Ren3, (A.length : Int), 0, now) = some (.inr now) := h
  simp only [F45_d, FSpec.d, F45_s, F63_d, F63_s, F63_d4, List.length_map, h]
  rfl
theorem last_get {A : List RT3} (h : 0 < A.length) : (A.map Ren3)[A.length - 1]? = some (Ren3 A[A.length - 1]) := get3 A _ (by omega)
theorem refused_ok {L : List RT4} {di ev number now now' : Int} {A : List RT3} {E : List RT0} (P : Pol L di ev) (O : Ok A number now) (hE : EvOk E) (hn : now ≤ now' ∧ now' ≤ 1000000) : F27_d 600 (L.map Ren4, di, ev, A.map Ren3, number, E.map Ren0, now') = some 0 := by
  have hl := O.len
  have hnum := O.num
  have hnow := O.now
  have a1 : ((0 : Int) != 0) = false := by decide
  have a2 : decide (number < 0) = false := by rw [decide_eq_false_iff_not]; omega
  have a3 : decide (now' < 0) = false := by rw [decide_eq_false_iff_not]; omega
  have a4 : decide (now' > 18014398509481984) = false := by rw [decide_eq_false_iff_not]; omega
  have a5 := late_ok A now' (by omega) (fun a ha => by have := O.rng a ha; omega)
  simp only [F27_d, FSpec.d, F27_s, validate_ok P, alert_valid O, hE.v, a1, a2, a3, a4, a5, Bool.not_true, List.length_map]
  by_cases h0 : (A.length : Int) > 0
  · have hk1 : i64 ((A.length : Int) - 1) = ((A.length - 1 : Nat) : Int) := by rw [i64_id (by omega)]; omega
    have e7 : (0 : Int) ≤ ((A.length - 1 : Nat) : Int) := by omega
    have a6 : decide (number ≤ idA A[A.length - 1]) = false := by
      rw [decide_eq_false_iff_not]
      have := O.rng _ (List.getElem_mem (show A.length - 1 < A.length by omega))
      omega
    simp only [h0, decide_true, hk1, e7, if_true, Int.toNat_natCast, last_get (show 0 < A.length by omega), id3, a6]
  · simp only [h0, decide_false]
theorem rlate_loop (A : List RT3) (now : Int) (hA : A.length ≤ 500) (h : ∀ a ∈ A, atA a ≤ now) : ∀ (d k f : Nat), k + d = A.length → d < f → (F55_l16 600).L f (A.map Ren3, now, (k : Int)) = some (.inr ()) := by
  intro d
  induction d with
  | zero =>
    intro k f hk hf
    obtain ⟨f, rfl⟩ : ∃ f', f = f' + 1 := ⟨f - 1, by omega⟩
    show (F55_l16 600).b _ _ ((F55_l16 600).L f) some = _
    simp only [F55_l16]
    have e2 : decide ((k : Int) < (A.length : Int)) = false := by rw [decide_eq_false_iff_not]; omega
    simp only [List.length_map, e2]
  | succ d ih =>
    intro k f hk hf
    obtain ⟨f, rfl⟩ : ∃ f', f = f' + 1 := ⟨f - 1, by omega⟩
    have hkl : k < A.length := by omega
    have e2 : decide ((k : Int) < (A.length : Int)) = true := by rw [decide_eq_true_iff]; omega
    have e3 : (0 : Int) ≤ (k : Int) := by omega
    have r1 := ih (k + 1) f (by omega) (by omega)
    have a1 : decide (now < atA A[k]) = false := by
      rw [decide_eq_false_iff_not]
      have := h _ (List.getElem_mem hkl)
      omega
    show (F55_l16 600).b _ _ ((F55_l16 600).L f) some = _
    obtain ⟨Lf, hLf⟩ : ∃ Lf, Lf = (F55_l16 600).L f := ⟨_, rfl⟩
    rw [← hLf] at r1 ⊢
    simp only [F55_l16]
    simp only [List.length_map, e2, e3, if_true, Int.toNat_natCast, get3 A k hkl, at3, a1, nat_succ (show k < 1000000 by omega)]
    exact r1
theorem errors_ok {L : List RT4} {di ev number now now' : Int} {A : List RT3} {E : List RT0} {m : Nat} (P : Pol L di ev) (O : Ok A number now) (hm : m ≤ 5) (hE : Evs 0 m E) (hn : now ≤ now' ∧ now' ≤ 1000000) : F55_d 600 (L.map Ren4, di, ev, A.map Ren3, number, E.map Ren0, now') = some 0 := by
  have hl := O.len
  have hnum := O.num
  have hnow := O.now
  have a1 : ((0 : Int) != 0) = false := by decide
  have a2 : decide (number < 0) = false := by rw [decide_eq_false_iff_not]; omega
  have a3 : decide (now' < 0) = false := by rw [decide_eq_false_iff_not]; omega
  have a4 : decide (now' > 18014398509481984) = false := by rw [decide_eq_false_iff_not]; omega
  have a5 := rlate_loop A now' (by omega) (fun a ha => by have := O.rng a ha; omega) A.length 0 600 (by omega) (by omega)
  replace a5 : (F55_l16 600).L 600 (A.map Ren3, now', 0) = some (.inr ()) := a5
  simp only [F55_d, FSpec.d, F55_s, rvalidate_ok P, ralert_valid O, event_rvalid hm hE, a1, a2, a3, a4, F55_d16, a5, Bool.not_true, List.length_map]
  by_cases h0 : (A.length : Int) > 0
  · have hk1 : i64 ((A.length : Int) - 1) = ((A.length - 1 : Nat) : Int) := by rw [i64_id (by omega)]; omega
    have e7 : (0 : Int) ≤ ((A.length - 1 : Nat) : Int) := by omega
    have a6 : decide (number ≤ idA A[A.length - 1]) = false := by
      rw [decide_eq_false_iff_not]
      have := O.rng _ (List.getElem_mem (show A.length - 1 < A.length by omega))
      omega
    simp only [h0, decide_true, hk1, e7, if_true, Int.toNat_natCast, last_get (show 0 < A.length by omega), id3, a6]
  · simp only [h0, decide_false]
end Go.Proofs.Ytnnfpoelkdgjdaa
end
section
namespace Go.Proofs.Ytnnfpoelkdgjdaa
set_option linter.unusedVariables false
set_option linter.unusedSimpArgs false
set_option linter.unnecessarySimpa false
theorem clone_ok (x : List (List AV)) (h : x.length ≤ 100000) : F47_d 600 x = some x := by
  simp only [F47_d, FSpec.d, F47_s]
  have hb : (([] : List (List AV)).length + x.length) * 104 ≤ maxBytes := by unfold maxBytes; simp; omega
  cases x with
  | nil => simp only [hb, if_true]; exact both_self _
  | cons a r => simp only [hb, if_true, List.nil_append]
theorem copied_ok (e : RT0) (h : (pkE e).length ≤ 100000) : F29_d 600 e = some e := by
  simp only [F29_d, FSpec.d, F29_s, clone_ok (pkE e) h]
theorem fl3 (L : List RT3) : (fl Ren3 L).map dat0 = fl Ren3 L := fl_dat Ren3 (fun _ => rfl) L
theorem len3 (L : List RT3) : (fl Ren3 L).length = L.length * 38 := fl_len Ren3 38 Ren3_len L
theorem app3 (L : List RT3) (a : RT3) (k : Nat) (hk : k = L.length) : (fl Ren3 L).take (k * 38) ++ [Ren3 a].flatten = fl Ren3 (L ++ [a]) := by
  rw [fl_take Ren3 38 Ren3_len L k hk, ← fl_app]; simp
theorem flat3 (L : List RT3) : (L.map Ren3).flatten = fl Ren3 L := rfl
theorem cloneA_ok (A : List RT3) (h : A.length ≤ 100000) : F48a_d 600 (A.map Ren3) = some (A.length, fl Ren3 A) := by
  simp only [F48a_d, FSpec.d, F48a_s]
  have hb : 0 * 38 ≤ ([] : List AV).length ∧ (0 + (A.map Ren3).length) * 384 ≤ maxBytes := by unfold maxBytes; simp; omega
  cases A with
  | nil => 
    simp only [hb, and_self, if_true]
    exact both_self _
  | cons a r =>
    simp only [hb, and_self, if_true]
    rw [Nat.zero_add, List.length_map, Nat.zero_mul, List.take_nil, List.nil_append, flat3, fl3]
    rfl
theorem splice3 (L : List RT3) (k j : Nat) (hk : k < L.length) (new : List AV) (b : RT3) (hj : j + new.length ≤ 38) (hb : splice (Ren3 L[k]) j new = Ren3 b) : splice (fl Ren3 L) ((0 + ((k : Int)).toNat) * 38 + j) new = fl Ren3 (L.set k b) := by
  rw [Nat.zero_add, Int.toNat_natCast]
  exact fl_splice Ren3 38 Ren3_len L k j hk new b hb hj
theorem drop_ev (L : List RT3) (k : Nat) (hk : k < L.length) : Rrd0 ((fl Ren3 L).drop ((0 + ((k : Int)).toNat) * 38 + 12)) = some (evA L[k]) := by
  rw [Nat.zero_add, Int.toNat_natCast, fl_drop Ren3 38 Ren3_len L k 12 hk (by omega)]
  have : (Ren3 L[k]).drop 12 = Ren0 (evA L[k]) ++ [AV.v (.int .i64 (atA L[k]))] := rfl
  rw [this, List.append_assoc, Rrd0_app]
theorem sp_ev (a : RT3) (e : RT0) : splice (Ren3 a) 12 (Ren0 e) = Ren3 (mkA (idA a) (wdA a) (nmA a) (lvA a) e (atA a)) := by kernel_rfl
theorem sp_wd (a : RT3) (b : Bool) : splice (Ren3 a) 1 [AV.v (.bool b)] = Ren3 (mkA (idA a) b (nmA a) (lvA a) (evA a) (atA a)) := by kernel_rfl
theorem sp_nm (a : RT3) (p : RT1) : splice (Ren3 a) 2 (Ren1 p) = Ren3 (mkA (idA a) (wdA a) p (lvA a) (evA a) (atA a)) := by kernel_rfl
theorem sp_lv (a : RT3) (x : Int) : splice (Ren3 a) 11 [AV.v (.int .i64 x)] = Ren3 (mkA (idA a) (wdA a) (nmA a) x (evA a) (atA a)) := by kernel_rfl
theorem sp_at (a : RT3) (x : Int) : splice (Ren3 a) 37 [AV.v (.int .i64 x)] = Ren3 (mkA (idA a) (wdA a) (nmA a) (lvA a) (evA a) x) := by kernel_rfl
theorem set_same {α : Type} (L : List α) (k : Nat) (hk : k < L.length) : L.set k L[k] = L := by simp
theorem all_loop (A : List RT3) (hA : A.length ≤ 500) (hp : ∀ a ∈ A, (pkE (evA a)).length ≤ 100000) : ∀ (d k f : Nat), k + d = A.length → d < f → (F30a_l5 600).L f (A.length, (A.length : Int), (k : Int), fl Ren3 A) = some (A.length, fl Ren3 A) := by
  intro d
  induction d with
  | zero =>
    intro k f hk hf
    obtain ⟨f, rfl⟩ : ∃ f', f = f' + 1 := ⟨f - 1, by omega⟩
    show (F30a_l5 600).b _ _ ((F30a_l5 600).L f) some = _
    simp only [F30a_l5]
    have e2 : decide ((k : Int) < (A.length : Int)) = false := by rw [decide_eq_false_iff_not]; omega
    simp only [e2, fl3]
  | succ d ih =>
    intro k f hk hf
    obtain ⟨f, rfl⟩ : ∃ f', f = f' + 1 := ⟨f - 1, by omega⟩
    have hkl : k < A.length := by omega
    have e2 : decide ((k : Int) < (A.length : Int)) = true := by rw [decide_eq_true_iff]; omega
    have hz : (0 : Int) ≤ (k : Int) ∧ (k : Int) < (A.length : Int) := by omega
    have r1 := ih (k + 1) f (by omega) (by omega)
    have hc := copied_ok (evA A[k]) (hp _ (List.getElem_mem hkl))
    have hs := splice3 A k 12 hkl (Ren0 (evA A[k])) A[k] (by rw [Ren0_len]; omega) (sp_ev A[k] (evA A[k]))
    rw [set_same A k hkl] at hs
    have hg : (0 + ((k : Int)).toNat) * 38 + 12 + 25 ≤ (fl Ren3 A).length := by rw [len3, Nat.zero_add, Int.toNat_natCast]; omega
    show (F30a_l5 600).b _ _ ((F30a_l5 600).L f) some = _
    obtain ⟨Lf, hLf⟩ : ∃ Lf, Lf = (F30a_l5 600).L f := ⟨_, rfl⟩
    rw [← hLf] at r1 ⊢
    simp only [F30a_l5]
    simp only [e2, hz, and_self, if_true, drop_ev A k hkl, hc, hg, hs, fl3, nat_succ (show k < 1000000 by omega)]
    exact r1
theorem all_ok (A : List RT3) (hA : A.length ≤ 500) (hp : ∀ a ∈ A, (pkE (evA a)).length ≤ 100000) : F30a_d 600 (A.map Ren3) = some (A.length, fl Ren3 A) := by
  have h := all_loop A hA hp A.length 0 600 (by omega) (by omega)
  replace h : (F30a_l5 600).L 600 (A.length, (A.length : Int), 0, fl Ren3 A) = some (A.length, fl Ren3 A) := h
  simp only [F30a_d, FSpec.d, F30a_s, cloneA_ok A (by omega), fl3, F30a_d5, h]
theorem publish_ok (kind : Int) (a : RT3) (full : Bool) (number now : Int) (B : List RT6) (hn : 0 ≤ number ∧ number ≤ 999) (hB : B.length ≤ 100000) (hp : (pkE (evA a)).length ≤ 100000) (hf : full = false) : F28_d 600 (kind, a, full, number, B.map Ren6, now) = some (false, number + 1, (B ++ [mkB number kind (idA a) now (lvA a) (evA a)]).map Ren6, now) := by
  subst hf
  have hb : ∀ r : List AV, ((B.map Ren6).length + [r].length) * 288 ≤ maxBytes := fun r => by
    rw [List.length_map]; unfold maxBytes; simp; omega
  have e1 : decide (number ≥ 1000) = false := by rw [decide_eq_false_iff_not]; omega
  have e2 : i64 (number + 1) = number + 1 := i64_id (by omega)
  simp only [F28_d, FSpec.d, F28_s, copied_ok (evA a) hp, hb, if_true, e1, e2]
  rw [List.map_append]
  rfl
def cI (o : List Int) : List AV := o.map fun x => AV.v (.int .i64 x)
def cB (o : List Bool) : List AV := o.map fun x => AV.v (.bool x)
theorem cI_len (o : List Int) : (cI o).length = o.length := by simp [cI]
theorem cB_len (o : List Bool) : (cB o).length = o.length := by simp [cB]
theorem cI_dat (o : List Int) : (cI o).map dat0 = cI o := by
  unfold cI; rw [List.map_map]; rfl
theorem cB_dat (o : List Bool) : (cB o).map dat0 = cB o := by
  unfold cB; rw [List.map_map]; rfl
theorem cI_get (o : List Int) (k : Nat) (h : k < o.length) : (cI o)[(0 + ((k : Int)).toNat) * 1]? = some (AV.v (.int .i64 o[k])) := by
  rw [Nat.zero_add, Int.toNat_natCast, Nat.mul_one]; simp [cI, h]
theorem cB_get (o : List Bool) (k : Nat) (h : k < o.length) : (cB o)[(0 + ((k : Int)).toNat) * 1]? = some (AV.v (.bool o[k])) := by
  rw [Nat.zero_add, Int.toNat_natCast, Nat.mul_one]; simp [cB, h]
theorem cI_set (o : List Int) (k : Nat) (v : Int) : splice (cI o) ((0 + ((k : Int)).toNat) * 1) [AV.v (.int .i64 v)] = cI (o.set k v) := by
  rw [Nat.zero_add, Int.toNat_natCast, Nat.mul_one]
  show (cI o).set k _ = _
  simp [cI, List.map_set]
theorem cB_set (o : List Bool) (k : Nat) (v : Bool) : splice (cB o) ((0 + ((k : Int)).toNat) * 1) [AV.v (.bool v)] = cB (o.set k v) := by
  rw [Nat.zero_add, Int.toNat_natCast, Nat.mul_one]
  show (cB o).set k _ = _
  simp [cB, List.map_set]
theorem cI_room (o : List Int) (k : Nat) (h : k < o.length) : (0 + ((k : Int)).toNat) * 1 + 1 ≤ (cI o).length := by rw [cI_len, Nat.zero_add, Int.toNat_natCast]; omega
theorem cB_room (o : List Bool) (k : Nat) (h : k < o.length) : (0 + ((k : Int)).toNat) * 1 + 1 ≤ (cB o).length := by rw [cB_len, Nat.zero_add, Int.toNat_natCast]; omega
theorem cI_rep (n : Nat) (v : Int) : List.replicate n (AV.v (.int .i64 v)) = cI (List.replicate n v) := by simp [cI]
theorem cB_rep (n : Nat) (v : Bool) : List.replicate n (AV.v (.bool v)) = cB (List.replicate n v) := by simp [cB]
theorem cI_chunks0 : ∀ o : List Int, chunks (cI o) 1 o.length = rowsI o
  | [] => rfl
  | a :: r => by
    show ((((AV.v (.int .i64 a)) :: cI r).take 1).map dat0) :: chunks (((AV.v (.int .i64 a)) :: cI r).drop 1) 1 r.length = _
    rw [List.drop_one, List.tail_cons, cI_chunks0 r]
    rfl
theorem cI_chunks (o : List Int) (n : Nat) (h : n = o.length) : chunks ((cI o).take (n * 1)) 1 n = rowsI o := by
  subst h
  rw [Nat.mul_one, List.take_of_length_le (by rw [cI_len]; exact Nat.le_refl _), cI_chunks0]
end Go.Proofs.Ytnnfpoelkdgjdaa
end
section
namespace Go.Proofs.Ytnnfpoelkdgjdaa
set_option linter.unusedVariables false
set_option linter.unusedSimpArgs false
set_option linter.unnecessarySimpa false
@[reducible] def mk5 (p : RT1) (i : Int) : RT5 := (p.1, p.2.1, p.2.2.1, p.2.2.2.1, p.2.2.2.2.1, p.2.2.2.2.2.1, p.2.2.2.2.2.2.1, p.2.2.2.2.2.2.2.1, p.2.2.2.2.2.2.2.2.1, i, ())
def row5 (q : RT1 × Int) : List AV := Ren5 (mk5 q.1 q.2)
theorem eqCs5 (a : RT1) (q : RT1 × Int) : eqCs (Ren1 a) (row5 q) = eqP a q.1 := by
  show (a.1 == q.1.1 && (a.2.1 == q.1.2.1 && (a.2.2.1 == q.1.2.2.1 && (a.2.2.2.1 == q.1.2.2.2.1 && (a.2.2.2.2.1 == q.1.2.2.2.2.1 && (a.2.2.2.2.2.1 == q.1.2.2.2.2.2.1 && (a.2.2.2.2.2.2.1 == q.1.2.2.2.2.2.2.1 && (a.2.2.2.2.2.2.2.1 == q.1.2.2.2.2.2.2.2.1 && (a.2.2.2.2.2.2.2.2.1 == q.1.2.2.2.2.2.2.2.2.1 && true))))))))) = _
  simp only [eqP, Bool.and_true, Bool.and_assoc]
theorem int_no : ∀ (M : List (RT1 × Int)) (p : RT1) (i : Int), (∀ q ∈ M, p ≠ q.1) → mpInt (Ren1 p) (M.map row5) = none ∧ mpPut (Ren1 p) (row5 (p, i)) (M.map row5) = (M ++ [(p, i)]).map row5
  | [], p, i, h => ⟨rfl, rfl⟩
  | q :: M, p, i, h => by
    obtain ⟨i1, i2⟩ := int_no M p i (fun q hq => h q (List.mem_cons_of_mem _ hq))
    have e : eqCs (Ren1 p) (row5 q) = false := by rw [eqCs5]; exact eqP_ff (h q List.mem_cons_self)
    refine ⟨?_, ?_⟩
    · unfold mpInt at i1 ⊢
      simp only [List.map_cons, mpFind, e]
      exact i1
    · simp only [List.map_cons, mpPut, e, i2, List.cons_append]
theorem int_yes : ∀ (M : List (RT1 × Int)) (p : RT1) (i : Int), (p, i) ∈ M → (M.Pairwise fun a b => a.1 ≠ b.1) → mpInt (Ren1 p) (M.map row5) = some i
  | q :: M, p, i, h, hd => by
    rw [List.pairwise_cons] at hd
    rcases List.mem_cons.1 h with e | e
    · subst e
      have e : eqCs (Ren1 p) (row5 (p, i)) = true := by rw [eqCs5]; exact eqP_tt p
      unfold mpInt
      simp only [List.map_cons, mpFind, e]
      rfl
    · have e2 : eqCs (Ren1 p) (row5 q) = false := by rw [eqCs5]; exact eqP_ff (fun x => hd.1 _ e x.symm)
      have := int_yes M p i e hd.2
      unfold mpInt at this ⊢
      simp only [List.map_cons, mpFind, e2]
      exact this
def nmI : List RT0 → Nat → List (RT1 × Int)
  | [], _ => []
  | e :: r, i => (nmE e, (i : Int)) :: nmI r (i + 1)
theorem nmI_mem : ∀ (R : List RT0) (i : Nat) (q : RT1 × Int), q ∈ nmI R i ↔ ∃ j, ∃ h : j < R.length, q = (nmE R[j], ((i + j : Nat) : Int))
  | [], i, q => ⟨fun h => (by cases h), fun ⟨j, h, _⟩ => (by cases h)⟩
  | e :: R, i, q => by
    unfold nmI
    rw [List.mem_cons, nmI_mem R (i + 1) q]
    constructor
    · rintro (h | ⟨j, h, e2⟩)
      · exact ⟨0, by simp, h⟩
      · exact ⟨j + 1, by simpa using h, by rw [e2, show i + (j + 1) = i + 1 + j by omega]; rfl⟩
    · rintro ⟨j, h, e2⟩
      cases j with
      | zero => exact .inl e2
      | succ j => exact .inr ⟨j, by simpa using h, by rw [e2, show i + (j + 1) = i + 1 + j by omega]; rfl⟩
theorem nmI_pair : ∀ (R : List RT0) (i : Nat), (R.Pairwise fun a b => nmE a ≠ nmE b) → (nmI R i).Pairwise fun a b => a.1 ≠ b.1
  | [], i, h => .nil
  | e :: R, i, h => by
    rw [List.pairwise_cons] at h
    refine .cons (fun q hq => ?_) (nmI_pair R (i + 1) h.2)
    obtain ⟨j, hj, rfl⟩ := (nmI_mem R (i + 1) q).1 hq
    exact h.1 _ (List.getElem_mem hj)
theorem names_loop (A : List (List AV)) (E : List RT0) (hE : E.length ≤ 500) : ∀ (R : List RT0) (k f : Nat) (M : List (RT1 × Int)), E.drop k = R → R.length < f → k + R.length = E.length → (R.Pairwise fun a b => nmE a ≠ nmE b) → (∀ e ∈ R, ∀ q ∈ M, nmE e ≠ q.1) →
    (F19_l5 600).L f (A, E.map Ren0, E.map Ren0, (E.length : Int), (k : Int), M.map row5) = some (A, E.map Ren0, (M ++ nmI R k).map row5)
  | [], k, f, M, hR, hf, hk, h1, h2 => by
    obtain ⟨f, rfl⟩ : ∃ f', f = f' + 1 := ⟨f - 1, by omega⟩
    show (F19_l5 600).b _ _ ((F19_l5 600).L f) some = _
    simp only [F19_l5]
    have e2 : decide ((k : Int) < (E.length : Int)) = false := by rw [decide_eq_false_iff_not]; simp at hk; omega
    simp only [e2]
    unfold nmI
    rw [List.append_nil]
  | e :: R, k, f, M, hR, hf, hk, h1, h2 => by
    obtain ⟨f, rfl⟩ : ∃ f', f = f' + 1 := ⟨f - 1, by omega⟩
    rw [List.length_cons] at hf hk
    obtain ⟨hkl, hek, hR'⟩ := drop_eq hR
    rw [List.pairwise_cons] at h1
    have e2 : decide ((k : Int) < (E.length : Int)) = true := by rw [decide_eq_true_iff]; omega
    have e3 : (0 : Int) ≤ (k : Int) := by omega
    obtain ⟨m1, m2⟩ := int_no M (nmE e) (k : Int) (h2 e List.mem_cons_self)
    have r1 := names_loop A E hE R (k + 1) f (M ++ [(nmE e, (k : Int))]) hR' (by omega) (by omega) h1.2 (fun a ha q hq => by
      rcases List.mem_append.1 hq with h | h
      · exact h2 a (List.mem_cons_of_mem _ ha) q h
      · have h := List.mem_singleton.1 h
        subst h
        exact (h1.1 a ha).symm)
    show (F19_l5 600).b _ _ ((F19_l5 600).L f) some = _
    obtain ⟨Lf, hLf⟩ : ∃ Lf, Lf = (F19_l5 600).L f := ⟨_, rfl⟩
    rw [← hLf] at r1 ⊢
    simp only [F19_l5]
    have m2' : mpPut (Ren1 (nmE e)) (Ren5 (mk5 (nmE e) (k : Int))) (M.map row5) = (M ++ [(nmE e, (k : Int))]).map row5 := m2
    simp only [e2, e3, if_true, Int.toNat_natCast, get0 E k hkl, hek, Rrd0_en, m1, m2', Option.isSome_none, Bool.not_false, nat_succ (show k < 1000000 by omega)]
    rw [r1, List.append_assoc]
    rfl
structure Fo (A : List RT3) (E : List RT0) (o : List Int) (t : List Bool) : Prop where
  lo : o.length = A.length
  lt : t.length = E.length
  v : ∀ k (h : k < o.length), o[k] = -1 ∨ ∃ i : Nat, i < E.length ∧ o[k] = (i : Int)
  w : ∀ k (h : k < o.length) (h' : k < A.length), wdA A[k] = true → o[k] = -1
  inj : ∀ j k (hj : j < o.length) (hk : k < o.length), o[j] = o[k] → 0 ≤ o[j] → j = k
  tk : ∀ i (h : i < t.length), t[i] = true ↔ ∃ k, ∃ h : k < o.length, o[k] = (i : Int)
  nm : ∀ k (h : k < o.length) (h' : k < A.length), wdA A[k] = false → ∀ i (hi : i < E.length), nmE E[i] = nmA A[k] → o[k] = (i : Int)
theorem Fo.set {A : List RT3} {E : List RT0} {o : List Int} {t : List Bool} (F : Fo A E o t) {k i : Nat} (hk : k < o.length) (hk' : k < A.length) (hi : i < E.length) (hi' : i < t.length) (hw : wdA A[k] = false) (ho : o[k] < 0) (ht : t[i] = false) : Fo A E (o.set k (i : Int)) (t.set i true) := by
  have hno : ∀ j (h : j < o.length), o[j] ≠ (i : Int) := fun j h e => by
    have := (F.tk i hi').2 ⟨j, h, e⟩
    rw [ht] at this; cases this
  refine ⟨by simpa using F.lo, by simpa using F.lt, fun j h => ?_, fun j h h' hwj => ?_, fun j l hj hl e h0 => ?_, fun m h => ?_, fun j h h' hwj m hm e => ?_⟩
  · rw [List.getElem_set]
    split
    · exact .inr ⟨i, hi, rfl⟩
    · exact F.v j (by simpa using h)
  · rw [List.getElem_set]
    split
    · rename_i e; subst e; rw [hw] at hwj; cases hwj
    · exact F.w j (by simpa using h) h' hwj
  · rw [List.getElem_set] at e h0
    rw [List.getElem_set] at e
    split at e
    · rename_i e1
      split at e
      · rename_i e2; omega
      · exact absurd e.symm (hno l (by simpa using hl))
    · rename_i e1
      rw [if_neg e1] at h0
      split at e
      · exact absurd e (hno j (by simpa using hj))
      · exact F.inj j l (by simpa using hj) (by simpa using hl) e h0
  · rw [List.getElem_set]
    split
    · rename_i e; subst e
      exact ⟨fun _ => ⟨k, by simpa using hk, by simp⟩, fun _ => rfl⟩
    · rename_i e
      rw [F.tk m (by simpa using h)]
      constructor
      · rintro ⟨j, hj, e2⟩
        refine ⟨j, by simpa using hj, ?_⟩
        rw [List.getElem_set]
        split
        · rename_i e3; subst e3; rw [e2] at ho; omega
        · exact e2
      · rintro ⟨j, hj, e2⟩
        rw [List.getElem_set] at e2
        split at e2
        · omega
        · exact ⟨j, by simpa using hj, e2⟩
  · rw [List.getElem_set]
    split
    · rename_i e1; subst e1
      have := F.nm k hk hk' hw m hm e
      omega
    · exact F.nm j (by simpa using h) h' hwj m hm e
theorem Fo.snoc_no {A : List RT3} {E : List RT0} {o : List Int} {t : List Bool} (F : Fo A E o t) (a : RT3) (h : wdA a = false → ∀ i (hi : i < E.length), nmE E[i] ≠ nmA a) : Fo (A ++ [a]) E (o ++ [-1]) t := by
  have hlo := F.lo
  refine ⟨by simp [hlo], F.lt, fun j hj => ?_, fun j hj h' hw => ?_, fun j l hj hl e h0 => ?_, fun m hm => ?_, fun j hj h' hw m hm e => ?_⟩
  · rw [List.getElem_append]
    split
    · exact F.v j _
    · simp
  · rw [List.getElem_append]
    split
    · rename_i h1
      rw [List.getElem_append_left (by omega)] at hw
      exact F.w j h1 (by omega) hw
    · simp
  · rw [List.getElem_append] at e h0
    rw [List.getElem_append] at e
    split at e
    · rename_i h1
      rw [dif_pos h1] at h0
      split at e
      · rename_i h2; exact F.inj j l h1 h2 e h0
      · (simp at e) <;> omega
    · rename_i h1
      rw [dif_neg h1] at h0
      simp at h0
  · rw [F.tk m hm]
    constructor
    · rintro ⟨j, hj, e⟩
      exact ⟨j, by simp; omega, by rw [List.getElem_append_left hj]; exact e⟩
    · rintro ⟨j, hj, e⟩
      rw [List.getElem_append] at e
      split at e
      · rename_i h1; exact ⟨j, h1, e⟩
      · (simp at e) <;> omega
  · rw [List.getElem_append]
    split
    · rename_i h1
      rw [List.getElem_append_left (by omega)] at hw e
      exact F.nm j h1 (by omega) hw m hm e
    · rename_i h1
      rw [List.getElem_append_right (by omega)] at hw e
      have : j - A.length = 0 := by simp at hj; omega
      simp only [this, List.getElem_cons_zero] at hw e
      exact absurd e (h hw m hm)
theorem Fo.snoc_yes {A : List RT3} {E : List RT0} {o : List Int} {t : List Bool} (F : Fo A E o t) (hn : E.Pairwise fun a b => nmE a ≠ nmE b) (a : RT3) {i : Nat} (hi : i < E.length) (hw : wdA a = false) (he : nmE E[i] = nmA a) (hno : ∀ j (h : j < o.length), o[j] ≠ (i : Int)) : Fo (A ++ [a]) E (o ++ [(i : Int)]) (t.set i true) := by
  have hlo := F.lo
  have hlt := F.lt
  refine ⟨by simp [hlo], by simp [hlt], fun j hj => ?_, fun j hj h' hw' => ?_, fun j l hj hl e h0 => ?_, fun m hm => ?_, fun j hj h' hw' m hm e => ?_⟩
  · rw [List.getElem_append]
    split
    · exact F.v j _
    · exact .inr ⟨i, hi, by simp⟩
  · rw [List.getElem_append]
    split
    · rename_i h1
      rw [List.getElem_append_left (by omega)] at hw'
      exact F.w j h1 (by omega) hw'
    · rename_i h1
      rw [List.getElem_append_right (by omega)] at hw'
      have : j - A.length = 0 := by simp at hj; omega
      simp only [this, List.getElem_cons_zero] at hw'
      rw [hw] at hw'; cases hw'
  · rw [List.getElem_append] at e h0
    rw [List.getElem_append] at e
    split at e
    · rename_i h1
      rw [dif_pos h1] at h0
      split at e
      · rename_i h2; exact F.inj j l h1 h2 e h0
      · simp at e; exact absurd e (hno j h1)
    · rename_i h1
      split at e
      · rename_i h2
        simp at e
        exact absurd e.symm (hno l h2)
      · simp at hj hl; omega
  · rw [List.getElem_set]
    split
    · rename_i e1; subst e1
      exact ⟨fun _ => ⟨o.length, by simp, by simp⟩, fun _ => rfl⟩
    · rename_i e1
      rw [F.tk m (by simpa using hm)]
      constructor
      · rintro ⟨j, hj, e⟩
        exact ⟨j, by simp; omega, by rw [List.getElem_append_left hj]; exact e⟩
      · rintro ⟨j, hj, e⟩
        rw [List.getElem_append] at e
        split at e
        · rename_i h1; exact ⟨j, h1, e⟩
        · (simp at e) <;> omega
  · rw [List.getElem_append]
    split
    · rename_i h1
      rw [List.getElem_append_left (by omega)] at hw' e
      exact F.nm j h1 (by omega) hw' m hm e
    · rename_i h1
      rw [List.getElem_append_right (by omega)] at e
      have : j - A.length = 0 := by simp at hj; omega
      simp only [this, List.getElem_cons_zero] at e
      have hm' : m = i := by
        rcases Nat.lt_trichotomy m i with h | h | h
        · exact absurd (e.trans he.symm) (List.pairwise_iff_getElem.1 hn m i hm hi h)
        · exact h
        · exact absurd (he.trans e.symm) (List.pairwise_iff_getElem.1 hn i m hi hm h)
      subst hm'
      simp
end Go.Proofs.Ytnnfpoelkdgjdaa
end
section
namespace Go.Proofs.Ytnnfpoelkdgjdaa
set_option linter.unusedVariables false
set_option linter.unusedSimpArgs false
set_option linter.unnecessarySimpa false
theorem set_mid (p : List Int) (d : Nat) (v : Int) : (p ++ List.replicate (d + 1) 0).set p.length v = (p ++ [v]) ++ List.replicate d 0 := by
  rw [List.replicate_succ, List.set_append, if_neg (Nat.lt_irrefl _), Nat.sub_self]
  simp
theorem by_name_loop (A : List RT3) (E : List RT0) (hA : A.length ≤ 500) (hE : E.length ≤ 500) (hn : E.Pairwise fun a b => nmE a ≠ nmE b) (hnA : A.Pairwise fun a b => wdA a = false → wdA b = false → nmA a ≠ nmA b) :
    ∀ (R : List RT3) (k f : Nat) (p : List Int) (t : List Bool), A.drop k = R → R.length < f → k + R.length = A.length → p.length = k → Fo (A.take k) E p t → (∀ j (h : j < p.length) (h' : j < A.length) (i : Nat) (hi : i < E.length), p[j] = (i : Int) → nmE E[i] = nmA A[j] ∧ wdA A[j] = false) →
    ∃ o t', (F19_l20 600).L f (A.map Ren3, E.map Ren0, A.map Ren3, A.length, E.length, (A.length : Int), (k : Int), cI (p ++ List.replicate R.length 0), cB t, (nmI E 0).map row5) = some (A.map Ren3, E.map Ren0, A.length, E.length, cI o, cB t') ∧ Fo A E o t'
  | [], k, f, p, t, hR, hf, hk, hp, F, hc => by
    obtain ⟨f, rfl⟩ : ∃ f', f = f' + 1 := ⟨f - 1, by omega⟩
    have hk' : k = A.length := by simpa using hk
    refine ⟨p, t, ?_, by rw [hk', List.take_length] at F; exact F⟩
    show (F19_l20 600).b _ _ ((F19_l20 600).L f) some = _
    simp only [F19_l20]
    have e2 : decide ((k : Int) < (A.length : Int)) = false := by rw [decide_eq_false_iff_not]; omega
    simp only [e2, cI_dat, cB_dat, List.length_nil, List.replicate_zero, List.append_nil]
  | a :: R, k, f, p, t, hR, hf, hk, hp, F, hc => by
    obtain ⟨f, rfl⟩ : ∃ f', f = f' + 1 := ⟨f - 1, by omega⟩
    rw [List.length_cons] at hf hk
    obtain ⟨hkl, hek, hR'⟩ := drop_eq hR
    have htake : A.take (k + 1) = A.take k ++ [a] := by rw [List.take_succ_eq_append_getElem hkl, hek]
    have e2 : decide ((k : Int) < (A.length : Int)) = true := by rw [decide_eq_true_iff]; omega
    have e3 : (0 : Int) ≤ (k : Int) := by omega
    have hz : (0 : Int) ≤ (k : Int) ∧ (k : Int) < (A.length : Int) := by omega
    have hlen : (p ++ List.replicate (R.length + 1) (0 : Int)).length = A.length := by simp; omega
    have hroom := cI_room (p ++ List.replicate (R.length + 1) (0 : Int)) k (by omega)
    have hset : ∀ v : Int, splice (cI (p ++ List.replicate (R.length + 1) (0 : Int))) ((0 + ((k : Int)).toNat) * 1) [AV.v (.int .i64 v)] = cI (p ++ [v] ++ List.replicate R.length 0) := fun v => by
      rw [cI_set, ← hp, set_mid]
    -- no event
    have no : (wdA a = false → ∀ i (hi : i < E.length), nmE E[i] ≠ nmA a) → ∃ o t', (F19_l20 600).L f (A.map Ren3, E.map Ren0, A.map Ren3, A.length, E.length, (A.length : Int), ((k + 1 : Nat) : Int), cI (p ++ [-1] ++ List.replicate R.length 0), cB t, (nmI E 0).map row5) = some (A.map Ren3, E.map Ren0, A.length, E.length, cI o, cB t') ∧ Fo A E o t' := fun h =>
      by_name_loop A E hA hE hn hnA R (k + 1) f (p ++ [-1]) t hR' (by omega) (by omega) (by simp [hp]) (by rw [htake]; exact F.snoc_no a h) (fun j hj hj' i hi e => by
        rw [List.getElem_append] at e
        split at e
        · rename_i h1; exact hc j h1 hj' i hi e
        · exfalso; (simp at e) <;> omega)
    cases hw : wdA a with
    | true =>
      obtain ⟨o, t', r1, r2⟩ := no (fun h => by rw [hw] at h; cases h)
      refine ⟨o, t', ?_, r2⟩
      show (F19_l20 600).b _ _ ((F19_l20 600).L f) some = _
      obtain ⟨Lf, hLf⟩ : ∃ Lf, Lf = (F19_l20 600).L f := ⟨_, rfl⟩
      rw [← hLf] at r1 ⊢
      simp only [F19_l20]
      simp only [e2, e3, hz, and_self, if_true, Int.toNat_natCast, get3 A k hkl, hek, Rrd3_en, hw, List.length_cons]
      rw [Int.toNat_natCast] at hroom
      have hs := hset (-1)
      rw [Int.toNat_natCast] at hs
      simp only [hroom, if_true, hs, cI_dat, cB_dat, nat_succ (show k < 1000000 by omega)]
      exact r1
    | false =>
      by_cases hx : ∃ i, ∃ hi : i < E.length, nmE E[i] = nmA a
      · obtain ⟨i, hi, he⟩ := hx
        have hmem : (nmA a, (i : Int)) ∈ nmI E 0 := (nmI_mem E 0 _).2 ⟨i, hi, by rw [he, Nat.zero_add]⟩
        have hint := int_yes (nmI E 0) (nmA a) (i : Int) hmem (nmI_pair E 0 hn)
        have hno : ∀ j (h : j < p.length), p[j] ≠ (i : Int) := fun j h e => by
          obtain ⟨q1, q2⟩ := hc j h (by omega) i hi e
          exact List.pairwise_iff_getElem.1 hnA j k (by omega) hkl (by omega) q2 (by rw [hek]; exact hw) (by rw [hek, ← q1, he])
        have hlt := F.lt
        obtain ⟨o, t', r1, r2⟩ := by_name_loop A E hA hE hn hnA R (k + 1) f (p ++ [(i : Int)]) (t.set i true) hR' (by omega) (by omega) (by simp [hp]) (by rw [htake]; exact F.snoc_yes hn a hi hw he hno) (fun j hj hj' m hm e => by
          rw [List.getElem_append] at e
          split at e
          · rename_i h1; exact hc j h1 hj' m hm e
          · rename_i h1
            simp at e
            have : m = i := by omega
            subst this
            have : j = k := by simp at hj; omega
            subst this
            rw [hek]
            exact ⟨he, hw⟩)
        refine ⟨o, t', ?_, r2⟩
        show (F19_l20 600).b _ _ ((F19_l20 600).L f) some = _
        obtain ⟨Lf, hLf⟩ : ∃ Lf, Lf = (F19_l20 600).L f := ⟨_, rfl⟩
        rw [← hLf] at r1 ⊢
        simp only [F19_l20]
        have hs := hset (i : Int)
        have hb := cB_set t i true
        have hroom2 := cB_room t i (by omega)
        rw [Int.toNat_natCast] at hroom hs hb hroom2
        have hz2 : (0 : Int) ≤ (i : Int) ∧ (i : Int) < (E.length : Int) := by omega
        simp only [e2, e3, hz, hz2, and_self, if_true, Int.toNat_natCast, get3 A k hkl, hek, Rrd3_en, hw, hint, Option.isSome_some, Option.getD_some, Bool.not_true, List.length_cons, hroom, hroom2, hs, hb, cI_dat, cB_dat, nat_succ (show k < 1000000 by omega)]
        exact r1
      · have hnone : mpInt (Ren1 (nmA a)) ((nmI E 0).map row5) = none := (int_no (nmI E 0) (nmA a) 0 (fun q hq e => by
          obtain ⟨j, hj, rfl⟩ := (nmI_mem E 0 q).1 hq
          exact hx ⟨j, hj, e.symm⟩)).1
        obtain ⟨o, t', r1, r2⟩ := no (fun _ i hi e => hx ⟨i, hi, e⟩)
        refine ⟨o, t', ?_, r2⟩
        show (F19_l20 600).b _ _ ((F19_l20 600).L f) some = _
        obtain ⟨Lf, hLf⟩ : ∃ Lf, Lf = (F19_l20 600).L f := ⟨_, rfl⟩
        rw [← hLf] at r1 ⊢
        simp only [F19_l20]
        have hs := hset (-1)
        rw [Int.toNat_natCast] at hroom hs
        simp only [e2, e3, hz, and_self, if_true, Int.toNat_natCast, get3 A k hkl, hek, Rrd3_en, hw, hnone, Option.isSome_none, Bool.not_false, List.length_cons, hroom, hs, cI_dat, cB_dat, nat_succ (show k < 1000000 by omega)]
        exact r1
theorem pick_loop (A : List RT3) (E : List RT0) (k : Nat) (hk : k < A.length) (hE : E.length ≤ 500) (hpE : ∀ e ∈ E, PkOk e) (hpA : PkOk (evA A[k])) (hw : wdA A[k] = false) (o : List Int) (t : List Bool) (F : Fo A E o t) (hko : k < o.length) (hneg : o[k] < 0) :
    ∀ (d i f : Nat), i + d = E.length → d < f → ∃ o' t', (F19_l47 600).L f (E.map Ren0, A.map Ren3, E.map Ren0, A.length, E.length, (k : Int), (A.length : Int), (k : Int), (E.length : Int), (i : Int), A[k], cI o, cB t) = some (E.map Ren0, A.map Ren3, A.length, E.length, (A.length : Int), (k : Int), cI o', cB t') ∧ Fo A E o' t' := by
  intro d
  induction d with
  | zero =>
    intro i f hi hf
    obtain ⟨f, rfl⟩ : ∃ f', f = f' + 1 := ⟨f - 1, by omega⟩
    refine ⟨o, t, ?_, F⟩
    show (F19_l47 600).b _ _ ((F19_l47 600).L f) some = _
    simp only [F19_l47]
    have e2 : decide ((i : Int) < (E.length : Int)) = false := by rw [decide_eq_false_iff_not]; omega
    simp only [e2, cI_dat, cB_dat]
  | succ d ih =>
    intro i f hi hf
    obtain ⟨f, rfl⟩ : ∃ f', f = f' + 1 := ⟨f - 1, by omega⟩
    have hil : i < E.length := by omega
    have hlt := F.lt
    have hlo := F.lo
    have hit : i < t.length := by omega
    have e2 : decide ((i : Int) < (E.length : Int)) = true := by rw [decide_eq_true_iff]; omega
    have e3 : (0 : Int) ≤ (i : Int) := by omega
    have hz : (0 : Int) ≤ (i : Int) ∧ (i : Int) < (E.length : Int) := by omega
    have hz2 : (0 : Int) ≤ (k : Int) ∧ (k : Int) < (A.length : Int) := by omega
    obtain ⟨P, p1, p2⟩ := hpA
    obtain ⟨Q, q1, q2⟩ := hpE _ (List.getElem_mem hil)
    obtain ⟨b, hb, -⟩ := shared_ok P Q (evA A[k]) E[i] p2 q2 (by omega) (by omega)
    obtain ⟨o', t', r1, r2⟩ := ih (i + 1) f (by omega) (by omega)
    have hg := cB_get t i hit
    have hb2 := cB_set t i true
    have hs2 := cI_set o k (i : Int)
    have hr1 := cI_room o k hko
    have hr2 := cB_room t i hit
    rw [Int.toNat_natCast] at hg hb2 hs2 hr1 hr2
    cases ht : t[i] with
    | true =>
      refine ⟨o', t', ?_, r2⟩
      show (F19_l47 600).b _ _ ((F19_l47 600).L f) some = _
      obtain ⟨Lf, hLf⟩ : ∃ Lf, Lf = (F19_l47 600).L f := ⟨_, rfl⟩
      rw [← hLf] at r1 ⊢
      simp only [F19_l47]
      rw [ht] at hg
      simp only [e2, e3, hz, and_self, if_true, Int.toNat_natCast, get0 E i hil, Rrd0_en, hg, Bool.not_true, cI_dat, cB_dat, nat_succ (show i < 1000000 by omega)]
      exact r1
    | false =>
      cases b with
      | true =>
        refine ⟨_, _, ?_, F.set hko hk hil hit hw hneg ht⟩
        show (F19_l47 600).b _ _ ((F19_l47 600).L f) some = _
        simp only [F19_l47]
        rw [ht] at hg
        simp only [e2, e3, hz, hz2, and_self, if_true, Int.toNat_natCast, get0 E i hil, Rrd0_en, hg, Bool.not_false, hb, hr1, hr2, hs2, hb2, cI_dat, cB_dat, decide_true]
      | false =>
        refine ⟨o', t', ?_, r2⟩
        show (F19_l47 600).b _ _ ((F19_l47 600).L f) some = _
        obtain ⟨Lf, hLf⟩ : ∃ Lf, Lf = (F19_l47 600).L f := ⟨_, rfl⟩
        rw [← hLf] at r1 ⊢
        simp only [F19_l47]
        rw [ht] at hg
        simp only [e2, e3, hz, and_self, if_true, Int.toNat_natCast, get0 E i hil, Rrd0_en, hg, Bool.not_false, hb, cI_dat, cB_dat, nat_succ (show i < 1000000 by omega)]
        exact r1
theorem by_pick_loop (A : List RT3) (E : List RT0) (hA : A.length ≤ 500) (hE : E.length ≤ 500) (hpE : ∀ e ∈ E, PkOk e) (hpA : ∀ a ∈ A, PkOk (evA a)) : ∀ (d k f : Nat) (o : List Int) (t : List Bool), k + d = A.length → d < f → Fo A E o t →
    ∃ o' t', (F19_l35 600).L f (E.map Ren0, A.map Ren3, A.length, E.length, (A.length : Int), (k : Int), cI o, cB t) = some (A.length, cI o') ∧ Fo A E o' t' := by
  intro d
  induction d with
  | zero =>
    intro k f o t hk hf F
    obtain ⟨f, rfl⟩ : ∃ f', f = f' + 1 := ⟨f - 1, by omega⟩
    refine ⟨o, t, ?_, F⟩
    show (F19_l35 600).b _ _ ((F19_l35 600).L f) some = _
    simp only [F19_l35]
    have e2 : decide ((k : Int) < (A.length : Int)) = false := by rw [decide_eq_false_iff_not]; omega
    simp only [e2, cI_dat]
  | succ d ih =>
    intro k f o t hk hf F
    obtain ⟨f, rfl⟩ : ∃ f', f = f' + 1 := ⟨f - 1, by omega⟩
    have hkl : k < A.length := by omega
    have hlo := F.lo
    have hko : k < o.length := by omega
    have e2 : decide ((k : Int) < (A.length : Int)) = true := by rw [decide_eq_true_iff]; omega
    have e3 : (0 : Int) ≤ (k : Int) := by omega
    have hz : (0 : Int) ≤ (k : Int) ∧ (k : Int) < (A.length : Int) := by omega
    have hg := cI_get o k hko
    rw [Int.toNat_natCast] at hg
    cases hw : wdA A[k] with
    | true =>
      obtain ⟨o', t', r1, r2⟩ := ih (k + 1) f o t (by omega) (by omega) F
      refine ⟨o', t', ?_, r2⟩
      show (F19_l35 600).b _ _ ((F19_l35 600).L f) some = _
      obtain ⟨Lf, hLf⟩ : ∃ Lf, Lf = (F19_l35 600).L f := ⟨_, rfl⟩
      rw [← hLf] at r1 ⊢
      simp only [F19_l35]
      simp only [e2, e3, if_true, Int.toNat_natCast, get3 A k hkl, Rrd3_en, hw, cI_dat, cB_dat, nat_succ (show k < 1000000 by omega)]
      exact r1
    | false =>
      by_cases hn : o[k] ≥ 0
      · obtain ⟨o', t', r1, r2⟩ := ih (k + 1) f o t (by omega) (by omega) F
        refine ⟨o', t', ?_, r2⟩
        show (F19_l35 600).b _ _ ((F19_l35 600).L f) some = _
        obtain ⟨Lf, hLf⟩ : ∃ Lf, Lf = (F19_l35 600).L f := ⟨_, rfl⟩
        rw [← hLf] at r1 ⊢
        simp only [F19_l35]
        simp only [e2, e3, hz, and_self, if_true, Int.toNat_natCast, get3 A k hkl, Rrd3_en, hw, hg, hn, decide_true, cI_dat, cB_dat, nat_succ (show k < 1000000 by omega)]
        exact r1
      · obtain ⟨o1, t1, q1, F1⟩ := pick_loop A E k hkl hE hpE (hpA _ (List.getElem_mem hkl)) hw o t F hko (by omega) E.length 0 600 (by omega) (by omega)
        replace q1 : (F19_l47 600).L 600 (E.map Ren0, A.map Ren3, E.map Ren0, A.length, E.length, (k : Int), (A.length : Int), (k : Int), (E.length : Int), 0, A[k], cI o, cB t) = some (E.map Ren0, A.map Ren3, A.length, E.length, (A.length : Int), (k : Int), cI o1, cB t1) := q1
        obtain ⟨o', t', r1, r2⟩ := ih (k + 1) f o1 t1 (by omega) (by omega) F1
        refine ⟨o', t', ?_, r2⟩
        show (F19_l35 600).b _ _ ((F19_l35 600).L f) some = _
        obtain ⟨Lf, hLf⟩ : ∃ Lf, Lf = (F19_l35 600).L f := ⟨_, rfl⟩
        rw [← hLf] at r1 ⊢
        simp only [F19_l35]
        simp only [e2, e3, hz, and_self, if_true, Int.toNat_natCast, get3 A k hkl, Rrd3_en, hw, hg, hn, decide_false, F19_d47, List.length_map, q1, cI_dat, cB_dat, nat_succ (show k < 1000000 by omega)]
        exact r1
theorem follow_ok (A : List RT3) (E : List RT0) (hA : A.length ≤ 500) (hE : E.length ≤ 500) (hn : E.Pairwise fun a b => nmE a ≠ nmE b) (hnA : A.Pairwise fun a b => wdA a = false → wdA b = false → nmA a ≠ nmA b) (hpE : ∀ e ∈ E, PkOk e) (hpA : ∀ a ∈ A, PkOk (evA a)) :
    ∃ o t, F19_d 600 (A.map Ren3, E.map Ren0) = some (rowsI o) ∧ Fo A E o t := by
  have h1 := names_loop (A.map Ren3) E hE E 0 600 [] rfl (by omega) (by omega) hn (fun e _ q hq => by cases hq)
  replace h1 : (F19_l5 600).L 600 (A.map Ren3, E.map Ren0, E.map Ren0, (E.length : Int), 0, []) = some (A.map Ren3, E.map Ren0, (nmI E 0).map row5) := h1
  have F0 : Fo (A.take 0) E [] (List.replicate E.length false) := ⟨rfl, by simp, fun k h => (by cases h), fun k h => (by cases h), fun j k h => (by cases h), fun i h => ⟨fun e => by simp at e, fun ⟨k, h, _⟩ => by cases h⟩, fun k h => by cases h⟩
  obtain ⟨o1, t1, h2, F1⟩ := by_name_loop A E hA hE hn hnA A 0 600 [] (List.replicate E.length false) rfl (by omega) (by omega) rfl F0 (fun j h => by cases h)
  replace h2 : (F19_l20 600).L 600 (A.map Ren3, E.map Ren0, A.map Ren3, A.length, E.length, (A.length : Int), 0, cI (List.replicate A.length 0), cB (List.replicate E.length false), (nmI E 0).map row5) = some (A.map Ren3, E.map Ren0, A.length, E.length, cI o1, cB t1) := h2
  obtain ⟨o2, t2, h3, F2⟩ := by_pick_loop A E hA hE hpE hpA A.length 0 600 o1 t1 (by omega) (by omega) F1
  replace h3 : (F19_l35 600).L 600 (E.map Ren0, A.map Ren3, A.length, E.length, (A.length : Int), 0, cI o1, cB t1) = some (A.length, cI o2) := h3
  refine ⟨o2, t2, ?_, F2⟩
  have g1 : (0 : Int) ≤ (A.length : Int) ∧ (A.length : Int) ≤ (A.length : Int) ∧ ((A.length : Int)).toNat * 8 ≤ maxBytes := by unfold maxBytes; omega
  have g2 : (0 : Int) ≤ (E.length : Int) ∧ (E.length : Int) ≤ (E.length : Int) ∧ ((E.length : Int)).toNat * 1 ≤ maxBytes := by unfold maxBytes; omega
  have g1b : A.length * 8 ≤ maxBytes := by unfold maxBytes; omega
  have g2b : E.length * 1 ≤ maxBytes := by unfold maxBytes; omega
  have hlo := F2.lo
  have g3 : A.length * 1 ≤ (cI o2).length := by rw [cI_len]; omega
  simp only [F19_d, FSpec.d, F19_s, F19_d5, List.length_map, h1, g1.1, g1.2.1, g2.1, g2.2.1, g1b, g2b, and_self, if_true, Int.toNat_natCast, cI_rep, cB_rep, cI_dat, cB_dat, F19_d20, h2, F19_d35, h3]
  rw [if_pos g3, cI_chunks o2 _ (by omega)]
end Go.Proofs.Ytnnfpoelkdgjdaa
end
section
namespace Go.Proofs.Ytnnfpoelkdgjdaa
set_option linter.unusedVariables false
set_option linter.unusedSimpArgs false
set_option linter.unnecessarySimpa false
theorem nm00 (e : RT0) : Rrd1 ((Ren0 e).drop 0) = some (nmE e) := rfl
theorem rindex_loop (E : List RT0) (p : RT1) (hE : E.length ≤ 500) : ∀ (d k f : Nat), k + d = E.length → d < f → (∀ i (h : i < E.length), i < k → nmE E[i] ≠ p) → ∃ y, (F13_l4 600).L f (E.map Ren0, (k : Int), p) = some y ∧ ((∃ i, ∃ h : i < E.length, nmE E[i] = p ∧ y = .inl (i : Int)) ∨ ((∀ i (h : i < E.length), nmE E[i] ≠ p) ∧ y = .inr ())) := by
  intro d
  induction d with
  | zero =>
    intro k f hk hf hno
    obtain ⟨f, rfl⟩ : ∃ f', f = f' + 1 := ⟨f - 1, by omega⟩
    refine ⟨.inr (), ?_, .inr ⟨fun i h => hno i h (by omega), rfl⟩⟩
    show (F13_l4 600).b _ _ ((F13_l4 600).L f) some = _
    simp only [F13_l4]
    have e2 : decide ((k : Int) < (E.length : Int)) = false := by rw [decide_eq_false_iff_not]; omega
    simp only [List.length_map, e2]
  | succ d ih =>
    intro k f hk hf hno
    obtain ⟨f, rfl⟩ : ∃ f', f = f' + 1 := ⟨f - 1, by omega⟩
    have hkl : k < E.length := by omega
    have e2 : decide ((k : Int) < (E.length : Int)) = true := by rw [decide_eq_true_iff]; omega
    have e3 : (0 : Int) ≤ (k : Int) := by omega
    by_cases hc : nmE E[k] = p
    · refine ⟨.inl (k : Int), ?_, .inl ⟨k, hkl, hc, rfl⟩⟩
      show (F13_l4 600).b _ _ ((F13_l4 600).L f) some = _
      simp only [F13_l4]
      have e4 : eqP (nmE E[k]) p = true := by rw [hc]; exact eqP_tt p
      simp only [List.length_map, e2, e3, if_true, Int.toNat_natCast, get0 E k hkl, nm00, e4]
    · obtain ⟨y, r1, r2⟩ := ih (k + 1) f (by omega) (by omega) (fun i h hi => by
        by_cases e : i = k
        · subst e; exact hc
        · exact hno i h (by omega))
      refine ⟨y, ?_, r2⟩
      show (F13_l4 600).b _ _ ((F13_l4 600).L f) some = _
      obtain ⟨Lf, hLf⟩ : ∃ Lf, Lf = (F13_l4 600).L f := ⟨_, rfl⟩
      rw [← hLf] at r1 ⊢
      simp only [F13_l4]
      have e4 : eqP (nmE E[k]) p = false := eqP_ff hc
      simp only [List.length_map, e2, e3, if_true, Int.toNat_natCast, get0 E k hkl, nm00, e4, nat_succ (show k < 1000000 by omega)]
      exact r1
theorem rindex_ok (E : List RT0) (p : RT1) (hE : E.length ≤ 500) : ∃ v : Int, F13_d 600 (E.map Ren0, p) = some v ∧ ((∃ i, ∃ h : i < E.length, nmE E[i] = p ∧ v = (i : Int)) ∨ ((∀ i (h : i < E.length), nmE E[i] ≠ p) ∧ v = -1)) := by
  obtain ⟨y, h1, h2⟩ := rindex_loop E p hE E.length 0 600 (by omega) (by omega) (fun i h hi => by omega)
  replace h1 : (F13_l4 600).L 600 (E.map Ren0, 0, p) = some y := h1
  simp only [F13_d, FSpec.d, F13_s, F13_d4, h1]
  rcases h2 with ⟨i, h, q1, rfl⟩ | ⟨q1, rfl⟩
  · exact ⟨_, rfl, .inl ⟨i, h, q1, rfl⟩⟩
  · exact ⟨_, rfl, .inr ⟨q1, rfl⟩⟩
theorem in_loop (o : List Int) (x : Int) (ho : o.length ≤ 500) : ∀ (d k f : Nat), k + d = o.length → d < f → ∃ y, (F58a_l4 600).L f (o.length, x, (k : Int), cI o) = some y ∧ ((x ∈ o.drop k ∧ y = .inl (true, cI o)) ∨ (x ∉ o.drop k ∧ y = .inr (cI o))) := by
  intro d
  induction d with
  | zero =>
    intro k f hk hf
    obtain ⟨f, rfl⟩ : ∃ f', f = f' + 1 := ⟨f - 1, by omega⟩
    refine ⟨.inr (cI o), ?_, .inr ⟨by rw [List.drop_eq_nil_of_le (by omega)]; simp, rfl⟩⟩
    show (F58a_l4 600).b _ _ ((F58a_l4 600).L f) some = _
    simp only [F58a_l4]
    have e2 : decide ((k : Int) < (o.length : Int)) = false := by rw [decide_eq_false_iff_not]; omega
    simp only [e2, cI_dat]
  | succ d ih =>
    intro k f hk hf
    obtain ⟨f, rfl⟩ : ∃ f', f = f' + 1 := ⟨f - 1, by omega⟩
    have hkl : k < o.length := by omega
    have e2 : decide ((k : Int) < (o.length : Int)) = true := by rw [decide_eq_true_iff]; omega
    have hz : (0 : Int) ≤ (k : Int) ∧ (k : Int) < (o.length : Int) := by omega
    have hg := cI_get o k hkl
    by_cases hc : o[k] = x
    · refine ⟨.inl (true, cI o), ?_, .inl ⟨(mem_drop_cons hkl x).2 (.inl hc.symm), rfl⟩⟩
      show (F58a_l4 600).b _ _ ((F58a_l4 600).L f) some = _
      simp only [F58a_l4]
      have e4 : (o[k] == x) = true := by simp [hc]
      rw [e2]
      simp only [hz, and_self, if_true, hg, e4, cI_dat]
    · obtain ⟨y, r1, r2⟩ := ih (k + 1) f (by omega) (by omega)
      refine ⟨y, ?_, ?_⟩
      · show (F58a_l4 600).b _ _ ((F58a_l4 600).L f) some = _
        obtain ⟨Lf, hLf⟩ : ∃ Lf, Lf = (F58a_l4 600).L f := ⟨_, rfl⟩
        rw [← hLf] at r1 ⊢
        simp only [F58a_l4]
        have e4 : (o[k] == x) = false := by simp [hc]
        rw [e2]
        simp only [hz, and_self, if_true, hg, e4, cI_dat, nat_succ (show k < 1000000 by omega)]
        exact r1
      · rcases r2 with ⟨h1, h2⟩ | ⟨h1, h2⟩
        · exact .inl ⟨(mem_drop_cons hkl x).2 (.inr h1), h2⟩
        · exact .inr ⟨fun h => ((mem_drop_cons hkl x).1 h).elim (fun e => hc e.symm) h1, h2⟩
theorem in_ok (o : List Int) (x : Int) (ho : o.length ≤ 500) : ∃ b, F58a_d 600 (o.length, x, cI o) = some (b, cI o) ∧ (b = true ↔ x ∈ o) := by
  obtain ⟨y, h1, h2⟩ := in_loop o x ho o.length 0 600 (by omega) (by omega)
  replace h1 : (F58a_l4 600).L 600 (o.length, x, 0, cI o) = some y := h1
  rw [List.drop_zero] at h2
  simp only [F58a_d, FSpec.d, F58a_s, F58a_d4, cI_dat, h1]
  rcases h2 with ⟨h2, rfl⟩ | ⟨h2, rfl⟩
  · exact ⟨true, by simp only [cI_dat], by simp [h2]⟩
  · exact ⟨false, by simp only [cI_dat], by simp [h2]⟩
theorem cI_app (o : List Int) (v : Int) (n : Nat) (h : n = o.length) : (cI o).take (n * 1) ++ [[AV.v (.int .i64 v)]].flatten = cI (o ++ [v]) := by
  subst h
  rw [Nat.mul_one, List.take_of_length_le (by rw [cI_len]; exact Nat.le_refl _)]
  simp [cI]
theorem rby_name_loop (A : List RT3) (E : List RT0) (hA : A.length ≤ 500) (hE : E.length ≤ 500) (hn : E.Pairwise fun a b => nmE a ≠ nmE b) (hnA : A.Pairwise fun a b => wdA a = false → wdA b = false → nmA a ≠ nmA b) :
    ∀ (R : List RT3) (k f : Nat) (p : List Int) (t : List Bool), A.drop k = R → R.length < f → k + R.length = A.length → p.length = k → Fo (A.take k) E p t → (∀ j (h : j < p.length) (h' : j < A.length) (i : Nat) (hi : i < E.length), p[j] = (i : Int) → nmE E[i] = nmA A[j] ∧ wdA A[j] = false) →
    ∃ o t', (F56a_l5 600).L f (p.length, A.map Ren3, E.map Ren0, (k : Int), cI p) = some (A.length, A.map Ren3, E.map Ren0, cI o) ∧ Fo A E o t'
  | [], k, f, p, t, hR, hf, hk, hp, F, hc => by
    obtain ⟨f, rfl⟩ : ∃ f', f = f' + 1 := ⟨f - 1, by omega⟩
    have hk' : k = A.length := by simpa using hk
    refine ⟨p, t, ?_, by rw [hk', List.take_length] at F; exact F⟩
    show (F56a_l5 600).b _ _ ((F56a_l5 600).L f) some = _
    simp only [F56a_l5]
    have e2 : decide ((k : Int) < (A.length : Int)) = false := by rw [decide_eq_false_iff_not]; omega
    simp only [List.length_map, e2, cI_dat]
    rw [hp, hk']
  | a :: R, k, f, p, t, hR, hf, hk, hp, F, hc => by
    obtain ⟨f, rfl⟩ : ∃ f', f = f' + 1 := ⟨f - 1, by omega⟩
    rw [List.length_cons] at hf hk
    obtain ⟨hkl, hek, hR'⟩ := drop_eq hR
    have htake : A.take (k + 1) = A.take k ++ [a] := by rw [List.take_succ_eq_append_getElem hkl, hek]
    have e2 : decide ((k : Int) < (A.length : Int)) = true := by rw [decide_eq_true_iff]; omega
    have e3 : (0 : Int) ≤ (k : Int) := by omega
    have hb : ∀ v : List AV, (p.length * 1 ≤ (cI p).length ∧ (p.length + [v].length) * 8 ≤ maxBytes) := fun v => by
      rw [cI_len]; unfold maxBytes; simp; omega
    have hb1 : p.length * 1 ≤ (cI p).length := by rw [cI_len]; omega
    have no : (wdA a = false → ∀ i (hi : i < E.length), nmE E[i] ≠ nmA a) → ∃ o t', (F56a_l5 600).L f ((p ++ [-1]).length, A.map Ren3, E.map Ren0, ((k + 1 : Nat) : Int), cI (p ++ [-1])) = some (A.length, A.map Ren3, E.map Ren0, cI o) ∧ Fo A E o t' := fun h =>
      rby_name_loop A E hA hE hn hnA R (k + 1) f (p ++ [-1]) t hR' (by omega) (by omega) (by simp [hp]) (by rw [htake]; exact F.snoc_no a h) (fun j hj hj' i hi e => by
        rw [List.getElem_append] at e
        split at e
        · rename_i h1; exact hc j h1 hj' i hi e
        · exfalso; (simp at e) <;> omega)
    cases hw : wdA a with
    | true =>
      obtain ⟨o, t', r1, r2⟩ := no (fun h => by rw [hw] at h; cases h)
      obtain ⟨b, b1, -⟩ := in_ok p (-1) (by omega)
      refine ⟨o, t', ?_, r2⟩
      show (F56a_l5 600).b _ _ ((F56a_l5 600).L f) some = _
      obtain ⟨Lf, hLf⟩ : ∃ Lf, Lf = (F56a_l5 600).L f := ⟨_, rfl⟩
      rw [← hLf] at r1 ⊢
      rw [List.length_append] at r1
      simp only [F56a_l5]
      simp only [List.length_map, e2, e3, if_true, Int.toNat_natCast, get3 A k hkl, hek, wd3, hw, Bool.not_true, cI_dat, b1, hb1, hb, and_self, if_true, cI_app p _ _ rfl, nat_succ (show k < 1000000 by omega)]
      cases b <;> exact r1
    | false =>
      obtain ⟨v, v1, v2⟩ := rindex_ok E (nmA a) hE
      obtain ⟨b, b1, b2⟩ := in_ok p v (by omega)
      rcases v2 with ⟨i, hi, he, rfl⟩ | ⟨hno, rfl⟩
      · have hno : ∀ j (h : j < p.length), p[j] ≠ (i : Int) := fun j h e => by
          obtain ⟨q1, q2⟩ := hc j h (by omega) i hi e
          exact List.pairwise_iff_getElem.1 hnA j k (by omega) hkl (by omega) q2 (by rw [hek]; exact hw) (by rw [hek, ← q1, he])
        obtain rfl : b = false := by
          cases b with
          | false => rfl
          | true =>
            obtain ⟨j, hj, e⟩ := List.getElem_of_mem (b2.1 rfl)
            exact absurd e (hno j hj)
        obtain ⟨o, t', r1, r2⟩ := rby_name_loop A E hA hE hn hnA R (k + 1) f (p ++ [(i : Int)]) (t.set i true) hR' (by omega) (by omega) (by simp [hp]) (by rw [htake]; exact F.snoc_yes hn a hi hw he hno) (fun j hj hj' m hm e => by
          rw [List.getElem_append] at e
          split at e
          · rename_i h1; exact hc j h1 hj' m hm e
          · rename_i h1
            simp at e
            have : m = i := by omega
            subst this
            have : j = k := by simp at hj; omega
            subst this
            rw [hek]
            exact ⟨he, hw⟩)
        refine ⟨o, t', ?_, r2⟩
        show (F56a_l5 600).b _ _ ((F56a_l5 600).L f) some = _
        obtain ⟨Lf, hLf⟩ : ∃ Lf, Lf = (F56a_l5 600).L f := ⟨_, rfl⟩
        rw [← hLf] at r1 ⊢
        rw [List.length_append] at r1
        simp only [F56a_l5]
        simp only [List.length_map, e2, e3, if_true, Int.toNat_natCast, get3 A k hkl, hek, wd3, nm3, hw, Bool.not_false, v1, cI_dat, b1, hb1, hb, and_self, if_true, cI_app p _ _ rfl, nat_succ (show k < 1000000 by omega)]
        exact r1
      · obtain ⟨o, t', r1, r2⟩ := no (fun _ => hno)
        refine ⟨o, t', ?_, r2⟩
        show (F56a_l5 600).b _ _ ((F56a_l5 600).L f) some = _
        obtain ⟨Lf, hLf⟩ : ∃ Lf, Lf = (F56a_l5 600).L f := ⟨_, rfl⟩
        rw [← hLf] at r1 ⊢
        rw [List.length_append] at r1
        simp only [F56a_l5]
        simp only [List.length_map, e2, e3, if_true, Int.toNat_natCast, get3 A k hkl, hek, wd3, nm3, hw, Bool.not_false, v1, cI_dat, b1, hb1, hb, and_self, if_true, cI_app p _ _ rfl, nat_succ (show k < 1000000 by omega)]
        cases b <;> exact r1
theorem pkr3 (a : RT3) : ((((Ren3 a).drop 12).drop 9).drop 0)[0]? = some (AV.list 9 (pkE (evA a)) none) := rfl
theorem rpick_loop (A : List RT3) (E : List RT0) (hA : A.length ≤ 500) (k : Nat) (hk : k < A.length) (hE : E.length ≤ 500) (hpE : ∀ e ∈ E, PkOk e) (hpA : PkOk (evA A[k])) :
    ∀ (d i f : Nat) (o : List Int) (t : List Bool), i + d = E.length → d < f → Fo A E o t → ∃ o' t', (F56a_l29 600).L f (A.map Ren3, E.map Ren0, A.length, (k : Int), (i : Int), cI o) = some (A.map Ren3, E.map Ren0, A.length, (k : Int), cI o') ∧ Fo A E o' t' := by
  intro d
  induction d with
  | zero =>
    intro i f o t hi hf F
    obtain ⟨f, rfl⟩ : ∃ f', f = f' + 1 := ⟨f - 1, by omega⟩
    refine ⟨o, t, ?_, F⟩
    show (F56a_l29 600).b _ _ ((F56a_l29 600).L f) some = _
    simp only [F56a_l29]
    have e2 : decide ((i : Int) < (E.length : Int)) = false := by rw [decide_eq_false_iff_not]; omega
    simp only [List.length_map, e2, cI_dat]
  | succ d ih =>
    intro i f o t hi hf F
    obtain ⟨f, rfl⟩ : ∃ f', f = f' + 1 := ⟨f - 1, by omega⟩
    have hil : i < E.length := by omega
    have hlt := F.lt
    have hlo := F.lo
    have hit : i < t.length := by omega
    have hko : k < o.length := by omega
    have e2 : decide ((i : Int) < (E.length : Int)) = true := by rw [decide_eq_true_iff]; omega
    have e3 : (0 : Int) ≤ (i : Int) := by omega
    have e3k : (0 : Int) ≤ (k : Int) := by omega
    have hz2 : (0 : Int) ≤ (k : Int) ∧ (k : Int) < (A.length : Int) := by omega
    have hg := cI_get o k hko
    rw [Int.toNat_natCast] at hg
    by_cases hneg : o[k] < 0
    · cases hw : wdA A[k] with
      | true =>
        refine ⟨o, t, ?_, F⟩
        show (F56a_l29 600).b _ _ ((F56a_l29 600).L f) some = _
        simp only [F56a_l29]
        simp only [List.length_map, e2, e3k, hz2, and_self, if_true, Int.toNat_natCast, hg, hneg, decide_true, get3 A k hk, wd3, hw, Bool.not_true, cI_dat]
      | false =>
        obtain ⟨b, b1, b2⟩ := in_ok o (i : Int) (by omega)
        rw [hlo] at b1
        have hbt : b = t[i] := by
          rw [Bool.eq_iff_iff, b2, F.tk i hit]
          constructor
          · intro h; obtain ⟨j, hj, e⟩ := List.getElem_of_mem h; exact ⟨j, hj, e⟩
          · rintro ⟨j, hj, e⟩; rw [← e]; exact List.getElem_mem hj
        obtain ⟨P, p1, p2⟩ := hpA
        obtain ⟨Q, q1, q2⟩ := hpE _ (List.getElem_mem hil)
        obtain ⟨c, c1, -⟩ := com36 P Q (by omega) (by omega)
        obtain ⟨o', t', r1, r2⟩ := ih (i + 1) f o t (by omega) (by omega) F
        have hs2 := cI_set o k (i : Int)
        have hr1 := cI_room o k hko
        rw [Int.toNat_natCast] at hs2 hr1
        cases b with
        | true =>
          refine ⟨o', t', ?_, r2⟩
          show (F56a_l29 600).b _ _ ((F56a_l29 600).L f) some = _
          obtain ⟨Lf, hLf⟩ : ∃ Lf, Lf = (F56a_l29 600).L f := ⟨_, rfl⟩
          rw [← hLf] at r1 ⊢
          simp only [F56a_l29]
          simp only [List.length_map, e2, e3k, hz2, and_self, if_true, Int.toNat_natCast, hg, hneg, decide_true, get3 A k hk, wd3, hw, Bool.not_false, Bool.not_true, cI_dat, b1, nat_succ (show i < 1000000 by omega)]
          exact r1
        | false =>
          cases c with
          | true =>
            obtain ⟨o', t', r1, r2⟩ := ih (i + 1) f _ _ (by omega) (by omega) (F.set hko hk hil hit hw hneg hbt.symm)
            refine ⟨o', t', ?_, r2⟩
            show (F56a_l29 600).b _ _ ((F56a_l29 600).L f) some = _
            obtain ⟨Lf, hLf⟩ : ∃ Lf, Lf = (F56a_l29 600).L f := ⟨_, rfl⟩
            rw [← hLf] at r1 ⊢
            simp only [F56a_l29]
            simp only [List.length_map, e2, e3, e3k, hz2, and_self, if_true, Int.toNat_natCast, hg, hneg, decide_true, get3 A k hk, get0 E i hil, wd3, hw, Bool.not_false, cI_dat, b1, pkr3, pk0, lst9, p2, q2, c1, hr1, hs2, nat_succ (show i < 1000000 by omega)]
            exact r1
          | false =>
            refine ⟨o', t', ?_, r2⟩
            show (F56a_l29 600).b _ _ ((F56a_l29 600).L f) some = _
            obtain ⟨Lf, hLf⟩ : ∃ Lf, Lf = (F56a_l29 600).L f := ⟨_, rfl⟩
            rw [← hLf] at r1 ⊢
            simp only [F56a_l29]
            simp only [List.length_map, e2, e3, e3k, hz2, and_self, if_true, Int.toNat_natCast, hg, hneg, decide_true, get3 A k hk, get0 E i hil, wd3, hw, Bool.not_false, cI_dat, b1, pkr3, pk0, lst9, p2, q2, c1, nat_succ (show i < 1000000 by omega)]
            exact r1
    · refine ⟨o, t, ?_, F⟩
      show (F56a_l29 600).b _ _ ((F56a_l29 600).L f) some = _
      simp only [F56a_l29]
      simp only [List.length_map, e2, hz2, and_self, if_true, Int.toNat_natCast, hg, hneg, decide_false, cI_dat]
theorem rby_pick_loop (A : List RT3) (E : List RT0) (hA : A.length ≤ 500) (hE : E.length ≤ 500) (hpE : ∀ e ∈ E, PkOk e) (hpA : ∀ a ∈ A, PkOk (evA a)) : ∀ (d k f : Nat) (o : List Int) (t : List Bool), k + d = A.length → d < f → Fo A E o t →
    ∃ o' t', (F56a_l21 600).L f (A.map Ren3, E.map Ren0, A.length, (k : Int), cI o) = some (A.length, cI o') ∧ Fo A E o' t' := by
  intro d
  induction d with
  | zero =>
    intro k f o t hk hf F
    obtain ⟨f, rfl⟩ : ∃ f', f = f' + 1 := ⟨f - 1, by omega⟩
    refine ⟨o, t, ?_, F⟩
    show (F56a_l21 600).b _ _ ((F56a_l21 600).L f) some = _
    simp only [F56a_l21]
    have e2 : decide ((k : Int) < (A.length : Int)) = false := by rw [decide_eq_false_iff_not]; omega
    simp only [List.length_map, e2, cI_dat]
  | succ d ih =>
    intro k f o t hk hf F
    obtain ⟨f, rfl⟩ : ∃ f', f = f' + 1 := ⟨f - 1, by omega⟩
    have hkl : k < A.length := by omega
    have e2 : decide ((k : Int) < (A.length : Int)) = true := by rw [decide_eq_true_iff]; omega
    obtain ⟨o1, t1, q1, F1⟩ := rpick_loop A E hA k hkl hE hpE (hpA _ (List.getElem_mem hkl)) E.length 0 600 o t (by omega) (by omega) F
    replace q1 : (F56a_l29 600).L 600 (A.map Ren3, E.map Ren0, A.length, (k : Int), 0, cI o) = some (A.map Ren3, E.map Ren0, A.length, (k : Int), cI o1) := q1
    obtain ⟨o', t', r1, r2⟩ := ih (k + 1) f o1 t1 (by omega) (by omega) F1
    refine ⟨o', t', ?_, r2⟩
    show (F56a_l21 600).b _ _ ((F56a_l21 600).L f) some = _
    obtain ⟨Lf, hLf⟩ : ∃ Lf, Lf = (F56a_l21 600).L f := ⟨_, rfl⟩
    rw [← hLf] at r1 ⊢
    simp only [F56a_l21]
    simp only [List.length_map, e2, F56a_d29, cI_dat, q1, nat_succ (show k < 1000000 by omega)]
    exact r1
theorem rfollow_ok (A : List RT3) (E : List RT0) (hA : A.length ≤ 500) (hE : E.length ≤ 500) (hn : E.Pairwise fun a b => nmE a ≠ nmE b) (hnA : A.Pairwise fun a b => wdA a = false → wdA b = false → nmA a ≠ nmA b) (hpE : ∀ e ∈ E, PkOk e) (hpA : ∀ a ∈ A, PkOk (evA a)) :
    ∃ o t, F56a_d 600 (A.map Ren3, E.map Ren0) = some (A.length, cI o) ∧ Fo A E o t := by
  have F0 : Fo (A.take 0) E [] (List.replicate E.length false) := ⟨rfl, by simp, fun k h => (by cases h), fun k h => (by cases h), fun j k h => (by cases h), fun i h => ⟨fun e => by simp at e, fun ⟨k, h, _⟩ => by cases h⟩, fun k h => by cases h⟩
  obtain ⟨o1, t1, h2, F1⟩ := rby_name_loop A E hA hE hn hnA A 0 600 [] (List.replicate E.length false) rfl (by omega) (by omega) rfl F0 (fun j h => by cases h)
  replace h2 : (F56a_l5 600).L 600 (0, A.map Ren3, E.map Ren0, 0, []) = some (A.length, A.map Ren3, E.map Ren0, cI o1) := h2
  obtain ⟨o2, t2, h3, F2⟩ := rby_pick_loop A E hA hE hpE hpA A.length 0 600 o1 t1 (by omega) (by omega) F1
  replace h3 : (F56a_l21 600).L 600 (A.map Ren3, E.map Ren0, A.length, 0, cI o1) = some (A.length, cI o2) := h3
  refine ⟨o2, t2, ?_, F2⟩
  simp only [F56a_d, FSpec.d, F56a_s, F56a_d5, h2, cI_dat, F56a_d21, h3]
end Go.Proofs.Ytnnfpoelkdgjdaa
end
section
namespace Go.Proofs.Ytnnfpoelkdgjdaa
set_option linter.unusedVariables false
set_option linter.unusedSimpArgs false
set_option linter.unnecessarySimpa false
def s1 (lv : RT0 → Int) (mv : RT0 → RT0 → Bool) (ev now : Int) (a : RT3) : Option RT0 → RT3 × Int
  | none => if wdA a = true then (a, 0) else (mkA (idA a) true (nmA a) (lvA a) (evA a) now, 3)
  | some e => if wdA a = true then (a, 0) else if lv e = 0 then (mkA (idA a) true (nmE e) (lvA a) (evA a) now, 3)
    else if now - atA a ≥ ev ∧ mv (evA a) e = true then (mkA (idA a) (wdA a) (nmE e) (lv e) e now, 2)
    else (mkA (idA a) (wdA a) (nmE e) (lvA a) (evA a) (atA a), 0)
def evI (E : List RT0) (i : Int) : Option RT0 := if 0 ≤ i then E[i.toNat]? else none
def bul (n k : Int) (a : RT3) (now : Int) : RT6 := mkB n k (idA a) now (lvA a) (evA a)
theorem rowsI_at (o : List Int) (k : Nat) (h : k < o.length) : (rowsI o)[k]? = some [AV.v (.int .i64 o[k])] := rowsI_get o k h
theorem c3_wd (L : List RT3) (k : Nat) (h : k < L.length) : (fl Ren3 L)[(0 + ((k : Int)).toNat) * 38 + 1]? = some (AV.v (.bool (wdA L[k]))) := by
  rw [Nat.zero_add, Int.toNat_natCast, fl_get Ren3 38 Ren3_len L k 1 h (by omega)]; rfl
theorem c3_at (L : List RT3) (k : Nat) (h : k < L.length) : (fl Ren3 L)[(0 + ((k : Int)).toNat) * 38 + 37]? = some (AV.v (.int .i64 (atA L[k]))) := by
  rw [Nat.zero_add, Int.toNat_natCast, fl_get Ren3 38 Ren3_len L k 37 h (by omega)]; rfl
theorem row3 (L : List RT3) (k : Nat) (h : k < L.length) : Rrd3 ((fl Ren3 L).drop ((0 + ((k : Int)).toNat) * 38)) = some L[k] := by
  rw [Nat.zero_add, Int.toNat_natCast]
  have := fl_drop Ren3 38 Ren3_len L k 0 h (by omega)
  rw [Nat.add_zero, List.drop_zero] at this
  rw [this, Rrd3_app]
theorem room3 (L : List RT3) (k j m : Nat) (h : k < L.length) (hj : j + m ≤ 38) : (0 + ((k : Int)).toNat) * 38 + j + m ≤ (fl Ren3 L).length := by
  rw [len3, Nat.zero_add, Int.toNat_natCast]; omega
def clA (a : RT3) (now : Int) : RT3 := mkA (idA a) true (nmA a) (lvA a) (evA a) now
def nmS (a : RT3) (p : RT1) : RT3 := mkA (idA a) (wdA a) p (lvA a) (evA a) (atA a)
def upA (a : RT3) (l : Int) (e : RT0) (now : Int) : RT3 := mkA (idA a) (wdA a) (nmA a) l e now
theorem evA_cl (a : RT3) (now : Int) : evA (clA a now) = evA a := rfl
theorem evA_up (a : RT3) (l : Int) (e : RT0) (now : Int) : evA (upA a l e now) = e := rfl
theorem put_cl (L : List RT3) (k : Nat) (h : k < L.length) (now : Int) : splice (splice (fl Ren3 L) ((0 + ((k : Int)).toNat) * 38 + 1) [AV.v (.bool true)]) ((0 + ((k : Int)).toNat) * 38 + 37) [AV.v (.int .i64 now)] = fl Ren3 (L.set k (clA L[k] now)) := by
  obtain ⟨b, hb⟩ : ∃ b, splice (Ren3 L[k]) 1 [AV.v (.bool true)] = Ren3 b := ⟨_, sp_wd L[k] true⟩
  rw [splice3 L k 1 h _ b (by simp) hb, splice3 (L.set k b) k 37 (by simpa using h) _ (clA L[k] now) (by simp) ?_, List.set_set]
  rw [List.getElem_set_self, ← hb, sp_wd, sp_at]
  rfl
theorem put_nm (L : List RT3) (k : Nat) (h : k < L.length) (p : RT1) : splice (fl Ren3 L) ((0 + ((k : Int)).toNat) * 38 + 2) (Ren1 p) = fl Ren3 (L.set k (nmS L[k] p)) :=
  splice3 L k 2 h _ _ (by rw [Ren1_len]; omega) (sp_nm L[k] p)
theorem put_up (L : List RT3) (k : Nat) (h : k < L.length) (l : Int) (e : RT0) (now : Int) : splice (splice (splice (fl Ren3 L) ((0 + ((k : Int)).toNat) * 38 + 11) [AV.v (.int .i64 l)]) ((0 + ((k : Int)).toNat) * 38 + 12) (Ren0 e)) ((0 + ((k : Int)).toNat) * 38 + 37) [AV.v (.int .i64 now)] = fl Ren3 (L.set k (upA L[k] l e now)) := by
  obtain ⟨b, hb⟩ : ∃ b, splice (Ren3 L[k]) 11 [AV.v (.int .i64 l)] = Ren3 b := ⟨_, sp_lv L[k] l⟩
  obtain ⟨c, hc⟩ : ∃ c, splice (Ren3 b) 12 (Ren0 e) = Ren3 c := ⟨_, sp_ev b e⟩
  rw [splice3 L k 11 h _ b (by simp) hb, splice3 (L.set k b) k 12 (by simpa using h) _ c (by rw [Ren0_len]; omega) (by rw [List.getElem_set_self]; exact hc), List.set_set, splice3 (L.set k c) k 37 (by simpa using h) _ (upA L[k] l e now) (by simp) ?_, List.set_set]
  rw [List.getElem_set_self, ← hc, ← hb, sp_lv, sp_ev, sp_at]
  rfl
noncomputable def mvF (L : List RT4) (di ev : Int) (a e : RT0) : Bool := (F32_d 600 (L.map Ren4, di, ev, a, e)).getD false
noncomputable def tmF (L : List RT4) (di ev now : Int) (e : RT0) : Bool := (F12_d 600 (L.map Ren4, di, ev, e, now)).getD false
def lvF (L : List RT4) (di ev : Int) (e : RT0) : Int := (lev L di ev e : Int)
theorem mvF_ok {L : List RT4} {di ev : Int} (P : Pol L di ev) (a e : RT0) : F32_d 600 (L.map Ren4, di, ev, a, e) = some (mvF L di ev a e) := by
  obtain ⟨b, h, -⟩ := moved_ok P a e
  unfold mvF; rw [h]; rfl
theorem tmF_ok {L : List RT4} {di ev : Int} (P : Pol L di ev) (e : RT0) (now : Int) : F12_d 600 (L.map Ren4, di, ev, e, now) = some (tmF L di ev now e) := by
  obtain ⟨b, h, -⟩ := timely_ok P e now
  unfold tmF; rw [h]; rfl
theorem lvF_ok {L : List RT4} {di ev : Int} (P : Pol L di ev) (e : RT0) : F31_d 600 (L.map Ren4, di, ev, e) = some (lvF L di ev e) := level_is di ev e (by have := P.l; omega)
theorem PkOk.len {e : RT0} (h : PkOk e) : (pkE e).length ≤ 100000 := by
  obtain ⟨P, h1, h2⟩ := h
  rw [h2, List.length_map]; omega
structure Rd1 (L : List RT4) (di ev now number : Int) (E : List RT0) (B : List RT6) : Prop where
  P : Pol L di ev
  hE : E.length ≤ 500
  pE : ∀ e ∈ E, PkOk e
  hB : B.length ≤ 5000
  n : 0 ≤ number ∧ number ≤ 999
  now : 0 ≤ now ∧ now ≤ 1000000
theorem round_none {L : List RT4} {di ev now number : Int} {E : List RT0} {B : List RT6} (H : Rd1 L di ev now number E B) (out : List RT3) (o : List Int) (t : List Bool) (len : Int) (k : Nat) (hk : k < out.length) (hko : k < o.length) (hp : PkOk (evA out[k])) (hi : o[k] = -1) :
    F11_d19 600 (E.map Ren0, rowsI o, out.length, E.length, len, (k : Int), L.map Ren4, di, ev, number, now, B.map Ren6, false, fl Ren3 out, cB t) = some (E.map Ren0, rowsI o, out.length, E.length, len, (k : Int), L.map Ren4, di, ev, (if (s1 (lvF L di ev) (mvF L di ev) ev now out[k] none).2 = 0 then number else number + 1), now, (if (s1 (lvF L di ev) (mvF L di ev) ev now out[k] none).2 = 0 then B else B ++ [bul number (s1 (lvF L di ev) (mvF L di ev) ev now out[k] none).2 (s1 (lvF L di ev) (mvF L di ev) ev now out[k] none).1 now]).map Ren6, false, fl Ren3 (out.set k (s1 (lvF L di ev) (mvF L di ev) ev now out[k] none).1), cB t) := by
  have e3 : (0 : Int) ≤ (k : Int) := by omega
  have hz : (0 : Int) ≤ (k : Int) ∧ (k : Int) < (out.length : Int) := by omega
  show (F11_l19 600).b _ _ ((F11_l19 600).L 599) some = _
  obtain ⟨Lf, hLf⟩ : ∃ Lf, Lf = (F11_l19 600).L 599 := ⟨_, rfl⟩
  rw [← hLf]
  simp only [F11_l19]
  simp only [e3, if_true, Int.toNat_natCast, rowsI_at o k hko, List.getElem?_cons_zero, hz, and_self, hi]
  have hw := c3_wd out k hk
  rw [Int.toNat_natCast] at hw
  rw [hw]
  cases hwd : wdA out[k] with
  | true =>
    simp only [s1, hwd, if_true, fl3, cB_dat, set_same out k hk]
  | false =>
    have e1 : decide ((-1 : Int) ≥ 0) = false := by decide
    have e2 : ((0 : Int) == 0) = true := by decide
    have q28 : F11_d28 600 (E.map Ren0, rowsI o, out.length, E.length, -1, (0 + k) * 38, 0, len, (k : Int), false, L.map Ren4, di, ev, number, now, B.map Ren6, false, fl Ren3 out, cB t) = some (E.map Ren0, rowsI o, out.length, E.length, -1, (0 + k) * 38, 0, len, (k : Int), L.map Ren4, di, ev, number, now, B.map Ren6, false, fl Ren3 out, cB t) := by
      show (F11_l28 600).b _ _ ((F11_l28 600).L 599) some = _
      simp only [F11_l28]
      simp only [fl3, cB_dat]
    have q33 : F11_d33 600 (E.map Ren0, rowsI o, out.length, E.length, -1, (0 + k) * 38, 0, len, (k : Int), true, L.map Ren4, di, ev, number, now, B.map Ren6, false, fl Ren3 out, cB t) = some (E.map Ren0, rowsI o, out.length, E.length, len, (k : Int), L.map Ren4, di, ev, number + 1, now, (B ++ [bul number 3 (clA out[k] now) now]).map Ren6, false, fl Ren3 (out.set k (clA out[k] now)), cB t) := by
      show (F11_l33 600).b _ _ ((F11_l33 600).L 599) some = _
      simp only [F11_l33]
      have p1 := put_cl out k hk now
      have g1 := room3 out k 1 1 hk (by omega)
      have g2 : (0 + ((k : Int)).toNat) * 38 + 37 + 1 ≤ (splice (fl Ren3 out) ((0 + ((k : Int)).toNat) * 38 + 1) [AV.v (.bool true)]).length := by rw [splice_length]; exact room3 out k 37 1 hk (by omega)
      have r3 := row3 (out.set k (clA out[k] now)) k (by simpa using hk)
      rw [List.getElem_set_self] at r3
      rw [Int.toNat_natCast] at p1 g1 g2 r3
      have pub := publish_ok 3 (clA out[k] now) false number now B H.n (by have := H.hB; omega) (by rw [evA_cl]; exact hp.len) rfl
      simp only [g1, if_true, g2, p1, r3, pub, fl3, cB_dat]
      rfl
    simp only [e1, fl3, cB_dat, q28, e2, q33]
    simp only [s1, hwd]
    rfl
theorem evA_nm (a : RT3) (p : RT1) : evA (nmS a p) = evA a := rfl
theorem round_some {L : List RT4} {di ev now number : Int} {E : List RT0} {B : List RT6} (H : Rd1 L di ev now number E B) (out : List RT3) (o : List Int) (t : List Bool) (len : Int) (k i : Nat) (hk : k < out.length) (hko : k < o.length) (hp : PkOk (evA out[k])) (hw : wdA out[k] = false) (hat : 0 ≤ atA out[k] ∧ atA out[k] ≤ now) (hi : i < E.length) (hit : i < t.length) (hE : t.length = E.length) (ho : o[k] = (i : Int)) :
    F11_d19 600 (E.map Ren0, rowsI o, out.length, E.length, len, (k : Int), L.map Ren4, di, ev, number, now, B.map Ren6, false, fl Ren3 out, cB t) = some (E.map Ren0, rowsI o, out.length, E.length, len, (k : Int), L.map Ren4, di, ev, (if (s1 (lvF L di ev) (mvF L di ev) ev now out[k] (some E[i])).2 = 0 then number else number + 1), now, (if (s1 (lvF L di ev) (mvF L di ev) ev now out[k] (some E[i])).2 = 0 then B else B ++ [bul number (s1 (lvF L di ev) (mvF L di ev) ev now out[k] (some E[i])).2 (s1 (lvF L di ev) (mvF L di ev) ev now out[k] (some E[i])).1 now]).map Ren6, false, fl Ren3 (out.set k (s1 (lvF L di ev) (mvF L di ev) ev now out[k] (some E[i])).1), cB (t.set i true)) := by
  have hbl := H.hB
  have hnow := H.now
  have e3 : (0 : Int) ≤ (k : Int) := by omega
  have e3i : (0 : Int) ≤ (i : Int) := by omega
  have hz : (0 : Int) ≤ (k : Int) ∧ (k : Int) < (out.length : Int) := by omega
  have hzi : (0 : Int) ≤ (i : Int) ∧ (i : Int) < (E.length : Int) := by omega
  show (F11_l19 600).b _ _ ((F11_l19 600).L 599) some = _
  obtain ⟨Lf, hLf⟩ : ∃ Lf, Lf = (F11_l19 600).L 599 := ⟨_, rfl⟩
  rw [← hLf]
  simp only [F11_l19]
  simp only [e3, if_true, Int.toNat_natCast, rowsI_at o k hko, List.getElem?_cons_zero, hz, and_self, ho]
  have hwd := c3_wd out k hk
  rw [Int.toNat_natCast] at hwd
  rw [hwd, hw]
  have e1 : decide ((i : Int) ≥ 0) = true := by rw [decide_eq_true_iff]; omega
  have q28 : F11_d28 600 (E.map Ren0, rowsI o, out.length, E.length, (i : Int), (0 + k) * 38, 0, len, (k : Int), true, L.map Ren4, di, ev, number, now, B.map Ren6, false, fl Ren3 out, cB t) = some (E.map Ren0, rowsI o, out.length, E.length, (i : Int), (0 + k) * 38, lvF L di ev E[i], len, (k : Int), L.map Ren4, di, ev, number, now, B.map Ren6, false, fl Ren3 (out.set k (nmS out[k] (nmE E[i]))), cB (t.set i true)) := by
    show (F11_l28 600).b _ _ ((F11_l28 600).L 599) some = _
    simp only [F11_l28]
    have hb := cB_set t i true
    have hr := cB_room t i hit
    have hn := put_nm out k hk (nmE E[i])
    have hr2 := room3 out k 2 9 hk (by omega)
    rw [Int.toNat_natCast] at hb hr hn hr2
    simp only [hzi, and_self, if_true, Int.toNat_natCast, hr, e3i, get0 E i hi, nm0, Rrd0_en, hr2, lvF_ok H.P, hn, hb, fl3, cB_dat]
  obtain ⟨out1, ho1⟩ : ∃ out1, out1 = out.set k (nmS out[k] (nmE E[i])) := ⟨_, rfl⟩
  have hl1 : out1.length = out.length := by rw [ho1, List.length_set]
  have hk1 : k < out1.length := by omega
  have hg1 : out1[k] = nmS out[k] (nmE E[i]) := by simp only [ho1, List.getElem_set_self]
  have hs1 : ∀ b, out1.set k b = out.set k b := fun b => by rw [ho1, List.set_set]
  have hpn : (pkE (evA out1[k])).length ≤ 100000 := by rw [hg1, evA_nm]; exact hp.len
  have fin33 : ∃ r, F11_d33 600 (E.map Ren0, rowsI o, out.length, E.length, (i : Int), (0 + k) * 38, lvF L di ev E[i], len, (k : Int), (lvF L di ev E[i] == 0), L.map Ren4, di, ev, number, now, B.map Ren6, false, fl Ren3 out1, cB (t.set i true)) = some (E.map Ren0, rowsI o, out.length, E.length, len, (k : Int), L.map Ren4, di, ev, r) ∧ r = ((if (s1 (lvF L di ev) (mvF L di ev) ev now out[k] (some E[i])).2 = 0 then number else number + 1), now, (if (s1 (lvF L di ev) (mvF L di ev) ev now out[k] (some E[i])).2 = 0 then B else B ++ [bul number (s1 (lvF L di ev) (mvF L di ev) ev now out[k] (some E[i])).2 (s1 (lvF L di ev) (mvF L di ev) ev now out[k] (some E[i])).1 now]).map Ren6, false, fl Ren3 (out.set k (s1 (lvF L di ev) (mvF L di ev) ev now out[k] (some E[i])).1), cB (t.set i true)) := by
    by_cases h0 : lvF L di ev E[i] = 0
    · have hs : s1 (lvF L di ev) (mvF L di ev) ev now out[k] (some E[i]) = (clA out1[k] now, 3) := by
        simp only [s1, hw, h0, if_true, hg1]
        rfl
      rw [hs]
      refine ⟨_, ?_, rfl⟩
      have e2 : (lvF L di ev E[i] == 0) = true := by rw [h0]; rfl
      rw [e2]
      show (F11_l33 600).b _ _ ((F11_l33 600).L 599) some = _
      simp only [F11_l33]
      have p1 := put_cl out1 k hk1 now
      have g1 := room3 out1 k 1 1 hk1 (by omega)
      have g2 : (0 + ((k : Int)).toNat) * 38 + 37 + 1 ≤ (splice (fl Ren3 out1) ((0 + ((k : Int)).toNat) * 38 + 1) [AV.v (.bool true)]).length := by rw [splice_length]; exact room3 out1 k 37 1 hk1 (by omega)
      have r3 := row3 (out1.set k (clA out1[k] now)) k (by simpa using hk1)
      rw [List.getElem_set_self] at r3
      rw [Int.toNat_natCast] at p1 g1 g2 r3
      have pub := publish_ok 3 (clA out1[k] now) false number now B H.n (by omega) (by rw [evA_cl]; exact hpn) rfl
      simp only [g1, if_true, g2, p1, r3, pub, fl3, cB_dat]
      rw [hs1]
      rfl
    · have e2 : (lvF L di ev E[i] == 0) = false := by simp [h0]
      rw [e2]
      have q35 : ∃ r, F11_d35 600 (E.map Ren0, rowsI o, out.length, E.length, (i : Int), (0 + k) * 38, lvF L di ev E[i], len, (k : Int), L.map Ren4, di, ev, number, now, B.map Ren6, false, fl Ren3 out1, cB (t.set i true)) = some (E.map Ren0, rowsI o, out.length, E.length, len, (k : Int), L.map Ren4, di, ev, r) ∧ r = ((if (s1 (lvF L di ev) (mvF L di ev) ev now out[k] (some E[i])).2 = 0 then number else number + 1), now, (if (s1 (lvF L di ev) (mvF L di ev) ev now out[k] (some E[i])).2 = 0 then B else B ++ [bul number (s1 (lvF L di ev) (mvF L di ev) ev now out[k] (some E[i])).2 (s1 (lvF L di ev) (mvF L di ev) ev now out[k] (some E[i])).1 now]).map Ren6, false, fl Ren3 (out.set k (s1 (lvF L di ev) (mvF L di ev) ev now out[k] (some E[i])).1), cB (t.set i true)) := by
        have hat1 : atA out1[k] = atA out[k] := by rw [hg1]; rfl
        have hev1 : evA out1[k] = evA out[k] := by rw [hg1]; rfl
        have e5 : i64 (now - atA out1[k]) = now - atA out[k] := by rw [hat1, i64_id (by omega)]
        have c1 := c3_at out1 k hk1
        have c2 := drop_ev out1 k hk1
        rw [Int.toNat_natCast] at c1 c2
        have hmv := mvF_ok H.P (evA out1[k]) E[i]
        by_cases hd : now - atA out[k] ≥ ev
        · cases hm : mvF L di ev (evA out[k]) E[i] with
          | true =>
            have hs : s1 (lvF L di ev) (mvF L di ev) ev now out[k] (some E[i]) = (upA out1[k] (lvF L di ev E[i]) E[i] now, 2) := by
              simp only [s1, hw, h0, hm, hd, if_false, if_true, and_self, hg1]
              simp
              show mkA _ false _ _ _ _ = mkA (idA out[k]) (wdA out[k]) (nmE E[i]) (lvF L di ev E[i]) E[i] now
              rw [hw]
            rw [hs]
            refine ⟨_, ?_, rfl⟩
            show (F11_l35 600).b _ _ ((F11_l35 600).L 599) some = _
            simp only [F11_l35]
            rw [hev1, hm] at hmv
            have p1 := put_up out1 k hk1 (lvF L di ev E[i]) E[i] now
            have g1 := room3 out1 k 11 1 hk1 (by omega)
            have g2 : (0 + ((k : Int)).toNat) * 38 + 12 + 25 ≤ (splice (fl Ren3 out1) ((0 + ((k : Int)).toNat) * 38 + 11) [AV.v (.int .i64 (lvF L di ev E[i]))]).length := by rw [splice_length]; exact room3 out1 k 12 25 hk1 (by omega)
            have g3 : (0 + ((k : Int)).toNat) * 38 + 37 + 1 ≤ (splice (splice (fl Ren3 out1) ((0 + ((k : Int)).toNat) * 38 + 11) [AV.v (.int .i64 (lvF L di ev E[i]))]) ((0 + ((k : Int)).toNat) * 38 + 12) (Ren0 E[i])).length := by rw [splice_length, splice_length]; exact room3 out1 k 37 1 hk1 (by omega)
            have r3 := row3 (out1.set k (upA out1[k] (lvF L di ev E[i]) E[i] now)) k (by simpa using hk1)
            rw [List.getElem_set_self] at r3
            rw [Int.toNat_natCast] at p1 g1 g2 g3 r3
            have hcp := copied_ok E[i] (H.pE _ (List.getElem_mem hi)).len
            have pub := publish_ok 2 (upA out1[k] (lvF L di ev E[i]) E[i] now) false number now B H.n (by omega) (by rw [evA_up]; exact (H.pE _ (List.getElem_mem hi)).len) rfl
            simp only [c1, e5, hd, decide_true, if_true, c2, hev1, e3i, Int.toNat_natCast, get0 E i hi, Rrd0_en, hmv, hcp, g1, g2, g3, p1, r3, pub, fl3, cB_dat]
            rw [hs1]
            rfl
          | false =>
            have hs : s1 (lvF L di ev) (mvF L di ev) ev now out[k] (some E[i]) = (out1[k], 0) := by
              simp only [s1, hw, h0, hm, hd, if_false, hg1]
              simp
              show mkA _ false _ _ _ _ = mkA (idA out[k]) (wdA out[k]) (nmE E[i]) (lvA out[k]) (evA out[k]) (atA out[k])
              rw [hw]
            rw [hs]
            refine ⟨_, ?_, rfl⟩
            show (F11_l35 600).b _ _ ((F11_l35 600).L 599) some = _
            simp only [F11_l35]
            rw [hev1, hm] at hmv
            simp only [c1, e5, hd, decide_true, if_true, c2, hev1, e3i, Int.toNat_natCast, get0 E i hi, Rrd0_en, hmv, fl3, cB_dat]
            rw [← hs1, set_same out1 k hk1]
        · have hs : s1 (lvF L di ev) (mvF L di ev) ev now out[k] (some E[i]) = (out1[k], 0) := by
            simp only [s1, hw, h0, hd, if_false, hg1]
            simp
            show mkA _ false _ _ _ _ = mkA (idA out[k]) (wdA out[k]) (nmE E[i]) (lvA out[k]) (evA out[k]) (atA out[k])
            rw [hw]
          rw [hs]
          refine ⟨_, ?_, rfl⟩
          show (F11_l35 600).b _ _ ((F11_l35 600).L 599) some = _
          simp only [F11_l35]
          simp only [c1, e5, hd, decide_false, if_true, fl3, cB_dat]
          rw [← hs1, set_same out1 k hk1]
      obtain ⟨r, hq, hr⟩ := q35
      refine ⟨r, ?_, hr⟩
      subst hr
      show (F11_l33 600).b _ _ ((F11_l33 600).L 599) some = _
      simp only [F11_l33]
      simp only [fl3, cB_dat, hq]
  obtain ⟨r, hq, hr⟩ := fin33
  subst hr
  rw [← ho1] at q28
  simp only [e1, fl3, cB_dat, q28, hq]
end Go.Proofs.Ytnnfpoelkdgjdaa
end
section
namespace Go.Proofs.Ytnnfpoelkdgjdaa
set_option linter.unusedVariables false
set_option linter.unusedSimpArgs false
set_option linter.unnecessarySimpa false
def ph1 (lv : RT0 → Int) (mv : RT0 → RT0 → Bool) (ev now : Int) (E : List RT0) : List RT3 → List Int → Int → List RT3 × List RT6
  | a :: A, i :: o, n =>
    ((s1 lv mv ev now a (evI E i)).1 :: (ph1 lv mv ev now E A o (if (s1 lv mv ev now a (evI E i)).2 = 0 then n else n + 1)).1,
     (if (s1 lv mv ev now a (evI E i)).2 = 0 then [] else [bul n (s1 lv mv ev now a (evI E i)).2 (s1 lv mv ev now a (evI E i)).1 now]) ++ (ph1 lv mv ev now E A o (if (s1 lv mv ev now a (evI E i)).2 = 0 then n else n + 1)).2)
  | _, _, _ => ([], [])
def ph2 (lv : RT0 → Int) (tm : RT0 → Bool) (now : Int) (fw : Nat → Bool) : List RT0 → Nat → Int → List RT3 × List RT6
  | e :: R, i, n => if fw i = false ∧ tm e = true then
      (mkA n false (nmE e) (lv e) e now :: (ph2 lv tm now fw R (i + 1) (n + 1)).1, bul n 1 (mkA n false (nmE e) (lv e) e now) now :: (ph2 lv tm now fw R (i + 1) (n + 1)).2)
    else ph2 lv tm now fw R (i + 1) n
  | _, _, _ => ([], [])
noncomputable def fwO (o : List Int) (i : Nat) : Bool := decide ((i : Int) ∈ o)
theorem fwO_iff {o : List Int} {i : Nat} : fwO o i = true ↔ (i : Int) ∈ o := by unfold fwO; exact decide_eq_true_iff
theorem ph1_len (lv : RT0 → Int) (mv : RT0 → RT0 → Bool) (ev now : Int) (E : List RT0) : ∀ (A : List RT3) (o : List Int) (n : Int), A.length = o.length → (ph1 lv mv ev now E A o n).1.length = A.length ∧ (ph1 lv mv ev now E A o n).2.length ≤ A.length
  | [], o, n, h => by unfold ph1; simp
  | a :: A, [], n, h => by simp at h
  | a :: A, i :: o, n, h => by
    obtain ⟨h1, h2⟩ := ph1_len lv mv ev now E A o (if (s1 lv mv ev now a (evI E i)).2 = 0 then n else n + 1) (by simpa using h)
    unfold ph1
    refine ⟨by simp [h1], ?_⟩
    rw [List.length_append, List.length_cons]
    by_cases h0 : (s1 lv mv ev now a (evI E i)).2 = 0
    · simp only [h0, if_true] at h2 ⊢
      simp; omega
    · simp only [h0, if_false] at h2 ⊢
      simp; omega
theorem ph2_len (lv : RT0 → Int) (tm : RT0 → Bool) (now : Int) (fw : Nat → Bool) : ∀ (E : List RT0) (i : Nat) (n : Int), (ph2 lv tm now fw E i n).1.length ≤ E.length ∧ (ph2 lv tm now fw E i n).2.length = (ph2 lv tm now fw E i n).1.length
  | [], i, n => by unfold ph2; simp
  | e :: R, i, n => by
    unfold ph2
    split
    · obtain ⟨h1, h2⟩ := ph2_len lv tm now fw R (i + 1) (n + 1)
      simp; omega
    · obtain ⟨h1, h2⟩ := ph2_len lv tm now fw R (i + 1) n
      simp; omega
structure Rds (L : List RT4) (di ev now : Int) (E : List RT0) : Prop where
  P : Pol L di ev
  hE : E.length ≤ 500
  pE : ∀ e ∈ E, PkOk e
  now : 0 ≤ now ∧ now ≤ 1000000
theorem evI_neg (E : List RT0) : evI E (-1) = none := rfl
theorem evI_pos (E : List RT0) (i : Nat) (h : i < E.length) : evI E (i : Int) = some E[i] := by
  unfold evI
  rw [if_pos (by omega), Int.toNat_natCast, List.getElem?_eq_getElem h]
theorem ph1_loop {L : List RT4} {di ev now : Int} {E : List RT0} (H : Rds L di ev now E) (o : List Int) (ho : ∀ k (h : k < o.length), o[k] = -1 ∨ ∃ i : Nat, i < E.length ∧ o[k] = (i : Int)) (hol : o.length ≤ 500) :
    ∀ (R : List RT3) (k f : Nat) (pre : List RT3) (B : List RT6) (n : Int) (t : List Bool), pre.length = k → k + R.length = o.length → R.length < f → (∀ a ∈ R, PkOk (evA a) ∧ 0 ≤ atA a ∧ atA a ≤ now) → (∀ j (h : j < R.length) (h' : k + j < o.length), wdA R[j] = true → o[k + j] = -1) → B.length + R.length ≤ 5000 → 0 ≤ n ∧ n + R.length ≤ 1000 → t.length = E.length → (∀ i (h : i < t.length), t[i] = true ↔ ∃ j, ∃ h : j < o.length, j < k ∧ o[j] = (i : Int)) →
    ∃ t', (F11_l14 600).L f (E.map Ren0, rowsI o, (pre ++ R).length, E.length, (o.length : Int), (k : Int), L.map Ren4, di, ev, n, now, B.map Ren6, false, fl Ren3 (pre ++ R), cB t) = some (E.map Ren0, (pre ++ R).length, E.length, L.map Ren4, di, ev, n + (ph1 (lvF L di ev) (mvF L di ev) ev now E R (o.drop k) n).2.length, now, (B ++ (ph1 (lvF L di ev) (mvF L di ev) ev now E R (o.drop k) n).2).map Ren6, false, fl Ren3 (pre ++ (ph1 (lvF L di ev) (mvF L di ev) ev now E R (o.drop k) n).1), cB t') ∧ t'.length = E.length ∧ (∀ i (h : i < t'.length), t'[i] = true ↔ (i : Int) ∈ o)
  | [], k, f, pre, B, n, t, hpre, hk, hf, hR, hw, hB, hn, ht, hT => by
    obtain ⟨f, rfl⟩ : ∃ f', f = f' + 1 := ⟨f - 1, by omega⟩
    have hk' : k = o.length := by simpa using hk
    refine ⟨t, ?_, ht, fun i h => ?_⟩
    · show (F11_l14 600).b _ _ ((F11_l14 600).L f) some = _
      simp only [F11_l14]
      have e2 : decide ((k : Int) < (o.length : Int)) = false := by rw [decide_eq_false_iff_not]; omega
      simp only [e2, fl3, cB_dat, ph1, List.append_nil, List.length_nil]
      simp
    · rw [hT i h]
      constructor
      · rintro ⟨j, h, -, e⟩; rw [← e]; exact List.getElem_mem h
      · intro h; obtain ⟨j, hj, e⟩ := List.getElem_of_mem h; exact ⟨j, hj, by omega, e⟩
  | a :: R, k, f, pre, B, n, t, hpre, hk, hf, hR, hw, hB, hn, ht, hT => by
    obtain ⟨f, rfl⟩ : ∃ f', f = f' + 1 := ⟨f - 1, by omega⟩
    rw [List.length_cons] at hk hf hB hn
    have hko : k < o.length := by omega
    have hkl : k < (pre ++ a :: R).length := by simp; omega
    have hek : (pre ++ a :: R)[k] = a := by
      rw [List.getElem_append_right (by omega)]
      simp [hpre]
    have hset : ∀ b, (pre ++ a :: R).set k b = (pre ++ [b]) ++ R := fun b => by
      rw [List.set_append, if_neg (by omega), hpre, Nat.sub_self]
      simp
    have hdo : o.drop k = o[k] :: o.drop (k + 1) := List.drop_eq_getElem_cons hko
    obtain ⟨hp, hat1, hat2⟩ := hR a List.mem_cons_self
    have H1 : Rd1 L di ev now n E B := ⟨H.P, H.hE, H.pE, by omega, by omega, H.now⟩
    have e2 : decide ((k : Int) < (o.length : Int)) = true := by rw [decide_eq_true_iff]; omega
    -- the rest
    have rest : ∀ (a' : RT3) (kd : Int) (t1 : List Bool), s1 (lvF L di ev) (mvF L di ev) ev now a (evI E o[k]) = (a', kd) → t1.length = E.length → (∀ i (h : i < t1.length), t1[i] = true ↔ ∃ j, ∃ h : j < o.length, j < k + 1 ∧ o[j] = (i : Int)) →
        F11_d19 600 (E.map Ren0, rowsI o, (pre ++ a :: R).length, E.length, (o.length : Int), (k : Int), L.map Ren4, di, ev, n, now, B.map Ren6, false, fl Ren3 (pre ++ a :: R), cB t) = some (E.map Ren0, rowsI o, (pre ++ a :: R).length, E.length, (o.length : Int), (k : Int), L.map Ren4, di, ev, (if kd = 0 then n else n + 1), now, (if kd = 0 then B else B ++ [bul n kd a' now]).map Ren6, false, fl Ren3 ((pre ++ a :: R).set k a'), cB t1) →
        ∃ t', (F11_l14 600).L (f + 1) (E.map Ren0, rowsI o, (pre ++ a :: R).length, E.length, (o.length : Int), (k : Int), L.map Ren4, di, ev, n, now, B.map Ren6, false, fl Ren3 (pre ++ a :: R), cB t) = some (E.map Ren0, (pre ++ a :: R).length, E.length, L.map Ren4, di, ev, n + (ph1 (lvF L di ev) (mvF L di ev) ev now E (a :: R) (o.drop k) n).2.length, now, (B ++ (ph1 (lvF L di ev) (mvF L di ev) ev now E (a :: R) (o.drop k) n).2).map Ren6, false, fl Ren3 (pre ++ (ph1 (lvF L di ev) (mvF L di ev) ev now E (a :: R) (o.drop k) n).1), cB t') ∧ t'.length = E.length ∧ (∀ i (h : i < t'.length), t'[i] = true ↔ (i : Int) ∈ o) := by
      intro a' kd t1 hs ht1 hT1 hq
      obtain ⟨t', r1, r2, r3⟩ := ph1_loop H o ho hol R (k + 1) f (pre ++ [a']) (if kd = 0 then B else B ++ [bul n kd a' now]) (if kd = 0 then n else n + 1) t1 (by simp [hpre]) (by omega) (by omega) (fun x hx => hR x (List.mem_cons_of_mem _ hx)) (fun j h h' hwj => by
        have := hw (j + 1) (by simpa using h) (by omega) (by simpa using hwj)
        rw [← this]
        congr 1
        omega) (by split <;> first | omega | (rw [List.length_append, List.length_singleton]; omega)) (by split <;> omega) ht1 hT1
      refine ⟨t', ?_, r2, r3⟩
      rw [hset] at hq
      rw [hdo]
      unfold ph1
      rw [hs]
      have hl : (pre ++ a :: R).length = ((pre ++ [a']) ++ R).length := by simp
      rw [hl] at hq ⊢
      show (F11_l14 600).b _ _ ((F11_l14 600).L f) some = _
      obtain ⟨Lf, hLf⟩ : ∃ Lf, Lf = (F11_l14 600).L f := ⟨_, rfl⟩
      rw [← hLf] at r1 ⊢
      simp only [F11_l14]
      simp only [e2, fl3, cB_dat, hq, nat_succ (show k < 1000000 by omega)]
      rw [r1]
      by_cases h0 : kd = 0
      · simp only [h0, if_true, List.nil_append, List.append_assoc, List.singleton_append]
      · simp only [h0, if_false, List.append_assoc, List.singleton_append, List.length_cons]
        rw [show n + 1 + ((ph1 (lvF L di ev) (mvF L di ev) ev now E R (o.drop (k + 1)) (n + 1)).2.length : Int) = n + (((ph1 (lvF L di ev) (mvF L di ev) ev now E R (o.drop (k + 1)) (n + 1)).2.length + 1 : Nat) : Int) by omega]
    rcases ho k hko with h1 | ⟨i, hi, h1⟩
    · have hq := round_none H1 (pre ++ a :: R) o t (o.length : Int) k hkl hko (by rw [hek]; exact hp) h1
      rw [hek] at hq
      refine rest _ _ t (by rw [h1, evI_neg]) ht (fun i h => ?_) hq
      rw [hT i h]
      constructor
      · rintro ⟨j, q1, q2, q3⟩; exact ⟨j, q1, by omega, q3⟩
      · rintro ⟨j, q1, q2, q3⟩
        refine ⟨j, q1, ?_, q3⟩
        rcases Nat.lt_or_ge j k with h2 | h2
        · exact h2
        · obtain rfl : j = k := by omega
          rw [h1] at q3; omega
    · have hwa : wdA a = false := by
        cases hx : wdA a with
        | false => rfl
        | true =>
          have := hw 0 (by simp) (by omega) (by simpa using hx)
          simp only [Nat.add_zero] at this
          rw [this] at h1; omega
      have hq := round_some H1 (pre ++ a :: R) o t (o.length : Int) k i hkl hko (by rw [hek]; exact hp) (by rw [hek]; exact hwa) (by rw [hek]; exact ⟨hat1, hat2⟩) hi (by omega) ht h1
      rw [hek] at hq
      refine rest _ _ (t.set i true) (by rw [h1, evI_pos E i hi]) (by simpa using ht) (fun m h => ?_) hq
      rw [List.getElem_set]
      split
      · rename_i e; subst e
        exact ⟨fun _ => ⟨k, hko, by omega, h1⟩, fun _ => rfl⟩
      · rename_i e
        rw [hT m (by simpa using h)]
        constructor
        · rintro ⟨j, q1, q2, q3⟩; exact ⟨j, q1, by omega, q3⟩
        · rintro ⟨j, q1, q2, q3⟩
          refine ⟨j, q1, ?_, q3⟩
          rcases Nat.lt_or_ge j k with h2 | h2
          · exact h2
          · obtain rfl : j = k := by omega
            rw [h1] at q3; omega
theorem ph2_loop {L : List RT4} {di ev now : Int} {E : List RT0} (H : Rds L di ev now E) (o : List Int) (t : List Bool) (ht : t.length = E.length) (hT : ∀ i (h : i < t.length), t[i] = true ↔ (i : Int) ∈ o) :
    ∀ (R : List RT0) (i f : Nat) (out : List RT3) (B : List RT6) (n : Int), E.drop i = R → i + R.length = E.length → R.length < f → B.length + R.length ≤ 50000 → out.length + R.length ≤ 50000 → 0 ≤ n ∧ n + R.length ≤ 1000 →
    (F11_l41 600).L f (out.length, E.map Ren0, E.length, (E.length : Int), (i : Int), L.map Ren4, di, ev, n, now, B.map Ren6, false, cB t, fl Ren3 out) = some ((out ++ (ph2 (lvF L di ev) (tmF L di ev now) now (fwO o) R i n).1).length, (B ++ (ph2 (lvF L di ev) (tmF L di ev now) now (fwO o) R i n).2).map Ren6, false, fl Ren3 (out ++ (ph2 (lvF L di ev) (tmF L di ev now) now (fwO o) R i n).1))
  | [], i, f, out, B, n, hR, hi, hf, hB, ho, hn => by
    obtain ⟨f, rfl⟩ : ∃ f', f = f' + 1 := ⟨f - 1, by omega⟩
    show (F11_l41 600).b _ _ ((F11_l41 600).L f) some = _
    simp only [F11_l41]
    have e2 : decide ((i : Int) < (E.length : Int)) = false := by rw [decide_eq_false_iff_not]; simp at hi; omega
    simp only [e2, fl3, ph2, List.append_nil]
  | e :: R, i, f, out, B, n, hR, hi, hf, hB, ho, hn => by
    obtain ⟨f, rfl⟩ : ∃ f', f = f' + 1 := ⟨f - 1, by omega⟩
    rw [List.length_cons] at hi hf hB ho hn
    obtain ⟨hil, hei, hR'⟩ := drop_eq hR
    have hE := H.hE
    have hit : i < t.length := by omega
    have e2 : decide ((i : Int) < (E.length : Int)) = true := by rw [decide_eq_true_iff]; omega
    have e3 : (0 : Int) ≤ (i : Int) := by omega
    have hz : (0 : Int) ≤ (i : Int) ∧ (i : Int) < (E.length : Int) := by omega
    have hg := cB_get t i hit
    rw [Int.toNat_natCast] at hg
    have hfw : t[i] = fwO o i := by rw [Bool.eq_iff_iff, hT i hit, fwO_iff]
    rw [hfw] at hg
    have hpe : PkOk e := by rw [← hei]; exact H.pE _ (List.getElem_mem hil)
    unfold ph2
    cases hw : fwO o i with
    | true =>
      have r1 := ph2_loop H o t ht hT R (i + 1) f out B n hR' (by omega) (by omega) (by omega) (by omega) (by omega)
      rw [if_neg (by simp)]
      rw [hw] at hg
      show (F11_l41 600).b _ _ ((F11_l41 600).L f) some = _
      obtain ⟨Lf, hLf⟩ : ∃ Lf, Lf = (F11_l41 600).L f := ⟨_, rfl⟩
      rw [← hLf] at r1 ⊢
      simp only [F11_l41]
      rw [e2]
      simp only [e3, hz, and_self, if_true, Int.toNat_natCast, get0 E i hil, hei, Rrd0_en, hg, Bool.not_true, fl3, cB_dat, nat_succ (show i < 1000000 by omega)]
      exact r1
    | false =>
      rw [hw] at hg
      cases htm : tmF L di ev now e with
      | false =>
        have r1 := ph2_loop H o t ht hT R (i + 1) f out B n hR' (by omega) (by omega) (by omega) (by omega) (by omega)
        rw [if_neg (by simp)]
        show (F11_l41 600).b _ _ ((F11_l41 600).L f) some = _
        obtain ⟨Lf, hLf⟩ : ∃ Lf, Lf = (F11_l41 600).L f := ⟨_, rfl⟩
        rw [← hLf] at r1 ⊢
        simp only [F11_l41]
        rw [e2]
        simp only [e3, hz, and_self, if_true, Int.toNat_natCast, get0 E i hil, hei, Rrd0_en, hg, Bool.not_false, tmF_ok H.P, htm, fl3, cB_dat, nat_succ (show i < 1000000 by omega)]
        exact r1
      | true =>
        obtain ⟨a, ha⟩ : ∃ a, a = mkA n false (nmE e) (lvF L di ev e) e now := ⟨_, rfl⟩
        have r1 := ph2_loop H o t ht hT R (i + 1) f (out ++ [a]) (B ++ [bul n 1 a now]) (n + 1) hR' (by omega) (by omega) (by simp; omega) (by simp; omega) (by omega)
        rw [if_pos ⟨rfl, rfl⟩]
        have hev : evA a = e := by rw [ha]; rfl
        have hid : idA a = n := by rw [ha]; rfl
        have pub := publish_ok 1 a false n now B (by omega) (by omega) (by rw [hev]; exact hpe.len) rfl
        replace pub : F28_d 600 (1, a, false, n, B.map Ren6, now) = some (false, n + 1, (B ++ [bul n 1 a now]).map Ren6, now) := pub
        have hcp := copied_ok e hpe.len
        have hb1 : out.length * 38 ≤ (fl Ren3 out).length := by rw [len3]; exact Nat.le_refl _
        have hb2 : ∀ r : List AV, (out.length + [r].length) * 384 ≤ maxBytes := fun r => by unfold maxBytes; simp; omega
        rw [← ha]
        show (F11_l41 600).b _ _ ((F11_l41 600).L f) some = _
        obtain ⟨Lf, hLf⟩ : ∃ Lf, Lf = (F11_l41 600).L f := ⟨_, rfl⟩
        rw [← hLf] at r1 ⊢
        rw [List.length_append] at r1
        simp only [F11_l41]
        rw [e2]
        simp only [e3, hz, and_self, if_true, Int.toNat_natCast, get0 E i hil, hei, Rrd0_en, hg, Bool.not_false, tmF_ok H.P, htm, lvF_ok H.P, hcp, hb1, hb2, fl3, cB_dat, nat_succ (show i < 1000000 by omega)]
        have ha2 : ((n, false, e.1, e.2.1, e.2.2.1, e.2.2.2.1, e.2.2.2.2.1, e.2.2.2.2.2.1, e.2.2.2.2.2.2.1, e.2.2.2.2.2.2.2.1, e.2.2.2.2.2.2.2.2.1, lvF L di ev e, e.1, e.2.1, e.2.2.1, e.2.2.2.1, e.2.2.2.2.1, e.2.2.2.2.2.1, e.2.2.2.2.2.2.1, e.2.2.2.2.2.2.2.1, e.2.2.2.2.2.2.2.2.1, e.2.2.2.2.2.2.2.2.2.1, e.2.2.2.2.2.2.2.2.2.2.1, e.2.2.2.2.2.2.2.2.2.2.2.1, e.2.2.2.2.2.2.2.2.2.2.2.2.1, e.2.2.2.2.2.2.2.2.2.2.2.2.2.1, e.2.2.2.2.2.2.2.2.2.2.2.2.2.2.1, e.2.2.2.2.2.2.2.2.2.2.2.2.2.2.2.1, e.2.2.2.2.2.2.2.2.2.2.2.2.2.2.2.2.1, e.2.2.2.2.2.2.2.2.2.2.2.2.2.2.2.2.2.1, e.2.2.2.2.2.2.2.2.2.2.2.2.2.2.2.2.2.2.1, e.2.2.2.2.2.2.2.2.2.2.2.2.2.2.2.2.2.2.2.1, e.2.2.2.2.2.2.2.2.2.2.2.2.2.2.2.2.2.2.2.2.1, e.2.2.2.2.2.2.2.2.2.2.2.2.2.2.2.2.2.2.2.2.2.1, e.2.2.2.2.2.2.2.2.2.2.2.2.2.2.2.2.2.2.2.2.2.2.1, e.2.2.2.2.2.2.2.2.2.2.2.2.2.2.2.2.2.2.2.2.2.2.2.1, e.2.2.2.2.2.2.2.2.2.2.2.2.2.2.2.2.2.2.2.2.2.2.2.2.1, now, ()) : RT3) = a := ha.symm
        simp only [ha2, hb2, if_true, pub]
        rw [app3 out a _ rfl, fl3]
        refine Eq.trans r1 ?_
        simp only [List.append_assoc, List.singleton_append]
noncomputable def stA (L : List RT4) (di ev now : Int) (E : List RT0) (A : List RT3) (o : List Int) (n : Int) : List RT3 := (ph1 (lvF L di ev) (mvF L di ev) ev now E A o n).1 ++ (ph2 (lvF L di ev) (tmF L di ev now) now (fwO o) E 0 (n + (ph1 (lvF L di ev) (mvF L di ev) ev now E A o n).2.length)).1
noncomputable def stB (L : List RT4) (di ev now : Int) (E : List RT0) (A : List RT3) (o : List Int) (n : Int) : List RT6 := (ph1 (lvF L di ev) (mvF L di ev) ev now E A o n).2 ++ (ph2 (lvF L di ev) (tmF L di ev now) now (fwO o) E 0 (n + (ph1 (lvF L di ev) (mvF L di ev) ev now E A o n).2.length)).2
theorem step_ok' {L : List RT4} {di ev number now now' : Int} {A : List RT3} {E : List RT0} (P : Pol L di ev) (O : Ok A number now) (hE : EvOk E) (hn : now ≤ now' ∧ now' ≤ 1000000) : ∃ o t, Fo A E o t ∧ F19_d 600 (A.map Ren3, E.map Ren0) = some (rowsI o) ∧ F11_d 600 (L.map Ren4, di, ev, A.map Ren3, number, E.map Ren0, now') = some ((stA L di ev now' E A o number).map Ren3, (stB L di ev now' E A o number).map Ren6, 0) := by
  have hl := O.len
  have hnum := O.num
  have hnow := O.now
  have hEl := hE.l
  obtain ⟨o, t, h1, F⟩ := follow_ok A E (by omega) (by omega) hE.names O.nm hE.pk O.pk
  refine ⟨o, t, F, h1, ?_⟩
  have hlo := F.lo
  have H : Rds L di ev now' E := ⟨P, by omega, hE.pk, by omega⟩
  obtain ⟨t', q1, q2, q3⟩ := ph1_loop H o F.v (by omega) A 0 600 [] [] number (List.replicate E.length false) rfl (by omega) (by omega) (fun a ha => ⟨O.pk a ha, by have := O.rng a ha; omega, by have := O.rng a ha; omega⟩) (fun j h h' hw => by simp only [Nat.zero_add]; exact F.w j (by omega) h hw) (by simp; omega) (by omega) (by simp) (fun i h => ⟨fun e => by simp at e, fun ⟨j, _, hj, _⟩ => by omega⟩)
  rw [List.drop_zero] at q1
  obtain ⟨p, hp⟩ : ∃ p, ph1 (lvF L di ev) (mvF L di ev) ev now' E A o number = p := ⟨_, rfl⟩
  have hpl := ph1_len (lvF L di ev) (mvF L di ev) ev now' E A o number hlo.symm
  rw [hp] at q1 hpl
  replace q1 : (F11_l14 600).L 600 (E.map Ren0, rowsI o, A.length, E.length, (o.length : Int), 0, L.map Ren4, di, ev, number, now', [], false, fl Ren3 A, cB (List.replicate E.length false)) = some (E.map Ren0, A.length, E.length, L.map Ren4, di, ev, number + p.2.length, now', p.2.map Ren6, false, fl Ren3 p.1, cB t') := q1
  have q4 := ph2_loop H o t' q2 q3 E 0 600 p.1 p.2 (number + p.2.length) rfl (by omega) (by omega) (by omega) (by omega) (by omega)
  obtain ⟨r, hr⟩ : ∃ r, ph2 (lvF L di ev) (tmF L di ev now') now' (fwO o) E 0 (number + p.2.length) = r := ⟨_, rfl⟩
  have hrl := ph2_len (lvF L di ev) (tmF L di ev now') now' (fwO o) E 0 (number + p.2.length)
  rw [hr] at q4 hrl
  rw [hpl.1] at q4
  replace q4 : (F11_l41 600).L 600 (A.length, E.map Ren0, E.length, (E.length : Int), 0, L.map Ren4, di, ev, number + p.2.length, now', p.2.map Ren6, false, cB t', fl Ren3 p.1) = some ((p.1 ++ r.1).length, (p.2 ++ r.2).map Ren6, false, fl Ren3 (p.1 ++ r.1)) := q4
  have hsA : stA L di ev now' E A o number = p.1 ++ r.1 := by unfold stA; rw [hp, hr]
  have hsB : stB L di ev now' E A o number = p.2 ++ r.2 := by unfold stB; rw [hp, hr]
  rw [hsA, hsB]
  have e1 : ((0 : Int) != 0) = false := by decide
  have g1 : (0 : Int) ≤ (E.length : Int) := by omega
  have g2 : E.length * 1 ≤ maxBytes := by unfold maxBytes; omega
  have e2 : decide ((((p.1 ++ r.1).length : Nat) : Int) > 200) = false := by rw [decide_eq_false_iff_not, List.length_append]; omega
  have g3 : (p.1 ++ r.1).length * 38 ≤ (fl Ren3 (p.1 ++ r.1)).length := by rw [len3]; exact Nat.le_refl _
  simp only [F11_d, FSpec.d, F11_s, refused_ok P O hE hn, e1, all_ok A (by omega) (fun a ha => PkOk.len (O.pk a ha)), List.length_map, Int.toNat_natCast, g1, g2, Int.le_refl, and_self, if_true, h1, rowsI_len, F11_d14, fl3, cB_rep, cB_dat, q1, F11_d41, q4, e2, g3]
  rw [fl_chunks Ren3 38 Ren3_len (fun _ => rfl) _ _ rfl]
end Go.Proofs.Ytnnfpoelkdgjdaa
end
section
namespace Go.Proofs.Ytnnfpoelkdgjdaa
set_option linter.unusedVariables false
set_option linter.unusedSimpArgs false
set_option linter.unnecessarySimpa false
noncomputable def mvR (L : List RT4) (di ev : Int) (a e : RT0) : Bool := (F57_d 600 (L.map Ren4, di, ev, a, e)).getD false
noncomputable def tmR (L : List RT4) (di ev now : Int) (e : RT0) : Bool := (F59_d 600 (L.map Ren4, di, ev, e, now)).getD false
theorem mvR_ok {L : List RT4} {di ev : Int} (P : Pol L di ev) (a e : RT0) : F57_d 600 (L.map Ren4, di, ev, a, e) = some (mvR L di ev a e) := by
  obtain ⟨b, h⟩ := rmoved_ok P a e
  unfold mvR; rw [h]; rfl
theorem tmR_ok {L : List RT4} {di ev : Int} (P : Pol L di ev) (e : RT0) (now : Int) : F59_d 600 (L.map Ren4, di, ev, e, now) = some (tmR L di ev now e) := by
  obtain ⟨b, h⟩ := rtimely_ok P e now
  unfold tmR; rw [h]; rfl
theorem lvR_ok {L : List RT4} {di ev : Int} (P : Pol L di ev) (e : RT0) : F14_d 600 (L.map Ren4, di, ev, e) = some (lvF L di ev e) := rlevel_ok P e
@[reducible] def atS (a : RT3) (now : Int) : RT3 := (a.1, a.2.1, a.2.2.1, a.2.2.2.1, a.2.2.2.2.1, a.2.2.2.2.2.1, a.2.2.2.2.2.2.1, a.2.2.2.2.2.2.2.1, a.2.2.2.2.2.2.2.2.1, a.2.2.2.2.2.2.2.2.2.1, a.2.2.2.2.2.2.2.2.2.2.1, a.2.2.2.2.2.2.2.2.2.2.2.1, a.2.2.2.2.2.2.2.2.2.2.2.2.1, a.2.2.2.2.2.2.2.2.2.2.2.2.2.1, a.2.2.2.2.2.2.2.2.2.2.2.2.2.2.1, a.2.2.2.2.2.2.2.2.2.2.2.2.2.2.2.1, a.2.2.2.2.2.2.2.2.2.2.2.2.2.2.2.2.1, a.2.2.2.2.2.2.2.2.2.2.2.2.2.2.2.2.2.1, a.2.2.2.2.2.2.2.2.2.2.2.2.2.2.2.2.2.2.1, a.2.2.2.2.2.2.2.2.2.2.2.2.2.2.2.2.2.2.2.1, a.2.2.2.2.2.2.2.2.2.2.2.2.2.2.2.2.2.2.2.2.1, a.2.2.2.2.2.2.2.2.2.2.2.2.2.2.2.2.2.2.2.2.2.1, a.2.2.2.2.2.2.2.2.2.2.2.2.2.2.2.2.2.2.2.2.2.2.1, a.2.2.2.2.2.2.2.2.2.2.2.2.2.2.2.2.2.2.2.2.2.2.2.1, a.2.2.2.2.2.2.2.2.2.2.2.2.2.2.2.2.2.2.2.2.2.2.2.2.1, a.2.2.2.2.2.2.2.2.2.2.2.2.2.2.2.2.2.2.2.2.2.2.2.2.2.1, a.2.2.2.2.2.2.2.2.2.2.2.2.2.2.2.2.2.2.2.2.2.2.2.2.2.2.1, a.2.2.2.2.2.2.2.2.2.2.2.2.2.2.2.2.2.2.2.2.2.2.2.2.2.2.2.1, a.2.2.2.2.2.2.2.2.2.2.2.2.2.2.2.2.2.2.2.2.2.2.2.2.2.2.2.2.1, a.2.2.2.2.2.2.2.2.2.2.2.2.2.2.2.2.2.2.2.2.2.2.2.2.2.2.2.2.2.1, a.2.2.2.2.2.2.2.2.2.2.2.2.2.2.2.2.2.2.2.2.2.2.2.2.2.2.2.2.2.2.1, a.2.2.2.2.2.2.2.2.2.2.2.2.2.2.2.2.2.2.2.2.2.2.2.2.2.2.2.2.2.2.2.1, a.2.2.2.2.2.2.2.2.2.2.2.2.2.2.2.2.2.2.2.2.2.2.2.2.2.2.2.2.2.2.2.2.1, a.2.2.2.2.2.2.2.2.2.2.2.2.2.2.2.2.2.2.2.2.2.2.2.2.2.2.2.2.2.2.2.2.2.1, a.2.2.2.2.2.2.2.2.2.2.2.2.2.2.2.2.2.2.2.2.2.2.2.2.2.2.2.2.2.2.2.2.2.2.1, a.2.2.2.2.2.2.2.2.2.2.2.2.2.2.2.2.2.2.2.2.2.2.2.2.2.2.2.2.2.2.2.2.2.2.2.1, a.2.2.2.2.2.2.2.2.2.2.2.2.2.2.2.2.2.2.2.2.2.2.2.2.2.2.2.2.2.2.2.2.2.2.2.2.1, now, ())
def r1 (lv : RT0 → Int) (mv : RT0 → RT0 → Bool) (ev now : Int) (a : RT3) : Option RT0 → RT3 × Int
  | none => if wdA a = true then (a, 0) else ((a.1, true, a.2.2), 3)
  | some e => if wdA a = true then (nmS a (nmE e), 0) else if lv e = 0 then (((nmS a (nmE e)).1, true, (nmS a (nmE e)).2.2), 3)
    else if mv (evA a) e = true ∧ now - atA a ≥ ev then (upA (nmS a (nmE e)) (lv e) e (atA a), 2)
    else (nmS a (nmE e), 0)
theorem r1_none (lv : RT0 → Int) (mv : RT0 → RT0 → Bool) (ev now : Int) (a : RT3) : s1 lv mv ev now a none = (if (r1 lv mv ev now a none).2 = 0 then (r1 lv mv ev now a none).1 else atS (r1 lv mv ev now a none).1 now, (r1 lv mv ev now a none).2) := by
  unfold s1 r1
  cases hw : wdA a with
  | true => rfl
  | false => rfl
theorem r1_some (lv : RT0 → Int) (mv : RT0 → RT0 → Bool) (ev now : Int) (a : RT3) (e : RT0) (hw : wdA a = false) : s1 lv mv ev now a (some e) = (if (r1 lv mv ev now a (some e)).2 = 0 then (r1 lv mv ev now a (some e)).1 else atS (r1 lv mv ev now a (some e)).1 now, (r1 lv mv ev now a (some e)).2) := by
  unfold s1 r1
  rw [hw]
  simp only [Bool.false_eq_true, if_false]
  by_cases h0 : lv e = 0
  · simp only [h0, if_true]; rfl
  · simp only [h0, if_false]
    by_cases h1 : now - atA a ≥ ev
    · cases h2 : mv (evA a) e with
      | true =>
        simp only [h1, and_self, if_true]
        show (mkA _ false _ _ _ _, (2 : Int)) = (mkA (idA a) (wdA a) (nmE e) (lv e) e now, 2)
        rw [hw]
      | false =>
        simp only [Bool.false_eq_true, false_and, and_false, if_false, if_true]
        show (mkA _ false _ _ _ _, (0 : Int)) = (mkA (idA a) (wdA a) (nmE e) (lvA a) (evA a) (atA a), 0)
        rw [hw]
    · simp only [h1, false_and, and_false, if_false, if_true]
      show (mkA _ false _ _ _ _, (0 : Int)) = (mkA (idA a) (wdA a) (nmE e) (lvA a) (evA a) (atA a), 0)
      rw [hw]
theorem r1_nn (lv : RT0 → Int) (mv : RT0 → RT0 → Bool) (ev now : Int) (a : RT3) : ∀ x, 0 ≤ (r1 lv mv ev now a x).2
  | none => by unfold r1; dsimp only; split <;> (dsimp only; omega)
  | some e => by
    unfold r1
    dsimp only
    split
    · dsimp only; omega
    · split
      · dsimp only; omega
      · split <;> (dsimp only; omega)
theorem rpart_none {L : List RT4} {di ev now : Int} {E : List RT0} (H : Rds L di ev now E) (O T A : List (List AV)) (number : Int) (n : Nat) (k : Int) (a : RT3) (o : List Int) :
    F37_d22 600 (O, T, A, E.map Ren0, number, now, n, k, 0, false, L.map Ren4, di, ev, a, cI o) = some (O, T, A, E.map Ren0, number, now, n, k, 0, L.map Ren4, di, ev, a, cI o) ∧
    F37_d27 600 (O, T, A, E.map Ren0, number, now, n, k, 0, -1, wdA a, L.map Ren4, di, ev, a, cI o) = some (O, T, A, E.map Ren0, number, now, n, k, (r1 (lvF L di ev) (mvR L di ev) ev now a none).2, L.map Ren4, di, ev, (r1 (lvF L di ev) (mvR L di ev) ev now a none).1, cI o) := by
  refine ⟨?_, ?_⟩
  · show (F37_l22 600).b _ _ ((F37_l22 600).L 599) some = _
    simp only [F37_l22]
    simp only [cI_dat]
  · show (F37_l27 600).b _ _ ((F37_l27 600).L 599) some = _
    simp only [F37_l27]
    cases hw : wdA a with
    | true =>
      simp only [r1, hw, if_true, cI_dat]
    | false =>
      have e1 : decide ((-1 : Int) < 0) = true := by decide
      have q28 : F37_d28 600 (O, T, A, E.map Ren0, number, now, n, k, 0, -1, L.map Ren4, di, ev, a, cI o) = some (O, T, A, E.map Ren0, number, now, n, k, 3, L.map Ren4, di, ev, (a.1, true, a.2.2), cI o) := by
        show (F37_l28 600).b _ _ ((F37_l28 600).L 599) some = _
        simp only [F37_l28]
        have q29 : F37_d29 600 (O, T, A, E.map Ren0, number, now, n, k, 0, -1, true, L.map Ren4, di, ev, a, cI o) = some (O, T, A, E.map Ren0, number, now, n, k, 3, L.map Ren4, di, ev, (a.1, true, a.2.2), cI o) := by
          show (F37_l29 600).b _ _ ((F37_l29 600).L 599) some = _
          simp only [F37_l29]
          simp only [cI_dat]
        simp only [e1, cI_dat, q29]
      simp only [cI_dat, q28]
      simp only [r1, hw]
      rfl
theorem rpart_some {L : List RT4} {di ev now : Int} {E : List RT0} (H : Rds L di ev now E) (O T A : List (List AV)) (number : Int) (n k : Nat) (a : RT3) (o : List Int) (i : Nat) (hi : i < E.length) (hk : k < o.length) (hkn : k < n) (ho : o[k] = (i : Int)) (hw : wdA a = false) (hat : 0 ≤ atA a ∧ atA a ≤ now) :
    F37_d22 600 (O, T, A, E.map Ren0, number, now, n, (k : Int), 0, true, L.map Ren4, di, ev, a, cI o) = some (O, T, A, E.map Ren0, number, now, n, (k : Int), 0, L.map Ren4, di, ev, nmS a (nmE E[i]), cI o) ∧
    F37_d27 600 (O, T, A, E.map Ren0, number, now, n, (k : Int), 0, (i : Int), false, L.map Ren4, di, ev, nmS a (nmE E[i]), cI o) = some (O, T, A, E.map Ren0, number, now, n, (k : Int), (r1 (lvF L di ev) (mvR L di ev) ev now a (some E[i])).2, L.map Ren4, di, ev, (r1 (lvF L di ev) (mvR L di ev) ev now a (some E[i])).1, cI o) := by
  have hnow := H.now
  have e3i : (0 : Int) ≤ (i : Int) := by omega
  have hz : (0 : Int) ≤ (k : Int) ∧ (k : Int) < (n : Int) := by omega
  refine ⟨?_, ?_⟩
  · show (F37_l22 600).b _ _ ((F37_l22 600).L 599) some = _
    simp only [F37_l22]
    have hg := cI_get o k hk
    rw [ho, Int.toNat_natCast] at hg
    simp only [hz, and_self, if_true, hg, e3i, Int.toNat_natCast, get0 E i hi, nm00, cI_dat]
    rfl
  · show (F37_l27 600).b _ _ ((F37_l27 600).L 599) some = _
    simp only [F37_l27]
    obtain ⟨a1, ha1⟩ : ∃ a1, a1 = nmS a (nmE E[i]) := ⟨_, rfl⟩
    have hev : evA a1 = evA a := by rw [ha1]; rfl
    have hat1 : atA a1 = atA a := by rw [ha1]; rfl
    have e1 : decide ((i : Int) < 0) = false := by rw [decide_eq_false_iff_not]; omega
    have q29 : F37_d29 600 (O, T, A, E.map Ren0, number, now, n, (k : Int), 0, (i : Int), (lvF L di ev E[i] == 0), L.map Ren4, di, ev, a1, cI o) = some (O, T, A, E.map Ren0, number, now, n, (k : Int), (r1 (lvF L di ev) (mvR L di ev) ev now a (some E[i])).2, L.map Ren4, di, ev, (r1 (lvF L di ev) (mvR L di ev) ev now a (some E[i])).1, cI o) := by
      show (F37_l29 600).b _ _ ((F37_l29 600).L 599) some = _
      simp only [F37_l29]
      by_cases h0 : lvF L di ev E[i] = 0
      · have e2 : (lvF L di ev E[i] == 0) = true := by rw [h0]; rfl
        simp only [e2, cI_dat, r1, hw, h0, ha1]
        rfl
      · have e2 : (lvF L di ev E[i] == 0) = false := by simp [h0]
        have hm := mvR_ok H.P (evA a1) E[i]
        rw [hev] at hm
        have hx : F57_d 600 (L.map Ren4, di, ev, evA a1, E[i]) = some (mvR L di ev (evA a) E[i]) := by rw [hev]; exact hm
        have e5 : i64 (now - atA a1) = now - atA a := by rw [hat1, i64_id (by omega)]
        simp only [e2, e3i, if_true, Int.toNat_natCast, get0 E i hi, Rrd0_en, hx]
        cases hmv : mvR L di ev (evA a) E[i] with
        | false =>
          simp only [cI_dat, r1, hw, h0, hmv, ha1]
          simp
        | true =>
          by_cases hd : now - atA a ≥ ev
          · simp only [e5, hd, decide_true, lvR_ok H.P, cI_dat]
            subst ha1
            simp only [r1, hw, h0, hmv, hd]
            simp
            rfl
          · simp only [e5, hd, decide_false, cI_dat]
            subst ha1
            simp only [r1, hw, h0, hmv, hd]
            simp
    have q28 : F37_d28 600 (O, T, A, E.map Ren0, number, now, n, (k : Int), 0, (i : Int), L.map Ren4, di, ev, a1, cI o) = some (O, T, A, E.map Ren0, number, now, n, (k : Int), (r1 (lvF L di ev) (mvR L di ev) ev now a (some E[i])).2, L.map Ren4, di, ev, (r1 (lvF L di ev) (mvR L di ev) ev now a (some E[i])).1, cI o) := by
      show (F37_l28 600).b _ _ ((F37_l28 600).L 599) some = _
      simp only [F37_l28]
      simp only [e1, e3i, if_true, Int.toNat_natCast, get0 E i hi, Rrd0_en, lvR_ok H.P, cI_dat, q29]
    rw [← ha1]
    simp only [cI_dat, q28]
theorem ph1R_loop {L : List RT4} {di ev now number : Int} {A : List RT3} {E : List RT0} (H : Rds L di ev now E) (o : List Int) (ho : ∀ k (h : k < o.length), o[k] = -1 ∨ ∃ i : Nat, i < E.length ∧ o[k] = (i : Int)) (hol : o.length ≤ 500) (hoA : o.length = A.length) (hw : ∀ k (h : k < A.length) (h' : k < o.length), wdA A[k] = true → o[k] = -1) (hat : ∀ a ∈ A, 0 ≤ atA a ∧ atA a ≤ now) (hnum : 0 ≤ number ∧ number ≤ 1000) :
    ∀ (R : List RT3) (k f : Nat) (O : List RT3) (T : List RT6), A.drop k = R → k + R.length = A.length → R.length < f → T.length + R.length ≤ 5000 → O.length + R.length ≤ 5000 →
    (F37_l12 600).L f (O.map Ren3, T.map Ren6, A.map Ren3, E.map Ren0, number, now, A.length, (k : Int), L.map Ren4, di, ev, cI o) = some ((O ++ (ph1 (lvF L di ev) (mvR L di ev) ev now E R (o.drop k) (number + T.length)).1).map Ren3, (T ++ (ph1 (lvF L di ev) (mvR L di ev) ev now E R (o.drop k) (number + T.length)).2).map Ren6, E.map Ren0, number, now, A.length, L.map Ren4, di, ev, cI o)
  | [], k, f, O, T, hR, hk, hf, hT, hO => by
    obtain ⟨f, rfl⟩ : ∃ f', f = f' + 1 := ⟨f - 1, by omega⟩
    show (F37_l12 600).b _ _ ((F37_l12 600).L f) some = _
    simp only [F37_l12]
    have e2 : decide ((k : Int) < (A.length : Int)) = false := by rw [decide_eq_false_iff_not]; simp at hk; omega
    simp only [List.length_map, e2, cI_dat, ph1, List.append_nil]
  | a :: R, k, f, O, T, hR, hk, hf, hT, hO => by
    obtain ⟨f, rfl⟩ : ∃ f', f = f' + 1 := ⟨f - 1, by omega⟩
    rw [List.length_cons] at hk hf hT hO
    obtain ⟨hkl, hek, hR'⟩ := drop_eq hR
    have hko : k < o.length := by omega
    have hdo : o.drop k = o[k] :: o.drop (k + 1) := List.drop_eq_getElem_cons hko
    have e2 : decide ((k : Int) < (A.length : Int)) = true := by rw [decide_eq_true_iff]; omega
    have e3 : (0 : Int) ≤ (k : Int) := by omega
    have hz : (0 : Int) ≤ (k : Int) ∧ (k : Int) < (A.length : Int) := by omega
    have hg := cI_get o k hko
    rw [Int.toNat_natCast] at hg
    have hb1 : ∀ r : List AV, ((T.map Ren6).length + [r].length) * 288 ≤ maxBytes := fun r => by
      rw [List.length_map]; unfold maxBytes; simp; omega
    have hb2 : ∀ r : List AV, ((O.map Ren3).length + [r].length) * 384 ≤ maxBytes := fun r => by
      rw [List.length_map]; unfold maxBytes; simp; omega
    have e6 : i64 (number + (T.length : Int)) = number + T.length := i64_id (by omega)
    have hata := hat a (by rw [← hek]; exact List.getElem_mem hkl)
    -- the rest
    have rest : ∀ (a1 a2 : RT3) (kd : Int), 0 ≤ kd → s1 (lvF L di ev) (mvR L di ev) ev now a (evI E o[k]) = (if kd = 0 then a2 else atS a2 now, kd) →
        F37_d22 600 (O.map Ren3, T.map Ren6, A.map Ren3, E.map Ren0, number, now, A.length, (k : Int), 0, decide (o[k] ≥ 0), L.map Ren4, di, ev, a, cI o) = some (O.map Ren3, T.map Ren6, A.map Ren3, E.map Ren0, number, now, A.length, (k : Int), 0, L.map Ren4, di, ev, a1, cI o) →
        F37_d27 600 (O.map Ren3, T.map Ren6, A.map Ren3, E.map Ren0, number, now, A.length, (k : Int), 0, o[k], a1.2.1, L.map Ren4, di, ev, a1, cI o) = some (O.map Ren3, T.map Ren6, A.map Ren3, E.map Ren0, number, now, A.length, (k : Int), kd, L.map Ren4, di, ev, a2, cI o) →
        (F37_l12 600).L (f + 1) (O.map Ren3, T.map Ren6, A.map Ren3, E.map Ren0, number, now, A.length, (k : Int), L.map Ren4, di, ev, cI o) = some ((O ++ (ph1 (lvF L di ev) (mvR L di ev) ev now E (a :: R) (o.drop k) (number + T.length)).1).map Ren3, (T ++ (ph1 (lvF L di ev) (mvR L di ev) ev now E (a :: R) (o.drop k) (number + T.length)).2).map Ren6, E.map Ren0, number, now, A.length, L.map Ren4, di, ev, cI o) := by
      intro a1 a2 kd hkd hs q1 q2
      rw [hdo]
      unfold ph1
      rw [hs]
      by_cases h0 : kd = 0
      · subst h0
        have r1 := ph1R_loop H o ho hol hoA hw hat hnum R (k + 1) f (O ++ [a2]) T hR' (by omega) (by omega) (by omega) (by simp; omega)
        show (F37_l12 600).b _ _ ((F37_l12 600).L f) some = _
        obtain ⟨Lf, hLf⟩ : ∃ Lf, Lf = (F37_l12 600).L f := ⟨_, rfl⟩
        rw [← hLf] at r1 ⊢
        simp only [F37_l12]
        simp only [List.length_map, e2, e3, hz, and_self, if_true, Int.toNat_natCast, get3 A k hkl, hek, Rrd3_en, hg, cI_dat, q1, q2, nat_succ (show k < 1000000 by omega)]
        have e7 : decide ((0 : Int) > 0) = false := by decide
        have hb3 : ∀ r : List AV, (O.length + [r].length) * 384 ≤ maxBytes := fun r => by have := hb2 r; rwa [List.length_map] at this
        simp only [e7, hb3, if_true, List.nil_append]
        rw [List.map_append] at r1
        refine Eq.trans r1 ?_
        simp only [List.append_assoc, List.singleton_append]
      · have r1 := ph1R_loop H o ho hol hoA hw hat hnum R (k + 1) f (O ++ [atS a2 now]) (T ++ [bul (number + T.length) kd (atS a2 now) now]) hR' (by omega) (by omega) (by simp; omega) (by simp; omega)
        show (F37_l12 600).b _ _ ((F37_l12 600).L f) some = _
        obtain ⟨Lf, hLf⟩ : ∃ Lf, Lf = (F37_l12 600).L f := ⟨_, rfl⟩
        rw [← hLf] at r1 ⊢
        simp only [F37_l12]
        simp only [List.length_map, e2, e3, hz, and_self, if_true, Int.toNat_natCast, get3 A k hkl, hek, Rrd3_en, hg, cI_dat, q1, q2, nat_succ (show k < 1000000 by omega), e6]
        have e7 : decide (kd > 0) = true := by rw [decide_eq_true_iff]; omega
        have hb3 : ∀ r : List AV, (O.length + [r].length) * 384 ≤ maxBytes := fun r => by have := hb2 r; rwa [List.length_map] at this
        have hb4 : ∀ r : List AV, (T.length + [r].length) * 288 ≤ maxBytes := fun r => by have := hb1 r; rwa [List.length_map] at this
        simp only [e7, hb3, hb4, if_true, h0, if_false]
        rw [List.map_append, List.map_append, List.length_append, List.length_singleton] at r1
        rw [show number + (((T.length + 1 : Nat)) : Int) = number + T.length + 1 by omega] at r1
        refine Eq.trans r1 ?_
        simp only [List.append_assoc, List.singleton_append]
    rcases ho k hko with h1 | ⟨i, hi, h1⟩
    · obtain ⟨q1, q2⟩ := rpart_none H (O.map Ren3) (T.map Ren6) (A.map Ren3) number A.length (k : Int) a o
      refine rest a _ _ ?_ (by rw [h1, evI_neg]; exact r1_none _ _ _ _ _) (by rw [h1]; exact q1) (by rw [h1]; exact q2)
      exact r1_nn _ _ _ _ _ _
    · have hwa : wdA a = false := by
        cases hx : wdA a with
        | false => rfl
        | true =>
          have := hw k hkl hko (by rw [hek]; exact hx)
          rw [this] at h1; omega
      obtain ⟨q1, q2⟩ := rpart_some H (O.map Ren3) (T.map Ren6) (A.map Ren3) number A.length k a o i hi hko hkl h1 hwa hata
      have hd : decide ((i : Int) ≥ 0) = true := by rw [decide_eq_true_iff]; omega
      refine rest (nmS a (nmE E[i])) _ _ ?_ (by rw [h1, evI_pos E i hi]; exact r1_some _ _ _ _ _ _ hwa) (by rw [h1, hd]; exact q1) (by
        have hwd : (nmS a (nmE E[i])).2.1 = false := hwa
        rw [h1, hwd]; exact q2)
      exact r1_nn _ _ _ _ _ _
theorem ph2R_loop {L : List RT4} {di ev now number : Int} {E : List RT0} (H : Rds L di ev now E) (n : Nat) (o : List Int) (hol : o.length ≤ 500) (hon : n = o.length) (hnum : 0 ≤ number ∧ number ≤ 1000) :
    ∀ (R : List RT0) (i f : Nat) (O : List RT3) (T : List RT6), E.drop i = R → i + R.length = E.length → R.length < f → T.length + R.length ≤ 50000 → O.length + R.length ≤ 50000 →
    (F37_l39 600).L f (O.map Ren3, T.map Ren6, E.map Ren0, number, now, n, (i : Int), L.map Ren4, di, ev, cI o) = some ((O ++ (ph2 (lvF L di ev) (tmR L di ev now) now (fwO o) R i (number + T.length)).1).map Ren3, (T ++ (ph2 (lvF L di ev) (tmR L di ev now) now (fwO o) R i (number + T.length)).2).map Ren6, number)
  | [], i, f, O, T, hR, hi, hf, hT, hO => by
    obtain ⟨f, rfl⟩ : ∃ f', f = f' + 1 := ⟨f - 1, by omega⟩
    show (F37_l39 600).b _ _ ((F37_l39 600).L f) some = _
    simp only [F37_l39]
    have e2 : decide ((i : Int) < (E.length : Int)) = false := by rw [decide_eq_false_iff_not]; simp at hi; omega
    simp only [List.length_map, e2, ph2, List.append_nil]
  | e :: R, i, f, O, T, hR, hi, hf, hT, hO => by
    obtain ⟨f, rfl⟩ : ∃ f', f = f' + 1 := ⟨f - 1, by omega⟩
    rw [List.length_cons] at hi hf hT hO
    obtain ⟨hil, hei, hR'⟩ := drop_eq hR
    have hE := H.hE
    have e2 : decide ((i : Int) < (E.length : Int)) = true := by rw [decide_eq_true_iff]; omega
    have e3 : (0 : Int) ≤ (i : Int) := by omega
    obtain ⟨b, b1, b2⟩ := in_ok o (i : Int) hol
    rw [← hon] at b1
    have hb : b = fwO o i := by rw [Bool.eq_iff_iff, b2, fwO_iff]
    unfold ph2
    cases hw : fwO o i with
    | true =>
      rw [hb, hw] at b1
      have r1 := ph2R_loop H n o hol hon hnum R (i + 1) f O T hR' (by omega) (by omega) (by omega) (by omega)
      rw [if_neg (by simp)]
      show (F37_l39 600).b _ _ ((F37_l39 600).L f) some = _
      obtain ⟨Lf, hLf⟩ : ∃ Lf, Lf = (F37_l39 600).L f := ⟨_, rfl⟩
      rw [← hLf] at r1 ⊢
      simp only [F37_l39]
      simp only [List.length_map, e2, cI_dat, b1, nat_succ (show i < 1000000 by omega)]
      exact r1
    | false =>
      rw [hb, hw] at b1
      cases htm : tmR L di ev now e with
      | false =>
        have r1 := ph2R_loop H n o hol hon hnum R (i + 1) f O T hR' (by omega) (by omega) (by omega) (by omega)
        rw [if_neg (by simp)]
        show (F37_l39 600).b _ _ ((F37_l39 600).L f) some = _
        obtain ⟨Lf, hLf⟩ : ∃ Lf, Lf = (F37_l39 600).L f := ⟨_, rfl⟩
        rw [← hLf] at r1 ⊢
        simp only [F37_l39]
        simp only [List.length_map, e2, cI_dat, b1, e3, if_true, Int.toNat_natCast, get0 E i hil, hei, Rrd0_en, tmR_ok H.P, htm, Bool.not_false, nat_succ (show i < 1000000 by omega)]
        exact r1
      | true =>
        obtain ⟨nn, hnn⟩ : ∃ nn : Int, nn = number + T.length := ⟨_, rfl⟩
        rw [← hnn]
        obtain ⟨a, ha⟩ : ∃ a, a = mkA nn false (nmE e) (lvF L di ev e) e now := ⟨_, rfl⟩
        have r1 := ph2R_loop H n o hol hon hnum R (i + 1) f (O ++ [a]) (T ++ [bul nn 1 a now]) hR' (by omega) (by omega) (by simp; omega) (by simp; omega)
        rw [if_pos ⟨rfl, rfl⟩, ← ha]
        have e6 : i64 (number + (T.length : Int)) = nn := by rw [hnn]; exact i64_id (by omega)
        have hb3 : ∀ r : List AV, (O.length + [r].length) * 384 ≤ maxBytes := fun r => by unfold maxBytes; simp; omega
        have hb4 : ∀ r : List AV, (T.length + [r].length) * 288 ≤ maxBytes := fun r => by unfold maxBytes; simp; omega
        have ha2 : ((nn, false, e.1, e.2.1, e.2.2.1, e.2.2.2.1, e.2.2.2.2.1, e.2.2.2.2.2.1, e.2.2.2.2.2.2.1, e.2.2.2.2.2.2.2.1, e.2.2.2.2.2.2.2.2.1, lvF L di ev e, e.1, e.2.1, e.2.2.1, e.2.2.2.1, e.2.2.2.2.1, e.2.2.2.2.2.1, e.2.2.2.2.2.2.1, e.2.2.2.2.2.2.2.1, e.2.2.2.2.2.2.2.2.1, e.2.2.2.2.2.2.2.2.2.1, e.2.2.2.2.2.2.2.2.2.2.1, e.2.2.2.2.2.2.2.2.2.2.2.1, e.2.2.2.2.2.2.2.2.2.2.2.2.1, e.2.2.2.2.2.2.2.2.2.2.2.2.2.1, e.2.2.2.2.2.2.2.2.2.2.2.2.2.2.1, e.2.2.2.2.2.2.2.2.2.2.2.2.2.2.2.1, e.2.2.2.2.2.2.2.2.2.2.2.2.2.2.2.2.1, e.2.2.2.2.2.2.2.2.2.2.2.2.2.2.2.2.2.1, e.2.2.2.2.2.2.2.2.2.2.2.2.2.2.2.2.2.2.1, e.2.2.2.2.2.2.2.2.2.2.2.2.2.2.2.2.2.2.2.1, e.2.2.2.2.2.2.2.2.2.2.2.2.2.2.2.2.2.2.2.2.1, e.2.2.2.2.2.2.2.2.2.2.2.2.2.2.2.2.2.2.2.2.2.1, e.2.2.2.2.2.2.2.2.2.2.2.2.2.2.2.2.2.2.2.2.2.2.1, e.2.2.2.2.2.2.2.2.2.2.2.2.2.2.2.2.2.2.2.2.2.2.2.1, e.2.2.2.2.2.2.2.2.2.2.2.2.2.2.2.2.2.2.2.2.2.2.2.2.1, now, ()) : RT3) = a := ha.symm
        have hbb : ((nn, 1, nn, now, lvF L di ev e, e.1, e.2.1, e.2.2.1, e.2.2.2.1, e.2.2.2.2.1, e.2.2.2.2.2.1, e.2.2.2.2.2.2.1, e.2.2.2.2.2.2.2.1, e.2.2.2.2.2.2.2.2.1, e.2.2.2.2.2.2.2.2.2.1, e.2.2.2.2.2.2.2.2.2.2.1, e.2.2.2.2.2.2.2.2.2.2.2.1, e.2.2.2.2.2.2.2.2.2.2.2.2.1, e.2.2.2.2.2.2.2.2.2.2.2.2.2.1, e.2.2.2.2.2.2.2.2.2.2.2.2.2.2.1, e.2.2.2.2.2.2.2.2.2.2.2.2.2.2.2.1, e.2.2.2.2.2.2.2.2.2.2.2.2.2.2.2.2.1, e.2.2.2.2.2.2.2.2.2.2.2.2.2.2.2.2.2.1, e.2.2.2.2.2.2.2.2.2.2.2.2.2.2.2.2.2.2.1, e.2.2.2.2.2.2.2.2.2.2.2.2.2.2.2.2.2.2.2.1, e.2.2.2.2.2.2.2.2.2.2.2.2.2.2.2.2.2.2.2.2.1, e.2.2.2.2.2.2.2.2.2.2.2.2.2.2.2.2.2.2.2.2.2.1, e.2.2.2.2.2.2.2.2.2.2.2.2.2.2.2.2.2.2.2.2.2.2.1, e.2.2.2.2.2.2.2.2.2.2.2.2.2.2.2.2.2.2.2.2.2.2.2.1, e.2.2.2.2.2.2.2.2.2.2.2.2.2.2.2.2.2.2.2.2.2.2.2.2.1, ()) : RT6) = bul nn 1 a now := by rw [ha]; rfl
        show (F37_l39 600).b _ _ ((F37_l39 600).L f) some = _
        obtain ⟨Lf, hLf⟩ : ∃ Lf, Lf = (F37_l39 600).L f := ⟨_, rfl⟩
        rw [← hLf] at r1 ⊢
        simp only [F37_l39]
        simp only [List.length_map, e2, cI_dat, b1, e3, if_true, Int.toNat_natCast, get0 E i hil, hei, Rrd0_en, nm00, tmR_ok H.P, htm, Bool.not_true, lvR_ok H.P, e6, hb3, hb4, nat_succ (show i < 1000000 by omega)]
        simp only [ha2, hbb, hb3, hb4, if_true]
        rw [List.map_append, List.map_append, List.length_append, List.length_singleton] at r1
        rw [show number + (((T.length + 1 : Nat)) : Int) = nn + 1 by omega] at r1
        refine Eq.trans r1 ?_
        simp only [List.append_assoc, List.singleton_append]
noncomputable def stAR (L : List RT4) (di ev now : Int) (E : List RT0) (A : List RT3) (o : List Int) (n : Int) : List RT3 := (ph1 (lvF L di ev) (mvR L di ev) ev now E A o n).1 ++ (ph2 (lvF L di ev) (tmR L di ev now) now (fwO o) E 0 (n + (ph1 (lvF L di ev) (mvR L di ev) ev now E A o n).2.length)).1
noncomputable def stBR (L : List RT4) (di ev now : Int) (E : List RT0) (A : List RT3) (o : List Int) (n : Int) : List RT6 := (ph1 (lvF L di ev) (mvR L di ev) ev now E A o n).2 ++ (ph2 (lvF L di ev) (tmR L di ev now) now (fwO o) E 0 (n + (ph1 (lvF L di ev) (mvR L di ev) ev now E A o n).2.length)).2
theorem rstep_ok {L : List RT4} {di ev number now now' : Int} {A : List RT3} {E : List RT0} {m : Nat} (P : Pol L di ev) (O : Ok A number now) (hm : m ≤ 5) (hE : Evs 0 m E) (hn : now ≤ now' ∧ now' ≤ 1000000) : ∃ o t, Fo A E o t ∧ F37_d 600 (L.map Ren4, di, ev, A.map Ren3, number, E.map Ren0, now') = some ((stAR L di ev now' E A o number).map Ren3, (stBR L di ev now' E A o number).map Ren6, 0) := by
  have hl := O.len
  have hnum := O.num
  have hnow := O.now
  have hEl := evs_lo hE
  obtain ⟨o, t, h1, F⟩ := rfollow_ok A E (by omega) (by omega) hE.names O.nm hE.pk O.pk
  refine ⟨o, t, F, ?_⟩
  have hlo := F.lo
  have H : Rds L di ev now' E := ⟨P, by omega, hE.pk, by omega⟩
  have q1 := ph1R_loop H o F.v (by omega) hlo (fun k h h' hw => F.w k h' h hw) (fun a ha => by have := O.rng a ha; omega) (show 0 ≤ number ∧ number ≤ 1000 by omega) A 0 600 [] [] rfl (by omega) (by omega) (by simp; omega) (by simp; omega)
  rw [List.drop_zero] at q1
  simp only [List.length_nil, List.nil_append, List.map_nil] at q1
  rw [show number + ((0 : Nat) : Int) = number by omega] at q1
  obtain ⟨p, hp⟩ : ∃ p, ph1 (lvF L di ev) (mvR L di ev) ev now' E A o number = p := ⟨_, rfl⟩
  have hpl := ph1_len (lvF L di ev) (mvR L di ev) ev now' E A o number hlo.symm
  rw [hp] at q1 hpl
  replace q1 : (F37_l12 600).L 600 ([], [], A.map Ren3, E.map Ren0, number, now', A.length, 0, L.map Ren4, di, ev, cI o) = some (p.1.map Ren3, p.2.map Ren6, E.map Ren0, number, now', A.length, L.map Ren4, di, ev, cI o) := q1
  have q4 := ph2R_loop H A.length o (by omega) hlo.symm (show 0 ≤ number ∧ number ≤ 1000 by omega) E 0 600 p.1 p.2 rfl (by omega) (by omega) (by omega) (by omega)
  obtain ⟨r, hr⟩ : ∃ r, ph2 (lvF L di ev) (tmR L di ev now') now' (fwO o) E 0 (number + p.2.length) = r := ⟨_, rfl⟩
  have hrl := ph2_len (lvF L di ev) (tmR L di ev now') now' (fwO o) E 0 (number + p.2.length)
  rw [hr] at q4 hrl
  replace q4 : (F37_l39 600).L 600 (p.1.map Ren3, p.2.map Ren6, E.map Ren0, number, now', A.length, 0, L.map Ren4, di, ev, cI o) = some ((p.1 ++ r.1).map Ren3, (p.2 ++ r.2).map Ren6, number) := q4
  have hsA : stAR L di ev now' E A o number = p.1 ++ r.1 := by unfold stAR; rw [hp, hr]
  have hsB : stBR L di ev now' E A o number = p.2 ++ r.2 := by unfold stBR; rw [hp, hr]
  rw [hsA, hsB]
  have e1 : ((0 : Int) != 0) = false := by decide
  have e2 : decide (((p.1 ++ r.1).length : Int) > 200) = false := by rw [decide_eq_false_iff_not, List.length_append]; omega
  have e3 : decide (i64 (number + ((p.2 ++ r.2).length : Int)) > 1000) = false := by
    rw [decide_eq_false_iff_not, List.length_append, i64_id (by omega)]; omega
  simp only [F37_d, FSpec.d, F37_s, errors_ok P O hm hE hn, e1, h1, cI_dat, F37_d12, q1, F37_d39, q4, List.length_map, e2, e3]
end Go.Proofs.Ytnnfpoelkdgjdaa
end
section
namespace Go.Proofs.Ytnnfpoelkdgjdaa
set_option linter.unusedVariables false
set_option linter.unusedSimpArgs false
set_option linter.unnecessarySimpa false
section
variable (lv : RT0 → Int) (mv : RT0 → RT0 → Bool) (tm : RT0 → Bool) (ev now : Int) (E : List RT0)
theorem ph1_get : ∀ (A : List RT3) (o : List Int) (n : Int) (h : A.length = o.length) (k : Nat) (hk : k < A.length) (hk' : k < o.length) (hk2 : k < (ph1 lv mv ev now E A o n).1.length), (ph1 lv mv ev now E A o n).1[k] = (s1 lv mv ev now A[k] (evI E o[k])).1
  | [], o, n, h, k, hk, hk', hk2 => by cases hk
  | a :: A, [], n, h, k, hk, hk', hk2 => by cases hk'
  | a :: A, i :: o, n, h, k, hk, hk', hk2 => by
    cases k with
    | zero => simp only [ph1, List.getElem_cons_zero]
    | succ k =>
      simp only [ph1, List.getElem_cons_succ]
      exact ph1_get A o _ (by simpa using h) k (by simpa using hk) (by simpa using hk') (by simpa [ph1] using hk2)
theorem s1_id (a : RT3) : ∀ x, idA (s1 lv mv ev now a x).1 = idA a
  | none => by unfold s1; dsimp only; split <;> rfl
  | some e => by
    unfold s1
    dsimp only
    split
    · rfl
    · split
      · rfl
      · split <;> rfl
theorem s1_at (a : RT3) : ∀ x, atA (s1 lv mv ev now a x).1 = atA a ∨ atA (s1 lv mv ev now a x).1 = now
  | none => by
    unfold s1
    dsimp only
    split
    · exact .inl rfl
    · exact .inr rfl
  | some e => by
    unfold s1
    dsimp only
    split
    · exact .inl rfl
    · split
      · exact .inr rfl
      · split
        · exact .inr rfl
        · exact .inl rfl
theorem s1_ev (a : RT3) : ∀ x, evA (s1 lv mv ev now a x).1 = evA a ∨ ∃ e, x = some e ∧ evA (s1 lv mv ev now a x).1 = e
  | none => by
    unfold s1
    dsimp only
    split
    · exact .inl rfl
    · exact .inl rfl
  | some e => by
    unfold s1
    dsimp only
    split
    · exact .inl rfl
    · split
      · exact .inl rfl
      · split
        · exact .inr ⟨e, rfl, rfl⟩
        · exact .inl rfl
theorem s1_open (a : RT3) : ∀ x, wdA (s1 lv mv ev now a x).1 = false → wdA a = false ∧ ∃ e, x = some e ∧ lv e ≠ 0 ∧ nmA (s1 lv mv ev now a x).1 = nmE e
  | none => by
    unfold s1
    dsimp only
    split
    · rename_i h; intro h2; dsimp only at h2; rw [h] at h2; cases h2
    · intro h2; cases h2
  | some e => by
    unfold s1
    dsimp only
    split
    · rename_i h; intro h2; dsimp only at h2; rw [h] at h2; cases h2
    · rename_i hw
      have hw' : wdA a = false := by simpa using hw
      split
      · intro h2; cases h2
      · rename_i h0
        split
        · intro _; exact ⟨hw', e, rfl, h0, rfl⟩
        · intro _; exact ⟨hw', e, rfl, h0, rfl⟩
variable (fw : Nat → Bool)
theorem ph2_asc : ∀ (R : List RT0) (i : Nat) (n : Int), (∀ a ∈ (ph2 lv tm now fw R i n).1, n ≤ idA a ∧ idA a < n + (ph2 lv tm now fw R i n).1.length) ∧ (ph2 lv tm now fw R i n).1.Pairwise fun a b => idA a < idA b
  | [], i, n => ⟨fun a h => (by simp [ph2] at h), by simp [ph2]⟩
  | e :: R, i, n => by
    unfold ph2
    split
    · obtain ⟨h1, h2⟩ := ph2_asc R (i + 1) (n + 1)
      refine ⟨fun a ha => ?_, .cons (fun a ha => ?_) h2⟩
      · rw [List.length_cons]
        rcases List.mem_cons.1 ha with h | h
        · subst h
          rw [idA_mk]; omega
        · have := h1 a h; omega
      · have := h1 a ha
        rw [idA_mk]; omega
    · exact ph2_asc R (i + 1) n
theorem ph2_mem : ∀ (R : List RT0) (i : Nat) (n : Int), ∀ a ∈ (ph2 lv tm now fw R i n).1, ∃ j, ∃ h : j < R.length, fw (i + j) = false ∧ tm R[j] = true ∧ ∃ m, a = mkA m false (nmE R[j]) (lv R[j]) R[j] now
  | [], i, n => fun a h => by simp [ph2] at h
  | e :: R, i, n => by
    unfold ph2
    split
    · rename_i hc
      intro a ha
      rcases List.mem_cons.1 ha with h | h
      · exact ⟨0, by simp, by rw [Nat.add_zero]; exact hc.1, hc.2, n, h⟩
      · obtain ⟨j, hj, q1, q2, q3⟩ := ph2_mem R (i + 1) (n + 1) a h
        exact ⟨j + 1, by simpa using hj, by rw [← q1]; congr 1; omega, q2, q3⟩
    · intro a h
      obtain ⟨j, hj, q1, q2, q3⟩ := ph2_mem R (i + 1) n a h
      exact ⟨j + 1, by simpa using hj, by rw [← q1]; congr 1; omega, q2, q3⟩
theorem ph2_names : ∀ (R : List RT0) (i : Nat) (n : Int), (R.Pairwise fun a b => nmE a ≠ nmE b) → (ph2 lv tm now fw R i n).1.Pairwise fun a b => nmA a ≠ nmA b
  | [], i, n, h => by simp [ph2]
  | e :: R, i, n, h => by
    rw [List.pairwise_cons] at h
    unfold ph2
    split
    · refine .cons (fun a ha => ?_) (ph2_names R (i + 1) (n + 1) h.2)
      obtain ⟨j, hj, _, _, m, q3⟩ := ph2_mem lv tm now fw R (i + 1) (n + 1) a ha
      rw [q3, nmA_mk, nmA_mk]
      exact h.1 _ (List.getElem_mem hj)
    · exact ph2_names R (i + 1) n h.2
end
theorem Ok.step {number now now' : Int} {A : List RT3} {E : List RT0} {m : Nat} {o : List Int} {t : List Bool} (O : Ok A number now) (hm : m ≤ 5) (hE : Evs 0 m E) (F : Fo A E o t) (hn : now ≤ now' ∧ now' ≤ 1000000) (h1 : A.length + m ≤ 100) (h2 : number + A.length + m ≤ 800)
    (lv : RT0 → Int) (mv : RT0 → RT0 → Bool) (tm : RT0 → Bool) (ev : Int) :
    Ok ((ph1 lv mv ev now' E A o number).1 ++ (ph2 lv tm now' (fwO o) E 0 (number + (ph1 lv mv ev now' E A o number).2.length)).1) (number + ((ph1 lv mv ev now' E A o number).2 ++ (ph2 lv tm now' (fwO o) E 0 (number + (ph1 lv mv ev now' E A o number).2.length)).2).length) now' := by
  have hEl := evs_lo hE
  have hlo := F.lo
  have hnum := O.num
  have hnow := O.now
  obtain ⟨p1, p2⟩ := ph1_len lv mv ev now' E A o number hlo.symm
  have pg := ph1_get lv mv ev now' E A o number hlo.symm
  obtain ⟨p, hp⟩ : ∃ p, ph1 lv mv ev now' E A o number = p := ⟨_, rfl⟩
  rw [hp] at p1 p2
  have pg : ∀ (k : Nat) (hk : k < A.length) (hk' : k < o.length) (hk2 : k < p.1.length), p.1[k] = (s1 lv mv ev now' A[k] (evI E o[k])).1 := by subst hp; exact pg
  rw [hp]
  obtain ⟨q1, q2⟩ := ph2_len lv tm now' (fwO o) E 0 (number + p.2.length)
  obtain ⟨q3, q4⟩ := ph2_asc lv tm now' (fwO o) E 0 (number + p.2.length)
  have q5 := ph2_mem lv tm now' (fwO o) E 0 (number + p.2.length)
  have q6 := ph2_names lv tm now' (fwO o) E 0 (number + p.2.length) hE.names
  obtain ⟨r, hr⟩ : ∃ r, ph2 lv tm now' (fwO o) E 0 (number + p.2.length) = r := ⟨_, rfl⟩
  rw [hr] at q1 q2 q3 q4 q5 q6 ⊢
  have pm : ∀ a ∈ p.1, ∃ k, ∃ hk : k < A.length, ∃ hk' : k < o.length, a = (s1 lv mv ev now' A[k] (evI E o[k])).1 := fun a ha => by
    obtain ⟨k, hk, e⟩ := List.getElem_of_mem ha
    exact ⟨k, by omega, by omega, by rw [← e]; exact pg k (by omega) (by omega) hk⟩
  refine ⟨by rw [List.length_append]; omega, ?_, fun a ha => ?_, ?_, fun a ha => ?_, by rw [List.length_append]; omega, by omega⟩
  · -- ascending
    rw [List.pairwise_append]
    refine ⟨List.pairwise_iff_getElem.2 fun i j hi hj hij => ?_, q4, fun a ha b hb => ?_⟩
    · rw [pg i (by omega) (by omega) hi, pg j (by omega) (by omega) hj, s1_id, s1_id]
      exact List.pairwise_iff_getElem.1 O.asc i j (by omega) (by omega) hij
    · obtain ⟨k, hk, hk', rfl⟩ := pm a ha
      rw [s1_id]
      have := O.rng _ (List.getElem_mem hk)
      have := q3 b hb
      omega
  · -- ranges
    rw [List.length_append]
    rcases List.mem_append.1 ha with h | h
    · obtain ⟨k, hk, hk', rfl⟩ := pm a h
      rw [s1_id]
      have := O.rng _ (List.getElem_mem hk)
      rcases s1_at lv mv ev now' A[k] (evI E o[k]) with e | e <;> rw [e] <;> omega
    · have h1 := q3 a h
      obtain ⟨j, hj, _, _, mm, e⟩ := q5 a h
      have : atA a = now' := by rw [e]; rfl
      omega
  · -- names
    rw [List.pairwise_append]
    have idx : ∀ k (hk : k < A.length) (hk' : k < o.length), wdA (s1 lv mv ev now' A[k] (evI E o[k])).1 = false → ∃ i, ∃ hi : i < E.length, o[k] = (i : Int) ∧ nmA (s1 lv mv ev now' A[k] (evI E o[k])).1 = nmE E[i] := fun k hk hk' hw => by
      obtain ⟨-, e, he, -, hnm⟩ := s1_open lv mv ev now' A[k] (evI E o[k]) hw
      rcases F.v k hk' with h | ⟨i, hi, h⟩
      · rw [h, evI_neg] at he; cases he
      · refine ⟨i, hi, h, ?_⟩
        rw [hnm]
        rw [h, evI_pos E i hi] at he
        cases he
        rfl
    refine ⟨List.pairwise_iff_getElem.2 fun i j hi hj hij w1 w2 e => ?_, q6.imp fun h _ _ => h, fun a ha b hb w1 w2 e => ?_⟩
    · rw [pg i (by omega) (by omega) hi] at w1 e
      rw [pg j (by omega) (by omega) hj] at w2 e
      obtain ⟨x, hx, ex, nx⟩ := idx i (by omega) (by omega) w1
      obtain ⟨y, hy, ey, ny⟩ := idx j (by omega) (by omega) w2
      rw [nx, ny] at e
      have hxy : x = y := by
        rcases Nat.lt_trichotomy x y with h | h | h
        · exact absurd e (List.pairwise_iff_getElem.1 hE.names x y hx hy h)
        · exact h
        · exact absurd e.symm (List.pairwise_iff_getElem.1 hE.names y x hy hx h)
      have := F.inj i j (by omega) (by omega) (by rw [ex, ey, hxy]) (by rw [ex]; omega)
      omega
    · obtain ⟨k, hk, hk', rfl⟩ := pm a ha
      obtain ⟨x, hx, ex, nx⟩ := idx k hk hk' w1
      obtain ⟨j, hj, hf, _, mm, eb⟩ := q5 b hb
      rw [nx, eb, nmA_mk] at e
      rw [Nat.zero_add] at hf
      have hxy : x = j := by
        rcases Nat.lt_trichotomy x j with h | h | h
        · exact absurd e (List.pairwise_iff_getElem.1 hE.names x j hx hj h)
        · exact h
        · exact absurd e.symm (List.pairwise_iff_getElem.1 hE.names j x hj hx h)
      subst hxy
      have : fwO o x = true := fwO_iff.2 (by rw [← ex]; exact List.getElem_mem hk')
      rw [hf] at this; cases this
  · -- picks
    rcases List.mem_append.1 ha with h | h
    · obtain ⟨k, hk, hk', rfl⟩ := pm a h
      rcases s1_ev lv mv ev now' A[k] (evI E o[k]) with e | ⟨e, e1, e2⟩
      · rw [e]; exact O.pk _ (List.getElem_mem hk)
      · rw [e2]
        refine hE.pk e ?_
        unfold evI at e1
        split at e1
        · exact List.mem_of_getElem? e1
        · cases e1
    · obtain ⟨j, hj, _, _, mm, e⟩ := q5 a h
      rw [e, evA_mk]
      exact hE.pk _ (List.getElem_mem hj)
end Go.Proofs.Ytnnfpoelkdgjdaa
end
section
namespace Go.Proofs.Ytnnfpoelkdgjdaa
set_option linter.unusedVariables false
set_option linter.unusedSimpArgs false
set_option linter.unnecessarySimpa false
def E0 : RT0 := (AB, st 0, LC, CH, 1000, 0, 0, 0, 0, [Ren1 (AB, st 0, LC, CH, 1000, 0, 0, 0, 0, ())], 0, 0, 0, 900, 0, 0, 0, 0, 0, 0, 0, 0, 0, 0, 1, ())
def A0 : RT3 := mkA 4 false (nmE E0) 1 E0 1200
def R0 : List RT4 := [(-1000, 1, 10000, 100000, ())]
theorem pol0 : Pol R0 0 0 := ⟨by simp [R0], fun r h => by
  have := List.mem_singleton.1 h
  subst this
  exact ⟨by dsimp only; omega, by dsimp only; omega, by dsimp only; omega, by dsimp only; omega⟩, by omega, by omega⟩
theorem evs0 : EvOk [E0] := ⟨by kernel_rfl, by simp, by simp, fun e h => by
  have := List.mem_singleton.1 h
  subst this
  exact ⟨[(AB, st 0, LC, CH, 1000, 0, 0, 0, 0, ())], by simp, rfl⟩⟩
theorem evs00 : EvOk [] := ⟨by kernel_rfl, by simp, .nil, fun e h => by cases h⟩
theorem awake1 : F11_d 600 (R0.map Ren4, 0, 0, [], 4, [Ren0 E0], 1200) = some ([Ren3 A0], [Ren6 (bul 4 1 A0 1200)], 0) := by
  have O0 : Ok [] 4 1200 := ⟨by simp, List.Pairwise.nil, fun a h => (by cases h), List.Pairwise.nil, fun a h => (by cases h), by omega, by omega⟩
  obtain ⟨o, t, F, -, h⟩ := step_ok' pol0 O0 evs0 (now' := 1200) (by omega)
  have ho : o = [] := List.eq_nil_of_length_eq_zero F.lo
  subst ho
  have h1 : tmF R0 0 0 1200 E0 = true := by kernel_rfl
  have h2 : lvF R0 0 0 E0 = 1 := by kernel_rfl
  have h3 : fwO [] 0 = false := by unfold fwO; simp
  have hA : stA R0 0 0 1200 [E0] [] [] 4 = [A0] := by
    unfold stA
    simp only [ph1, ph2, h1, h2, h3, and_self, if_true, List.nil_append]
    rfl
  have hB : stB R0 0 0 1200 [E0] [] [] 4 = [bul 4 1 A0 1200] := by
    unfold stB
    simp only [ph1, ph2, h1, h2, h3, and_self, if_true, List.nil_append]
    rfl
  rw [hA, hB] at h
  exact h
theorem awake2 : F11_d 600 (R0.map Ren4, 0, 0, [Ren3 A0], 5, [], 1300) = some ([Ren3 (clA A0 1300)], [Ren6 (bul 5 3 (clA A0 1300) 1300)], 0) := by
  have O1 : Ok [A0] 5 1200 := ⟨by simp, by simp, fun a h => (by
      have := List.mem_singleton.1 h
      subst this
      have h1 : idA A0 = 4 := rfl
      have h2 : atA A0 = 1200 := rfl
      omega), by simp, fun a h => (by
      have := List.mem_singleton.1 h
      subst this
      exact ⟨[(AB, st 0, LC, CH, 1000, 0, 0, 0, 0, ())], by simp, rfl⟩), by omega, by omega⟩
  obtain ⟨o, t, F, -, h⟩ := step_ok' pol0 O1 evs00 (now' := 1300) (by omega)
  have hl := F.lo
  obtain ⟨v, rfl⟩ : ∃ v, o = [v] := by
    match o, hl with
    | [v], _ => exact ⟨v, rfl⟩
  have hv : v = -1 := by
    rcases F.v 0 (by simp) with h | ⟨i, hi, _⟩
    · exact h
    · simp at hi
  subst hv
  have hw : wdA A0 = false := rfl
  have hA : stA R0 0 0 1300 [] [A0] [-1] 5 = [clA A0 1300] := by
    unfold stA
    simp only [ph1, ph2, evI_neg, s1, hw]
    rfl
  have hB : stB R0 0 0 1300 [] [A0] [-1] 5 = [bul 5 3 (clA A0 1300) 1300] := by
    unfold stB
    simp only [ph1, ph2, evI_neg, s1, hw]
    rfl
  rw [hA, hB] at h
  exact h
theorem awake_ok : F15_d 600 () = some true := by
  have h1 : F35_d 600 0 = some (AB, st 0, LC, CH, ()) := by kernel_rfl
  have h2 : F36_d 600 () = some (R0.map Ren4, 0, 0) := by kernel_rfl
  have h3 : F11_d 600 (R0.map Ren4, 0, 0, [], 4, [Ren0 (AB, st 0, LC, CH, 1000, 0, 0, 0, 0, [Ren1 (AB, st 0, LC, CH, 1000, 0, 0, 0, 0, ())], 0, 0, 0, 900, 0, 0, 0, 0, 0, 0, 0, 0, 0, 0, 1, ())], 1200) = some ([Ren3 A0], [Ren6 (bul 4 1 A0 1200)], 0) := awake1
  simp only [F15_d, FSpec.d, F15_s]
  simp only [h1, h2, h3, awake2]
  rfl
theorem samep_loop (P : List RT1) (hP : P.length ≤ 500) : ∀ (d k f : Nat), k + d = P.length → d < f → (F64_l8 600).L f (P.map Ren1, P.map Ren1, (k : Int)) = some (.inr ()) := by
  intro d
  induction d with
  | zero =>
    intro k f hk hf
    obtain ⟨f, rfl⟩ : ∃ f', f = f' + 1 := ⟨f - 1, by omega⟩
    show (F64_l8 600).b _ _ ((F64_l8 600).L f) some = _
    simp only [F64_l8]
    have e2 : decide ((k : Int) < (P.length : Int)) = false := by rw [decide_eq_false_iff_not]; omega
    simp only [List.length_map, e2]
  | succ d ih =>
    intro k f hk hf
    obtain ⟨f, rfl⟩ : ∃ f', f = f' + 1 := ⟨f - 1, by omega⟩
    have hkl : k < P.length := by omega
    have e2 : decide ((k : Int) < (P.length : Int)) = true := by rw [decide_eq_true_iff]; omega
    have e3 : (0 : Int) ≤ (k : Int) := by omega
    have r1 := ih (k + 1) f (by omega) (by omega)
    have e4 : eqP P[k] P[k] = true := eqP_tt _
    show (F64_l8 600).b _ _ ((F64_l8 600).L f) some = _
    obtain ⟨Lf, hLf⟩ : ∃ Lf, Lf = (F64_l8 600).L f := ⟨_, rfl⟩
    rw [← hLf] at r1 ⊢
    simp only [F64_l8]
    simp only [List.length_map, e2, e3, if_true, Int.toNat_natCast, get1 P k hkl, Rrd1_en, e4, Bool.not_true, nat_succ (show k < 1000000 by omega)]
    exact r1
theorem samep_ok (P : List RT1) (hP : P.length ≤ 500) : F64_d 600 (P.map Ren1, P.map Ren1) = some true := by
  have h := samep_loop P hP P.length 0 600 (by omega) (by omega)
  replace h : (F64_l8 600).L 600 (P.map Ren1, P.map Ren1, 0) = some (.inr ()) := h
  have e1 : ((P.length : Int) != (P.length : Int)) = false := by simp
  simp only [F64_d, FSpec.d, F64_s, List.length_map, e1, F64_d8, h]
theorem samesol_ok (s : RT13) (P : List RT1) (hP : P.length ≤ 500) (hs : s.1 = P.map Ren1) : F41_d 600 (s, s) = some true := by
  simp only [F41_d, FSpec.d, F41_s, hs, samep_ok P hP, beq_self_eq_true, Bool.and_true]
theorem sameev_ok (e : RT0) (h : PkOk e) : F22_d 600 (e, e) = some true := by
  obtain ⟨P, h1, h2⟩ := h
  have e4 : eqP (nmE e) (nmE e) = true := eqP_tt _
  have hs := samesol_ok (solE e) P (by omega) h2
  simp only [F22_d, FSpec.d, F22_s]
  simp only [e4, hs]
theorem same_loop (A : List RT3) (hA : A.length ≤ 500) (hp : ∀ a ∈ A, PkOk (evA a)) : ∀ (d k f : Nat), k + d = A.length → d < f → (F17_l8 600).L f (A.map Ren3, A.map Ren3, (k : Int)) = some (.inr ()) := by
  intro d
  induction d with
  | zero =>
    intro k f hk hf
    obtain ⟨f, rfl⟩ : ∃ f', f = f' + 1 := ⟨f - 1, by omega⟩
    show (F17_l8 600).b _ _ ((F17_l8 600).L f) some = _
    simp only [F17_l8]
    have e2 : decide ((k : Int) < (A.length : Int)) = false := by rw [decide_eq_false_iff_not]; omega
    simp only [List.length_map, e2]
  | succ d ih =>
    intro k f hk hf
    obtain ⟨f, rfl⟩ : ∃ f', f = f' + 1 := ⟨f - 1, by omega⟩
    have hkl : k < A.length := by omega
    have e2 : decide ((k : Int) < (A.length : Int)) = true := by rw [decide_eq_true_iff]; omega
    have e3 : (0 : Int) ≤ (k : Int) := by omega
    have r1 := ih (k + 1) f (by omega) (by omega)
    have e4 : eqP (nmA A[k]) (nmA A[k]) = true := eqP_tt _
    have hs := sameev_ok _ (hp _ (List.getElem_mem hkl))
    have i1 : (idA A[k] != idA A[k]) = false := by simp
    have i2 : (lvA A[k] != lvA A[k]) = false := by simp
    have i3 : (atA A[k] != atA A[k]) = false := by simp
    have i4 : (wdA A[k] == wdA A[k]) = true := by simp
    show (F17_l8 600).b _ _ ((F17_l8 600).L f) some = _
    obtain ⟨Lf, hLf⟩ : ∃ Lf, Lf = (F17_l8 600).L f := ⟨_, rfl⟩
    rw [← hLf] at r1 ⊢
    simp only [F17_l8]
    simp only [List.length_map, e2, e3, if_true, Int.toNat_natCast, get3 A k hkl, id3, wd3, nm3, lv3, at3, ev3, i1, i2, i3, i4, e4, hs, Bool.not_true, nat_succ (show k < 1000000 by omega)]
    exact r1
theorem same_ok (A : List RT3) (hA : A.length ≤ 500) (hp : ∀ a ∈ A, PkOk (evA a)) : F17_d 600 (A.map Ren3, A.map Ren3) = some true := by
  have h := same_loop A hA hp A.length 0 600 (by omega) (by omega)
  replace h : (F17_l8 600).L 600 (A.map Ren3, A.map Ren3, 0) = some (.inr ()) := h
  have e1 : ((A.length : Int) != (A.length : Int)) = false := by simp
  simp only [F17_d, FSpec.d, F17_s, List.length_map, e1, F17_d8, h]
theorem stBR_len {L : List RT4} {di ev now number : Int} {E : List RT0} {A : List RT3} {o : List Int} (h : A.length = o.length) : (stBR L di ev now E A o number).length ≤ A.length + E.length ∧ (stAR L di ev now E A o number).length ≤ A.length + E.length := by
  unfold stBR stAR
  obtain ⟨p1, p2⟩ := ph1_len (lvF L di ev) (mvR L di ev) ev now E A o number h
  obtain ⟨q1, q2⟩ := ph2_len (lvF L di ev) (tmR L di ev now) now (fwO o) E 0 (number + (ph1 (lvF L di ev) (mvR L di ev) ev now E A o number).2.length)
  rw [List.length_append, List.length_append]
  omega
theorem run_loop {L : List RT4} {di ev : Int} (P : Pol L di ev) {xs : List Int} : ∀ (d i n f : Nat) (A : List RT3) (number now p : Int), i + d = n → n ≤ 4 → d < f → Ok A number now → A.length ≤ 4 * i → number ≤ 4 + 32 * i → now ≤ 1000 + 400 * i → Sc xs p →
    ∃ (A' : List RT3) (number' now' p' : Int), (F16_l6 600).L f (A.map Ren3, (n : Int), number, now, (i : Int), rowsI xs, p, L.map Ren4, di, ev) = some (A'.map Ren3, number', now', rowsI xs, p') ∧ Ok A' number' now' ∧ A'.length ≤ 16 ∧ number' ≤ 132 ∧ now' ≤ 2600 ∧ Sc xs p' := by
  intro d
  induction d with
  | zero =>
    intro i n f A number now p hi hn hf O h1 h2 h3 D
    obtain ⟨f, rfl⟩ : ∃ f', f = f' + 1 := ⟨f - 1, by omega⟩
    refine ⟨A, number, now, p, ?_, O, by omega, by omega, by omega, D⟩
    show (F16_l6 600).b _ _ ((F16_l6 600).L f) some = _
    simp only [F16_l6]
    have e2 : decide ((i : Int) < (n : Int)) = false := by rw [decide_eq_false_iff_not]; omega
    simp only [e2]
  | succ d ih =>
    intro i n f A number now p hi hn hf O h1 h2 h3 D
    obtain ⟨f, rfl⟩ : ∃ f', f = f' + 1 := ⟨f - 1, by omega⟩
    have hnow := O.now
    have hnum := O.num
    obtain ⟨v, p1, g1, m1, D1⟩ := n_ok 600 (n := 400) (by omega) D
    obtain ⟨E, p2, g2, l2, hE, D2⟩ := evs_ok 4 (by omega) D1
    replace g2 : F10_d 600 (4, rowsI xs, p1) = some (E.map Ren0, rowsI xs, p2) := g2
    obtain ⟨o, t, F, g3⟩ := rstep_ok P O (show 4 ≤ 5 by omega) hE (now' := now + v) (by omega)
    have hlo := F.lo
    obtain ⟨b1, b2⟩ := stBR_len (L := L) (di := di) (ev := ev) (now := now + v) (number := number) (E := E) hlo.symm
    have O' : Ok (stAR L di ev (now + v) E A o number) (number + (stBR L di ev (now + v) E A o number).length) (now + v) := O.step (show 4 ≤ 5 by omega) hE F (by omega) (by omega) (by omega) _ _ _ _
    have e4 : i64 (number + ((stBR L di ev (now + v) E A o number).length : Int)) = number + (stBR L di ev (now + v) E A o number).length := i64_id (by omega)
    have e5 : i64 (now + v) = now + v := i64_id (by omega)
    obtain ⟨A', number', now', p', r1, r2⟩ := ih (i + 1) n f _ _ (now + v) p2 (by omega) hn (by omega) O' (by omega) (by omega) (by omega) D2
    refine ⟨A', number', now', p', ?_, r2⟩
    show (F16_l6 600).b _ _ ((F16_l6 600).L f) some = _
    obtain ⟨Lf, hLf⟩ : ∃ Lf, Lf = (F16_l6 600).L f := ⟨_, rfl⟩
    rw [← hLf] at r1 ⊢
    simp only [F16_l6]
    have e2 : decide ((i : Int) < (n : Int)) = true := by rw [decide_eq_true_iff]; omega
    have e6 : ((0 : Int) == 0) = true := by decide
    simp only [e2, g1, g2, e5, g3, e6, List.length_map, e4, nat_succ (show i < 1000000 by omega)]
    exact r1
theorem run_ok {L : List RT4} {di ev : Int} (P : Pol L di ev) {xs : List Int} {p n : Int} (hn : 0 ≤ n ∧ n ≤ 4) (D : Sc xs p) : ∃ (A : List RT3) (number now p' : Int), F16_d 600 (L.map Ren4, di, ev, n, rowsI xs, p) = some (A.map Ren3, number, now, rowsI xs, p') ∧ Ok A number now ∧ A.length ≤ 16 ∧ number ≤ 132 ∧ now ≤ 2600 ∧ Sc xs p' := by
  obtain ⟨v, p1, g1, m1, D1⟩ := n_ok 600 (n := 5) (by omega) D
  have O0 : Ok [] v 1000 := ⟨by simp, List.Pairwise.nil, fun a h => (by cases h), List.Pairwise.nil, fun a h => (by cases h), by omega, by omega⟩
  obtain ⟨A, number, now, p', r1, r2⟩ := run_loop P n.toNat 0 n.toNat 600 [] v 1000 p1 (by omega) (by omega) (by omega) O0 (by simp) (by omega) (by omega) D1
  rw [show ((n.toNat : Nat) : Int) = n by omega] at r1
  replace r1 : (F16_l6 600).L 600 ([], n, v, 1000, 0, rowsI xs, p1, L.map Ren4, di, ev) = some (A.map Ren3, number, now, rowsI xs, p') := r1
  refine ⟨A, number, now, p', ?_, r2⟩
  simp only [F16_d, FSpec.d, F16_s, g1, F16_d6, r1]
end Go.Proofs.Ytnnfpoelkdgjdaa
end
section
namespace Go.Proofs.Ytnnfpoelkdgjdaa
open Go.RowKit
set_option linter.unusedVariables false
set_option linter.unusedSimpArgs false
set_option linter.unnecessarySimpa false
theorem ph1_same (lv : RT0 → Int) (mv : RT0 → RT0 → Bool) (ev now : Int) (E : List RT0) : ∀ (A : List RT3) (o : List Int) (n : Int), A.length = o.length → (∀ k (h : k < A.length) (h' : k < o.length), s1 lv mv ev now A[k] (evI E o[k]) = (A[k], 0)) → ph1 lv mv ev now E A o n = (A, [])
  | [], o, n, h, hs => by unfold ph1; rfl
  | a :: A, [], n, h, hs => by simp at h
  | a :: A, i :: o, n, h, hs => by
    have h0 := hs 0 (by simp) (by simp)
    simp only [List.getElem_cons_zero] at h0
    unfold ph1
    simp only [h0, if_true]
    rw [ph1_same lv mv ev now E A o n (by simpa using h) (fun k h1 h2 => by
      have := hs (k + 1) (by simpa using h1) (by simpa using h2)
      simpa using this)]
    rfl
theorem ph2_none (lv : RT0 → Int) (tm : RT0 → Bool) (now : Int) (fw : Nat → Bool) : ∀ (R : List RT0) (i : Nat) (n : Int), (∀ j (h : j < R.length), fw (i + j) = true ∨ tm R[j] = false) → ph2 lv tm now fw R i n = ([], [])
  | [], i, n, h => by unfold ph2; rfl
  | e :: R, i, n, h => by
    unfold ph2
    rw [if_neg ?_]
    · exact ph2_none lv tm now fw R (i + 1) n (fun j hj => by
        have := h (j + 1) (by simpa using hj)
        rw [show i + (j + 1) = i + 1 + j by omega] at this
        simpa using this)
    · rintro ⟨h1, h2⟩
      have := h 0 (by simp)
      simp only [Nat.add_zero, List.getElem_cons_zero] at this
      rcases this with q | q
      · rw [h1] at q; cases q
      · rw [h2] at q; cases q
theorem s1_again (lv : RT0 → Int) (mv : RT0 → RT0 → Bool) (ev now : Int) (a : RT3) (e : RT0) (hmv : mv e e = false) (hw : wdA (s1 lv mv ev now a (some e)).1 = false) : s1 lv mv ev now (s1 lv mv ev now a (some e)).1 (some e) = ((s1 lv mv ev now a (some e)).1, 0) := by
  obtain ⟨hwa, e', he, h0, hn⟩ := s1_open lv mv ev now a (some e) hw
  cases he
  have hna : ¬ wdA a = true := by rw [hwa]; simp
  have e1 : s1 lv mv ev now a (some e) = if now - atA a ≥ ev ∧ mv (evA a) e = true then (mkA (idA a) (wdA a) (nmE e) (lv e) e now, 2) else (mkA (idA a) (wdA a) (nmE e) (lvA a) (evA a) (atA a), 0) := by
    show (if wdA a = true then _ else if lv e = 0 then _ else _) = _
    rw [if_neg hna, if_neg h0]
  by_cases hc : now - atA a ≥ ev ∧ mv (evA a) e = true
  · rw [e1, if_pos hc]
    show (if wdA (mkA (idA a) (wdA a) (nmE e) (lv e) e now) = true then _ else if lv e = 0 then _ else if now - atA (mkA (idA a) (wdA a) (nmE e) (lv e) e now) ≥ ev ∧ mv (evA (mkA (idA a) (wdA a) (nmE e) (lv e) e now)) e = true then _ else _) = _
    rw [wdA_mk, if_neg hna, if_neg h0, evA_mk, hmv, if_neg (by simp)]
    rfl
  · rw [e1, if_neg hc]
    show (if wdA (mkA (idA a) (wdA a) (nmE e) (lvA a) (evA a) (atA a)) = true then _ else if lv e = 0 then _ else if now - atA (mkA (idA a) (wdA a) (nmE e) (lvA a) (evA a) (atA a)) ≥ ev ∧ mv (evA (mkA (idA a) (wdA a) (nmE e) (lvA a) (evA a) (atA a))) e = true then _ else _) = _
    rw [wdA_mk, if_neg hna, if_neg h0, evA_mk, atA_mk, if_neg hc]
    rfl
theorem s1_wd (lv : RT0 → Int) (mv : RT0 → RT0 → Bool) (ev now : Int) (a : RT3) (hw : wdA a = true) : ∀ x, s1 lv mv ev now a x = (a, 0)
  | none => by show (if wdA a = true then _ else _) = _; rw [if_pos hw]
  | some e => by show (if wdA a = true then _ else _) = _; rw [if_pos hw]
theorem EvAt.lo {n : Nat} {e : RT0} (h : EvAt n e) : loE e ≤ hiE e := by
  obtain ⟨f, c, h1, h2, h3, h4, h5, h6⟩ := h
  exact h6
theorem again_ok {L : List RT4} {di ev number now now' : Int} {A : List RT3} {E : List RT0} {m : Nat} (P : Pol L di ev) (O : Ok A number now) (hm : m ≤ 5) (hE : Evs 0 m E) (hn : now ≤ now' ∧ now' ≤ 1000000) (h1 : A.length + m ≤ 100) (h2 : number + A.length + m ≤ 800) :
    ∃ (b : List RT3) (B : List RT6), F11_d 600 (L.map Ren4, di, ev, A.map Ren3, number, E.map Ren0, now') = some (b.map Ren3, B.map Ren6, 0) ∧ b.length ≤ 100 ∧ B.length ≤ 200 ∧ (∀ a ∈ b, PkOk (evA a)) ∧ F11_d 600 (L.map Ren4, di, ev, b.map Ren3, number + B.length, E.map Ren0, now') = some (b.map Ren3, [], 0) := by
  have hE' := hE.ok hm
  have hlE := hE'.l
  obtain ⟨o, t, F, -, g1⟩ := step_ok' P O hE' hn
  have hlo := F.lo
  have Ob : Ok (stA L di ev now' E A o number) (number + (stB L di ev now' E A o number).length) now' := O.step hm hE F hn h1 h2 _ _ _ _
  have p12 := ph1_len (lvF L di ev) (mvF L di ev) ev now' E A o number hlo.symm
  have q12 := ph2_len (lvF L di ev) (tmF L di ev now') now' (fwO o) E 0 (number + (ph1 (lvF L di ev) (mvF L di ev) ev now' E A o number).2.length)
  have hBl : (stB L di ev now' E A o number).length ≤ 200 := by unfold stB; rw [List.length_append]; omega
  refine ⟨stA L di ev now' E A o number, stB L di ev now' E A o number, g1, Ob.len, hBl, fun a ha => Ob.pk a ha, ?_⟩
  obtain ⟨o2, t2, F2, -, g2⟩ := step_ok' P Ob hE' (now' := now') (by omega)
  obtain ⟨b, hb⟩ : ∃ b, stA L di ev now' E A o number = b := ⟨_, rfl⟩
  have hmv : ∀ e ∈ E, mvF L di ev e e = false := fun e he => by
    obtain ⟨n, _, _, q⟩ := hE.all e he
    obtain ⟨x, hx, hx2⟩ := moved_ok P e e
    unfold mvF
    rw [hx, hx2 rfl q.lo]
    rfl
  have htm : ∀ e, lvF L di ev e = 0 → tmF L di ev now' e = false := fun e he => by
    obtain ⟨x, hx, hx2⟩ := timely_ok P e now'
    unfold tmF
    rw [hx, hx2 (by unfold lvF at he; omega)]
    rfl
  have hlo2 := F2.lo
  have pg := ph1_get (lvF L di ev) (mvF L di ev) ev now' E A o number hlo.symm
  have q5 := ph2_mem (lvF L di ev) (tmF L di ev now') now' (fwO o) E 0 (number + (ph1 (lvF L di ev) (mvF L di ev) ev now' E A o number).2.length)
  -- an open alert of a step and its event
  have key : ∀ k (hk : k < b.length) (hk' : k < o2.length), s1 (lvF L di ev) (mvF L di ev) ev now' b[k] (evI E o2[k]) = (b[k], 0) := fun k hk hk' => by
    cases hw : wdA b[k] with
    | true => exact s1_wd _ _ _ _ _ hw _
    | false =>
      have hkm : b[k] ∈ stA L di ev now' E A o number := by rw [hb]; exact List.getElem_mem hk
      have fin : ∀ i (hi : i < E.length), nmE E[i] = nmA b[k] → evI E o2[k] = some E[i] := fun i hi e => by
        have := F2.nm k hk' (by rw [hb]; exact hk) (by simp only [hb]; exact hw) i hi (by simp only [hb]; exact e)
        rw [this, evI_pos E i hi]
      unfold stA at hkm
      rcases List.mem_append.1 hkm with h | h
      · obtain ⟨j, hj, ej⟩ := List.getElem_of_mem h
        have hjA : j < A.length := by omega
        rw [pg j hjA (by omega) hj] at ej
        rw [← ej] at hw
        obtain ⟨-, e, he, h0, hnm⟩ := s1_open _ _ _ _ _ _ hw
        obtain ⟨i, hi, hoi⟩ : ∃ i : Nat, i < E.length ∧ o[j] = (i : Int) := by
          rcases F.v j (by omega) with h | h
          · rw [h, evI_neg] at he; cases he
          · exact h
        have he2 : evI E o[j] = some E[i] := by rw [hoi, evI_pos E i hi]
        rw [he2] at he
        cases he
        rw [fin i hi (by rw [← ej, hnm]), ← ej, he2]
        rw [he2] at hw
        exact s1_again _ _ _ _ _ _ (hmv _ (List.getElem_mem hi)) hw
      · obtain ⟨j, hj, _, ht, mm, e⟩ := q5 _ h
        have h0 : lvF L di ev E[j] ≠ 0 := fun h => by rw [htm _ h] at ht; cases ht
        rw [fin j hj (by rw [e, nmA_mk]), e]
        unfold s1
        dsimp only
        rw [wdA_mk, if_neg (by simp), if_neg h0, evA_mk, hmv _ (List.getElem_mem hj), if_neg (by simp)]
        rfl
  rw [hb] at g2 F2 hlo2 ⊢
  have e1 : ∀ n, ph1 (lvF L di ev) (mvF L di ev) ev now' E b o2 n = (b, []) := fun n => ph1_same _ _ _ _ _ b o2 n hlo2.symm key
  have e2 : ∀ n, ph2 (lvF L di ev) (tmF L di ev now') now' (fwO o2) E 0 n = ([], []) := fun n => ph2_none _ _ _ _ E 0 n (fun i hi => by
    rw [Nat.zero_add]
    cases htmi : tmF L di ev now' E[i] with
    | false => exact .inr rfl
    | true =>
      refine .inl (fwO_iff.2 ?_)
      have h0 : lvF L di ev E[i] ≠ 0 := fun h => by rw [htm _ h] at htmi; cases htmi
      -- an open alert has the event's name
      have hex : ∃ k, ∃ hk : k < b.length, wdA b[k] = false ∧ nmA b[k] = nmE E[i] := by
        by_cases hfw : (i : Int) ∈ o
        · obtain ⟨j, hj, ej⟩ := List.getElem_of_mem hfw
          have hjA : j < A.length := by omega
          have hjp : j < (ph1 (lvF L di ev) (mvF L di ev) ev now' E A o number).1.length := by omega
          have hjb : j < b.length := by rw [← hb]; unfold stA; rw [List.length_append]; omega
          have hbj : b[j] = (s1 (lvF L di ev) (mvF L di ev) ev now' A[j] (evI E o[j])).1 := by
            have : b[j] = (ph1 (lvF L di ev) (mvF L di ev) ev now' E A o number).1[j] := by
              simp only [← hb, stA]
              rw [List.getElem_append_left hjp]
            rw [this, pg j hjA hj hjp]
          have hwA : wdA A[j] = false := by
            cases hx : wdA A[j] with
            | false => rfl
            | true => have := F.w j hj hjA hx; omega
          refine ⟨j, hjb, ?_⟩
          rw [hbj, ej, evI_pos E i hi]
          unfold s1
          dsimp only
          rw [if_neg (by rw [hwA]; simp), if_neg h0]
          split
          · exact ⟨hwA, rfl⟩
          · exact ⟨hwA, rfl⟩
        · have hff : fwO o i = false := by
            cases hx : fwO o i with
            | false => rfl
            | true => exact absurd (fwO_iff.1 hx) hfw
          have : ∀ (R : List RT0) (i0 : Nat) (n : Int) (j : Nat) (hj : j < R.length), fwO o (i0 + j) = false → tmF L di ev now' R[j] = true → ∃ a ∈ (ph2 (lvF L di ev) (tmF L di ev now') now' (fwO o) R i0 n).1, wdA a = false ∧ nmA a = nmE R[j] := by
            intro R
            induction R with
            | nil => intro i0 n j hj; cases hj
            | cons r R ih =>
              intro i0 n j hj h1 h2
              cases j with
              | zero =>
                unfold ph2
                rw [if_pos ⟨by simpa using h1, by simpa using h2⟩]
                exact ⟨_, List.mem_cons_self, rfl, rfl⟩
              | succ j =>
                unfold ph2
                split
                · obtain ⟨a, ha, q⟩ := ih (i0 + 1) (n + 1) j (by simpa using hj) (by rw [← h1]; congr 1; omega) (by simpa using h2)
                  exact ⟨a, List.mem_cons_of_mem _ ha, by simpa using q⟩
                · obtain ⟨a, ha, q⟩ := ih (i0 + 1) n j (by simpa using hj) (by rw [← h1]; congr 1; omega) (by simpa using h2)
                  exact ⟨a, ha, by simpa using q⟩
          obtain ⟨a, ha, q1, q2⟩ := this E 0 (number + (ph1 (lvF L di ev) (mvF L di ev) ev now' E A o number).2.length) i hi (by rw [Nat.zero_add]; exact hff) htmi
          have : a ∈ b := by rw [← hb]; unfold stA; exact List.mem_append_right _ ha
          obtain ⟨k, hk, e⟩ := List.getElem_of_mem this
          exact ⟨k, hk, by rw [e]; exact q1, by rw [e]; exact q2⟩
      obtain ⟨k, hk, w1, w2⟩ := hex
      have := F2.nm k (by omega) hk w1 i hi w2.symm
      rw [← this]
      exact List.getElem_mem _)
  have hA2 : stA L di ev now' E b o2 (number + (stB L di ev now' E A o number).length) = b := by unfold stA; rw [e1, e2, List.append_nil]
  have hB2 : stB L di ev now' E b o2 (number + (stB L di ev now' E A o number).length) = [] := by unfold stB; rw [e1, e2]; rfl
  rw [hA2, hB2] at g2
  exact g2
theorem again_law (xs : List Int) : F4_d 600 (rowsI xs) = some true := by
  obtain ⟨g0, D0⟩ := new_ok 600 xs
  obtain ⟨L, di, ev, p1, g1, P, D1⟩ := policy_ok D0
  obtain ⟨v, p2, g2, m2, D2⟩ := n_ok 600 (n := 4) (by omega) D1
  obtain ⟨A, number, now, p3, g3, O, l1, l2, l3, D3⟩ := run_ok P (show 0 ≤ v ∧ v ≤ 4 by omega) D2
  obtain ⟨E, p4, g4, l4, hE, D4⟩ := evs_ok 4 (by omega) D3
  replace g4 : F10_d 600 (4, rowsI (xs.take 2000), p3) = some (E.map Ren0, rowsI (xs.take 2000), p4) := g4
  have hnow := O.now
  have hnum := O.num
  obtain ⟨b, B, g5, lb, lB, hp, g6⟩ := again_ok P O (show 4 ≤ 5 by omega) hE (now' := now + 100) (by omega) (by omega) (by omega)
  have e1 : i64 (now + 100) = now + 100 := i64_id (by omega)
  have e2 : i64 (number + (B.length : Int)) = number + B.length := i64_id (by omega)
  have e3 : ((0 : Int) == 0) = true := by decide
  have e4 : ((([] : List (List AV)).length : Int) == 0) = true := by decide
  simp only [F4_d, FSpec.d, F4_s, g0, g1, g2, g3, g4, e1, g5, List.length_map, e2, g6, e3, same_ok b (by omega) hp, e4, awake_ok]
theorem alert_again (a : Option Addr) (len cap : Nat) (W : World) (hr : IntsIn W (.slice a len cap)) :
    Calls Try.prog 4 #[.slice a len cap] W fun e w' => e = .returned (.bool true) ∧ Below W.heap.size W w' := by
  obtain ⟨xs, h1, h2, h3⟩ := hr
  have ok := (F4_e 600).ok (rowsI xs) true (again_law xs)
  refine CallOk.calls (args := [.list 1 (rowsI xs) none]) ok W _ rfl (fun i h h' => ?_)
  obtain rfl : i = 0 := by simp at h; omega
  exact h3 _ _
end Go.Proofs.Ytnnfpoelkdgjdaa
end
section
namespace Go.Proofs.Ytnnfpoelkdgjdaa
open Go.RowKit
set_option linter.unusedVariables false
set_option linter.unusedSimpArgs false
set_option linter.unnecessarySimpa false
def opn (a : RT3) : Bool := !wdA a
end Go.Proofs.Ytnnfpoelkdgjdaa
end
section
namespace Go.Proofs.Ytnnfpoelkdgjdaa
open Go.RowKit
set_option linter.unusedVariables false
set_option linter.unusedSimpArgs false
set_option linter.unnecessarySimpa false
section
variable (lv : RT0 → Int) (mv : RT0 → RT0 → Bool) (tm : RT0 → Bool) (ev now : Int) (E : List RT0)
end
end Go.Proofs.Ytnnfpoelkdgjdaa
end
