/- Several texts as one (written by pack.py). -/
import Derived.Test.YtnnfpoelkdgjdaaAdE
section
namespace Go.Proofs.Ytnnfpoelkdgjdaa
set_option linter.unusedVariables false
set_option linter.unusedSimpArgs false
set_option linter.unnecessarySimpa false
@[reducible] def eqP (a b : RT1) : Bool := (((a.1 == b.1) && ((a.2.1 == b.2.1) && ((a.2.2.1 == b.2.2.1) && ((a.2.2.2.1 == b.2.2.2.1) && true)))) && ((a.2.2.2.2.1 == b.2.2.2.2.1) && ((a.2.2.2.2.2.1 == b.2.2.2.2.2.1) && ((a.2.2.2.2.2.2.1 == b.2.2.2.2.2.2.1) && ((a.2.2.2.2.2.2.2.1 == b.2.2.2.2.2.2.2.1) && ((a.2.2.2.2.2.2.2.2.1 == b.2.2.2.2.2.2.2.2.1) && true))))))
theorem ba_iff {a b : ByteArray} : (a == b) = true ↔ a = b := by
  constructor
  · intro h
    obtain ⟨x⟩ := a
    obtain ⟨y⟩ := b
    have : (x == y) = true := h
    rw [eq_of_beq this]
  · rintro rfl
    obtain ⟨x⟩ := a
    exact beq_self_eq_true x
theorem zat (a : RT1) : eqP a a = true := by
  simp only [eqP, Bool.and_eq_true, beq_self_eq_true, ba_iff, and_self]
theorem eqP_eq {a b : RT1} (h : eqP a b = true) : a = b := by
  obtain ⟨a1, a2, a3, a4, a5, a6, a7, a8, a9, a10⟩ := a
  obtain ⟨b1, b2, b3, b4, b5, b6, b7, b8, b9, b10⟩ := b
  simp only [eqP, Bool.and_eq_true, beq_iff_eq, ba_iff] at h
  obtain ⟨⟨h1, h2, h3, h4, -⟩, h5, h6, h7, h8, h9, -⟩ := h
  subst h1 h2 h3 h4 h5 h6 h7 h8 h9
  rfl
theorem za3 {a b : RT1} (h : a ≠ b) : eqP a b = false := by
  cases e : eqP a b with
  | false => rfl
  | true => exact absurd (eqP_eq e) h
theorem get1 (P : List RT1) (k : Nat) (h : k < P.length) : (P.map Ren1)[k]? = some (Ren1 P[k]) := by simp [h]
theorem get0 (P : List RT0) (k : Nat) (h : k < P.length) : (P.map Ren0)[k]? = some (Ren0 P[k]) := by simp [h]
theorem get3 (P : List RT3) (k : Nat) (h : k < P.length) : (P.map Ren3)[k]? = some (Ren3 P[k]) := by simp [h]
theorem zw {α : Type} {P : List α} {k : Nat} (h : k < P.length) (p : α) : p ∈ P.drop k ↔ p = P[k] ∨ p ∈ P.drop (k + 1) := by
  rw [List.drop_eq_getElem_cons h, List.mem_cons]
theorem zn {k : Nat} (h : k < 1000000) : i64 ((k : Int) + 1) = ((k + 1 : Nat) : Int) := by rw [zN (by omega)]; omega
theorem zjr (P : List RT1) (p : RT1) (hP : P.length ≤ 500) : ∀ (d k f : Nat), k + d = P.length → d < f → ∃ y, (Z3 600).L f (P.map Ren1, (P.length : Int), (k : Int), p) = some y ∧ ((p ∈ P.drop k ∧ ∃ j : Nat, y = .inl (j : Int)) ∨ (p ∉ P.drop k ∧ y = .inr ())) := by
  intro d
  induction d with
  | zero =>
    intro k f hk hf
    obtain ⟨f, rfl⟩ : ∃ f', f = f' + 1 := ⟨f - 1, by omega⟩
    refine ⟨.inr (), ?_, .inr ⟨by rw [List.drop_eq_nil_of_le (by omega)]; simp, rfl⟩⟩
    show (Z3 600).b _ _ ((Z3 600).L f) some = _
    simp only [Z3]
    have e2 : decide ((k : Int) < (P.length : Int)) = false := by rw [decide_eq_false_iff_not]; omega
    simp only [e2]
  | succ d ih =>
    intro k f hk hf
    obtain ⟨f, rfl⟩ : ∃ f', f = f' + 1 := ⟨f - 1, by omega⟩
    have hkl : k < P.length := by omega
    have e2 : decide ((k : Int) < (P.length : Int)) = true := by rw [decide_eq_true_iff]; omega
    have e3 : (0 : Int) ≤ (k : Int) := by omega
    by_cases hc : p = P[k]
    · refine ⟨.inl (k : Int), ?_, .inl ⟨(zw hkl p).2 (.inl hc), k, rfl⟩⟩
      show (Z3 600).b _ _ ((Z3 600).L f) some = _
      simp only [Z3]
      have e4 : eqP p P[k] = true := by rw [← hc]; exact zat p
      simp only [e2, e3, if_true, Int.toNat_natCast, get1 P k hkl, jT, e4]
    · obtain ⟨y, r1, r2⟩ := ih (k + 1) f (by omega) (by omega)
      refine ⟨y, ?_, ?_⟩
      · show (Z3 600).b _ _ ((Z3 600).L f) some = _
        obtain ⟨Lf, hLf⟩ : ∃ Lf, Lf = (Z3 600).L f := ⟨_, rfl⟩
        rw [← hLf] at r1 ⊢
        simp only [Z3]
        have e4 : eqP p P[k] = false := za3 hc
        simp only [e2, e3, if_true, Int.toNat_natCast, get1 P k hkl, jT, e4, zn (show k < 1000000 by omega)]
        exact r1
      · rcases r2 with ⟨h1, h2⟩ | ⟨h1, h2⟩
        · exact .inl ⟨(zw hkl p).2 (.inr h1), h2⟩
        · exact .inr ⟨fun h => ((zw hkl p).1 h).elim hc h1, h2⟩
theorem zf6 (P : List RT1) (p : RT1) (hP : P.length ≤ 500) : ∃ b, F62_d 600 (P.map Ren1, p) = some b ∧ (b = true ↔ p ∈ P) := by
  obtain ⟨y, h1, h2⟩ := zjr P p hP P.length 0 600 (by omega) (by omega)
  replace h1 : (Z3 600).L 600 (P.map Ren1, (P.length : Int), 0, p) = some y := h1
  rw [List.drop_zero] at h2
  simp only [F62_d, FSpec.d, ziz, F78_d, zjh, F78_d4, List.length_map, h1]
  rcases h2 with ⟨h2, j, rfl⟩ | ⟨h2, rfl⟩
  · exact ⟨_, rfl, by simp [h2]⟩
  · exact ⟨_, rfl, by simp [h2]⟩
def Com (P Q : List RT1) : Prop := ∃ p ∈ P, p ∈ Q
theorem zgp (P Q : List RT1) (e : RT0) (he : pkE e = Q.map Ren1) (hP : P.length ≤ 500) (hQ : Q.length ≤ 500) : ∀ (d k f : Nat), k + d = P.length → d < f → ∃ y, (ZI 600).L f (P.map Ren1, (P.length : Int), (k : Int), e) = some y ∧ ((Com (P.drop k) Q ∧ ∃ j : Nat, y = .inl ((j : Int), e)) ∨ (¬ Com (P.drop k) Q ∧ y = .inr e)) := by
  intro d
  induction d with
  | zero =>
    intro k f hk hf
    obtain ⟨f, rfl⟩ : ∃ f', f = f' + 1 := ⟨f - 1, by omega⟩
    refine ⟨.inr e, ?_, .inr ⟨by (rw [List.drop_eq_nil_of_le (by omega)]; rintro ⟨p, h, -⟩; cases h), rfl⟩⟩
    show (ZI 600).b _ _ ((ZI 600).L f) some = _
    simp only [ZI]
    have e2 : decide ((k : Int) < (P.length : Int)) = false := by rw [decide_eq_false_iff_not]; omega
    simp only [e2]
  | succ d ih =>
    intro k f hk hf
    obtain ⟨f, rfl⟩ : ∃ f', f = f' + 1 := ⟨f - 1, by omega⟩
    have hkl : k < P.length := by omega
    have e2 : decide ((k : Int) < (P.length : Int)) = true := by rw [decide_eq_true_iff]; omega
    have e3 : (0 : Int) ≤ (k : Int) := by omega
    obtain ⟨b, hb, hb2⟩ := zf6 Q P[k] hQ
    rw [← he] at hb
    have hs : F61_d 600 (P[k], e) = some (b, e) := by
      simp only [F61_d, FSpec.d, ziQ]
      simp only [hb]
    cases b with
    | true =>
      refine ⟨.inl ((k : Int), e), ?_, .inl ⟨⟨P[k], (zw hkl _).2 (.inl rfl), hb2.1 rfl⟩, k, rfl⟩⟩
      show (ZI 600).b _ _ ((ZI 600).L f) some = _
      simp only [ZI]
      simp only [e2, e3, if_true, Int.toNat_natCast, get1 P k hkl, jT, hs]
    | false =>
      obtain ⟨y, r1, r2⟩ := ih (k + 1) f (by omega) (by omega)
      refine ⟨y, ?_, ?_⟩
      · show (ZI 600).b _ _ ((ZI 600).L f) some = _
        obtain ⟨Lf, hLf⟩ : ∃ Lf, Lf = (ZI 600).L f := ⟨_, rfl⟩
        rw [← hLf] at r1 ⊢
        simp only [ZI]
        simp only [e2, e3, if_true, Int.toNat_natCast, get1 P k hkl, jT, hs, zn (show k < 1000000 by omega)]
        exact r1
      · rcases r2 with ⟨⟨p, q1, q2⟩, h2⟩ | ⟨h1, h2⟩
        · exact .inl ⟨⟨p, (zw hkl p).2 (.inr q1), q2⟩, h2⟩
        · refine .inr ⟨fun ⟨p, q1, q2⟩ => ?_, h2⟩
          rcases (zw hkl p).1 q1 with e | e
          · subst e; exact absurd (hb2.2 q2) (by simp)
          · exact h1 ⟨p, e, q2⟩
theorem zmV (P Q : List RT1) (a e : RT0) (ha : pkE a = P.map Ren1) (he : pkE e = Q.map Ren1) (hP : P.length ≤ 500) (hQ : Q.length ≤ 500) : ∃ b, F38_d 600 (a, e) = some b ∧ (b = true ↔ Com P Q) := by
  obtain ⟨y, h1, h2⟩ := zgp P Q e he hP hQ P.length 0 600 (by omega) (by omega)
  replace h1 : (ZI 600).L 600 (P.map Ren1, (P.length : Int), 0, e) = some y := h1
  rw [List.drop_zero] at h2
  have ha' : a.2.2.2.2.2.2.2.2.2.1 = P.map Ren1 := ha
  simp only [F38_d, FSpec.d, zhH, F60_d, zcw, F77_d, zcN, F77_d4, ha', List.length_map, h1]
  rcases h2 with ⟨h2, j, rfl⟩ | ⟨h2, rfl⟩
  · exact ⟨_, rfl, by simp [h2]⟩
  · exact ⟨_, rfl, by simp [h2]⟩
end Go.Proofs.Ytnnfpoelkdgjdaa
end
section
namespace Go.Proofs.Ytnnfpoelkdgjdaa
set_option linter.unusedVariables false
set_option linter.unusedSimpArgs false
set_option linter.unnecessarySimpa false
theorem nm0 (e : RT0) : Rrd1 ((Ren0 e).drop 0) = some (nmE e) := rfl
theorem zjV (n f c : Nat) (hn : n < 5) (h1 : f < c) (h2 : c ≤ 4) (h3 : f ≤ 1) : F66_d 600 ((pks n f c).map Ren1) = some true := by
  rcases (show n = 0 ∨ n = 1 ∨ n = 2 ∨ n = 3 ∨ n = 4 by omega) with rfl | rfl | rfl | rfl | rfl <;> rcases (show (f = 0 ∧ c = 1) ∨ (f = 0 ∧ c = 2) ∨ (f = 0 ∧ c = 3) ∨ (f = 0 ∧ c = 4) ∨ (f = 1 ∧ c = 2) ∨ (f = 1 ∧ c = 3) ∨ (f = 1 ∧ c = 4) by omega) with ⟨rfl, rfl⟩ | ⟨rfl, rfl⟩ | ⟨rfl, rfl⟩ | ⟨rfl, rfl⟩ | ⟨rfl, rfl⟩ | ⟨rfl, rfl⟩ | ⟨rfl, rfl⟩ <;> kernel_rfl
theorem name_ok (n f c : Nat) (hn : n < 5) (h1 : f < c) (h2 : c ≤ 4) (h3 : f ≤ 1) : F67_d 600 ((pks n f c).map Ren1) = some (pick n f) := by
  rcases (show n = 0 ∨ n = 1 ∨ n = 2 ∨ n = 3 ∨ n = 4 by omega) with rfl | rfl | rfl | rfl | rfl <;> rcases (show (f = 0 ∧ c = 1) ∨ (f = 0 ∧ c = 2) ∨ (f = 0 ∧ c = 3) ∨ (f = 0 ∧ c = 4) ∨ (f = 1 ∧ c = 2) ∨ (f = 1 ∧ c = 3) ∨ (f = 1 ∧ c = 4) by omega) with ⟨rfl, rfl⟩ | ⟨rfl, rfl⟩ | ⟨rfl, rfl⟩ | ⟨rfl, rfl⟩ | ⟨rfl, rfl⟩ | ⟨rfl, rfl⟩ | ⟨rfl, rfl⟩ <;> kernel_rfl
theorem rname_ok (n f c : Nat) (hn : n < 5) (h1 : f < c) (h2 : c ≤ 4) (h3 : f ≤ 1) : F83_d 600 ((pks n f c).map Ren1) = some (pick n f) := by
  rcases (show n = 0 ∨ n = 1 ∨ n = 2 ∨ n = 3 ∨ n = 4 by omega) with rfl | rfl | rfl | rfl | rfl <;> rcases (show (f = 0 ∧ c = 1) ∨ (f = 0 ∧ c = 2) ∨ (f = 0 ∧ c = 3) ∨ (f = 0 ∧ c = 4) ∨ (f = 1 ∧ c = 2) ∨ (f = 1 ∧ c = 3) ∨ (f = 1 ∧ c = 4) by omega) with ⟨rfl, rfl⟩ | ⟨rfl, rfl⟩ | ⟨rfl, rfl⟩ | ⟨rfl, rfl⟩ | ⟨rfl, rfl⟩ | ⟨rfl, rfl⟩ | ⟨rfl, rfl⟩ <;> kernel_rfl
theorem rsort_ok (n f c : Nat) (hn : n < 5) (h1 : f < c) (h2 : c ≤ 4) (h3 : f ≤ 1) : F84_d 600 ((pks n f c).map Ren1) = some ((pks n f c).map Ren1) := by
  rcases (show n = 0 ∨ n = 1 ∨ n = 2 ∨ n = 3 ∨ n = 4 by omega) with rfl | rfl | rfl | rfl | rfl <;> rcases (show (f = 0 ∧ c = 1) ∨ (f = 0 ∧ c = 2) ∨ (f = 0 ∧ c = 3) ∨ (f = 0 ∧ c = 4) ∨ (f = 1 ∧ c = 2) ∨ (f = 1 ∧ c = 3) ∨ (f = 1 ∧ c = 4) by omega) with ⟨rfl, rfl⟩ | ⟨rfl, rfl⟩ | ⟨rfl, rfl⟩ | ⟨rfl, rfl⟩ | ⟨rfl, rfl⟩ | ⟨rfl, rfl⟩ | ⟨rfl, rfl⟩ <;> kernel_rfl
theorem rsame_ok (n f c : Nat) (hn : n < 5) (h1 : f < c) (h2 : c ≤ 4) (h3 : f ≤ 1) : zkM 600 ((pks n f c).map Ren1, (pks n f c).map Ren1) = some true := by
  rcases (show n = 0 ∨ n = 1 ∨ n = 2 ∨ n = 3 ∨ n = 4 by omega) with rfl | rfl | rfl | rfl | rfl <;> rcases (show (f = 0 ∧ c = 1) ∨ (f = 0 ∧ c = 2) ∨ (f = 0 ∧ c = 3) ∨ (f = 0 ∧ c = 4) ∨ (f = 1 ∧ c = 2) ∨ (f = 1 ∧ c = 3) ∨ (f = 1 ∧ c = 4) by omega) with ⟨rfl, rfl⟩ | ⟨rfl, rfl⟩ | ⟨rfl, rfl⟩ | ⟨rfl, rfl⟩ | ⟨rfl, rfl⟩ | ⟨rfl, rfl⟩ | ⟨rfl, rfl⟩ <;> kernel_rfl
theorem zlP (n m f g : Nat) (hn : n < m) (hm : m < 5) (hf : f ≤ 1) (hg : g ≤ 1) : F68_d 600 (pick n f, pick m g) = some (-1) ∧ F85_d 600 (pick n f, pick m g) = some (-1) := by
  rcases (show (n = 0 ∧ m = 1) ∨ (n = 0 ∧ m = 2) ∨ (n = 0 ∧ m = 3) ∨ (n = 0 ∧ m = 4) ∨ (n = 1 ∧ m = 2) ∨ (n = 1 ∧ m = 3) ∨ (n = 1 ∧ m = 4) ∨ (n = 2 ∧ m = 3) ∨ (n = 2 ∧ m = 4) ∨ (n = 3 ∧ m = 4) by omega) with ⟨rfl, rfl⟩ | ⟨rfl, rfl⟩ | ⟨rfl, rfl⟩ | ⟨rfl, rfl⟩ | ⟨rfl, rfl⟩ | ⟨rfl, rfl⟩ | ⟨rfl, rfl⟩ | ⟨rfl, rfl⟩ | ⟨rfl, rfl⟩ | ⟨rfl, rfl⟩ <;> rcases (show f = 0 ∨ f = 1 by omega) with rfl | rfl <;> rcases (show g = 0 ∨ g = 1 by omega) with rfl | rfl <;> exact ⟨by kernel_rfl, by kernel_rfl⟩
@[reducible] def tmP (p : RT1) : Int := p.2.2.2.2.1
theorem zg6 {n f c : Nat} (hc : c ≤ 4) : ∀ p ∈ pks n f c, 1000 + 400 * (n : Int) ≤ tmP p ∧ tmP p < 1000 + 400 * (n + 1 : Nat) := fun p hp => by
  obtain ⟨i, hi, rfl⟩ := List.mem_map.1 hp
  rw [List.mem_range'] at hi
  obtain ⟨j, hj, rfl⟩ := hi
  simp only [tmP, pick]
  omega
theorem zgY {n i m j : Nat} (hi : i < 4) (hj : j < 4) (h : pick n i = pick m j) : n = m ∧ i = j := by
  have := congrArg tmP h
  simp only [tmP, pick] at this
  omega
theorem zku (n f c : Nat) (hc : c ≤ 4) : (pks n f c).Pairwise fun a b => a ≠ b := by
  unfold pks
  rw [List.pairwise_map]
  refine (List.pairwise_lt_range' (s := f) (n := c - f)).imp_of_mem fun {a b} ha hb hab h => ?_
  rw [List.mem_range'] at ha hb
  obtain ⟨i, hi, rfl⟩ := ha
  obtain ⟨j, hj, rfl⟩ := hb
  have := zgY (by omega) (by omega) h
  omega
theorem eqCs1 (a b : RT1) : eqCs (Ren1 a) (Ren1 b) = eqP a b := by
  show (a.1 == b.1 && (a.2.1 == b.2.1 && (a.2.2.1 == b.2.2.1 && (a.2.2.2.1 == b.2.2.2.1 && (a.2.2.2.2.1 == b.2.2.2.2.1 && (a.2.2.2.2.2.1 == b.2.2.2.2.2.1 && (a.2.2.2.2.2.2.1 == b.2.2.2.2.2.2.1 && (a.2.2.2.2.2.2.2.1 == b.2.2.2.2.2.2.2.1 && (a.2.2.2.2.2.2.2.2.1 == b.2.2.2.2.2.2.2.2.1 && true))))))))) = _
  simp only [eqP, Bool.and_true, Bool.and_assoc]
theorem zlj : ∀ (M : List RT1) (p : RT1), p ∉ M → zfq (Ren1 p) (M.map Ren1) = false ∧ Jd (Ren1 p) (Ren1 p) (M.map Ren1) = (M ++ [p]).map Ren1
  | [], p, h => ⟨rfl, rfl⟩
  | q :: M, p, h => by
    have h1 : p ≠ q := fun e => h (by rw [e]; exact List.mem_cons_self)
    obtain ⟨i1, i2⟩ := zlj M p (fun e => h (List.mem_cons_of_mem _ e))
    have e : eqCs (Ren1 p) (Ren1 q) = false := by rw [eqCs1]; exact za3 h1
    refine ⟨?_, ?_⟩
    · unfold zfq at i1 ⊢
      simp only [List.map_cons, Jb, e]
      exact i1
    · simp only [List.map_cons, Jd, e, i2, List.cons_append]
theorem zky (A B : List (List AV)) (la i : Int) (P : List RT1) (hP : P.length ≤ 500) (hd : P.Pairwise fun a b => a ≠ b) : ∀ (d k f : Nat) (M : List RT1), k + d = P.length → d < f → (∀ p ∈ P.drop k, p ∉ M) → (ZH 600).L f (A, B, P.map Ren1, la, i, (P.length : Int), (k : Int), M.map Ren1) = some (.inr (A, B, la, i, (M ++ P.drop k).map Ren1)) := by
  intro d
  induction d with
  | zero =>
    intro k f M hk hf hM
    obtain ⟨f, rfl⟩ : ∃ f', f = f' + 1 := ⟨f - 1, by omega⟩
    show (ZH 600).b _ _ ((ZH 600).L f) some = _
    simp only [ZH]
    have e2 : decide ((k : Int) < (P.length : Int)) = false := by rw [decide_eq_false_iff_not]; omega
    simp only [e2]
    rw [List.drop_eq_nil_of_le (by omega), List.append_nil]
  | succ d ih =>
    intro k f M hk hf hM
    obtain ⟨f, rfl⟩ : ∃ f', f = f' + 1 := ⟨f - 1, by omega⟩
    have hkl : k < P.length := by omega
    have e2 : decide ((k : Int) < (P.length : Int)) = true := by rw [decide_eq_true_iff]; omega
    have e3 : (0 : Int) ≤ (k : Int) := by omega
    obtain ⟨m1, m2⟩ := zlj M P[k] (hM _ ((zw hkl _).2 (.inl rfl)))
    have r1 := ih (k + 1) f (M ++ [P[k]]) (by omega) (by omega) (fun p hp hm => by
      rcases List.mem_append.1 hm with h | h
      · exact hM p ((zw hkl p).2 (.inr hp)) h
      · have h := List.mem_singleton.1 h
        obtain ⟨j, hj, e⟩ := List.getElem_of_mem hp
        rw [List.getElem_drop] at e
        rw [List.length_drop] at hj
        exact List.pairwise_iff_getElem.1 hd k (k + 1 + j) hkl (by omega) (by omega) (by rw [e, h]))
    show (ZH 600).b _ _ ((ZH 600).L f) some = _
    obtain ⟨Lf, hLf⟩ : ∃ Lf, Lf = (ZH 600).L f := ⟨_, rfl⟩
    rw [← hLf] at r1 ⊢
    simp only [ZH]
    simp only [e2, e3, if_true, Int.toNat_natCast, get1 P k hkl, jT, m1, m2, zn (show k < 1000000 by omega)]
    rw [r1, List.append_assoc]
    congr 4
    rw [List.drop_eq_getElem_cons hkl]
    rfl
theorem zcZ (A : List RT0) (hA : A.length ≤ 5) : ∀ (R : List RT0) (k lo f : Nat) (M : List RT1), A.drop k = R → R.length < f → k + R.length = A.length → Evs lo 5 R → (∀ q ∈ M, tmP q < 1000 + 400 * (lo : Int)) → (∀ (h : 0 < k) (h' : k - 1 < A.length), ∃ n g, n < lo ∧ g ≤ 1 ∧ nmE A[k - 1] = pick n g) →
    (jC 600).L f (A.map Ren0, A.map Ren0, (A.length : Int), (k : Int), M.map Ren1) = some (.inr ())
  | [], k, lo, f, M, hR, hf, hk, hE, hM, hN => by
    obtain ⟨f, rfl⟩ : ∃ f', f = f' + 1 := ⟨f - 1, by omega⟩
    show (jC 600).b _ _ ((jC 600).L f) some = _
    simp only [jC]
    have e2 : decide ((k : Int) < (A.length : Int)) = false := by rw [decide_eq_false_iff_not]; simp at hk; omega
    simp only [e2]
  | e :: R, k, lo, f, M, hR, hf, hk, hE, hM, hN => by
    obtain ⟨f, rfl⟩ : ∃ f', f = f' + 1 := ⟨f - 1, by omega⟩
    rw [List.length_cons] at hf hk
    have hkl : k < A.length := by omega
    have hek : A[k] = e := by
      have := List.drop_eq_getElem_cons hkl
      rw [hR] at this
      exact (List.cons.inj this).1.symm
    obtain ⟨n, hn, ⟨g, c, c1, c2, c3, c4, c5, c6⟩, hE'⟩ := hE
    have hn5 : n + 1 ≤ 5 := by
      have : ∀ (L : List RT0) (lo hi : Nat), Evs lo hi L → lo ≤ hi := fun L => by
        induction L with
        | nil => exact fun lo hi h => h
        | cons a L ih => exact fun lo hi ⟨n, h1, _, h3⟩ => by have := ih _ _ h3; omega
      exact this _ _ _ hE'
    have e2 : decide ((k : Int) < (A.length : Int)) = true := by rw [decide_eq_true_iff]; omega
    have e3 : (0 : Int) ≤ (k : Int) := by omega
    have r1 := zcZ A hA R (k + 1) (n + 1) f (M ++ pks n g c) (by rw [← List.tail_drop, hR]; rfl) (by omega) (by omega) hE' (fun q hq => by
      rcases List.mem_append.1 hq with h | h
      · have := hM q h; omega
      · exact (zg6 c2 q h).2) (fun _ h' => ⟨n, g, by omega, c3, by simp only [Nat.add_sub_cancel]; rw [hek]; exact c4⟩)
    have s1 := zjV n g c (by omega) c1 c2 c3
    have s2 := name_ok n g c (by omega) c1 c2 c3
    have sl := zky (A.map Ren0) (A.map Ren0) (A.length : Int) (k : Int) (pks n g c) (by rw [jR]; omega) (zku n g c c2) (pks n g c).length 0 600 M (by omega) (by rw [jR]; omega) (fun p hp hm => by
      have h1 := (zg6 c2 p hp).1
      have h2 := hM p hm
      omega)
    rw [List.drop_zero] at sl
    replace sl : (ZH 600).L 600 (A.map Ren0, A.map Ren0, (pks n g c).map Ren1, (A.length : Int), (k : Int), ((pks n g c).length : Int), 0, M.map Ren1) = some (.inr (A.map Ren0, A.map Ren0, (A.length : Int), (k : Int), (M ++ pks n g c).map Ren1)) := sl
    have c5' : e.2.2.2.2.2.2.2.2.2.1 = (pks n g c).map Ren1 := c5
    have e4 : (((pks n g c).length : Int) == 0) = false := by rw [jR]; simp; omega
    have e5 : eqP (nmE e) (pick n g) = true := by rw [c4]; exact zat _
    show (jC 600).b _ _ ((jC 600).L f) some = _
    obtain ⟨Lf, hLf⟩ : ∃ Lf, Lf = (jC 600).L f := ⟨_, rfl⟩
    rw [← hLf] at r1 ⊢
    simp only [jC]
    simp only [e2, e3, if_true, Int.toNat_natCast, get0 A k hkl, hek, ZP, c5', List.length_map, e4, s1, s2, e5, Bool.not_true]
    by_cases hk0 : (k : Int) > 0
    · have hk1 : i64 ((k : Int) - 1) = ((k - 1 : Nat) : Int) := by rw [zN (by omega)]; omega
      obtain ⟨n', g', z1, z2, z3⟩ := hN (by omega) (by omega)
      have hl := (zlP n' n g' g (by omega) (by omega) z2 c3).1
      rw [← c4] at hl
      rw [← z3] at hl
      have e6 : decide ((-1 : Int) ≥ 0) = false := by decide
      have e7 : (0 : Int) ≤ ((k - 1 : Nat) : Int) := by omega
      simp only [hk0, decide_true, hk1, e7, if_true, Int.toNat_natCast, get0 A (k - 1) (by omega), nm0, hl, e6, sl, zn (show k < 1000000 by omega)]
      exact r1
    · simp only [hk0, decide_false, sl, zn (show k < 1000000 by omega)]
      exact r1
theorem zbB {L : List RT0} {lo hi : Nat} : Evs lo hi L → L.length + lo ≤ hi := by
  induction L generalizing lo with
  | nil => intro h; have h' : lo ≤ hi := h; rw [List.length_nil]; omega
  | cons a L ih => exact fun ⟨n, h1, _, h3⟩ => by have := ih h3; rw [List.length_cons]; omega
theorem zf2 {A : List RT0} {m : Nat} (hm : m ≤ 5) (h : Evs 0 m A) : F44_d 600 (A.map Ren0) = some true := by
  have hl := zbB h
  have := zcZ A (by omega) A 0 0 600 [] rfl (by omega) (by omega) (h.mono hm) (fun q hq => by cases hq) (fun h => by omega)
  replace this : (jC 600).L 600 (A.map Ren0, A.map Ren0, (A.length : Int), 0, []) = some (.inr ()) := this
  simp only [F44_d, FSpec.d, zhs, F44_d5, List.length_map, this]
def PkOk (e : RT0) : Prop := ∃ P : List RT1, P.length ≤ 4 ∧ pkE e = P.map Ren1
theorem EvAt.pk {n : Nat} {e : RT0} (h : EvAt n e) : PkOk e := by
  obtain ⟨f, c, h1, h2, h3, h4, h5, h6⟩ := h
  exact ⟨pks n f c, by rw [jR]; omega, h5⟩
theorem Evs.all : ∀ {E : List RT0} {lo hi : Nat}, Evs lo hi E → ∀ e ∈ E, ∃ n, lo ≤ n ∧ n < hi ∧ EvAt n e
  | [], lo, hi, h, e, he => by cases he
  | a :: E, lo, hi, h, e, he => by
    obtain ⟨n, h1, h2, h3⟩ := h
    have := zbB h3
    rcases List.mem_cons.1 he with h | h
    · subst h; exact ⟨n, h1, by omega, h2⟩
    · obtain ⟨m, q1, q2, q3⟩ := h3.all e h
      exact ⟨m, by omega, q2, q3⟩
theorem Evs.names : ∀ {E : List RT0} {lo hi : Nat}, Evs lo hi E → E.Pairwise fun a b => nmE a ≠ nmE b
  | [], lo, hi, h => .nil
  | a :: E, lo, hi, h => by
    obtain ⟨n, h1, ⟨f, c, c1, c2, c3, c4, c5, c6⟩, h3⟩ := h
    refine .cons (fun b hb e => ?_) h3.names
    obtain ⟨m, q1, q2, f', c', z1, z2, z3, z4, z5, z6⟩ := h3.all b hb
    rw [c4, z4] at e
    have := zgY (by omega) (by omega) e
    omega
theorem Evs.pk {E : List RT0} {lo hi : Nat} (h : Evs lo hi E) : ∀ e ∈ E, PkOk e := fun e he => by
  obtain ⟨n, _, _, q⟩ := h.all e he
  exact q.pk
structure EvOk (E : List RT0) : Prop where
  v : F44_d 600 (E.map Ren0) = some true
  l : E.length ≤ 5
  names : E.Pairwise fun a b => nmE a ≠ nmE b
  pk : ∀ e ∈ E, PkOk e
theorem Evs.ok {E : List RT0} {m : Nat} (hm : m ≤ 5) (h : Evs 0 m E) : EvOk E := ⟨zf2 hm h, by have := zbB h; omega, h.names, h.pk⟩
end Go.Proofs.Ytnnfpoelkdgjdaa
end
section
namespace Go.Proofs.Ytnnfpoelkdgjdaa
set_option linter.unusedVariables false
set_option linter.unusedSimpArgs false
set_option linter.unnecessarySimpa false
theorem com_in (A B : List (List AV)) (P Q : List RT1) (i : Nat) (hi : i < P.length) (hA : A = P.map Ren1) (hB : B = Q.map Ren1) (hQ : Q.length ≤ 500) : ∀ (d k f : Nat), k + d = Q.length → d < f → ∃ y, (Zk 600).L f (A, B, (i : Int), (k : Int)) = some y ∧ ((P[i] ∈ Q.drop k ∧ y = .inl (A, B, true, (i : Int))) ∨ (P[i] ∉ Q.drop k ∧ y = .inr (A, B, (i : Int)))) := by
  subst hA hB
  intro d
  induction d with
  | zero =>
    intro k f hk hf
    obtain ⟨f, rfl⟩ : ∃ f', f = f' + 1 := ⟨f - 1, by omega⟩
    refine ⟨_, ?_, .inr ⟨by rw [List.drop_eq_nil_of_le (by omega)]; simp, rfl⟩⟩
    show (Zk 600).b _ _ ((Zk 600).L f) some = _
    simp only [Zk]
    have e2 : decide ((k : Int) < (Q.length : Int)) = false := by rw [decide_eq_false_iff_not]; omega
    simp only [List.length_map, e2]
  | succ d ih =>
    intro k f hk hf
    obtain ⟨f, rfl⟩ : ∃ f', f = f' + 1 := ⟨f - 1, by omega⟩
    have hkl : k < Q.length := by omega
    have e2 : decide ((k : Int) < (Q.length : Int)) = true := by rw [decide_eq_true_iff]; omega
    have e3 : (0 : Int) ≤ (k : Int) := by omega
    have e4 : (0 : Int) ≤ (i : Int) := by omega
    by_cases hc : P[i] = Q[k]
    · refine ⟨_, ?_, .inl ⟨(zw hkl _).2 (.inl hc), rfl⟩⟩
      show (Zk 600).b _ _ ((Zk 600).L f) some = _
      simp only [Zk]
      have e5 : eqP P[i] Q[k] = true := by rw [hc]; exact zat _
      simp only [List.length_map, e2, e3, e4, if_true, Int.toNat_natCast, get1 Q k hkl, get1 P i hi, jT, e5]
    · obtain ⟨y, r1, r2⟩ := ih (k + 1) f (by omega) (by omega)
      refine ⟨y, ?_, ?_⟩
      · show (Zk 600).b _ _ ((Zk 600).L f) some = _
        obtain ⟨Lf, hLf⟩ : ∃ Lf, Lf = (Zk 600).L f := ⟨_, rfl⟩
        rw [← hLf] at r1 ⊢
        simp only [Zk]
        have e5 : eqP P[i] Q[k] = false := za3 hc
        simp only [List.length_map, e2, e3, e4, if_true, Int.toNat_natCast, get1 Q k hkl, get1 P i hi, jT, e5, zn (show k < 1000000 by omega)]
        exact r1
      · rcases r2 with ⟨h1, h2⟩ | ⟨h1, h2⟩
        · exact .inl ⟨(zw hkl _).2 (.inr h1), h2⟩
        · exact .inr ⟨fun h => ((zw hkl _).1 h).elim hc h1, h2⟩
theorem com_out (P Q : List RT1) (hP : P.length ≤ 500) (hQ : Q.length ≤ 500) : ∀ (d k f : Nat), k + d = P.length → d < f → ∃ y, (Z2 600).L f (P.map Ren1, Q.map Ren1, (k : Int)) = some y ∧ ((Com (P.drop k) Q ∧ y = .inl true) ∨ (¬ Com (P.drop k) Q ∧ y = .inr ())) := by
  intro d
  induction d with
  | zero =>
    intro k f hk hf
    obtain ⟨f, rfl⟩ : ∃ f', f = f' + 1 := ⟨f - 1, by omega⟩
    refine ⟨_, ?_, .inr ⟨by (rw [List.drop_eq_nil_of_le (by omega)]; rintro ⟨p, h, -⟩; cases h), rfl⟩⟩
    show (Z2 600).b _ _ ((Z2 600).L f) some = _
    simp only [Z2]
    have e2 : decide ((k : Int) < (P.length : Int)) = false := by rw [decide_eq_false_iff_not]; omega
    simp only [List.length_map, e2]
  | succ d ih =>
    intro k f hk hf
    obtain ⟨f, rfl⟩ : ∃ f', f = f' + 1 := ⟨f - 1, by omega⟩
    have hkl : k < P.length := by omega
    have e2 : decide ((k : Int) < (P.length : Int)) = true := by rw [decide_eq_true_iff]; omega
    obtain ⟨z, q1, q2⟩ := com_in _ _ P Q k hkl rfl rfl hQ Q.length 0 600 (by omega) (by omega)
    replace q1 : (Zk 600).L 600 (P.map Ren1, Q.map Ren1, (k : Int), 0) = some z := q1
    rw [List.drop_zero] at q2
    rcases q2 with ⟨g1, rfl⟩ | ⟨g1, rfl⟩
    · refine ⟨_, ?_, .inl ⟨⟨P[k], (zw hkl _).2 (.inl rfl), g1⟩, rfl⟩⟩
      show (Z2 600).b _ _ ((Z2 600).L f) some = _
      simp only [Z2]
      simp only [List.length_map, e2, zfZ, q1]
    · obtain ⟨y, r1, r2⟩ := ih (k + 1) f (by omega) (by omega)
      refine ⟨y, ?_, ?_⟩
      · show (Z2 600).b _ _ ((Z2 600).L f) some = _
        obtain ⟨Lf, hLf⟩ : ∃ Lf, Lf = (Z2 600).L f := ⟨_, rfl⟩
        rw [← hLf] at r1 ⊢
        simp only [Z2]
        simp only [List.length_map, e2, zfZ, q1, zn (show k < 1000000 by omega)]
        exact r1
      · rcases r2 with ⟨⟨p, h1, h2⟩, h3⟩ | ⟨h1, h2⟩
        · exact .inl ⟨⟨p, (zw hkl _).2 (.inr h1), h2⟩, h3⟩
        · refine .inr ⟨fun ⟨p, h, h'⟩ => ?_, h2⟩
          rcases (zw hkl _).1 h with e | e
          · subst e; exact g1 h'
          · exact h1 ⟨p, e, h'⟩
theorem com34 (P Q : List RT1) (hP : P.length ≤ 500) (hQ : Q.length ≤ 500) : ∃ b, F86_d 600 (P.map Ren1, Q.map Ren1) = some b ∧ (b = true ↔ Com P Q) := by
  obtain ⟨y, h1, h2⟩ := com_out P Q hP hQ P.length 0 600 (by omega) (by omega)
  replace h1 : (Z2 600).L 600 (P.map Ren1, Q.map Ren1, 0) = some y := h1
  rw [List.drop_zero] at h2
  simp only [F86_d, FSpec.d, ziB, F86_d4, h1]
  rcases h2 with ⟨h2, rfl⟩ | ⟨h2, rfl⟩
  · exact ⟨_, rfl, by simp [h2]⟩
  · exact ⟨_, rfl, by simp [h2]⟩
theorem cmm_in (A B : List (List AV)) (P Q : List RT1) (i : Nat) (hi : i < P.length) (hA : A = P.map Ren1) (hB : B = Q.map Ren1) (hQ : Q.length ≤ 500) : ∀ (d k f : Nat), k + d = Q.length → d < f → ∃ y, (Zj 600).L f (A, B, (i : Int), (k : Int)) = some y ∧ ((P[i] ∈ Q.drop k ∧ y = .inl (A, B, true, (i : Int))) ∨ (P[i] ∉ Q.drop k ∧ y = .inr (A, B, (i : Int)))) := by
  subst hA hB
  intro d
  induction d with
  | zero =>
    intro k f hk hf
    obtain ⟨f, rfl⟩ : ∃ f', f = f' + 1 := ⟨f - 1, by omega⟩
    refine ⟨_, ?_, .inr ⟨by rw [List.drop_eq_nil_of_le (by omega)]; simp, rfl⟩⟩
    show (Zj 600).b _ _ ((Zj 600).L f) some = _
    simp only [Zj]
    have e2 : decide ((k : Int) < (Q.length : Int)) = false := by rw [decide_eq_false_iff_not]; omega
    simp only [List.length_map, e2]
  | succ d ih =>
    intro k f hk hf
    obtain ⟨f, rfl⟩ : ∃ f', f = f' + 1 := ⟨f - 1, by omega⟩
    have hkl : k < Q.length := by omega
    have e2 : decide ((k : Int) < (Q.length : Int)) = true := by rw [decide_eq_true_iff]; omega
    have e3 : (0 : Int) ≤ (k : Int) := by omega
    have e4 : (0 : Int) ≤ (i : Int) := by omega
    by_cases hc : P[i] = Q[k]
    · refine ⟨_, ?_, .inl ⟨(zw hkl _).2 (.inl hc), rfl⟩⟩
      show (Zj 600).b _ _ ((Zj 600).L f) some = _
      simp only [Zj]
      have e5 : eqP P[i] Q[k] = true := by rw [hc]; exact zat _
      simp only [List.length_map, e2, e3, e4, if_true, Int.toNat_natCast, get1 Q k hkl, get1 P i hi, jT, e5]
    · obtain ⟨y, r1, r2⟩ := ih (k + 1) f (by omega) (by omega)
      refine ⟨y, ?_, ?_⟩
      · show (Zj 600).b _ _ ((Zj 600).L f) some = _
        obtain ⟨Lf, hLf⟩ : ∃ Lf, Lf = (Zj 600).L f := ⟨_, rfl⟩
        rw [← hLf] at r1 ⊢
        simp only [Zj]
        have e5 : eqP P[i] Q[k] = false := za3 hc
        simp only [List.length_map, e2, e3, e4, if_true, Int.toNat_natCast, get1 Q k hkl, get1 P i hi, jT, e5, zn (show k < 1000000 by omega)]
        exact r1
      · rcases r2 with ⟨h1, h2⟩ | ⟨h1, h2⟩
        · exact .inl ⟨(zw hkl _).2 (.inr h1), h2⟩
        · exact .inr ⟨fun h => ((zw hkl _).1 h).elim hc h1, h2⟩
theorem cmm_out (P Q : List RT1) (hP : P.length ≤ 500) (hQ : Q.length ≤ 500) : ∀ (d k f : Nat), k + d = P.length → d < f → ∃ y, (Z0 600).L f (P.map Ren1, Q.map Ren1, (k : Int)) = some y ∧ ((Com (P.drop k) Q ∧ y = .inl true) ∨ (¬ Com (P.drop k) Q ∧ y = .inr ())) := by
  intro d
  induction d with
  | zero =>
    intro k f hk hf
    obtain ⟨f, rfl⟩ : ∃ f', f = f' + 1 := ⟨f - 1, by omega⟩
    refine ⟨_, ?_, .inr ⟨by (rw [List.drop_eq_nil_of_le (by omega)]; rintro ⟨p, h, -⟩; cases h), rfl⟩⟩
    show (Z0 600).b _ _ ((Z0 600).L f) some = _
    simp only [Z0]
    have e2 : decide ((k : Int) < (P.length : Int)) = false := by rw [decide_eq_false_iff_not]; omega
    simp only [List.length_map, e2]
  | succ d ih =>
    intro k f hk hf
    obtain ⟨f, rfl⟩ : ∃ f', f = f' + 1 := ⟨f - 1, by omega⟩
    have hkl : k < P.length := by omega
    have e2 : decide ((k : Int) < (P.length : Int)) = true := by rw [decide_eq_true_iff]; omega
    obtain ⟨z, q1, q2⟩ := cmm_in _ _ P Q k hkl rfl rfl hQ Q.length 0 600 (by omega) (by omega)
    replace q1 : (Zj 600).L 600 (P.map Ren1, Q.map Ren1, (k : Int), 0) = some z := q1
    rw [List.drop_zero] at q2
    rcases q2 with ⟨g1, rfl⟩ | ⟨g1, rfl⟩
    · refine ⟨_, ?_, .inl ⟨⟨P[k], (zw hkl _).2 (.inl rfl), g1⟩, rfl⟩⟩
      show (Z0 600).b _ _ ((Z0 600).L f) some = _
      simp only [Z0]
      simp only [List.length_map, e2, zgh, q1]
    · obtain ⟨y, r1, r2⟩ := ih (k + 1) f (by omega) (by omega)
      refine ⟨y, ?_, ?_⟩
      · show (Z0 600).b _ _ ((Z0 600).L f) some = _
        obtain ⟨Lf, hLf⟩ : ∃ Lf, Lf = (Z0 600).L f := ⟨_, rfl⟩
        rw [← hLf] at r1 ⊢
        simp only [Z0]
        simp only [List.length_map, e2, zgh, q1, zn (show k < 1000000 by omega)]
        exact r1
      · rcases r2 with ⟨⟨p, h1, h2⟩, h3⟩ | ⟨h1, h2⟩
        · exact .inl ⟨⟨p, (zw hkl _).2 (.inr h1), h2⟩, h3⟩
        · refine .inr ⟨fun ⟨p, h, h'⟩ => ?_, h2⟩
          rcases (zw hkl _).1 h with e | e
          · subst e; exact g1 h'
          · exact h1 ⟨p, e, h'⟩
theorem com36 (P Q : List RT1) (hP : P.length ≤ 500) (hQ : Q.length ≤ 500) : ∃ b, F74_d 600 (P.map Ren1, Q.map Ren1) = some b ∧ (b = true ↔ Com P Q) := by
  obtain ⟨y, h1, h2⟩ := cmm_out P Q hP hQ P.length 0 600 (by omega) (by omega)
  replace h1 : (Z0 600).L 600 (P.map Ren1, Q.map Ren1, 0) = some y := h1
  rw [List.drop_zero] at h2
  simp only [F74_d, FSpec.d, zhC, F74_d4, h1]
  rcases h2 with ⟨h2, rfl⟩ | ⟨h2, rfl⟩
  · exact ⟨_, rfl, by simp [h2]⟩
  · exact ⟨_, rfl, by simp [h2]⟩
end Go.Proofs.Ytnnfpoelkdgjdaa
end
section
namespace Go.Proofs.Ytnnfpoelkdgjdaa
set_option linter.unusedVariables false
set_option linter.unusedSimpArgs false
set_option linter.unnecessarySimpa false
theorem pk0 (e : RT0) : (((Ren0 e).drop 9).drop 0)[0]? = some (AV.list 9 (pkE e) none) := rfl
theorem lst9 (xs : List (List AV)) : zbF 9 (AV.list 9 xs none) = some xs := by simp [zbF]
theorem zis (A : List RT0) (P : List RT1) (i : Nat) (hi : i ≤ A.length) (hA : A.length ≤ 500) (hP : P.length ≤ 500) (h : ∀ k (h : k < A.length), k < i → ∃ Q : List RT1, Q.length ≤ 500 ∧ pkE A[k] = Q.map Ren1 ∧ ¬ Com P Q) : ∀ (d k f : Nat), k + d = i → d < f → (ZD 600).L f (A.map Ren0, P.map Ren1, (i : Int), (k : Int)) = some (.inr (A.map Ren0, (i : Int))) := by
  intro d
  induction d with
  | zero =>
    intro k f hk hf
    obtain ⟨f, rfl⟩ : ∃ f', f = f' + 1 := ⟨f - 1, by omega⟩
    show (ZD 600).b _ _ ((ZD 600).L f) some = _
    simp only [ZD]
    have e2 : decide ((k : Int) < (i : Int)) = false := by rw [decide_eq_false_iff_not]; omega
    simp only [e2]
  | succ d ih =>
    intro k f hk hf
    obtain ⟨f, rfl⟩ : ∃ f', f = f' + 1 := ⟨f - 1, by omega⟩
    have hkl : k < A.length := by omega
    have e2 : decide ((k : Int) < (i : Int)) = true := by rw [decide_eq_true_iff]; omega
    have e3 : (0 : Int) ≤ (k : Int) := by omega
    obtain ⟨Q, q1, q2, q3⟩ := h k hkl (by omega)
    obtain ⟨b, b1, b2⟩ := com34 P Q hP q1
    obtain rfl : b = false := by cases b with | false => rfl | true => exact absurd (b2.1 rfl) q3
    have r1 := ih (k + 1) f (by omega) (by omega)
    show (ZD 600).b _ _ ((ZD 600).L f) some = _
    obtain ⟨Lf, hLf⟩ : ∃ Lf, Lf = (ZD 600).L f := ⟨_, rfl⟩
    rw [← hLf] at r1 ⊢
    simp only [ZD]
    simp only [e2, e3, if_true, Int.toNat_natCast, get0 A k hkl, pk0, lst9, q2, b1, zn (show k < 1000000 by omega)]
    exact r1
theorem zco (A : List RT0) (hA : A.length ≤ 5) : ∀ (R : List RT0) (k lo f : Nat), A.drop k = R → R.length < f → k + R.length = A.length → Evs lo 5 R → (∀ j (h : j < A.length), j < k → ∃ n, n < lo ∧ EvAt n A[j]) →
    (jB 600).L f (A.map Ren0, (k : Int)) = some (.inr ())
  | [], k, lo, f, hR, hf, hk, hE, hN => by
    obtain ⟨f, rfl⟩ : ∃ f', f = f' + 1 := ⟨f - 1, by omega⟩
    show (jB 600).b _ _ ((jB 600).L f) some = _
    simp only [jB]
    have e2 : decide ((k : Int) < (A.length : Int)) = false := by rw [decide_eq_false_iff_not]; simp at hk; omega
    simp only [List.length_map, e2]
  | e :: R, k, lo, f, hR, hf, hk, hE, hN => by
    obtain ⟨f, rfl⟩ : ∃ f', f = f' + 1 := ⟨f - 1, by omega⟩
    rw [List.length_cons] at hf hk
    have hkl : k < A.length := by omega
    have hek : A[k] = e := by
      have := List.drop_eq_getElem_cons hkl
      rw [hR] at this
      exact (List.cons.inj this).1.symm
    obtain ⟨n, hn, hev, hE'⟩ := hE
    have hn5 := zbB hE'
    have r1 := zco A hA R (k + 1) (n + 1) f (by rw [← List.tail_drop, hR]; rfl) (by omega) (by omega) hE' (fun j h hj => by
      by_cases hc : j = k
      · subst hc; exact ⟨n, by omega, by rw [hek]; exact hev⟩
      · obtain ⟨m, h1, h2⟩ := hN j h (by omega); exact ⟨m, by omega, h2⟩)
    obtain ⟨g, c, c1, c2, c3, c4, c5, c6⟩ := hev
    have e2 : decide ((k : Int) < (A.length : Int)) = true := by rw [decide_eq_true_iff]; omega
    have e3 : (0 : Int) ≤ (k : Int) := by omega
    have s1 := rname_ok n g c (by omega) c1 c2 c3
    have s2 := rsort_ok n g c (by omega) c1 c2 c3
    have s3 := rsame_ok n g c (by omega) c1 c2 c3
    have sl := zis A (pks n g c) k (by omega) (by omega) (by rw [jR]; omega) (fun j h hj => by
      obtain ⟨m, h1, g', c', z1, z2, z3, z4, z5, z6⟩ := hN j h hj
      refine ⟨pks m g' c', by rw [jR]; omega, z5, fun ⟨p, q1, q2⟩ => ?_⟩
      have t1 := (zg6 c2 p q1).1
      have t2 := (zg6 z2 p q2).2
      omega) k 0 600 (by omega) (by omega)
    replace sl : (ZD 600).L 600 (A.map Ren0, (pks n g c).map Ren1, (k : Int), 0) = some (.inr (A.map Ren0, (k : Int))) := sl
    have e4 : (((pks n g c).length : Int) == 0) = false := by rw [jR]; simp; omega
    have e5 : eqP (nmE e) (pick n g) = true := by rw [c4]; exact zat _
    show (jB 600).b _ _ ((jB 600).L f) some = _
    obtain ⟨Lf, hLf⟩ : ∃ Lf, Lf = (jB 600).L f := ⟨_, rfl⟩
    rw [← hLf] at r1 ⊢
    simp only [jB]
    simp only [List.length_map, e2, e3, if_true, Int.toNat_natCast, get0 A k hkl, hek, pk0, lst9, c5, e4, nm0, s1, s2, s3, e5, Bool.not_true]
    by_cases hk0 : (k : Int) > 0
    · have hk1 : i64 ((k : Int) - 1) = ((k - 1 : Nat) : Int) := by rw [zN (by omega)]; omega
      obtain ⟨n', z0, g', c', z1, z2, z3, z4, z5, z6⟩ := hN (k - 1) (by omega) (by omega)
      have hl := (zlP n' n g' g (by omega) (by omega) z3 c3).2
      rw [← c4] at hl
      rw [← z4] at hl
      have e6 : decide ((-1 : Int) ≥ 0) = false := by decide
      have e7 : (0 : Int) ≤ ((k - 1 : Nat) : Int) := by omega
      simp only [hk0, decide_true, hk1, e7, if_true, Int.toNat_natCast, get0 A (k - 1) (by omega), nm0, hl, e6, zep, sl, zn (show k < 1000000 by omega)]
      exact r1
    · simp only [hk0, decide_false, zep, sl, zn (show k < 1000000 by omega)]
      exact r1
theorem zfz {A : List RT0} {m : Nat} (hm : m ≤ 5) (h : Evs 0 m A) : F73_d 600 (A.map Ren0) = some true := by
  have hl := zbB h
  have := zco A (by omega) A 0 0 600 rfl (by omega) (by omega) (h.mono hm) (fun j _ hj => by omega)
  replace this : (jB 600).L 600 (A.map Ren0, 0) = some (.inr ()) := this
  simp only [F73_d, FSpec.d, zja, F73_d4, this]
end Go.Proofs.Ytnnfpoelkdgjdaa
end
section
namespace Go.Proofs.Ytnnfpoelkdgjdaa
set_option linter.unusedVariables false
set_option linter.unusedSimpArgs false
set_option linter.unnecessarySimpa false
structure RlOkk (r : RT4) : Prop where
  m : -1000 ≤ r.1 ∧ r.1 ≤ 1000
  p : 1 ≤ r.2.1 ∧ r.2.1 ≤ 4
  f : 0 ≤ r.2.2.1 ∧ r.2.2.1 ≤ 100000
  d : 0 ≤ r.2.2.2.1 ∧ r.2.2.2.1 ≤ 100000
structure Pol (L : List RT4) (di ev : Int) : Prop where
  l : 1 ≤ L.length ∧ L.length ≤ 3
  r : ∀ r ∈ L, RlOkk r
  di : 0 ≤ di ∧ di ≤ 1000
  ev : 0 ≤ ev ∧ ev ≤ 500
theorem get4 (P : List RT4) (k : Nat) (h : k < P.length) : (P.map Ren4)[k]? = some (Ren4 P[k]) := by simp [h]
theorem pol_loop (xs0 : List Int) (b1 b2 : Int) : ∀ (d f : Nat) (p : Int) (L : List RT4), d < f → L.length + d ≤ 100 → Sc xs0 p → (∀ r ∈ L, RlOkk r) →
    ∃ (L' : List RT4) (p' : Int), (JI 600).L f ((d : Int), zC xs0, p, [], 0, 0, L.map Ren4, b1, b2) = some (zC xs0, p', [], 0, 0, L'.map Ren4, b1, b2) ∧ L'.length = L.length + d ∧ (∀ r ∈ L', RlOkk r) ∧ Sc xs0 p' := by
  intro d
  induction d with
  | zero =>
    intro f p L hf hd D hL
    obtain ⟨f, rfl⟩ : ∃ f', f = f' + 1 := ⟨f - 1, by omega⟩
    refine ⟨L, p, ?_, by omega, hL, D⟩
    show (JI 600).b _ _ ((JI 600).L f) some = _
    simp only [JI]
    rfl
  | succ d ih =>
    intro f p L hf hd D hL
    obtain ⟨f, rfl⟩ : ∃ f', f = f' + 1 := ⟨f - 1, by omega⟩
    obtain ⟨v1, p1, h1, m1, D1⟩ := n_ok 600 (n := 400) (by omega) D
    obtain ⟨v2, p2, h2, m2, D2⟩ := n_ok 600 (n := 4) (by omega) D1
    obtain ⟨v3, p3, h3, m3, D3⟩ := zbZ 600 [0, 10, 100, 10000] (by simp) D2
    replace h3 : zbg 600 ([[AV.v (.int .i64 0)], [AV.v (.int .i64 10)], [AV.v (.int .i64 100)], [AV.v (.int .i64 10000)]], zC xs0, p2) = some (v3, zC xs0, p3) := h3
    obtain ⟨v4, p4, h4, m4, D4⟩ := zbZ 600 [0, 500, 2000, 100000] (by simp) D3
    replace h4 : zbg 600 ([[AV.v (.int .i64 0)], [AV.v (.int .i64 500)], [AV.v (.int .i64 2000)], [AV.v (.int .i64 100000)]], zC xs0, p3) = some (v4, zC xs0, p4) := h4
    obtain ⟨L', p', r1, r2, r3, r4⟩ := ih f p4 (L ++ [(v1 - 100, 1 + v2, v3, v4, ())]) (by omega) (by simp; omega) D4 (fun r hr => by
      rcases List.mem_append.1 hr with h | h
      · exact hL r h
      · have h := List.mem_singleton.1 h
        subst h
        simp at m3 m4
        exact ⟨by dsimp only; omega, by dsimp only; omega, by dsimp only; omega, by dsimp only; omega⟩)
    refine ⟨L', p', ?_, by rw [r2]; simp; omega, r3, r4⟩
    show (JI 600).b _ _ ((JI 600).L f) some = _
    obtain ⟨Lf, hLf⟩ : ∃ Lf, Lf = (JI 600).L f := ⟨_, rfl⟩
    rw [← hLf] at r1 ⊢
    simp only [JI]
    have hk : decide (((d + 1 : Nat) : Int) > 0) = true := by simp
    have hi : i64 (((d + 1 : Nat) : Int) - 1) = (d : Int) := by rw [zN (by omega)]; omega
    have e1 : i64 (v1 - 100) = v1 - 100 := zN (by omega)
    have e2 : i64 (1 + v2) = 1 + v2 := zN (by omega)
    have hb : ∀ r : List AV, ((L.map Ren4).length + [r].length) * 32 ≤ zl := fun r => by
      rw [List.length_map]; unfold zl; simp; omega
    simp only [hk, hi, h1, h2, h3, h4, e1, e2, hb, if_true]
    rw [List.map_append] at r1
    exact r1
theorem zkq {xs : List Int} {p : Int} (D : Sc xs p) : ∃ (L : List RT4) (di ev p' : Int), F8_d 600 (zC xs, p) = some (L.map Ren4, di, ev, zC xs, p') ∧ Pol L di ev ∧ Sc xs p' := by
  obtain ⟨v1, p1, h1, m1, D1⟩ := zbZ 600 [0, 2, 10, 1000] (by simp) D
  replace h1 : zbg 600 ([[AV.v (.int .i64 0)], [AV.v (.int .i64 2)], [AV.v (.int .i64 10)], [AV.v (.int .i64 1000)]], zC xs, p) = some (v1, zC xs, p1) := h1
  obtain ⟨v2, p2, h2, m2, D2⟩ := zbZ 600 [0, 0, 50, 500] (by simp) D1
  replace h2 : zbg 600 ([[AV.v (.int .i64 0)], [AV.v (.int .i64 0)], [AV.v (.int .i64 50)], [AV.v (.int .i64 500)]], zC xs, p1) = some (v2, zC xs, p2) := h2
  obtain ⟨v3, p3, h3, m3, D3⟩ := n_ok 600 (n := 3) (by omega) D2
  obtain ⟨L, p4, h4, hl, hL, D4⟩ := pol_loop xs v1 v2 (1 + v3).toNat 600 p3 [] (by omega) (by simp; omega) D3 (fun r h => by cases h)
  rw [show (((1 + v3).toNat : Nat) : Int) = 1 + v3 by omega] at h4
  replace h4 : (JI 600).L 600 (1 + v3, zC xs, p3, [], 0, 0, [], v1, v2) = some (zC xs, p4, [], 0, 0, L.map Ren4, v1, v2) := h4
  have e1 : i64 (1 + v3) = 1 + v3 := zN (by omega)
  simp at m1 m2
  refine ⟨L, v1, v2, p4, ?_, ⟨by simp at hl; omega, hL, by omega, by omega⟩, D4⟩
  simp only [F8_d, FSpec.d, F8_s]
  simp only [h1, h2, h3, e1, F8_d5, h4]
def toRl (r : RT4) : Rl := ⟨r.1, r.2.1, r.2.2.1, r.2.2.2.1⟩
theorem zm1 : ∀ L : List RT4, zer (L.map Ren4) = some (L.map toRl)
  | [] => rfl
  | r :: L => by
    show (match rlOf (Ren4 r), zer (L.map Ren4) with | some x, some l => some (x :: l) | _, _ => none) = _
    rw [zm1 L]
    rfl
def lev (L : List RT4) (di ev : Int) (e : RT0) : Nat := levF (L.map toRl) di ev (lvEv (L.map Ren4, di, ev, e))
theorem zdO {L : List RT4} (di ev : Int) (e : RT0) (h : L.length ≤ 1000) : F31_d 600 (L.map Ren4, di, ev, e) = some (lev L di ev e : Int) := by
  simp only [F31_d, FSpec.d, F31_s, zm1]
  have : (L.map toRl).length ≤ 1000000 := by rw [List.length_map]; omega
  simp only [this, if_true]
  rfl
theorem lev_le (L : List RT4) (di ev : Int) (e : RT0) : lev L di ev e ≤ L.length := by
  unfold lev levF
  split
  · exact Nat.le_trans (zmn _ _ _) (by rw [List.length_map]; exact Nat.le_refl _)
  · exact Nat.zero_le _
theorem valid_rl (N : Nat) {r : RT4} (h : RlOkk r) : F65_d N r = some true := by
  obtain ⟨⟨m1, m2⟩, ⟨p1, p2⟩, ⟨f1, f2⟩, ⟨d1, d2⟩⟩ := h
  simp only [F65_d, FSpec.d, ziu]
  have e1 : decide (r.1 ≥ -1000) = true := by rw [decide_eq_true_iff]; omega
  have e2 : decide (r.1 ≤ 2000) = true := by rw [decide_eq_true_iff]; omega
  have e3 : decide (r.2.1 ≥ 1) = true := by rw [decide_eq_true_iff]; omega
  have e4 : decide (r.2.1 ≤ 64) = true := by rw [decide_eq_true_iff]; omega
  have e5 : decide ((if r.2.2.2.1 < r.2.2.1 then r.2.2.2.1 else r.2.2.1) ≥ 0) = true := by rw [decide_eq_true_iff]; split <;> omega
  have e6 : decide ((if r.2.2.2.1 > r.2.2.1 then r.2.2.2.1 else r.2.2.1) ≤ 9007199254740992) = true := by rw [decide_eq_true_iff]; split <;> omega
  simp only [e1, e2, e3, e4, e5, e6]
theorem zd4 {L : List RT4} (hL : ∀ r ∈ L, RlOkk r) (hl : L.length ≤ 500) : ∀ (d k f : Nat), k + d = L.length → d < f → (jt 600).L f (L.map Ren4, (L.length : Int), (k : Int)) = some (.inr ()) := by
  intro d
  induction d with
  | zero =>
    intro k f hk hf
    obtain ⟨f, rfl⟩ : ∃ f', f = f' + 1 := ⟨f - 1, by omega⟩
    show (jt 600).b _ _ ((jt 600).L f) some = _
    simp only [jt]
    have e2 : decide ((k : Int) < (L.length : Int)) = false := by rw [decide_eq_false_iff_not]; omega
    simp only [e2]
  | succ d ih =>
    intro k f hk hf
    obtain ⟨f, rfl⟩ : ∃ f', f = f' + 1 := ⟨f - 1, by omega⟩
    have hkl : k < L.length := by omega
    have e2 : decide ((k : Int) < (L.length : Int)) = true := by rw [decide_eq_true_iff]; omega
    have e3 : (0 : Int) ≤ (k : Int) := by omega
    have r1 := ih (k + 1) f (by omega) (by omega)
    show (jt 600).b _ _ ((jt 600).L f) some = _
    obtain ⟨Lf, hLf⟩ : ∃ Lf, Lf = (jt 600).L f := ⟨_, rfl⟩
    rw [← hLf] at r1 ⊢
    simp only [jt]
    simp only [e2, e3, if_true, Int.toNat_natCast, get4 L k hkl, zgw, valid_rl 600 (hL _ (List.getElem_mem hkl)), Bool.not_true, zn (show k < 1000000 by omega)]
    exact r1
theorem zce {L : List RT4} {di ev : Int} (P : Pol L di ev) : F43_d 600 (L.map Ren4, di, ev) = some 0 := by
  obtain ⟨⟨l1, l2⟩, hL, ⟨d1, d2⟩, ⟨v1, v2⟩⟩ := P
  have h := zd4 hL (by omega) L.length 0 600 (by omega) (by omega)
  replace h : (jt 600).L 600 (L.map Ren4, (L.length : Int), 0) = some (.inr ()) := h
  simp only [F43_d, FSpec.d, zcS, List.length_map]
  have e1 : decide ((L.length : Int) < 1) = false := by rw [decide_eq_false_iff_not]; omega
  have e2 : decide ((L.length : Int) > 8) = false := by rw [decide_eq_false_iff_not]; omega
  have e3 : decide ((if ev < di then ev else di) < 0) = false := by rw [decide_eq_false_iff_not]; split <;> omega
  have e4 : decide ((if ev > di then ev else di) > 9007199254740992) = false := by rw [decide_eq_false_iff_not]; split <;> omega
  simp only [e1, e2, e3, e4, F43_d8, h]
theorem zai (N : Nat) {x : Int} (h : 0 ≤ x ∧ x ≤ 100000) : zjp N x = some true := by
  simp only [zjp, FSpec.d, zhF]
  have e1 : decide (x ≥ 0) = true := by rw [decide_eq_true_iff]; omega
  have e2 : decide (x ≤ 9007199254740992) = true := by rw [decide_eq_true_iff]; omega
  simp only [e1, e2]
theorem zcB {L : List RT4} (di ev : Int) (hL : ∀ r ∈ L, RlOkk r) (hl : L.length ≤ 500) : ∀ (d k f : Nat), k + d = L.length → d < f → (ju 600).L f ((k : Int), L.map Ren4, di, ev) = some (.inr ()) := by
  intro d
  induction d with
  | zero =>
    intro k f hk hf
    obtain ⟨f, rfl⟩ : ∃ f', f = f' + 1 := ⟨f - 1, by omega⟩
    show (ju 600).b _ _ ((ju 600).L f) some = _
    simp only [ju]
    have e2 : decide ((k : Int) < (L.length : Int)) = false := by rw [decide_eq_false_iff_not]; omega
    simp only [List.length_map, e2]
  | succ d ih =>
    intro k f hk hf
    obtain ⟨f, rfl⟩ : ∃ f', f = f' + 1 := ⟨f - 1, by omega⟩
    have hkl : k < L.length := by omega
    have e2 : decide ((k : Int) < (L.length : Int)) = true := by rw [decide_eq_true_iff]; omega
    have e3 : (0 : Int) ≤ (k : Int) := by omega
    have r1 := ih (k + 1) f (by omega) (by omega)
    obtain ⟨⟨m1, m2⟩, ⟨p1, p2⟩, hf', hd'⟩ := hL _ (List.getElem_mem hkl)
    have a1 : decide (L[k].1 < -1000) = false := by rw [decide_eq_false_iff_not]; omega
    have a2 : decide (L[k].1 > 2000) = false := by rw [decide_eq_false_iff_not]; omega
    have a3 : decide (L[k].2.1 < 1) = false := by rw [decide_eq_false_iff_not]; omega
    have a4 : decide (L[k].2.1 > 64) = false := by rw [decide_eq_false_iff_not]; omega
    show (ju 600).b _ _ ((ju 600).L f) some = _
    obtain ⟨Lf, hLf⟩ : ∃ Lf, Lf = (ju 600).L f := ⟨_, rfl⟩
    rw [← hLf] at r1 ⊢
    simp only [ju]
    simp only [List.length_map, e2, e3, if_true, Int.toNat_natCast, get4 L k hkl, zgw, a1, a2, a3, a4, zai 600 hf', zai 600 hd', Bool.not_true, zn (show k < 1000000 by omega)]
    exact r1
theorem Jj {L : List RT4} {di ev : Int} (P : Pol L di ev) : zmA 600 (L.map Ren4, di, ev) = some 0 := by
  obtain ⟨⟨l1, l2⟩, hL, ⟨d1, d2⟩, ⟨v1, v2⟩⟩ := P
  have h := zcB di ev hL (by omega) L.length 0 600 (by omega) (by omega)
  replace h : (ju 600).L 600 (0, L.map Ren4, di, ev) = some (.inr ()) := h
  simp only [zmA, FSpec.d, zcT, List.length_map]
  have e1 : decide ((L.length : Int) < 1) = false := by rw [decide_eq_false_iff_not]; omega
  have e2 : decide ((L.length : Int) > 8) = false := by rw [decide_eq_false_iff_not]; omega
  simp only [e1, e2, zai 600 (show 0 ≤ di ∧ di ≤ 100000 by omega), zai 600 (show 0 ≤ ev ∧ ev ≤ 100000 by omega), Bool.not_true, F33_d8, h]
end Go.Proofs.Ytnnfpoelkdgjdaa
end
section
namespace Go.Proofs.Ytnnfpoelkdgjdaa
set_option linter.unusedVariables false
set_option linter.unusedSimpArgs false
set_option linter.unnecessarySimpa false
@[reducible] def tmE (e : RT0) : Int := e.2.2.2.2.2.2.2.2.2.2.2.2.2.1
theorem dr3 (r : RT4) : ((Ren4 r).drop 3)[0]? = some (AV.v (.int .i64 r.2.2.2.1)) := rfl
theorem zlc {L : List RT4} {di ev : Int} (P : Pol L di ev) (e : RT0) (now : Int) : ∃ b, zk7 600 (L.map Ren4, di, ev, e, now) = some b ∧ (lev L di ev e = 0 → b = false) := by
  have hl := P.l
  simp only [zk7, FSpec.d, zcD]
  rw [zdO di ev e (by omega)]
  have h2 := lev_le L di ev e
  by_cases h0 : lev L di ev e = 0
  · simp only [h0]
    exact ⟨false, rfl, fun _ => rfl⟩
  · have e1 : ((lev L di ev e : Int) == 0) = false := by simp; omega
    have e2 : i64 ((lev L di ev e : Int) - 1) = ((lev L di ev e - 1 : Nat) : Int) := by rw [zN (by omega)]; omega
    have e3 : (0 : Int) ≤ ((lev L di ev e - 1 : Nat) : Int) := by omega
    simp only [e1, e2]
    cases hd : decide (i64 (now - tmE e) ≥ 0) with
    | true =>
      simp only [e3, if_true, Int.toNat_natCast, get4 L _ (show lev L di ev e - 1 < L.length by omega), dr3]
      exact ⟨_, rfl, fun h => absurd h h0⟩
    | false => exact ⟨false, rfl, fun _ => rfl⟩
theorem zgc (x y z : Int) : ∀ (d k f : Nat), k + d = 3 → d < f → ∃ q, (Z9 600).L f (x, y, z, (k : Int), -1048576, -1048576, -16384) = some q := by
  intro d
  induction d with
  | zero =>
    intro k f hk hf
    obtain ⟨f, rfl⟩ : ∃ f', f = f' + 1 := ⟨f - 1, by omega⟩
    refine ⟨.inr (), ?_⟩
    show (Z9 600).b _ _ ((Z9 600).L f) some = _
    simp only [Z9]
    have e2 : decide ((k : Int) < 3) = false := by rw [decide_eq_false_iff_not]; omega
    simp only [e2]
  | succ d ih =>
    intro k f hk hf
    obtain ⟨f, rfl⟩ : ∃ f', f = f' + 1 := ⟨f - 1, by omega⟩
    obtain ⟨q, r1⟩ := ih (k + 1) f (by omega) (by omega)
    show ∃ q, (Z9 600).b _ _ ((Z9 600).L f) some = some q
    obtain ⟨Lf, hLf⟩ : ∃ Lf, Lf = (Z9 600).L f := ⟨_, rfl⟩
    rw [← hLf] at r1 ⊢
    simp only [Z9]
    have e2 : decide ((k : Int) < 3) = true := by rw [decide_eq_true_iff]; omega
    have hz : (0 : Int) ≤ (k : Int) ∧ (k : Int) < 3 := by omega
    obtain ⟨a, ha⟩ : ∃ a, [AV.v (.int .i64 x), AV.v (.int .i64 y), AV.v (.int .i64 z)][k * 1]? = some (AV.v (.int .i64 a)) := by
      rcases (show k = 0 ∨ k = 1 ∨ k = 2 by omega) with rfl | rfl | rfl <;> exact ⟨_, rfl⟩
    obtain ⟨b, hb⟩ : ∃ b, [AV.v (.int .i64 (-1048576)), AV.v (.int .i64 (-1048576)), AV.v (.int .i64 (-16384))][0 + k * 1]? = some (AV.v (.int .i64 b)) := by
      rcases (show k = 0 ∨ k = 1 ∨ k = 2 by omega) with rfl | rfl | rfl <;> exact ⟨_, rfl⟩
    simp only [e2, hz, and_self, if_true, Int.toNat_natCast, ha, hb, zn (show k < 1000000 by omega)]
    cases decide (a < b) with
    | true => exact ⟨_, rfl⟩
    | false =>
      cases decide (a > 1048576) with
      | true => exact ⟨_, rfl⟩
      | false => exact ⟨q, r1⟩
theorem zeB (x y z : Int) : ∃ b, F70_d 600 (x, y, z) = some b := by
  obtain ⟨q, h⟩ := zgc x y z 3 0 600 rfl (by omega)
  replace h : (Z9 600).L 600 (x, y, z, 0, -1048576, -1048576, -16384) = some q := h
  have hf : zhV 600 (x, y, z) = some (x, y, z) := rfl
  simp only [F70_d, FSpec.d, zcL, hf, F70_d5, h]
  rcases q with q | q
  · exact ⟨_, rfl⟩
  · exact ⟨_, rfl⟩
theorem zfR (x y z u v w : Int) : ∀ (d k f : Nat) (s : Int), k + d = 3 → d < f → ∃ q : Int, (jb 600).L f (s, u, v, w, (k : Int), x, y, z) = some q ∧ (u = x → v = y → w = z → s = 0 → q = 0) := by
  intro d
  induction d with
  | zero =>
    intro k f s hk hf
    obtain ⟨f, rfl⟩ : ∃ f', f = f' + 1 := ⟨f - 1, by omega⟩
    refine ⟨s, ?_, fun _ _ _ h => h⟩
    show (jb 600).b _ _ ((jb 600).L f) some = _
    simp only [jb]
    have e2 : decide ((k : Int) < 3) = false := by rw [decide_eq_false_iff_not]; omega
    simp only [e2]
  | succ d ih =>
    intro k f s hk hf
    obtain ⟨f, rfl⟩ : ∃ f', f = f' + 1 := ⟨f - 1, by omega⟩
    have e2 : decide ((k : Int) < 3) = true := by rw [decide_eq_true_iff]; omega
    have hz : (0 : Int) ≤ (k : Int) ∧ (k : Int) < 3 := by omega
    obtain ⟨a, ha, ha2⟩ : ∃ a, [AV.v (.int .i64 u), AV.v (.int .i64 v), AV.v (.int .i64 w)][k * 1]? = some (AV.v (.int .i64 a)) ∧ (k = 0 ∧ a = u ∨ k = 1 ∧ a = v ∨ k = 2 ∧ a = w) := by
      rcases (show k = 0 ∨ k = 1 ∨ k = 2 by omega) with rfl | rfl | rfl <;> exact ⟨_, rfl, by simp⟩
    obtain ⟨b, hb, hb2⟩ : ∃ b, [AV.v (.int .i64 x), AV.v (.int .i64 y), AV.v (.int .i64 z)][0 + k * 1]? = some (AV.v (.int .i64 b)) ∧ (k = 0 ∧ b = x ∨ k = 1 ∧ b = y ∨ k = 2 ∧ b = z) := by
      rcases (show k = 0 ∨ k = 1 ∨ k = 2 by omega) with rfl | rfl | rfl <;> exact ⟨_, rfl, by simp⟩
    obtain ⟨q, r1, r2⟩ := ih (k + 1) f (i64 (s + i64 (i64 (a - b) * i64 (a - b)))) (by omega) (by omega)
    refine ⟨q, ?_, fun e1 e2 e3 e4 => r2 e1 e2 e3 ?_⟩
    · show (jb 600).b _ _ ((jb 600).L f) some = _
      obtain ⟨Lf, hLf⟩ : ∃ Lf, Lf = (jb 600).L f := ⟨_, rfl⟩
      rw [← hLf] at r1 ⊢
      simp only [jb]
      simp only [e2, hz, and_self, if_true, Int.toNat_natCast, ha, hb, zn (show k < 1000000 by omega)]
      exact r1
    · have : a = b := by
        rcases ha2 with ⟨h1, h2⟩ | ⟨h1, h2⟩ | ⟨h1, h2⟩ <;> rcases hb2 with ⟨h3, h4⟩ | ⟨h3, h4⟩ | ⟨h3, h4⟩ <;> first | omega | (subst h2 h4; assumption)
      subst this e4
      rw [show a - a = 0 by omega]
      decide
theorem zmI (x y z u v w : Int) : ∃ q, F51_d 600 (x, y, z, u, v, w) = some q ∧ (x = u → y = v → z = w → q = 0) := by
  obtain ⟨b1, h1⟩ := zeB x y z
  obtain ⟨b2, h2⟩ := zeB u v w
  have f1 : zhV 600 (x, y, z) = some (x, y, z) := rfl
  have f2 : zhV 600 (u, v, w) = some (u, v, w) := rfl
  obtain ⟨q, h3, h4⟩ := zfR u v w x y z 3 0 600 0 rfl (by omega)
  replace h3 : (jb 600).L 600 (0, x, y, z, 0, u, v, w) = some q := h3
  simp only [F51_d, FSpec.d, zcX, h1, h2, f1, f2, F51_d9, h3]
  cases b1 with
  | false => exact ⟨0, rfl, fun _ _ _ => rfl⟩
  | true =>
    cases b2 with
    | false => exact ⟨0, rfl, fun _ _ _ => rfl⟩
    | true => exact ⟨q, rfl, fun e1 e2 e3 => h4 e1 e2 e3 rfl⟩
theorem moved_ok {L : List RT4} {di ev : Int} (P : Pol L di ev) (a e : RT0) : ∃ b, zlZ 600 (L.map Ren4, di, ev, a, e) = some b ∧ (a = e → loE a ≤ hiE a → b = false) := by
  have hl := P.l
  have hdi := P.di
  obtain ⟨q, hq, hq0⟩ := zmI a.2.2.2.2.2.2.2.2.2.2.1 a.2.2.2.2.2.2.2.2.2.2.2.1 a.2.2.2.2.2.2.2.2.2.2.2.2.1 e.2.2.2.2.2.2.2.2.2.2.1 e.2.2.2.2.2.2.2.2.2.2.2.1 e.2.2.2.2.2.2.2.2.2.2.2.2.1
  simp only [zlZ, FSpec.d, zcK, zce P, zdO di ev _ (show L.length ≤ 1000 by omega), hq]
  have e1 : ((0 : Int) != 0) = false := by decide
  have e2 : decide (di ≤ 4194304) = true := by rw [decide_eq_true_iff]; omega
  simp only [e1, e2]
  cases hlv : ((lev L di ev a : Int) != (lev L di ev e : Int)) with
  | true => exact ⟨_, rfl, fun h => by subst h; simp at hlv⟩
  | false =>
    cases hs : decide (q > i64 (di * di)) with
    | true =>
      refine ⟨_, rfl, fun h _ => ?_⟩
      subst h
      rw [hq0 rfl rfl rfl, decide_eq_true_iff] at hs
      have : 0 ≤ di * di := Int.mul_nonneg hdi.1 hdi.1
      have h2 : di * di ≤ 1000 * 1000 := Int.mul_le_mul hdi.2 hdi.2 hdi.1 (by omega)
      rw [zN (by omega)] at hs
      omega
    | false =>
      obtain ⟨ap, hap, hap0⟩ : ∃ ap, F52_d 600 (tmE a, tmE e) = some ap ∧ (a = e → ap = 0) := by
        simp only [F52_d, FSpec.d, zi1]
        cases decide (tmE a < tmE e) with
        | true => exact ⟨_, rfl, fun h => by subst h; rw [Int.sub_self]; decide⟩
        | false => exact ⟨_, rfl, fun h => by subst h; rw [Int.sub_self]; decide⟩
      obtain ⟨ag, hag, hag0⟩ : ∃ ag, F53_d 600 (loE a, hiE a, loE e, hiE e) = some ag ∧ (a = e → loE a ≤ hiE a → ag = true) := by
        simp only [F53_d, FSpec.d, zcP]
        exact ⟨_, rfl, fun h h2 => by subst h; rw [decide_eq_true_iff]; split <;> split <;> omega⟩
      simp only [hap, hag]
      cases hx : decide (ap > IntKind.u64.wrap di) with
      | true =>
        refine ⟨_, rfl, fun h _ => ?_⟩
        rw [hap0 h, decide_eq_true_iff] at hx
        have : (0 : Int) ≤ IntKind.u64.wrap di := by
          rw [show IntKind.u64.wrap di = di from IntWalk.u64_in _ (by omega)]
          omega
        omega
      | false => exact ⟨_, rfl, fun h h2 => by rw [hag0 h h2]; rfl⟩
end Go.Proofs.Ytnnfpoelkdgjdaa
end
section
namespace Go.Proofs.Ytnnfpoelkdgjdaa
set_option linter.unusedVariables false
set_option linter.unusedSimpArgs false
set_option linter.unnecessarySimpa false
theorem meets_ok (r : RT4) (e : RT0) (X : LvX) (hX : X.2.2.2 = e) : F34_d 600 (r, e) = some (Zo (toRl r) (lvEv X)) := by
  subst hX
  simp only [F34_d, FSpec.d, ziI]
  have : Zo (toRl r) (lvEv X) = (decide ((lvEv X).ct ≥ 1) && (decide ((lvEv X).lo ≥ r.1) && (decide (((lvEv X).n : Int) ≥ r.2.1) && decide ((lvEv X).mf ≤ r.2.2.1)))) := by
    unfold Zo
    rw [Bool.eq_iff_iff]
    simp [toRl]
    exact decide_eq_true_iff
  rw [this]
  show (match decide ((lvEv X).ct ≥ 1) with | true => _ | false => _) = _
  cases decide ((lvEv X).ct ≥ 1) with
  | false => rfl
  | true =>
    show (match decide ((lvEv X).lo ≥ r.1) with | true => _ | false => _) = _
    cases decide ((lvEv X).lo ≥ r.1) with
    | false => rfl
    | true =>
      show (match decide (((lvEv X).n : Int) ≥ r.2.1) with | true => _ | false => _) = _
      cases decide (((lvEv X).n : Int) ≥ r.2.1) with
      | false => rfl
      | true => rfl
theorem zf7 {L : List RT4} {di ev : Int} (P : Pol L di ev) (e : RT0) : ∀ (d k f : Nat), k + d = L.length → d < f → (jy 600).L f ((levN (L.map toRl) (lvEv (L.map Ren4, di, ev, e)) k : Int), (k : Int), L.map Ren4, di, ev, e) = some ((levN (L.map toRl) (lvEv (L.map Ren4, di, ev, e)) L.length : Nat) : Int) := by
  have hl := P.l
  intro d
  induction d with
  | zero =>
    intro k f hk hf
    obtain ⟨f, rfl⟩ : ∃ f', f = f' + 1 := ⟨f - 1, by omega⟩
    show (jy 600).b _ _ ((jy 600).L f) some = _
    simp only [jy]
    have e2 : decide ((k : Int) < (L.length : Int)) = false := by rw [decide_eq_false_iff_not]; omega
    simp only [List.length_map, e2]
    rw [show k = L.length by omega]
  | succ d ih =>
    intro k f hk hf
    obtain ⟨f, rfl⟩ : ∃ f', f = f' + 1 := ⟨f - 1, by omega⟩
    have hkl : k < L.length := by omega
    have e2 : decide ((k : Int) < (L.length : Int)) = true := by rw [decide_eq_true_iff]; omega
    have e3 : (0 : Int) ≤ (k : Int) := by omega
    have e4 : ((0 : Int) == 0) = true := by decide
    have r1 := ih (k + 1) f (by omega) (by omega)
    have hm := meets_ok L[k] e (L.map Ren4, di, ev, e) rfl
    have hstep : levN (L.map toRl) (lvEv (L.map Ren4, di, ev, e)) (k + 1) = if Zo (toRl L[k]) (lvEv (L.map Ren4, di, ev, e)) = true then k + 1 else levN (L.map toRl) (lvEv (L.map Ren4, di, ev, e)) k := by
      have : ((L.map toRl)[k]?.getD rl0) = toRl L[k] := by simp [hkl]
      rw [levN, this]
    show (jy 600).b _ _ ((jy 600).L f) some = _
    obtain ⟨Lf, hLf⟩ : ∃ Lf, Lf = (jy 600).L f := ⟨_, rfl⟩
    rw [← hLf] at r1 ⊢
    rw [hstep] at r1
    simp only [jy]
    simp only [List.length_map, e2, Jj P, e4, e3, if_true, Int.toNat_natCast, get4 L k hkl, zgw, hm, zn (show k < 1000000 by omega)]
    cases hb : Zo (toRl L[k]) (lvEv (L.map Ren4, di, ev, e)) with
    | true => rw [hb] at r1; exact r1
    | false => rw [hb] at r1; exact r1
theorem vE_zero {L : List RT4} {di ev : Int} (P : Pol L di ev) : vE (L.map toRl) di ev = 0 := by
  obtain ⟨⟨l1, l2⟩, hL, ⟨d1, d2⟩, ⟨v1, v2⟩⟩ := P
  unfold vE
  rw [if_pos]
  refine ⟨by rw [List.length_map]; omega, by omega, by omega, fun r hr => ?_⟩
  obtain ⟨q, hq, rfl⟩ := List.mem_map.1 hr
  obtain ⟨⟨m1, m2⟩, ⟨p1, p2⟩, ⟨f1, f2⟩, ⟨d1, d2⟩⟩ := hL q hq
  unfold zcg toRl
  rw [decide_eq_true_iff]
  dsimp only
  omega
theorem lev_eq {L : List RT4} {di ev : Int} (P : Pol L di ev) (e : RT0) : lev L di ev e = levN (L.map toRl) (lvEv (L.map Ren4, di, ev, e)) L.length := by
  unfold lev levF
  rw [if_pos (vE_zero P), List.length_map]
theorem zcn {L : List RT4} {di ev : Int} (P : Pol L di ev) (e : RT0) : zdP 600 (L.map Ren4, di, ev, e) = some (lev L di ev e : Int) := by
  have hl := P.l
  have h := zf7 P e L.length 0 600 (by omega) (by omega)
  replace h : (jy 600).L 600 (0, 0, L.map Ren4, di, ev, e) = some ((levN (L.map toRl) (lvEv (L.map Ren4, di, ev, e)) L.length : Nat) : Int) := h
  simp only [zdP, FSpec.d, zcA, F14_d5, h]
  rw [lev_eq P]
theorem zdv (x y z : Int) : ∃ b, F87_d 600 (x, y, z) = some b := by
  simp only [F87_d, FSpec.d, zcF]
  (repeat' split) <;> exact ⟨_, rfl⟩
theorem zh1 (x y z u v w : Int) : ∃ q, F76_d 600 (x, y, z, u, v, w) = some q := by
  obtain ⟨b1, h1⟩ := zdv x y z
  obtain ⟨b2, h2⟩ := zdv u v w
  have hs : ∀ a : Int, F88_d 600 a = some (i64 (a * a)) := fun a => rfl
  simp only [F76_d, FSpec.d, zcQ, h1, h2, hs]
  cases b1 with
  | false => exact ⟨_, rfl⟩
  | true =>
    cases b2 with
    | false => exact ⟨_, rfl⟩
    | true => exact ⟨_, rfl⟩
theorem zl1 {L : List RT4} {di ev : Int} (P : Pol L di ev) (a e : RT0) : ∃ b, ziJ 600 (L.map Ren4, di, ev, a, e) = some b := by
  have e1 : ((0 : Int) != 0) = false := by decide
  obtain ⟨q, hq⟩ := zh1 a.2.2.2.2.2.2.2.2.2.2.1 a.2.2.2.2.2.2.2.2.2.2.2.1 a.2.2.2.2.2.2.2.2.2.2.2.2.1 e.2.2.2.2.2.2.2.2.2.2.1 e.2.2.2.2.2.2.2.2.2.2.2.1 e.2.2.2.2.2.2.2.2.2.2.2.2.1
  have hag : F75_d 600 (loE a, hiE a, loE e, hiE e) = some (decide ((if loE e > loE a then loE e else loE a) ≤ (if hiE e < hiE a then hiE e else hiE a))) := rfl
  simp only [ziJ, FSpec.d, zcM, Jj P, zcn P, hq, e1, hag]
  (repeat' split) <;> first | exact ⟨_, rfl⟩ | skip
theorem zh4 {L : List RT4} {di ev : Int} (P : Pol L di ev) (e : RT0) (now : Int) : ∃ b, zmp 600 (L.map Ren4, di, ev, e, now) = some b := by
  have hl := P.l
  simp only [zmp, FSpec.d, zcO, zcn P]
  have h2 := lev_le L di ev e
  by_cases h0 : lev L di ev e = 0
  · simp only [h0]
    exact ⟨false, rfl⟩
  · have e1 : ((lev L di ev e : Int) == 0) = false := by simp; omega
    have e2 : i64 ((lev L di ev e : Int) - 1) = ((lev L di ev e - 1 : Nat) : Int) := by rw [zN (by omega)]; omega
    have e3 : (0 : Int) ≤ ((lev L di ev e - 1 : Nat) : Int) := by omega
    simp only [e1, e2]
    cases hd : decide (i64 (now - tmE e) ≥ 0) with
    | true =>
      simp only [e3, if_true, Int.toNat_natCast, get4 L _ (show lev L di ev e - 1 < L.length by omega), dr3]
      exact ⟨_, rfl⟩
    | false => exact ⟨false, rfl⟩
end Go.Proofs.Ytnnfpoelkdgjdaa
end
section
namespace Go.Proofs.Ytnnfpoelkdgjdaa
set_option linter.unusedVariables false
set_option linter.unusedSimpArgs false
set_option linter.unnecessarySimpa false
theorem id3 (a : RT3) : ((Ren3 a).drop 0)[0]? = some (AV.v (.int .i64 (idA a))) := rfl
theorem wd3 (a : RT3) : ((Ren3 a).drop 1)[0]? = some (AV.v (.bool (wdA a))) := rfl
theorem at3 (a : RT3) : ((Ren3 a).drop 37)[0]? = some (AV.v (.int .i64 (atA a))) := rfl
theorem nm3 (a : RT3) : Rrd1 ((Ren3 a).drop 2) = some (nmA a) := rfl
structure Ok (al : List RT3) (number now : Int) : Prop where
  len : al.length ≤ 100
  asc : al.Pairwise fun a b => idA a < idA b
  rng : ∀ a ∈ al, 0 ≤ idA a ∧ idA a < number ∧ 0 ≤ atA a ∧ atA a ≤ now
  nm : al.Pairwise fun a b => wdA a = false → wdA b = false → nmA a ≠ nmA b
  pk : ∀ a ∈ al, ∃ P : List RT1, P.length ≤ 4 ∧ pkE (evA a) = P.map Ren1
  num : 0 ≤ number ∧ number ≤ 800
  now : 0 ≤ now ∧ now ≤ 1000000
theorem Je {α : Type} {A : List α} {k : Nat} {e : α} {R : List α} (hR : A.drop k = e :: R) : ∃ h : k < A.length, A[k] = e ∧ A.drop (k + 1) = R := by
  have hkl : k < A.length := by
    rcases Nat.lt_or_ge k A.length with h | h
    · exact h
    · rw [List.drop_eq_nil_of_le h] at hR; cases hR
  have := List.drop_eq_getElem_cons hkl
  rw [hR] at this
  exact ⟨hkl, (List.cons.inj this).1.symm, (List.cons.inj this).2.symm⟩
theorem J4 (A : List RT3) (hA : A.length ≤ 500) : ∀ (R : List RT3) (k f : Nat) (last : Int) (M : List RT1), A.drop k = R → R.length < f → k + R.length = A.length →
    R.Pairwise (fun a b => idA a < idA b) → (∀ a ∈ R, last < idA a) → (∀ a ∈ R, idA a < 1000 ∧ 0 ≤ atA a ∧ atA a ≤ 1000000) → R.Pairwise (fun a b => wdA a = false → wdA b = false → nmA a ≠ nmA b) → (∀ a ∈ R, wdA a = false → nmA a ∉ M) →
    (Zw 600).L f (A.map Ren3, last, (A.length : Int), (k : Int), M.map Ren1) = some (.inr ())
  | [], k, f, last, M, hR, hf, hk, h1, h2, h3, h4, h5 => by
    obtain ⟨f, rfl⟩ : ∃ f', f = f' + 1 := ⟨f - 1, by omega⟩
    show (Zw 600).b _ _ ((Zw 600).L f) some = _
    simp only [Zw]
    have e2 : decide ((k : Int) < (A.length : Int)) = false := by rw [decide_eq_false_iff_not]; simp at hk; omega
    simp only [e2]
  | e :: R, k, f, last, M, hR, hf, hk, h1, h2, h3, h4, h5 => by
    obtain ⟨f, rfl⟩ : ∃ f', f = f' + 1 := ⟨f - 1, by omega⟩
    rw [List.length_cons] at hf hk
    obtain ⟨hkl, hek, hR'⟩ := Je hR
    rw [List.pairwise_cons] at h1 h4
    have he := h3 e List.mem_cons_self
    have e2 : decide ((k : Int) < (A.length : Int)) = true := by rw [decide_eq_true_iff]; omega
    have e3 : (0 : Int) ≤ (k : Int) := by omega
    have a1 : decide (idA e ≤ last) = false := by rw [decide_eq_false_iff_not]; have := h2 e List.mem_cons_self; omega
    have a2 : decide (idA e ≥ 1000) = false := by rw [decide_eq_false_iff_not]; omega
    have a3 : decide (atA e < 0) = false := by rw [decide_eq_false_iff_not]; omega
    have a4 : decide (atA e > 18014398509481984) = false := by rw [decide_eq_false_iff_not]; omega
    show (Zw 600).b _ _ ((Zw 600).L f) some = _
    obtain ⟨Lf, hLf⟩ : ∃ Lf, Lf = (Zw 600).L f := ⟨_, rfl⟩
    cases hw : wdA e with
    | true =>
      have r1 := J4 A hA R (k + 1) f (idA e) M hR' (by omega) (by omega) h1.2 h1.1 (fun a ha => h3 a (List.mem_cons_of_mem _ ha)) h4.2 (fun a ha => h5 a (List.mem_cons_of_mem _ ha))
      rw [← hLf] at r1 ⊢
      simp only [Zw]
      simp only [e2, e3, if_true, Int.toNat_natCast, get3 A k hkl, hek, jl, a1, a2, a3, a4, hw, zn (show k < 1000000 by omega)]
      exact r1
    | false =>
      obtain ⟨m1, m2⟩ := zlj M (nmA e) (h5 e List.mem_cons_self hw)
      have r1 := J4 A hA R (k + 1) f (idA e) (M ++ [nmA e]) hR' (by omega) (by omega) h1.2 h1.1 (fun a ha => h3 a (List.mem_cons_of_mem _ ha)) h4.2 (fun a ha hwa hm => by
        rcases List.mem_append.1 hm with h | h
        · exact h5 a (List.mem_cons_of_mem _ ha) hwa h
        · exact h4.1 a ha hw hwa (List.mem_singleton.1 h).symm)
      rw [← hLf] at r1 ⊢
      simp only [Zw]
      simp only [e2, e3, if_true, Int.toNat_natCast, get3 A k hkl, hek, jl, a1, a2, a3, a4, hw, m1, m2, zn (show k < 1000000 by omega)]
      exact r1
theorem zf9 {A : List RT3} {number now : Int} (O : Ok A number now) : F18_d 600 (A.map Ren3) = some true := by
  have hl := O.len
  have h := J4 A (by omega) A 0 600 (-1) [] rfl (by omega) (by omega) O.asc (fun a ha => by have := O.rng a ha; omega) (fun a ha => by have := O.rng a ha; have := O.num; have := O.now; omega) O.nm (fun a _ _ h => by cases h)
  replace h : (Zw 600).L 600 (A.map Ren3, -1, (A.length : Int), 0, []) = some (.inr ()) := h
  have e1 : decide ((A.length : Int) > 200) = false := by rw [decide_eq_false_iff_not]; omega
  simp only [F18_d, FSpec.d, zhU, List.length_map, e1, zl3, h]
theorem zfY (A : List RT3) (hA : A.length ≤ 500) (h : A.Pairwise (fun a b => wdA a = false → wdA b = false → nmA a ≠ nmA b)) (i : Nat) (hi : i < A.length) : ∀ (d k f : Nat), k + d = i → d < f → (ZC 600).L f (A.map Ren3, (i : Int), (k : Int)) = some (.inr (A.map Ren3, (i : Int))) := by
  intro d
  induction d with
  | zero =>
    intro k f hk hf
    obtain ⟨f, rfl⟩ : ∃ f', f = f' + 1 := ⟨f - 1, by omega⟩
    show (ZC 600).b _ _ ((ZC 600).L f) some = _
    simp only [ZC]
    have e2 : decide ((k : Int) < (i : Int)) = false := by rw [decide_eq_false_iff_not]; omega
    simp only [e2]
  | succ d ih =>
    intro k f hk hf
    obtain ⟨f, rfl⟩ : ∃ f', f = f' + 1 := ⟨f - 1, by omega⟩
    have hkl : k < A.length := by omega
    have e2 : decide ((k : Int) < (i : Int)) = true := by rw [decide_eq_true_iff]; omega
    have e3 : (0 : Int) ≤ (k : Int) := by omega
    have e4 : (0 : Int) ≤ (i : Int) := by omega
    have r1 := ih (k + 1) f (by omega) (by omega)
    show (ZC 600).b _ _ ((ZC 600).L f) some = _
    obtain ⟨Lf, hLf⟩ : ∃ Lf, Lf = (ZC 600).L f := ⟨_, rfl⟩
    rw [← hLf] at r1 ⊢
    simp only [ZC]
    simp only [e2, e4, if_true, Int.toNat_natCast, get3 A i hi, wd3, zn (show k < 1000000 by omega)]
    cases hw : wdA A[i] with
    | true => exact r1
    | false =>
      simp only [Bool.not_false, e3, if_true, get3 A k hkl, wd3]
      cases hw2 : wdA A[k] with
      | true => exact r1
      | false =>
        have hne : eqP (nmA A[i]) (nmA A[k]) = false := za3 (Ne.symm (List.pairwise_iff_getElem.1 h k i hkl hi (by omega) hw2 hw))
        simp only [Bool.not_false, nm3, hne]
        exact r1
theorem zeM (A : List RT3) (hA : A.length ≤ 500) (h1 : A.Pairwise fun a b => idA a < idA b) (h2 : ∀ a ∈ A, 0 ≤ idA a ∧ idA a < 1000 ∧ 0 ≤ atA a ∧ atA a ≤ 1000000) (h3 : A.Pairwise (fun a b => wdA a = false → wdA b = false → nmA a ≠ nmA b)) : ∀ (d k f : Nat), k + d = A.length → d < f → (jw 600).L f (A.map Ren3, (k : Int)) = some (.inr (A.map Ren3)) := by
  intro d
  induction d with
  | zero =>
    intro k f hk hf
    obtain ⟨f, rfl⟩ : ∃ f', f = f' + 1 := ⟨f - 1, by omega⟩
    show (jw 600).b _ _ ((jw 600).L f) some = _
    simp only [jw]
    have e2 : decide ((k : Int) < (A.length : Int)) = false := by rw [decide_eq_false_iff_not]; omega
    simp only [List.length_map, e2]
  | succ d ih =>
    intro k f hk hf
    obtain ⟨f, rfl⟩ : ∃ f', f = f' + 1 := ⟨f - 1, by omega⟩
    have hkl : k < A.length := by omega
    have e2 : decide ((k : Int) < (A.length : Int)) = true := by rw [decide_eq_true_iff]; omega
    have e3 : (0 : Int) ≤ (k : Int) := by omega
    have r1 := ih (k + 1) f (by omega) (by omega)
    obtain ⟨q1, q2, q3, q4⟩ := h2 _ (List.getElem_mem hkl)
    have a1 : decide (idA A[k] < 0) = false := by rw [decide_eq_false_iff_not]; omega
    have a2 : decide (idA A[k] ≥ 1000) = false := by rw [decide_eq_false_iff_not]; omega
    have a3 : decide (atA A[k] < 0) = false := by rw [decide_eq_false_iff_not]; omega
    have a4 : decide (atA A[k] > 18014398509481984) = false := by rw [decide_eq_false_iff_not]; omega
    have hn := zfY A hA h3 k hkl k 0 600 (by omega) (by omega)
    replace hn : (ZC 600).L 600 (A.map Ren3, (k : Int), 0) = some (.inr (A.map Ren3, (k : Int))) := hn
    show (jw 600).b _ _ ((jw 600).L f) some = _
    obtain ⟨Lf, hLf⟩ : ∃ Lf, Lf = (jw 600).L f := ⟨_, rfl⟩
    rw [← hLf] at r1 ⊢
    simp only [jw]
    simp only [List.length_map, e2, e3, if_true, Int.toNat_natCast, get3 A k hkl, id3, at3, a1, a2, a3, a4, zfU, hn, zn (show k < 1000000 by omega)]
    by_cases hk0 : (k : Int) > 0
    · have hk1 : i64 ((k : Int) - 1) = ((k - 1 : Nat) : Int) := by rw [zN (by omega)]; omega
      have e7 : (0 : Int) ≤ ((k - 1 : Nat) : Int) := by omega
      have a5 : decide (idA A[k] ≤ idA A[k - 1]) = false := by
        rw [decide_eq_false_iff_not]
        have := List.pairwise_iff_getElem.1 h1 (k - 1) k (by omega) hkl (by omega)
        omega
      simp only [hk0, decide_true, hk1, e7, if_true, Int.toNat_natCast, get3 A (k - 1) (by omega), id3, a5]
      exact r1
    · simp only [hk0, decide_false]
      exact r1
theorem ze6 {A : List RT3} {number now : Int} (O : Ok A number now) : F72_d 600 (A.map Ren3) = some true := by
  have hl := O.len
  have h := zeM A (by omega) O.asc (fun a ha => by have := O.rng a ha; have := O.num; have := O.now; omega) O.nm A.length 0 600 (by omega) (by omega)
  replace h : (jw 600).L 600 (A.map Ren3, 0) = some (.inr (A.map Ren3)) := h
  have e1 : decide ((A.length : Int) ≤ 200) = true := by rw [decide_eq_true_iff]; omega
  simp only [F72_d, FSpec.d, zhS, F72_d4, h, List.length_map, e1]
theorem zmM (A : List RT3) (now : Int) (hA : A.length ≤ 500) (h : ∀ a ∈ A, atA a ≤ now) : ∀ (d k f : Nat), k + d = A.length → d < f → (jd 600).L f (A.map Ren3, (A.length : Int), (k : Int), now) = some (.inr now) := by
  intro d
  induction d with
  | zero =>
    intro k f hk hf
    obtain ⟨f, rfl⟩ : ∃ f', f = f' + 1 := ⟨f - 1, by omega⟩
    show (jd 600).b _ _ ((jd 600).L f) some = _
    simp only [jd]
    have e2 : decide ((k : Int) < (A.length : Int)) = false := by rw [decide_eq_false_iff_not]; omega
    simp only [e2]
  | succ d ih =>
    intro k f hk hf
    obtain ⟨f, rfl⟩ : ∃ f', f = f' + 1 := ⟨f - 1, by omega⟩
    have hkl : k < A.length := by omega
    have e2 : decide ((k : Int) < (A.length : Int)) = true := by rw [decide_eq_true_iff]; omega
    have e3 : (0 : Int) ≤ (k : Int) := by omega
    have r1 := ih (k + 1) f (by omega) (by omega)
    have hq : F46_d 600 (A[k], now) = some (false, now) := by
      simp only [F46_d, FSpec.d, zhM]
      have : decide (now < atA A[k]) = false := by
        rw [decide_eq_false_iff_not]
        have := h _ (List.getElem_mem hkl)
        omega
      rw [this]
    show (jd 600).b _ _ ((jd 600).L f) some = _
    obtain ⟨Lf, hLf⟩ : ∃ Lf, Lf = (jd 600).L f := ⟨_, rfl⟩
    rw [← hLf] at r1 ⊢
    simp only [jd]
    simp only [e2, e3, if_true, Int.toNat_natCast, get3 A k hkl, jl, hq, zn (show k < 1000000 by omega)]
    exact r1
theorem late_ok (A : List RT3) (now : Int) (hA : A.length ≤ 500) (h : ∀ a ∈ A, atA a ≤ now) : F45_d 600 (A.map Ren3, now) = some (false, now) := by
  have h := zmM A now hA h A.length 0 600 (by omega) (by omega)
  replace h : (jd 600).L 600 (A.map Ren3, (A.length : Int), 0, now) = some (.inr now) := h
  simp only [F45_d, FSpec.d, zcv, F63_d, zcy, F63_d4, List.length_map, h]
  rfl
theorem zg4 {A : List RT3} (h : 0 < A.length) : (A.map Ren3)[A.length - 1]? = some (Ren3 A[A.length - 1]) := get3 A _ (by omega)
theorem zix {L : List RT4} {di ev number now now' : Int} {A : List RT3} {E : List RT0} (P : Pol L di ev) (O : Ok A number now) (hE : EvOk E) (hn : now ≤ now' ∧ now' ≤ 1000000) : F27_d 600 (L.map Ren4, di, ev, A.map Ren3, number, E.map Ren0, now') = some 0 := by
  have hl := O.len
  have hnum := O.num
  have hnow := O.now
  have a1 : ((0 : Int) != 0) = false := by decide
  have a2 : decide (number < 0) = false := by rw [decide_eq_false_iff_not]; omega
  have a3 : decide (now' < 0) = false := by rw [decide_eq_false_iff_not]; omega
  have a4 : decide (now' > 18014398509481984) = false := by rw [decide_eq_false_iff_not]; omega
  have a5 := late_ok A now' (by omega) (fun a ha => by have := O.rng a ha; omega)
  simp only [F27_d, FSpec.d, zcI, zce P, zf9 O, hE.v, a1, a2, a3, a4, a5, Bool.not_true, List.length_map]
  by_cases h0 : (A.length : Int) > 0
  · have hk1 : i64 ((A.length : Int) - 1) = ((A.length - 1 : Nat) : Int) := by rw [zN (by omega)]; omega
    have e7 : (0 : Int) ≤ ((A.length - 1 : Nat) : Int) := by omega
    have a6 : decide (number ≤ idA A[A.length - 1]) = false := by
      rw [decide_eq_false_iff_not]
      have := O.rng _ (List.getElem_mem (show A.length - 1 < A.length by omega))
      omega
    simp only [h0, decide_true, hk1, e7, if_true, Int.toNat_natCast, zg4 (show 0 < A.length by omega), id3, a6]
  · simp only [h0, decide_false]
theorem zhP (A : List RT3) (now : Int) (hA : A.length ≤ 500) (h : ∀ a ∈ A, atA a ≤ now) : ∀ (d k f : Nat), k + d = A.length → d < f → (ZG 600).L f (A.map Ren3, now, (k : Int)) = some (.inr ()) := by
  intro d
  induction d with
  | zero =>
    intro k f hk hf
    obtain ⟨f, rfl⟩ : ∃ f', f = f' + 1 := ⟨f - 1, by omega⟩
    show (ZG 600).b _ _ ((ZG 600).L f) some = _
    simp only [ZG]
    have e2 : decide ((k : Int) < (A.length : Int)) = false := by rw [decide_eq_false_iff_not]; omega
    simp only [List.length_map, e2]
  | succ d ih =>
    intro k f hk hf
    obtain ⟨f, rfl⟩ : ∃ f', f = f' + 1 := ⟨f - 1, by omega⟩
    have hkl : k < A.length := by omega
    have e2 : decide ((k : Int) < (A.length : Int)) = true := by rw [decide_eq_true_iff]; omega
    have e3 : (0 : Int) ≤ (k : Int) := by omega
    have r1 := ih (k + 1) f (by omega) (by omega)
    have a1 : decide (now < atA A[k]) = false := by
      rw [decide_eq_false_iff_not]
      have := h _ (List.getElem_mem hkl)
      omega
    show (ZG 600).b _ _ ((ZG 600).L f) some = _
    obtain ⟨Lf, hLf⟩ : ∃ Lf, Lf = (ZG 600).L f := ⟨_, rfl⟩
    rw [← hLf] at r1 ⊢
    simp only [ZG]
    simp only [List.length_map, e2, e3, if_true, Int.toNat_natCast, get3 A k hkl, at3, a1, zn (show k < 1000000 by omega)]
    exact r1
theorem zj9 {L : List RT4} {di ev number now now' : Int} {A : List RT3} {E : List RT0} {m : Nat} (P : Pol L di ev) (O : Ok A number now) (hm : m ≤ 5) (hE : Evs 0 m E) (hn : now ≤ now' ∧ now' ≤ 1000000) : F55_d 600 (L.map Ren4, di, ev, A.map Ren3, number, E.map Ren0, now') = some 0 := by
  have hl := O.len
  have hnum := O.num
  have hnow := O.now
  have a1 : ((0 : Int) != 0) = false := by decide
  have a2 : decide (number < 0) = false := by rw [decide_eq_false_iff_not]; omega
  have a3 : decide (now' < 0) = false := by rw [decide_eq_false_iff_not]; omega
  have a4 : decide (now' > 18014398509481984) = false := by rw [decide_eq_false_iff_not]; omega
  have a5 := zhP A now' (by omega) (fun a ha => by have := O.rng a ha; omega) A.length 0 600 (by omega) (by omega)
  replace a5 : (ZG 600).L 600 (A.map Ren3, now', 0) = some (.inr ()) := a5
  simp only [F55_d, FSpec.d, zcH, Jj P, ze6 O, zfz hm hE, a1, a2, a3, a4, zf3, a5, Bool.not_true, List.length_map]
  by_cases h0 : (A.length : Int) > 0
  · have hk1 : i64 ((A.length : Int) - 1) = ((A.length - 1 : Nat) : Int) := by rw [zN (by omega)]; omega
    have e7 : (0 : Int) ≤ ((A.length - 1 : Nat) : Int) := by omega
    have a6 : decide (number ≤ idA A[A.length - 1]) = false := by
      rw [decide_eq_false_iff_not]
      have := O.rng _ (List.getElem_mem (show A.length - 1 < A.length by omega))
      omega
    simp only [h0, decide_true, hk1, e7, if_true, Int.toNat_natCast, zg4 (show 0 < A.length by omega), id3, a6]
  · simp only [h0, decide_false]
end Go.Proofs.Ytnnfpoelkdgjdaa
end
section
namespace Go.Proofs.Ytnnfpoelkdgjdaa
set_option linter.unusedVariables false
set_option linter.unusedSimpArgs false
set_option linter.unnecessarySimpa false
theorem clone_ok (x : List (List AV)) (h : x.length ≤ 100000) : F47_d 600 x = some x := by
  simp only [F47_d, FSpec.d, ziv]
  have hb : (([] : List (List AV)).length + x.length) * 104 ≤ zl := by unfold zl; simp; omega
  cases x with
  | nil => simp only [hb, if_true]; exact zci _
  | cons a r => simp only [hb, if_true, List.nil_append]
theorem zao (e : RT0) (h : (pkE e).length ≤ 100000) : zge 600 e = some e := by
  simp only [zge, FSpec.d, zjt, clone_ok (pkE e) h]
theorem fl3 (L : List RT3) : (fl Ren3 L).map dat0 = fl Ren3 L := zj8 Ren3 (fun _ => rfl) L
theorem len3 (L : List RT3) : (fl Ren3 L).length = L.length * 38 := zae Ren3 38 jQ L
theorem app3 (L : List RT3) (a : RT3) (k : Nat) (hk : k = L.length) : (fl Ren3 L).take (k * 38) ++ [Ren3 a].flatten = fl Ren3 (L ++ [a]) := by
  rw [zd3 Ren3 38 jQ L k hk, ← zjF]; simp
theorem flat3 (L : List RT3) : (L.map Ren3).flatten = fl Ren3 L := rfl
theorem zkU (A : List RT3) (h : A.length ≤ 100000) : zj7 600 (A.map Ren3) = some (A.length, fl Ren3 A) := by
  simp only [zj7, FSpec.d, zde]
  have hb : 0 * 38 ≤ ([] : List AV).length ∧ (0 + (A.map Ren3).length) * 384 ≤ zl := by unfold zl; simp; omega
  cases A with
  | nil => 
    simp only [hb, and_self, if_true]
    exact zci _
  | cons a r =>
    simp only [hb, and_self, if_true]
    rw [Nat.zero_add, List.length_map, Nat.zero_mul, List.take_nil, List.nil_append, flat3, fl3]
    rfl
theorem J0 (L : List RT3) (k j : Nat) (hk : k < L.length) (new : List AV) (b : RT3) (hj : j + new.length ≤ 38) (hb : splice (Ren3 L[k]) j new = Ren3 b) : splice (fl Ren3 L) ((0 + ((k : Int)).toNat) * 38 + j) new = fl Ren3 (L.set k b) := by
  rw [Nat.zero_add, Int.toNat_natCast]
  exact zeN Ren3 38 jQ L k j hk new b hb hj
theorem zj5 (L : List RT3) (k : Nat) (hk : k < L.length) : Rrd0 ((fl Ren3 L).drop ((0 + ((k : Int)).toNat) * 38 + 12)) = some (evA L[k]) := by
  rw [Nat.zero_add, Int.toNat_natCast, zbP Ren3 38 jQ L k 12 hk (by omega)]
  have : (Ren3 L[k]).drop 12 = Ren0 (evA L[k]) ++ [AV.v (.int .i64 (atA L[k]))] := rfl
  rw [this, List.append_assoc, Rrd0_app]
theorem sp_ev (a : RT3) (e : RT0) : splice (Ren3 a) 12 (Ren0 e) = Ren3 (mkA (idA a) (wdA a) (nmA a) (lvA a) e (atA a)) := by kernel_rfl
theorem sp_wd (a : RT3) (b : Bool) : splice (Ren3 a) 1 [AV.v (.bool b)] = Ren3 (mkA (idA a) b (nmA a) (lvA a) (evA a) (atA a)) := by kernel_rfl
theorem sp_nm (a : RT3) (p : RT1) : splice (Ren3 a) 2 (Ren1 p) = Ren3 (mkA (idA a) (wdA a) p (lvA a) (evA a) (atA a)) := by kernel_rfl
theorem sp_lv (a : RT3) (x : Int) : splice (Ren3 a) 11 [AV.v (.int .i64 x)] = Ren3 (mkA (idA a) (wdA a) (nmA a) x (evA a) (atA a)) := by kernel_rfl
theorem sp_at (a : RT3) (x : Int) : splice (Ren3 a) 37 [AV.v (.int .i64 x)] = Ren3 (mkA (idA a) (wdA a) (nmA a) (lvA a) (evA a) x) := by kernel_rfl
theorem zbo {α : Type} (L : List α) (k : Nat) (hk : k < L.length) : L.set k L[k] = L := by simp
theorem all_loop (A : List RT3) (hA : A.length ≤ 500) (hp : ∀ a ∈ A, (pkE (evA a)).length ≤ 100000) : ∀ (d k f : Nat), k + d = A.length → d < f → (ZE 600).L f (A.length, (A.length : Int), (k : Int), fl Ren3 A) = some (A.length, fl Ren3 A) := by
  intro d
  induction d with
  | zero =>
    intro k f hk hf
    obtain ⟨f, rfl⟩ : ∃ f', f = f' + 1 := ⟨f - 1, by omega⟩
    show (ZE 600).b _ _ ((ZE 600).L f) some = _
    simp only [ZE]
    have e2 : decide ((k : Int) < (A.length : Int)) = false := by rw [decide_eq_false_iff_not]; omega
    simp only [e2, fl3]
  | succ d ih =>
    intro k f hk hf
    obtain ⟨f, rfl⟩ : ∃ f', f = f' + 1 := ⟨f - 1, by omega⟩
    have hkl : k < A.length := by omega
    have e2 : decide ((k : Int) < (A.length : Int)) = true := by rw [decide_eq_true_iff]; omega
    have hz : (0 : Int) ≤ (k : Int) ∧ (k : Int) < (A.length : Int) := by omega
    have r1 := ih (k + 1) f (by omega) (by omega)
    have hc := zao (evA A[k]) (hp _ (List.getElem_mem hkl))
    have hs := J0 A k 12 hkl (Ren0 (evA A[k])) A[k] (by rw [zan]; omega) (sp_ev A[k] (evA A[k]))
    rw [zbo A k hkl] at hs
    have hg : (0 + ((k : Int)).toNat) * 38 + 12 + 25 ≤ (fl Ren3 A).length := by rw [len3, Nat.zero_add, Int.toNat_natCast]; omega
    show (ZE 600).b _ _ ((ZE 600).L f) some = _
    obtain ⟨Lf, hLf⟩ : ∃ Lf, Lf = (ZE 600).L f := ⟨_, rfl⟩
    rw [← hLf] at r1 ⊢
    simp only [ZE]
    simp only [e2, hz, and_self, if_true, zj5 A k hkl, hc, hg, hs, fl3, zn (show k < 1000000 by omega)]
    exact r1
theorem all_ok (A : List RT3) (hA : A.length ≤ 500) (hp : ∀ a ∈ A, (pkE (evA a)).length ≤ 100000) : zhd 600 (A.map Ren3) = some (A.length, fl Ren3 A) := by
  have h := all_loop A hA hp A.length 0 600 (by omega) (by omega)
  replace h : (ZE 600).L 600 (A.length, (A.length : Int), 0, fl Ren3 A) = some (A.length, fl Ren3 A) := h
  simp only [zhd, FSpec.d, zc0, zkU A (by omega), fl3, zmv, h]
theorem JD (kind : Int) (a : RT3) (full : Bool) (number now : Int) (B : List RT6) (hn : 0 ≤ number ∧ number ≤ 999) (hB : B.length ≤ 100000) (hp : (pkE (evA a)).length ≤ 100000) (hf : full = false) : zhw 600 (kind, a, full, number, B.map Ren6, now) = some (false, number + 1, (B ++ [mkB number kind (idA a) now (lvA a) (evA a)]).map Ren6, now) := by
  subst hf
  have hb : ∀ r : List AV, ((B.map Ren6).length + [r].length) * 288 ≤ zl := fun r => by
    rw [List.length_map]; unfold zl; simp; omega
  have e1 : decide (number ≥ 1000) = false := by rw [decide_eq_false_iff_not]; omega
  have e2 : i64 (number + 1) = number + 1 := zN (by omega)
  simp only [zhw, FSpec.d, zh5, zao (evA a) hp, hb, if_true, e1, e2]
  rw [List.map_append]
  rfl
def cI (o : List Int) : List AV := o.map fun x => AV.v (.int .i64 x)
def cB (o : List Bool) : List AV := o.map fun x => AV.v (.bool x)
theorem zdh (o : List Int) : (cI o).length = o.length := by simp [cI]
theorem cB_len (o : List Bool) : (cB o).length = o.length := by simp [cB]
theorem zF (o : List Int) : (cI o).map dat0 = cI o := by
  unfold cI; rw [List.map_map]; rfl
theorem Ze (o : List Bool) : (cB o).map dat0 = cB o := by
  unfold cB; rw [List.map_map]; rfl
theorem zev (o : List Int) (k : Nat) (h : k < o.length) : (cI o)[(0 + ((k : Int)).toNat) * 1]? = some (AV.v (.int .i64 o[k])) := by
  rw [Nat.zero_add, Int.toNat_natCast, Nat.mul_one]; simp [cI, h]
theorem cB_get (o : List Bool) (k : Nat) (h : k < o.length) : (cB o)[(0 + ((k : Int)).toNat) * 1]? = some (AV.v (.bool o[k])) := by
  rw [Nat.zero_add, Int.toNat_natCast, Nat.mul_one]; simp [cB, h]
theorem zl7 (o : List Int) (k : Nat) (v : Int) : splice (cI o) ((0 + ((k : Int)).toNat) * 1) [AV.v (.int .i64 v)] = cI (o.set k v) := by
  rw [Nat.zero_add, Int.toNat_natCast, Nat.mul_one]
  show (cI o).set k _ = _
  simp [cI, List.map_set]
theorem zmC (o : List Bool) (k : Nat) (v : Bool) : splice (cB o) ((0 + ((k : Int)).toNat) * 1) [AV.v (.bool v)] = cB (o.set k v) := by
  rw [Nat.zero_add, Int.toNat_natCast, Nat.mul_one]
  show (cB o).set k _ = _
  simp [cB, List.map_set]
theorem zgo (o : List Int) (k : Nat) (h : k < o.length) : (0 + ((k : Int)).toNat) * 1 + 1 ≤ (cI o).length := by rw [zdh, Nat.zero_add, Int.toNat_natCast]; omega
theorem zgb (o : List Bool) (k : Nat) (h : k < o.length) : (0 + ((k : Int)).toNat) * 1 + 1 ≤ (cB o).length := by rw [cB_len, Nat.zero_add, Int.toNat_natCast]; omega
theorem cI_rep (n : Nat) (v : Int) : List.replicate n (AV.v (.int .i64 v)) = cI (List.replicate n v) := by simp [cI]
theorem cB_rep (n : Nat) (v : Bool) : List.replicate n (AV.v (.bool v)) = cB (List.replicate n v) := by simp [cB]
theorem zdg : ∀ o : List Int, zO (cI o) 1 o.length = zC o
  | [] => rfl
  | a :: r => by
    show ((((AV.v (.int .i64 a)) :: cI r).take 1).map dat0) :: zO (((AV.v (.int .i64 a)) :: cI r).drop 1) 1 r.length = _
    rw [List.drop_one, List.tail_cons, zdg r]
    rfl
theorem zlG (o : List Int) (n : Nat) (h : n = o.length) : zO ((cI o).take (n * 1)) 1 n = zC o := by
  subst h
  rw [Nat.mul_one, List.take_of_length_le (by rw [zdh]; exact Nat.le_refl _), zdg]
end Go.Proofs.Ytnnfpoelkdgjdaa
end
section
namespace Go.Proofs.Ytnnfpoelkdgjdaa
set_option linter.unusedVariables false
set_option linter.unusedSimpArgs false
set_option linter.unnecessarySimpa false
@[reducible] def mk5 (p : RT1) (i : Int) : RT5 := (p.1, p.2.1, p.2.2.1, p.2.2.2.1, p.2.2.2.2.1, p.2.2.2.2.2.1, p.2.2.2.2.2.2.1, p.2.2.2.2.2.2.2.1, p.2.2.2.2.2.2.2.2.1, i, ())
def row5 (q : RT1 × Int) : List AV := Ren5 (mk5 q.1 q.2)
theorem eqCs5 (a : RT1) (q : RT1 × Int) : eqCs (Ren1 a) (row5 q) = eqP a q.1 := by
  show (a.1 == q.1.1 && (a.2.1 == q.1.2.1 && (a.2.2.1 == q.1.2.2.1 && (a.2.2.2.1 == q.1.2.2.2.1 && (a.2.2.2.2.1 == q.1.2.2.2.2.1 && (a.2.2.2.2.2.1 == q.1.2.2.2.2.2.1 && (a.2.2.2.2.2.2.1 == q.1.2.2.2.2.2.2.1 && (a.2.2.2.2.2.2.2.1 == q.1.2.2.2.2.2.2.2.1 && (a.2.2.2.2.2.2.2.2.1 == q.1.2.2.2.2.2.2.2.2.1 && true))))))))) = _
  simp only [eqP, Bool.and_true, Bool.and_assoc]
theorem zmz : ∀ (M : List (RT1 × Int)) (p : RT1) (i : Int), (∀ q ∈ M, p ≠ q.1) → jH (Ren1 p) (M.map row5) = none ∧ Jd (Ren1 p) (row5 (p, i)) (M.map row5) = (M ++ [(p, i)]).map row5
  | [], p, i, h => ⟨rfl, rfl⟩
  | q :: M, p, i, h => by
    obtain ⟨i1, i2⟩ := zmz M p i (fun q hq => h q (List.mem_cons_of_mem _ hq))
    have e : eqCs (Ren1 p) (row5 q) = false := by rw [eqCs5]; exact za3 (h q List.mem_cons_self)
    refine ⟨?_, ?_⟩
    · unfold jH at i1 ⊢
      simp only [List.map_cons, Jb, e]
      exact i1
    · simp only [List.map_cons, Jd, e, i2, List.cons_append]
theorem zjZ : ∀ (M : List (RT1 × Int)) (p : RT1) (i : Int), (p, i) ∈ M → (M.Pairwise fun a b => a.1 ≠ b.1) → jH (Ren1 p) (M.map row5) = some i
  | q :: M, p, i, h, hd => by
    rw [List.pairwise_cons] at hd
    rcases List.mem_cons.1 h with e | e
    · subst e
      have e : eqCs (Ren1 p) (row5 (p, i)) = true := by rw [eqCs5]; exact zat p
      unfold jH
      simp only [List.map_cons, Jb, e]
      rfl
    · have e2 : eqCs (Ren1 p) (row5 q) = false := by rw [eqCs5]; exact za3 (fun x => hd.1 _ e x.symm)
      have := zjZ M p i e hd.2
      unfold jH at this ⊢
      simp only [List.map_cons, Jb, e2]
      exact this
def nmI : List RT0 → Nat → List (RT1 × Int)
  | [], _ => []
  | e :: r, i => (nmE e, (i : Int)) :: nmI r (i + 1)
theorem zef : ∀ (R : List RT0) (i : Nat) (q : RT1 × Int), q ∈ nmI R i ↔ ∃ j, ∃ h : j < R.length, q = (nmE R[j], ((i + j : Nat) : Int))
  | [], i, q => ⟨fun h => (by cases h), fun ⟨j, h, _⟩ => (by cases h)⟩
  | e :: R, i, q => by
    unfold nmI
    rw [List.mem_cons, zef R (i + 1) q]
    constructor
    · rintro (h | ⟨j, h, e2⟩)
      · exact ⟨0, by simp, h⟩
      · exact ⟨j + 1, by simpa using h, by rw [e2, show i + (j + 1) = i + 1 + j by omega]; rfl⟩
    · rintro ⟨j, h, e2⟩
      cases j with
      | zero => exact .inl e2
      | succ j => exact .inr ⟨j, by simpa using h, by rw [e2, show i + (j + 1) = i + 1 + j by omega]; rfl⟩
theorem zhl : ∀ (R : List RT0) (i : Nat), (R.Pairwise fun a b => nmE a ≠ nmE b) → (nmI R i).Pairwise fun a b => a.1 ≠ b.1
  | [], i, h => .nil
  | e :: R, i, h => by
    rw [List.pairwise_cons] at h
    refine .cons (fun q hq => ?_) (zhl R (i + 1) h.2)
    obtain ⟨j, hj, rfl⟩ := (zef R (i + 1) q).1 hq
    exact h.1 _ (List.getElem_mem hj)
theorem zdm (A : List (List AV)) (E : List RT0) (hE : E.length ≤ 500) : ∀ (R : List RT0) (k f : Nat) (M : List (RT1 × Int)), E.drop k = R → R.length < f → k + R.length = E.length → (R.Pairwise fun a b => nmE a ≠ nmE b) → (∀ e ∈ R, ∀ q ∈ M, nmE e ≠ q.1) →
    (jv 600).L f (A, E.map Ren0, E.map Ren0, (E.length : Int), (k : Int), M.map row5) = some (A, E.map Ren0, (M ++ nmI R k).map row5)
  | [], k, f, M, hR, hf, hk, h1, h2 => by
    obtain ⟨f, rfl⟩ : ∃ f', f = f' + 1 := ⟨f - 1, by omega⟩
    show (jv 600).b _ _ ((jv 600).L f) some = _
    simp only [jv]
    have e2 : decide ((k : Int) < (E.length : Int)) = false := by rw [decide_eq_false_iff_not]; simp at hk; omega
    simp only [e2]
    unfold nmI
    rw [List.append_nil]
  | e :: R, k, f, M, hR, hf, hk, h1, h2 => by
    obtain ⟨f, rfl⟩ : ∃ f', f = f' + 1 := ⟨f - 1, by omega⟩
    rw [List.length_cons] at hf hk
    obtain ⟨hkl, hek, hR'⟩ := Je hR
    rw [List.pairwise_cons] at h1
    have e2 : decide ((k : Int) < (E.length : Int)) = true := by rw [decide_eq_true_iff]; omega
    have e3 : (0 : Int) ≤ (k : Int) := by omega
    obtain ⟨m1, m2⟩ := zmz M (nmE e) (k : Int) (h2 e List.mem_cons_self)
    have r1 := zdm A E hE R (k + 1) f (M ++ [(nmE e, (k : Int))]) hR' (by omega) (by omega) h1.2 (fun a ha q hq => by
      rcases List.mem_append.1 hq with h | h
      · exact h2 a (List.mem_cons_of_mem _ ha) q h
      · have h := List.mem_singleton.1 h
        subst h
        exact (h1.1 a ha).symm)
    show (jv 600).b _ _ ((jv 600).L f) some = _
    obtain ⟨Lf, hLf⟩ : ∃ Lf, Lf = (jv 600).L f := ⟨_, rfl⟩
    rw [← hLf] at r1 ⊢
    simp only [jv]
    have m2' : Jd (Ren1 (nmE e)) (Ren5 (mk5 (nmE e) (k : Int))) (M.map row5) = (M ++ [(nmE e, (k : Int))]).map row5 := m2
    simp only [e2, e3, if_true, Int.toNat_natCast, get0 E k hkl, hek, ZP, m1, m2', Option.isSome_none, Bool.not_false, zn (show k < 1000000 by omega)]
    rw [r1, List.append_assoc]
    rfl
structure Fo (A : List RT3) (E : List RT0) (o : List Int) (t : List Bool) : Prop where
  lo : o.length = A.length
  lt : t.length = E.length
  v : ∀ k (h : k < o.length), o[k] = -1 ∨ ∃ i : Nat, i < E.length ∧ o[k] = (i : Int)
  w : ∀ k (h : k < o.length) (h' : k < A.length), wdA A[k] = true → o[k] = -1
  inj : ∀ j k (hj : j < o.length) (hk : k < o.length), o[j] = o[k] → 0 ≤ o[j] → j = k
  tk : ∀ i (h : i < t.length), t[i] = true ↔ ∃ k, ∃ h : k < o.length, o[k] = (i : Int)
  nm : ∀ k (h : k < o.length) (h' : k < A.length), wdA A[k] = false → ∀ i (hi : i < E.length), nmE E[i] = nmA A[k] → o[k] = (i : Int)
theorem Fo.set {A : List RT3} {E : List RT0} {o : List Int} {t : List Bool} (F : Fo A E o t) {k i : Nat} (hk : k < o.length) (hk' : k < A.length) (hi : i < E.length) (hi' : i < t.length) (hw : wdA A[k] = false) (ho : o[k] < 0) (ht : t[i] = false) : Fo A E (o.set k (i : Int)) (t.set i true) := by
  have hno : ∀ j (h : j < o.length), o[j] ≠ (i : Int) := fun j h e => by
    have := (F.tk i hi').2 ⟨j, h, e⟩
    rw [ht] at this; cases this
  refine ⟨by simpa using F.lo, by simpa using F.lt, fun j h => ?_, fun j h h' hwj => ?_, fun j l hj hl e h0 => ?_, fun m h => ?_, fun j h h' hwj m hm e => ?_⟩
  · rw [List.getElem_set]
    split
    · exact .inr ⟨i, hi, rfl⟩
    · exact F.v j (by simpa using h)
  · rw [List.getElem_set]
    split
    · rename_i e; subst e; rw [hw] at hwj; cases hwj
    · exact F.w j (by simpa using h) h' hwj
  · rw [List.getElem_set] at e h0
    rw [List.getElem_set] at e
    split at e
    · rename_i e1
      split at e
      · rename_i e2; omega
      · exact absurd e.symm (hno l (by simpa using hl))
    · rename_i e1
      rw [if_neg e1] at h0
      split at e
      · exact absurd e (hno j (by simpa using hj))
      · exact F.inj j l (by simpa using hj) (by simpa using hl) e h0
  · rw [List.getElem_set]
    split
    · rename_i e; subst e
      exact ⟨fun _ => ⟨k, by simpa using hk, by simp⟩, fun _ => rfl⟩
    · rename_i e
      rw [F.tk m (by simpa using h)]
      constructor
      · rintro ⟨j, hj, e2⟩
        refine ⟨j, by simpa using hj, ?_⟩
        rw [List.getElem_set]
        split
        · rename_i e3; subst e3; rw [e2] at ho; omega
        · exact e2
      · rintro ⟨j, hj, e2⟩
        rw [List.getElem_set] at e2
        split at e2
        · omega
        · exact ⟨j, by simpa using hj, e2⟩
  · rw [List.getElem_set]
    split
    · rename_i e1; subst e1
      have := F.nm k hk hk' hw m hm e
      omega
    · exact F.nm j (by simpa using h) h' hwj m hm e
theorem Fo.snoc_no {A : List RT3} {E : List RT0} {o : List Int} {t : List Bool} (F : Fo A E o t) (a : RT3) (h : wdA a = false → ∀ i (hi : i < E.length), nmE E[i] ≠ nmA a) : Fo (A ++ [a]) E (o ++ [-1]) t := by
  have hlo := F.lo
  refine ⟨by simp [hlo], F.lt, fun j hj => ?_, fun j hj h' hw => ?_, fun j l hj hl e h0 => ?_, fun m hm => ?_, fun j hj h' hw m hm e => ?_⟩
  · rw [List.getElem_append]
    split
    · exact F.v j _
    · simp
  · rw [List.getElem_append]
    split
    · rename_i h1
      rw [List.getElem_append_left (by omega)] at hw
      exact F.w j h1 (by omega) hw
    · simp
  · rw [List.getElem_append] at e h0
    rw [List.getElem_append] at e
    split at e
    · rename_i h1
      rw [dif_pos h1] at h0
      split at e
      · rename_i h2; exact F.inj j l h1 h2 e h0
      · (simp at e) <;> omega
    · rename_i h1
      rw [dif_neg h1] at h0
      simp at h0
  · rw [F.tk m hm]
    constructor
    · rintro ⟨j, hj, e⟩
      exact ⟨j, by simp; omega, by rw [List.getElem_append_left hj]; exact e⟩
    · rintro ⟨j, hj, e⟩
      rw [List.getElem_append] at e
      split at e
      · rename_i h1; exact ⟨j, h1, e⟩
      · (simp at e) <;> omega
  · rw [List.getElem_append]
    split
    · rename_i h1
      rw [List.getElem_append_left (by omega)] at hw e
      exact F.nm j h1 (by omega) hw m hm e
    · rename_i h1
      rw [List.getElem_append_right (by omega)] at hw e
      have : j - A.length = 0 := by simp at hj; omega
      simp only [this, List.getElem_cons_zero] at hw e
      exact absurd e (h hw m hm)
theorem Fo.snoc_yes {A : List RT3} {E : List RT0} {o : List Int} {t : List Bool} (F : Fo A E o t) (hn : E.Pairwise fun a b => nmE a ≠ nmE b) (a : RT3) {i : Nat} (hi : i < E.length) (hw : wdA a = false) (he : nmE E[i] = nmA a) (hno : ∀ j (h : j < o.length), o[j] ≠ (i : Int)) : Fo (A ++ [a]) E (o ++ [(i : Int)]) (t.set i true) := by
  have hlo := F.lo
  have hlt := F.lt
  refine ⟨by simp [hlo], by simp [hlt], fun j hj => ?_, fun j hj h' hw' => ?_, fun j l hj hl e h0 => ?_, fun m hm => ?_, fun j hj h' hw' m hm e => ?_⟩
  · rw [List.getElem_append]
    split
    · exact F.v j _
    · exact .inr ⟨i, hi, by simp⟩
  · rw [List.getElem_append]
    split
    · rename_i h1
      rw [List.getElem_append_left (by omega)] at hw'
      exact F.w j h1 (by omega) hw'
    · rename_i h1
      rw [List.getElem_append_right (by omega)] at hw'
      have : j - A.length = 0 := by simp at hj; omega
      simp only [this, List.getElem_cons_zero] at hw'
      rw [hw] at hw'; cases hw'
  · rw [List.getElem_append] at e h0
    rw [List.getElem_append] at e
    split at e
    · rename_i h1
      rw [dif_pos h1] at h0
      split at e
      · rename_i h2; exact F.inj j l h1 h2 e h0
      · simp at e; exact absurd e (hno j h1)
    · rename_i h1
      split at e
      · rename_i h2
        simp at e
        exact absurd e.symm (hno l h2)
      · simp at hj hl; omega
  · rw [List.getElem_set]
    split
    · rename_i e1; subst e1
      exact ⟨fun _ => ⟨o.length, by simp, by simp⟩, fun _ => rfl⟩
    · rename_i e1
      rw [F.tk m (by simpa using hm)]
      constructor
      · rintro ⟨j, hj, e⟩
        exact ⟨j, by simp; omega, by rw [List.getElem_append_left hj]; exact e⟩
      · rintro ⟨j, hj, e⟩
        rw [List.getElem_append] at e
        split at e
        · rename_i h1; exact ⟨j, h1, e⟩
        · (simp at e) <;> omega
  · rw [List.getElem_append]
    split
    · rename_i h1
      rw [List.getElem_append_left (by omega)] at hw' e
      exact F.nm j h1 (by omega) hw' m hm e
    · rename_i h1
      rw [List.getElem_append_right (by omega)] at e
      have : j - A.length = 0 := by simp at hj; omega
      simp only [this, List.getElem_cons_zero] at e
      have hm' : m = i := by
        rcases Nat.lt_trichotomy m i with h | h | h
        · exact absurd (e.trans he.symm) (List.pairwise_iff_getElem.1 hn m i hm hi h)
        · exact h
        · exact absurd (he.trans e.symm) (List.pairwise_iff_getElem.1 hn i m hi hm h)
      subst hm'
      simp
end Go.Proofs.Ytnnfpoelkdgjdaa
end
section
namespace Go.Proofs.Ytnnfpoelkdgjdaa
set_option linter.unusedVariables false
set_option linter.unusedSimpArgs false
set_option linter.unnecessarySimpa false
theorem set_mid (p : List Int) (d : Nat) (v : Int) : (p ++ List.replicate (d + 1) 0).set p.length v = (p ++ [v]) ++ List.replicate d 0 := by
  rw [List.replicate_succ, List.set_append, if_neg (Nat.lt_irrefl _), Nat.sub_self]
  simp
theorem Ji (A : List RT3) (E : List RT0) (hA : A.length ≤ 500) (hE : E.length ≤ 500) (hn : E.Pairwise fun a b => nmE a ≠ nmE b) (hnA : A.Pairwise fun a b => wdA a = false → wdA b = false → nmA a ≠ nmA b) :
    ∀ (R : List RT3) (k f : Nat) (p : List Int) (t : List Bool), A.drop k = R → R.length < f → k + R.length = A.length → p.length = k → Fo (A.take k) E p t → (∀ j (h : j < p.length) (h' : j < A.length) (i : Nat) (hi : i < E.length), p[j] = (i : Int) → nmE E[i] = nmA A[j] ∧ wdA A[j] = false) →
    ∃ o t', (zW 600).L f (A.map Ren3, E.map Ren0, A.map Ren3, A.length, E.length, (A.length : Int), (k : Int), cI (p ++ List.replicate R.length 0), cB t, (nmI E 0).map row5) = some (A.map Ren3, E.map Ren0, A.length, E.length, cI o, cB t') ∧ Fo A E o t'
  | [], k, f, p, t, hR, hf, hk, hp, F, hc => by
    obtain ⟨f, rfl⟩ : ∃ f', f = f' + 1 := ⟨f - 1, by omega⟩
    have hk' : k = A.length := by simpa using hk
    refine ⟨p, t, ?_, by rw [hk', List.take_length] at F; exact F⟩
    show (zW 600).b _ _ ((zW 600).L f) some = _
    simp only [zW]
    have e2 : decide ((k : Int) < (A.length : Int)) = false := by rw [decide_eq_false_iff_not]; omega
    simp only [e2, zF, Ze, List.length_nil, List.replicate_zero, List.append_nil]
  | a :: R, k, f, p, t, hR, hf, hk, hp, F, hc => by
    obtain ⟨f, rfl⟩ : ∃ f', f = f' + 1 := ⟨f - 1, by omega⟩
    rw [List.length_cons] at hf hk
    obtain ⟨hkl, hek, hR'⟩ := Je hR
    have htake : A.take (k + 1) = A.take k ++ [a] := by rw [List.take_succ_eq_append_getElem hkl, hek]
    have e2 : decide ((k : Int) < (A.length : Int)) = true := by rw [decide_eq_true_iff]; omega
    have e3 : (0 : Int) ≤ (k : Int) := by omega
    have hz : (0 : Int) ≤ (k : Int) ∧ (k : Int) < (A.length : Int) := by omega
    have hlen : (p ++ List.replicate (R.length + 1) (0 : Int)).length = A.length := by simp; omega
    have hroom := zgo (p ++ List.replicate (R.length + 1) (0 : Int)) k (by omega)
    have hset : ∀ v : Int, splice (cI (p ++ List.replicate (R.length + 1) (0 : Int))) ((0 + ((k : Int)).toNat) * 1) [AV.v (.int .i64 v)] = cI (p ++ [v] ++ List.replicate R.length 0) := fun v => by
      rw [zl7, ← hp, set_mid]
    -- no event
    have no : (wdA a = false → ∀ i (hi : i < E.length), nmE E[i] ≠ nmA a) → ∃ o t', (zW 600).L f (A.map Ren3, E.map Ren0, A.map Ren3, A.length, E.length, (A.length : Int), ((k + 1 : Nat) : Int), cI (p ++ [-1] ++ List.replicate R.length 0), cB t, (nmI E 0).map row5) = some (A.map Ren3, E.map Ren0, A.length, E.length, cI o, cB t') ∧ Fo A E o t' := fun h =>
      Ji A E hA hE hn hnA R (k + 1) f (p ++ [-1]) t hR' (by omega) (by omega) (by simp [hp]) (by rw [htake]; exact F.snoc_no a h) (fun j hj hj' i hi e => by
        rw [List.getElem_append] at e
        split at e
        · rename_i h1; exact hc j h1 hj' i hi e
        · exfalso; (simp at e) <;> omega)
    cases hw : wdA a with
    | true =>
      obtain ⟨o, t', r1, r2⟩ := no (fun h => by rw [hw] at h; cases h)
      refine ⟨o, t', ?_, r2⟩
      show (zW 600).b _ _ ((zW 600).L f) some = _
      obtain ⟨Lf, hLf⟩ : ∃ Lf, Lf = (zW 600).L f := ⟨_, rfl⟩
      rw [← hLf] at r1 ⊢
      simp only [zW]
      simp only [e2, e3, hz, and_self, if_true, Int.toNat_natCast, get3 A k hkl, hek, jl, hw, List.length_cons]
      rw [Int.toNat_natCast] at hroom
      have hs := hset (-1)
      rw [Int.toNat_natCast] at hs
      simp only [hroom, if_true, hs, zF, Ze, zn (show k < 1000000 by omega)]
      exact r1
    | false =>
      by_cases hx : ∃ i, ∃ hi : i < E.length, nmE E[i] = nmA a
      · obtain ⟨i, hi, he⟩ := hx
        have hmem : (nmA a, (i : Int)) ∈ nmI E 0 := (zef E 0 _).2 ⟨i, hi, by rw [he, Nat.zero_add]⟩
        have hint := zjZ (nmI E 0) (nmA a) (i : Int) hmem (zhl E 0 hn)
        have hno : ∀ j (h : j < p.length), p[j] ≠ (i : Int) := fun j h e => by
          obtain ⟨q1, q2⟩ := hc j h (by omega) i hi e
          exact List.pairwise_iff_getElem.1 hnA j k (by omega) hkl (by omega) q2 (by rw [hek]; exact hw) (by rw [hek, ← q1, he])
        have hlt := F.lt
        obtain ⟨o, t', r1, r2⟩ := Ji A E hA hE hn hnA R (k + 1) f (p ++ [(i : Int)]) (t.set i true) hR' (by omega) (by omega) (by simp [hp]) (by rw [htake]; exact F.snoc_yes hn a hi hw he hno) (fun j hj hj' m hm e => by
          rw [List.getElem_append] at e
          split at e
          · rename_i h1; exact hc j h1 hj' m hm e
          · rename_i h1
            simp at e
            have : m = i := by omega
            subst this
            have : j = k := by simp at hj; omega
            subst this
            rw [hek]
            exact ⟨he, hw⟩)
        refine ⟨o, t', ?_, r2⟩
        show (zW 600).b _ _ ((zW 600).L f) some = _
        obtain ⟨Lf, hLf⟩ : ∃ Lf, Lf = (zW 600).L f := ⟨_, rfl⟩
        rw [← hLf] at r1 ⊢
        simp only [zW]
        have hs := hset (i : Int)
        have hb := zmC t i true
        have hroom2 := zgb t i (by omega)
        rw [Int.toNat_natCast] at hroom hs hb hroom2
        have hz2 : (0 : Int) ≤ (i : Int) ∧ (i : Int) < (E.length : Int) := by omega
        simp only [e2, e3, hz, hz2, and_self, if_true, Int.toNat_natCast, get3 A k hkl, hek, jl, hw, hint, Option.isSome_some, Option.getD_some, Bool.not_true, List.length_cons, hroom, hroom2, hs, hb, zF, Ze, zn (show k < 1000000 by omega)]
        exact r1
      · have hnone : jH (Ren1 (nmA a)) ((nmI E 0).map row5) = none := (zmz (nmI E 0) (nmA a) 0 (fun q hq e => by
          obtain ⟨j, hj, rfl⟩ := (zef E 0 q).1 hq
          exact hx ⟨j, hj, e.symm⟩)).1
        obtain ⟨o, t', r1, r2⟩ := no (fun _ i hi e => hx ⟨i, hi, e⟩)
        refine ⟨o, t', ?_, r2⟩
        show (zW 600).b _ _ ((zW 600).L f) some = _
        obtain ⟨Lf, hLf⟩ : ∃ Lf, Lf = (zW 600).L f := ⟨_, rfl⟩
        rw [← hLf] at r1 ⊢
        simp only [zW]
        have hs := hset (-1)
        rw [Int.toNat_natCast] at hroom hs
        simp only [e2, e3, hz, and_self, if_true, Int.toNat_natCast, get3 A k hkl, hek, jl, hw, hnone, Option.isSome_none, Bool.not_false, List.length_cons, hroom, hs, zF, Ze, zn (show k < 1000000 by omega)]
        exact r1
theorem zkz (A : List RT3) (E : List RT0) (k : Nat) (hk : k < A.length) (hE : E.length ≤ 500) (hpE : ∀ e ∈ E, PkOk e) (hpA : PkOk (evA A[k])) (hw : wdA A[k] = false) (o : List Int) (t : List Bool) (F : Fo A E o t) (hko : k < o.length) (hneg : o[k] < 0) :
    ∀ (d i f : Nat), i + d = E.length → d < f → ∃ o' t', (Zc 600).L f (E.map Ren0, A.map Ren3, E.map Ren0, A.length, E.length, (k : Int), (A.length : Int), (k : Int), (E.length : Int), (i : Int), A[k], cI o, cB t) = some (E.map Ren0, A.map Ren3, A.length, E.length, (A.length : Int), (k : Int), cI o', cB t') ∧ Fo A E o' t' := by
  intro d
  induction d with
  | zero =>
    intro i f hi hf
    obtain ⟨f, rfl⟩ : ∃ f', f = f' + 1 := ⟨f - 1, by omega⟩
    refine ⟨o, t, ?_, F⟩
    show (Zc 600).b _ _ ((Zc 600).L f) some = _
    simp only [Zc]
    have e2 : decide ((i : Int) < (E.length : Int)) = false := by rw [decide_eq_false_iff_not]; omega
    simp only [e2, zF, Ze]
  | succ d ih =>
    intro i f hi hf
    obtain ⟨f, rfl⟩ : ∃ f', f = f' + 1 := ⟨f - 1, by omega⟩
    have hil : i < E.length := by omega
    have hlt := F.lt
    have hlo := F.lo
    have hit : i < t.length := by omega
    have e2 : decide ((i : Int) < (E.length : Int)) = true := by rw [decide_eq_true_iff]; omega
    have e3 : (0 : Int) ≤ (i : Int) := by omega
    have hz : (0 : Int) ≤ (i : Int) ∧ (i : Int) < (E.length : Int) := by omega
    have hz2 : (0 : Int) ≤ (k : Int) ∧ (k : Int) < (A.length : Int) := by omega
    obtain ⟨P, p1, p2⟩ := hpA
    obtain ⟨Q, q1, q2⟩ := hpE _ (List.getElem_mem hil)
    obtain ⟨b, hb, -⟩ := zmV P Q (evA A[k]) E[i] p2 q2 (by omega) (by omega)
    obtain ⟨o', t', r1, r2⟩ := ih (i + 1) f (by omega) (by omega)
    have hg := cB_get t i hit
    have hb2 := zmC t i true
    have hs2 := zl7 o k (i : Int)
    have hr1 := zgo o k hko
    have hr2 := zgb t i hit
    rw [Int.toNat_natCast] at hg hb2 hs2 hr1 hr2
    cases ht : t[i] with
    | true =>
      refine ⟨o', t', ?_, r2⟩
      show (Zc 600).b _ _ ((Zc 600).L f) some = _
      obtain ⟨Lf, hLf⟩ : ∃ Lf, Lf = (Zc 600).L f := ⟨_, rfl⟩
      rw [← hLf] at r1 ⊢
      simp only [Zc]
      rw [ht] at hg
      simp only [e2, e3, hz, and_self, if_true, Int.toNat_natCast, get0 E i hil, ZP, hg, Bool.not_true, zF, Ze, zn (show i < 1000000 by omega)]
      exact r1
    | false =>
      cases b with
      | true =>
        refine ⟨_, _, ?_, F.set hko hk hil hit hw hneg ht⟩
        show (Zc 600).b _ _ ((Zc 600).L f) some = _
        simp only [Zc]
        rw [ht] at hg
        simp only [e2, e3, hz, hz2, and_self, if_true, Int.toNat_natCast, get0 E i hil, ZP, hg, Bool.not_false, hb, hr1, hr2, hs2, hb2, zF, Ze, decide_true]
      | false =>
        refine ⟨o', t', ?_, r2⟩
        show (Zc 600).b _ _ ((Zc 600).L f) some = _
        obtain ⟨Lf, hLf⟩ : ∃ Lf, Lf = (Zc 600).L f := ⟨_, rfl⟩
        rw [← hLf] at r1 ⊢
        simp only [Zc]
        rw [ht] at hg
        simp only [e2, e3, hz, and_self, if_true, Int.toNat_natCast, get0 E i hil, ZP, hg, Bool.not_false, hb, zF, Ze, zn (show i < 1000000 by omega)]
        exact r1
theorem ze4 (A : List RT3) (E : List RT0) (hA : A.length ≤ 500) (hE : E.length ≤ 500) (hpE : ∀ e ∈ E, PkOk e) (hpA : ∀ a ∈ A, PkOk (evA a)) : ∀ (d k f : Nat) (o : List Int) (t : List Bool), k + d = A.length → d < f → Fo A E o t →
    ∃ o' t', (zY 600).L f (E.map Ren0, A.map Ren3, A.length, E.length, (A.length : Int), (k : Int), cI o, cB t) = some (A.length, cI o') ∧ Fo A E o' t' := by
  intro d
  induction d with
  | zero =>
    intro k f o t hk hf F
    obtain ⟨f, rfl⟩ : ∃ f', f = f' + 1 := ⟨f - 1, by omega⟩
    refine ⟨o, t, ?_, F⟩
    show (zY 600).b _ _ ((zY 600).L f) some = _
    simp only [zY]
    have e2 : decide ((k : Int) < (A.length : Int)) = false := by rw [decide_eq_false_iff_not]; omega
    simp only [e2, zF]
  | succ d ih =>
    intro k f o t hk hf F
    obtain ⟨f, rfl⟩ : ∃ f', f = f' + 1 := ⟨f - 1, by omega⟩
    have hkl : k < A.length := by omega
    have hlo := F.lo
    have hko : k < o.length := by omega
    have e2 : decide ((k : Int) < (A.length : Int)) = true := by rw [decide_eq_true_iff]; omega
    have e3 : (0 : Int) ≤ (k : Int) := by omega
    have hz : (0 : Int) ≤ (k : Int) ∧ (k : Int) < (A.length : Int) := by omega
    have hg := zev o k hko
    rw [Int.toNat_natCast] at hg
    cases hw : wdA A[k] with
    | true =>
      obtain ⟨o', t', r1, r2⟩ := ih (k + 1) f o t (by omega) (by omega) F
      refine ⟨o', t', ?_, r2⟩
      show (zY 600).b _ _ ((zY 600).L f) some = _
      obtain ⟨Lf, hLf⟩ : ∃ Lf, Lf = (zY 600).L f := ⟨_, rfl⟩
      rw [← hLf] at r1 ⊢
      simp only [zY]
      simp only [e2, e3, if_true, Int.toNat_natCast, get3 A k hkl, jl, hw, zF, Ze, zn (show k < 1000000 by omega)]
      exact r1
    | false =>
      by_cases hn : o[k] ≥ 0
      · obtain ⟨o', t', r1, r2⟩ := ih (k + 1) f o t (by omega) (by omega) F
        refine ⟨o', t', ?_, r2⟩
        show (zY 600).b _ _ ((zY 600).L f) some = _
        obtain ⟨Lf, hLf⟩ : ∃ Lf, Lf = (zY 600).L f := ⟨_, rfl⟩
        rw [← hLf] at r1 ⊢
        simp only [zY]
        simp only [e2, e3, hz, and_self, if_true, Int.toNat_natCast, get3 A k hkl, jl, hw, hg, hn, decide_true, zF, Ze, zn (show k < 1000000 by omega)]
        exact r1
      · obtain ⟨o1, t1, q1, F1⟩ := zkz A E k hkl hE hpE (hpA _ (List.getElem_mem hkl)) hw o t F hko (by omega) E.length 0 600 (by omega) (by omega)
        replace q1 : (Zc 600).L 600 (E.map Ren0, A.map Ren3, E.map Ren0, A.length, E.length, (k : Int), (A.length : Int), (k : Int), (E.length : Int), 0, A[k], cI o, cB t) = some (E.map Ren0, A.map Ren3, A.length, E.length, (A.length : Int), (k : Int), cI o1, cB t1) := q1
        obtain ⟨o', t', r1, r2⟩ := ih (k + 1) f o1 t1 (by omega) (by omega) F1
        refine ⟨o', t', ?_, r2⟩
        show (zY 600).b _ _ ((zY 600).L f) some = _
        obtain ⟨Lf, hLf⟩ : ∃ Lf, Lf = (zY 600).L f := ⟨_, rfl⟩
        rw [← hLf] at r1 ⊢
        simp only [zY]
        simp only [e2, e3, hz, and_self, if_true, Int.toNat_natCast, get3 A k hkl, jl, hw, hg, hn, decide_false, zmQ, List.length_map, q1, zF, Ze, zn (show k < 1000000 by omega)]
        exact r1
theorem zk6 (A : List RT3) (E : List RT0) (hA : A.length ≤ 500) (hE : E.length ≤ 500) (hn : E.Pairwise fun a b => nmE a ≠ nmE b) (hnA : A.Pairwise fun a b => wdA a = false → wdA b = false → nmA a ≠ nmA b) (hpE : ∀ e ∈ E, PkOk e) (hpA : ∀ a ∈ A, PkOk (evA a)) :
    ∃ o t, F19_d 600 (A.map Ren3, E.map Ren0) = some (zC o) ∧ Fo A E o t := by
  have h1 := zdm (A.map Ren3) E hE E 0 600 [] rfl (by omega) (by omega) hn (fun e _ q hq => by cases hq)
  replace h1 : (jv 600).L 600 (A.map Ren3, E.map Ren0, E.map Ren0, (E.length : Int), 0, []) = some (A.map Ren3, E.map Ren0, (nmI E 0).map row5) := h1
  have F0 : Fo (A.take 0) E [] (List.replicate E.length false) := ⟨rfl, by simp, fun k h => (by cases h), fun k h => (by cases h), fun j k h => (by cases h), fun i h => ⟨fun e => by simp at e, fun ⟨k, h, _⟩ => by cases h⟩, fun k h => by cases h⟩
  obtain ⟨o1, t1, h2, F1⟩ := Ji A E hA hE hn hnA A 0 600 [] (List.replicate E.length false) rfl (by omega) (by omega) rfl F0 (fun j h => by cases h)
  replace h2 : (zW 600).L 600 (A.map Ren3, E.map Ren0, A.map Ren3, A.length, E.length, (A.length : Int), 0, cI (List.replicate A.length 0), cB (List.replicate E.length false), (nmI E 0).map row5) = some (A.map Ren3, E.map Ren0, A.length, E.length, cI o1, cB t1) := h2
  obtain ⟨o2, t2, h3, F2⟩ := ze4 A E hA hE hpE hpA A.length 0 600 o1 t1 (by omega) (by omega) F1
  replace h3 : (zY 600).L 600 (E.map Ren0, A.map Ren3, A.length, E.length, (A.length : Int), 0, cI o1, cB t1) = some (A.length, cI o2) := h3
  refine ⟨o2, t2, ?_, F2⟩
  have g1 : (0 : Int) ≤ (A.length : Int) ∧ (A.length : Int) ≤ (A.length : Int) ∧ ((A.length : Int)).toNat * 8 ≤ zl := by unfold zl; omega
  have g2 : (0 : Int) ≤ (E.length : Int) ∧ (E.length : Int) ≤ (E.length : Int) ∧ ((E.length : Int)).toNat * 1 ≤ zl := by unfold zl; omega
  have g1b : A.length * 8 ≤ zl := by unfold zl; omega
  have g2b : E.length * 1 ≤ zl := by unfold zl; omega
  have hlo := F2.lo
  have g3 : A.length * 1 ≤ (cI o2).length := by rw [zdh]; omega
  simp only [F19_d, FSpec.d, zif, F19_d5, List.length_map, h1, g1.1, g1.2.1, g2.1, g2.2.1, g1b, g2b, and_self, if_true, Int.toNat_natCast, cI_rep, cB_rep, zF, Ze, zjN, h2, zmO, h3]
  rw [if_pos g3, zlG o2 _ (by omega)]
end Go.Proofs.Ytnnfpoelkdgjdaa
end
section
namespace Go.Proofs.Ytnnfpoelkdgjdaa
set_option linter.unusedVariables false
set_option linter.unusedSimpArgs false
set_option linter.unnecessarySimpa false
theorem nm00 (e : RT0) : Rrd1 ((Ren0 e).drop 0) = some (nmE e) := rfl
theorem zga (E : List RT0) (p : RT1) (hE : E.length ≤ 500) : ∀ (d k f : Nat), k + d = E.length → d < f → (∀ i (h : i < E.length), i < k → nmE E[i] ≠ p) → ∃ y, (ZY 600).L f (E.map Ren0, (k : Int), p) = some y ∧ ((∃ i, ∃ h : i < E.length, nmE E[i] = p ∧ y = .inl (i : Int)) ∨ ((∀ i (h : i < E.length), nmE E[i] ≠ p) ∧ y = .inr ())) := by
  intro d
  induction d with
  | zero =>
    intro k f hk hf hno
    obtain ⟨f, rfl⟩ : ∃ f', f = f' + 1 := ⟨f - 1, by omega⟩
    refine ⟨.inr (), ?_, .inr ⟨fun i h => hno i h (by omega), rfl⟩⟩
    show (ZY 600).b _ _ ((ZY 600).L f) some = _
    simp only [ZY]
    have e2 : decide ((k : Int) < (E.length : Int)) = false := by rw [decide_eq_false_iff_not]; omega
    simp only [List.length_map, e2]
  | succ d ih =>
    intro k f hk hf hno
    obtain ⟨f, rfl⟩ : ∃ f', f = f' + 1 := ⟨f - 1, by omega⟩
    have hkl : k < E.length := by omega
    have e2 : decide ((k : Int) < (E.length : Int)) = true := by rw [decide_eq_true_iff]; omega
    have e3 : (0 : Int) ≤ (k : Int) := by omega
    by_cases hc : nmE E[k] = p
    · refine ⟨.inl (k : Int), ?_, .inl ⟨k, hkl, hc, rfl⟩⟩
      show (ZY 600).b _ _ ((ZY 600).L f) some = _
      simp only [ZY]
      have e4 : eqP (nmE E[k]) p = true := by rw [hc]; exact zat p
      simp only [List.length_map, e2, e3, if_true, Int.toNat_natCast, get0 E k hkl, nm00, e4]
    · obtain ⟨y, r1, r2⟩ := ih (k + 1) f (by omega) (by omega) (fun i h hi => by
        by_cases e : i = k
        · subst e; exact hc
        · exact hno i h (by omega))
      refine ⟨y, ?_, r2⟩
      show (ZY 600).b _ _ ((ZY 600).L f) some = _
      obtain ⟨Lf, hLf⟩ : ∃ Lf, Lf = (ZY 600).L f := ⟨_, rfl⟩
      rw [← hLf] at r1 ⊢
      simp only [ZY]
      have e4 : eqP (nmE E[k]) p = false := za3 hc
      simp only [List.length_map, e2, e3, if_true, Int.toNat_natCast, get0 E k hkl, nm00, e4, zn (show k < 1000000 by omega)]
      exact r1
theorem zmS (E : List RT0) (p : RT1) (hE : E.length ≤ 500) : ∃ v : Int, F13_d 600 (E.map Ren0, p) = some v ∧ ((∃ i, ∃ h : i < E.length, nmE E[i] = p ∧ v = (i : Int)) ∨ ((∀ i (h : i < E.length), nmE E[i] ≠ p) ∧ v = -1)) := by
  obtain ⟨y, h1, h2⟩ := zga E p hE E.length 0 600 (by omega) (by omega) (fun i h hi => by omega)
  replace h1 : (ZY 600).L 600 (E.map Ren0, 0, p) = some y := h1
  simp only [F13_d, FSpec.d, zit, F13_d4, h1]
  rcases h2 with ⟨i, h, q1, rfl⟩ | ⟨q1, rfl⟩
  · exact ⟨_, rfl, .inl ⟨i, h, q1, rfl⟩⟩
  · exact ⟨_, rfl, .inr ⟨q1, rfl⟩⟩
theorem in_loop (o : List Int) (x : Int) (ho : o.length ≤ 500) : ∀ (d k f : Nat), k + d = o.length → d < f → ∃ y, (Zl 600).L f (o.length, x, (k : Int), cI o) = some y ∧ ((x ∈ o.drop k ∧ y = .inl (true, cI o)) ∨ (x ∉ o.drop k ∧ y = .inr (cI o))) := by
  intro d
  induction d with
  | zero =>
    intro k f hk hf
    obtain ⟨f, rfl⟩ : ∃ f', f = f' + 1 := ⟨f - 1, by omega⟩
    refine ⟨.inr (cI o), ?_, .inr ⟨by rw [List.drop_eq_nil_of_le (by omega)]; simp, rfl⟩⟩
    show (Zl 600).b _ _ ((Zl 600).L f) some = _
    simp only [Zl]
    have e2 : decide ((k : Int) < (o.length : Int)) = false := by rw [decide_eq_false_iff_not]; omega
    simp only [e2, zF]
  | succ d ih =>
    intro k f hk hf
    obtain ⟨f, rfl⟩ : ∃ f', f = f' + 1 := ⟨f - 1, by omega⟩
    have hkl : k < o.length := by omega
    have e2 : decide ((k : Int) < (o.length : Int)) = true := by rw [decide_eq_true_iff]; omega
    have hz : (0 : Int) ≤ (k : Int) ∧ (k : Int) < (o.length : Int) := by omega
    have hg := zev o k hkl
    by_cases hc : o[k] = x
    · refine ⟨.inl (true, cI o), ?_, .inl ⟨(zw hkl x).2 (.inl hc.symm), rfl⟩⟩
      show (Zl 600).b _ _ ((Zl 600).L f) some = _
      simp only [Zl]
      have e4 : (o[k] == x) = true := by simp [hc]
      rw [e2]
      simp only [hz, and_self, if_true, hg, e4, zF]
    · obtain ⟨y, r1, r2⟩ := ih (k + 1) f (by omega) (by omega)
      refine ⟨y, ?_, ?_⟩
      · show (Zl 600).b _ _ ((Zl 600).L f) some = _
        obtain ⟨Lf, hLf⟩ : ∃ Lf, Lf = (Zl 600).L f := ⟨_, rfl⟩
        rw [← hLf] at r1 ⊢
        simp only [Zl]
        have e4 : (o[k] == x) = false := by simp [hc]
        rw [e2]
        simp only [hz, and_self, if_true, hg, e4, zF, zn (show k < 1000000 by omega)]
        exact r1
      · rcases r2 with ⟨h1, h2⟩ | ⟨h1, h2⟩
        · exact .inl ⟨(zw hkl x).2 (.inr h1), h2⟩
        · exact .inr ⟨fun h => ((zw hkl x).1 h).elim (fun e => hc e.symm) h1, h2⟩
theorem in_ok (o : List Int) (x : Int) (ho : o.length ≤ 500) : ∃ b, zc8 600 (o.length, x, cI o) = some (b, cI o) ∧ (b = true ↔ x ∈ o) := by
  obtain ⟨y, h1, h2⟩ := in_loop o x ho o.length 0 600 (by omega) (by omega)
  replace h1 : (Zl 600).L 600 (o.length, x, 0, cI o) = some y := h1
  rw [List.drop_zero] at h2
  simp only [zc8, FSpec.d, zdf, zm2, zF, h1]
  rcases h2 with ⟨h2, rfl⟩ | ⟨h2, rfl⟩
  · exact ⟨true, by simp only [zF], by simp [h2]⟩
  · exact ⟨false, by simp only [zF], by simp [h2]⟩
theorem zkT (o : List Int) (v : Int) (n : Nat) (h : n = o.length) : (cI o).take (n * 1) ++ [[AV.v (.int .i64 v)]].flatten = cI (o ++ [v]) := by
  subst h
  rw [Nat.mul_one, List.take_of_length_le (by rw [zdh]; exact Nat.le_refl _)]
  simp [cI]
theorem j5 (A : List RT3) (E : List RT0) (hA : A.length ≤ 500) (hE : E.length ≤ 500) (hn : E.Pairwise fun a b => nmE a ≠ nmE b) (hnA : A.Pairwise fun a b => wdA a = false → wdA b = false → nmA a ≠ nmA b) :
    ∀ (R : List RT3) (k f : Nat) (p : List Int) (t : List Bool), A.drop k = R → R.length < f → k + R.length = A.length → p.length = k → Fo (A.take k) E p t → (∀ j (h : j < p.length) (h' : j < A.length) (i : Nat) (hi : i < E.length), p[j] = (i : Int) → nmE E[i] = nmA A[j] ∧ wdA A[j] = false) →
    ∃ o t', (zV 600).L f (p.length, A.map Ren3, E.map Ren0, (k : Int), cI p) = some (A.length, A.map Ren3, E.map Ren0, cI o) ∧ Fo A E o t'
  | [], k, f, p, t, hR, hf, hk, hp, F, hc => by
    obtain ⟨f, rfl⟩ : ∃ f', f = f' + 1 := ⟨f - 1, by omega⟩
    have hk' : k = A.length := by simpa using hk
    refine ⟨p, t, ?_, by rw [hk', List.take_length] at F; exact F⟩
    show (zV 600).b _ _ ((zV 600).L f) some = _
    simp only [zV]
    have e2 : decide ((k : Int) < (A.length : Int)) = false := by rw [decide_eq_false_iff_not]; omega
    simp only [List.length_map, e2, zF]
    rw [hp, hk']
  | a :: R, k, f, p, t, hR, hf, hk, hp, F, hc => by
    obtain ⟨f, rfl⟩ : ∃ f', f = f' + 1 := ⟨f - 1, by omega⟩
    rw [List.length_cons] at hf hk
    obtain ⟨hkl, hek, hR'⟩ := Je hR
    have htake : A.take (k + 1) = A.take k ++ [a] := by rw [List.take_succ_eq_append_getElem hkl, hek]
    have e2 : decide ((k : Int) < (A.length : Int)) = true := by rw [decide_eq_true_iff]; omega
    have e3 : (0 : Int) ≤ (k : Int) := by omega
    have hb : ∀ v : List AV, (p.length * 1 ≤ (cI p).length ∧ (p.length + [v].length) * 8 ≤ zl) := fun v => by
      rw [zdh]; unfold zl; simp; omega
    have hb1 : p.length * 1 ≤ (cI p).length := by rw [zdh]; omega
    have no : (wdA a = false → ∀ i (hi : i < E.length), nmE E[i] ≠ nmA a) → ∃ o t', (zV 600).L f ((p ++ [-1]).length, A.map Ren3, E.map Ren0, ((k + 1 : Nat) : Int), cI (p ++ [-1])) = some (A.length, A.map Ren3, E.map Ren0, cI o) ∧ Fo A E o t' := fun h =>
      j5 A E hA hE hn hnA R (k + 1) f (p ++ [-1]) t hR' (by omega) (by omega) (by simp [hp]) (by rw [htake]; exact F.snoc_no a h) (fun j hj hj' i hi e => by
        rw [List.getElem_append] at e
        split at e
        · rename_i h1; exact hc j h1 hj' i hi e
        · exfalso; (simp at e) <;> omega)
    cases hw : wdA a with
    | true =>
      obtain ⟨o, t', r1, r2⟩ := no (fun h => by rw [hw] at h; cases h)
      obtain ⟨b, b1, -⟩ := in_ok p (-1) (by omega)
      refine ⟨o, t', ?_, r2⟩
      show (zV 600).b _ _ ((zV 600).L f) some = _
      obtain ⟨Lf, hLf⟩ : ∃ Lf, Lf = (zV 600).L f := ⟨_, rfl⟩
      rw [← hLf] at r1 ⊢
      rw [List.length_append] at r1
      simp only [zV]
      simp only [List.length_map, e2, e3, if_true, Int.toNat_natCast, get3 A k hkl, hek, wd3, hw, Bool.not_true, zF, b1, hb1, hb, and_self, if_true, zkT p _ _ rfl, zn (show k < 1000000 by omega)]
      cases b <;> exact r1
    | false =>
      obtain ⟨v, v1, v2⟩ := zmS E (nmA a) hE
      obtain ⟨b, b1, b2⟩ := in_ok p v (by omega)
      rcases v2 with ⟨i, hi, he, rfl⟩ | ⟨hno, rfl⟩
      · have hno : ∀ j (h : j < p.length), p[j] ≠ (i : Int) := fun j h e => by
          obtain ⟨q1, q2⟩ := hc j h (by omega) i hi e
          exact List.pairwise_iff_getElem.1 hnA j k (by omega) hkl (by omega) q2 (by rw [hek]; exact hw) (by rw [hek, ← q1, he])
        obtain rfl : b = false := by
          cases b with
          | false => rfl
          | true =>
            obtain ⟨j, hj, e⟩ := List.getElem_of_mem (b2.1 rfl)
            exact absurd e (hno j hj)
        obtain ⟨o, t', r1, r2⟩ := j5 A E hA hE hn hnA R (k + 1) f (p ++ [(i : Int)]) (t.set i true) hR' (by omega) (by omega) (by simp [hp]) (by rw [htake]; exact F.snoc_yes hn a hi hw he hno) (fun j hj hj' m hm e => by
          rw [List.getElem_append] at e
          split at e
          · rename_i h1; exact hc j h1 hj' m hm e
          · rename_i h1
            simp at e
            have : m = i := by omega
            subst this
            have : j = k := by simp at hj; omega
            subst this
            rw [hek]
            exact ⟨he, hw⟩)
        refine ⟨o, t', ?_, r2⟩
        show (zV 600).b _ _ ((zV 600).L f) some = _
        obtain ⟨Lf, hLf⟩ : ∃ Lf, Lf = (zV 600).L f := ⟨_, rfl⟩
        rw [← hLf] at r1 ⊢
        rw [List.length_append] at r1
        simp only [zV]
        simp only [List.length_map, e2, e3, if_true, Int.toNat_natCast, get3 A k hkl, hek, wd3, nm3, hw, Bool.not_false, v1, zF, b1, hb1, hb, and_self, if_true, zkT p _ _ rfl, zn (show k < 1000000 by omega)]
        exact r1
      · obtain ⟨o, t', r1, r2⟩ := no (fun _ => hno)
        refine ⟨o, t', ?_, r2⟩
        show (zV 600).b _ _ ((zV 600).L f) some = _
        obtain ⟨Lf, hLf⟩ : ∃ Lf, Lf = (zV 600).L f := ⟨_, rfl⟩
        rw [← hLf] at r1 ⊢
        rw [List.length_append] at r1
        simp only [zV]
        simp only [List.length_map, e2, e3, if_true, Int.toNat_natCast, get3 A k hkl, hek, wd3, nm3, hw, Bool.not_false, v1, zF, b1, hb1, hb, and_self, if_true, zkT p _ _ rfl, zn (show k < 1000000 by omega)]
        cases b <;> exact r1
theorem pkr3 (a : RT3) : ((((Ren3 a).drop 12).drop 9).drop 0)[0]? = some (AV.list 9 (pkE (evA a)) none) := rfl
theorem zi6 (A : List RT3) (E : List RT0) (hA : A.length ≤ 500) (k : Nat) (hk : k < A.length) (hE : E.length ≤ 500) (hpE : ∀ e ∈ E, PkOk e) (hpA : PkOk (evA A[k])) :
    ∀ (d i f : Nat) (o : List Int) (t : List Bool), i + d = E.length → d < f → Fo A E o t → ∃ o' t', (zG 600).L f (A.map Ren3, E.map Ren0, A.length, (k : Int), (i : Int), cI o) = some (A.map Ren3, E.map Ren0, A.length, (k : Int), cI o') ∧ Fo A E o' t' := by
  intro d
  induction d with
  | zero =>
    intro i f o t hi hf F
    obtain ⟨f, rfl⟩ : ∃ f', f = f' + 1 := ⟨f - 1, by omega⟩
    refine ⟨o, t, ?_, F⟩
    show (zG 600).b _ _ ((zG 600).L f) some = _
    simp only [zG]
    have e2 : decide ((i : Int) < (E.length : Int)) = false := by rw [decide_eq_false_iff_not]; omega
    simp only [List.length_map, e2, zF]
  | succ d ih =>
    intro i f o t hi hf F
    obtain ⟨f, rfl⟩ : ∃ f', f = f' + 1 := ⟨f - 1, by omega⟩
    have hil : i < E.length := by omega
    have hlt := F.lt
    have hlo := F.lo
    have hit : i < t.length := by omega
    have hko : k < o.length := by omega
    have e2 : decide ((i : Int) < (E.length : Int)) = true := by rw [decide_eq_true_iff]; omega
    have e3 : (0 : Int) ≤ (i : Int) := by omega
    have e3k : (0 : Int) ≤ (k : Int) := by omega
    have hz2 : (0 : Int) ≤ (k : Int) ∧ (k : Int) < (A.length : Int) := by omega
    have hg := zev o k hko
    rw [Int.toNat_natCast] at hg
    by_cases hneg : o[k] < 0
    · cases hw : wdA A[k] with
      | true =>
        refine ⟨o, t, ?_, F⟩
        show (zG 600).b _ _ ((zG 600).L f) some = _
        simp only [zG]
        simp only [List.length_map, e2, e3k, hz2, and_self, if_true, Int.toNat_natCast, hg, hneg, decide_true, get3 A k hk, wd3, hw, Bool.not_true, zF]
      | false =>
        obtain ⟨b, b1, b2⟩ := in_ok o (i : Int) (by omega)
        rw [hlo] at b1
        have hbt : b = t[i] := by
          rw [Bool.eq_iff_iff, b2, F.tk i hit]
          constructor
          · intro h; obtain ⟨j, hj, e⟩ := List.getElem_of_mem h; exact ⟨j, hj, e⟩
          · rintro ⟨j, hj, e⟩; rw [← e]; exact List.getElem_mem hj
        obtain ⟨P, p1, p2⟩ := hpA
        obtain ⟨Q, q1, q2⟩ := hpE _ (List.getElem_mem hil)
        obtain ⟨c, c1, -⟩ := com36 P Q (by omega) (by omega)
        obtain ⟨o', t', r1, r2⟩ := ih (i + 1) f o t (by omega) (by omega) F
        have hs2 := zl7 o k (i : Int)
        have hr1 := zgo o k hko
        rw [Int.toNat_natCast] at hs2 hr1
        cases b with
        | true =>
          refine ⟨o', t', ?_, r2⟩
          show (zG 600).b _ _ ((zG 600).L f) some = _
          obtain ⟨Lf, hLf⟩ : ∃ Lf, Lf = (zG 600).L f := ⟨_, rfl⟩
          rw [← hLf] at r1 ⊢
          simp only [zG]
          simp only [List.length_map, e2, e3k, hz2, and_self, if_true, Int.toNat_natCast, hg, hneg, decide_true, get3 A k hk, wd3, hw, Bool.not_false, Bool.not_true, zF, b1, zn (show i < 1000000 by omega)]
          exact r1
        | false =>
          cases c with
          | true =>
            obtain ⟨o', t', r1, r2⟩ := ih (i + 1) f _ _ (by omega) (by omega) (F.set hko hk hil hit hw hneg hbt.symm)
            refine ⟨o', t', ?_, r2⟩
            show (zG 600).b _ _ ((zG 600).L f) some = _
            obtain ⟨Lf, hLf⟩ : ∃ Lf, Lf = (zG 600).L f := ⟨_, rfl⟩
            rw [← hLf] at r1 ⊢
            simp only [zG]
            simp only [List.length_map, e2, e3, e3k, hz2, and_self, if_true, Int.toNat_natCast, hg, hneg, decide_true, get3 A k hk, get0 E i hil, wd3, hw, Bool.not_false, zF, b1, pkr3, pk0, lst9, p2, q2, c1, hr1, hs2, zn (show i < 1000000 by omega)]
            exact r1
          | false =>
            refine ⟨o', t', ?_, r2⟩
            show (zG 600).b _ _ ((zG 600).L f) some = _
            obtain ⟨Lf, hLf⟩ : ∃ Lf, Lf = (zG 600).L f := ⟨_, rfl⟩
            rw [← hLf] at r1 ⊢
            simp only [zG]
            simp only [List.length_map, e2, e3, e3k, hz2, and_self, if_true, Int.toNat_natCast, hg, hneg, decide_true, get3 A k hk, get0 E i hil, wd3, hw, Bool.not_false, zF, b1, pkr3, pk0, lst9, p2, q2, c1, zn (show i < 1000000 by omega)]
            exact r1
    · refine ⟨o, t, ?_, F⟩
      show (zG 600).b _ _ ((zG 600).L f) some = _
      simp only [zG]
      simp only [List.length_map, e2, hz2, and_self, if_true, Int.toNat_natCast, hg, hneg, decide_false, zF]
theorem zdH (A : List RT3) (E : List RT0) (hA : A.length ≤ 500) (hE : E.length ≤ 500) (hpE : ∀ e ∈ E, PkOk e) (hpA : ∀ a ∈ A, PkOk (evA a)) : ∀ (d k f : Nat) (o : List Int) (t : List Bool), k + d = A.length → d < f → Fo A E o t →
    ∃ o' t', (Zg 600).L f (A.map Ren3, E.map Ren0, A.length, (k : Int), cI o) = some (A.length, cI o') ∧ Fo A E o' t' := by
  intro d
  induction d with
  | zero =>
    intro k f o t hk hf F
    obtain ⟨f, rfl⟩ : ∃ f', f = f' + 1 := ⟨f - 1, by omega⟩
    refine ⟨o, t, ?_, F⟩
    show (Zg 600).b _ _ ((Zg 600).L f) some = _
    simp only [Zg]
    have e2 : decide ((k : Int) < (A.length : Int)) = false := by rw [decide_eq_false_iff_not]; omega
    simp only [List.length_map, e2, zF]
  | succ d ih =>
    intro k f o t hk hf F
    obtain ⟨f, rfl⟩ : ∃ f', f = f' + 1 := ⟨f - 1, by omega⟩
    have hkl : k < A.length := by omega
    have e2 : decide ((k : Int) < (A.length : Int)) = true := by rw [decide_eq_true_iff]; omega
    obtain ⟨o1, t1, q1, F1⟩ := zi6 A E hA k hkl hE hpE (hpA _ (List.getElem_mem hkl)) E.length 0 600 o t (by omega) (by omega) F
    replace q1 : (zG 600).L 600 (A.map Ren3, E.map Ren0, A.length, (k : Int), 0, cI o) = some (A.map Ren3, E.map Ren0, A.length, (k : Int), cI o1) := q1
    obtain ⟨o', t', r1, r2⟩ := ih (k + 1) f o1 t1 (by omega) (by omega) F1
    refine ⟨o', t', ?_, r2⟩
    show (Zg 600).b _ _ ((Zg 600).L f) some = _
    obtain ⟨Lf, hLf⟩ : ∃ Lf, Lf = (Zg 600).L f := ⟨_, rfl⟩
    rw [← hLf] at r1 ⊢
    simp only [Zg]
    simp only [List.length_map, e2, zg1, zF, q1, zn (show k < 1000000 by omega)]
    exact r1
theorem zi2 (A : List RT3) (E : List RT0) (hA : A.length ≤ 500) (hE : E.length ≤ 500) (hn : E.Pairwise fun a b => nmE a ≠ nmE b) (hnA : A.Pairwise fun a b => wdA a = false → wdA b = false → nmA a ≠ nmA b) (hpE : ∀ e ∈ E, PkOk e) (hpA : ∀ a ∈ A, PkOk (evA a)) :
    ∃ o t, zkg 600 (A.map Ren3, E.map Ren0) = some (A.length, cI o) ∧ Fo A E o t := by
  have F0 : Fo (A.take 0) E [] (List.replicate E.length false) := ⟨rfl, by simp, fun k h => (by cases h), fun k h => (by cases h), fun j k h => (by cases h), fun i h => ⟨fun e => by simp at e, fun ⟨k, h, _⟩ => by cases h⟩, fun k h => by cases h⟩
  obtain ⟨o1, t1, h2, F1⟩ := j5 A E hA hE hn hnA A 0 600 [] (List.replicate E.length false) rfl (by omega) (by omega) rfl F0 (fun j h => by cases h)
  replace h2 : (zV 600).L 600 (0, A.map Ren3, E.map Ren0, 0, []) = some (A.length, A.map Ren3, E.map Ren0, cI o1) := h2
  obtain ⟨o2, t2, h3, F2⟩ := zdH A E hA hE hpE hpA A.length 0 600 o1 t1 (by omega) (by omega) F1
  replace h3 : (Zg 600).L 600 (A.map Ren3, E.map Ren0, A.length, 0, cI o1) = some (A.length, cI o2) := h3
  refine ⟨o2, t2, ?_, F2⟩
  simp only [zkg, FSpec.d, zdl, zkr, h2, zF, zho, h3]
end Go.Proofs.Ytnnfpoelkdgjdaa
end
section
namespace Go.Proofs.Ytnnfpoelkdgjdaa
set_option linter.unusedVariables false
set_option linter.unusedSimpArgs false
set_option linter.unnecessarySimpa false
def s1 (lv : RT0 → Int) (mv : RT0 → RT0 → Bool) (ev now : Int) (a : RT3) : Option RT0 → RT3 × Int
  | none => if wdA a = true then (a, 0) else (mkA (idA a) true (nmA a) (lvA a) (evA a) now, 3)
  | some e => if wdA a = true then (a, 0) else if lv e = 0 then (mkA (idA a) true (nmE e) (lvA a) (evA a) now, 3)
    else if now - atA a ≥ ev ∧ mv (evA a) e = true then (mkA (idA a) (wdA a) (nmE e) (lv e) e now, 2)
    else (mkA (idA a) (wdA a) (nmE e) (lvA a) (evA a) (atA a), 0)
def evI (E : List RT0) (i : Int) : Option RT0 := if 0 ≤ i then E[i.toNat]? else none
def bul (n k : Int) (a : RT3) (now : Int) : RT6 := mkB n k (idA a) now (lvA a) (evA a)
theorem zgX (o : List Int) (k : Nat) (h : k < o.length) : (zC o)[k]? = some [AV.v (.int .i64 o[k])] := zbI o k h
theorem c3_wd (L : List RT3) (k : Nat) (h : k < L.length) : (fl Ren3 L)[(0 + ((k : Int)).toNat) * 38 + 1]? = some (AV.v (.bool (wdA L[k]))) := by
  rw [Nat.zero_add, Int.toNat_natCast, zgH Ren3 38 jQ L k 1 h (by omega)]; rfl
theorem c3_at (L : List RT3) (k : Nat) (h : k < L.length) : (fl Ren3 L)[(0 + ((k : Int)).toNat) * 38 + 37]? = some (AV.v (.int .i64 (atA L[k]))) := by
  rw [Nat.zero_add, Int.toNat_natCast, zgH Ren3 38 jQ L k 37 h (by omega)]; rfl
theorem row3 (L : List RT3) (k : Nat) (h : k < L.length) : Rrd3 ((fl Ren3 L).drop ((0 + ((k : Int)).toNat) * 38)) = some L[k] := by
  rw [Nat.zero_add, Int.toNat_natCast]
  have := zbP Ren3 38 jQ L k 0 h (by omega)
  rw [Nat.add_zero, List.drop_zero] at this
  rw [this, Rrd3_app]
theorem zew (L : List RT3) (k j m : Nat) (h : k < L.length) (hj : j + m ≤ 38) : (0 + ((k : Int)).toNat) * 38 + j + m ≤ (fl Ren3 L).length := by
  rw [len3, Nat.zero_add, Int.toNat_natCast]; omega
def clA (a : RT3) (now : Int) : RT3 := mkA (idA a) true (nmA a) (lvA a) (evA a) now
def nmS (a : RT3) (p : RT1) : RT3 := mkA (idA a) (wdA a) p (lvA a) (evA a) (atA a)
def upA (a : RT3) (l : Int) (e : RT0) (now : Int) : RT3 := mkA (idA a) (wdA a) (nmA a) l e now
theorem zmW (a : RT3) (now : Int) : evA (clA a now) = evA a := rfl
theorem evA_up (a : RT3) (l : Int) (e : RT0) (now : Int) : evA (upA a l e now) = e := rfl
theorem put_cl (L : List RT3) (k : Nat) (h : k < L.length) (now : Int) : splice (splice (fl Ren3 L) ((0 + ((k : Int)).toNat) * 38 + 1) [AV.v (.bool true)]) ((0 + ((k : Int)).toNat) * 38 + 37) [AV.v (.int .i64 now)] = fl Ren3 (L.set k (clA L[k] now)) := by
  obtain ⟨b, hb⟩ : ∃ b, splice (Ren3 L[k]) 1 [AV.v (.bool true)] = Ren3 b := ⟨_, sp_wd L[k] true⟩
  rw [J0 L k 1 h _ b (by simp) hb, J0 (L.set k b) k 37 (by simpa using h) _ (clA L[k] now) (by simp) ?_, List.set_set]
  rw [List.getElem_set_self, ← hb, sp_wd, sp_at]
  rfl
theorem put_nm (L : List RT3) (k : Nat) (h : k < L.length) (p : RT1) : splice (fl Ren3 L) ((0 + ((k : Int)).toNat) * 38 + 2) (Ren1 p) = fl Ren3 (L.set k (nmS L[k] p)) :=
  J0 L k 2 h _ _ (by rw [JF]; omega) (sp_nm L[k] p)
theorem put_up (L : List RT3) (k : Nat) (h : k < L.length) (l : Int) (e : RT0) (now : Int) : splice (splice (splice (fl Ren3 L) ((0 + ((k : Int)).toNat) * 38 + 11) [AV.v (.int .i64 l)]) ((0 + ((k : Int)).toNat) * 38 + 12) (Ren0 e)) ((0 + ((k : Int)).toNat) * 38 + 37) [AV.v (.int .i64 now)] = fl Ren3 (L.set k (upA L[k] l e now)) := by
  obtain ⟨b, hb⟩ : ∃ b, splice (Ren3 L[k]) 11 [AV.v (.int .i64 l)] = Ren3 b := ⟨_, sp_lv L[k] l⟩
  obtain ⟨c, hc⟩ : ∃ c, splice (Ren3 b) 12 (Ren0 e) = Ren3 c := ⟨_, sp_ev b e⟩
  rw [J0 L k 11 h _ b (by simp) hb, J0 (L.set k b) k 12 (by simpa using h) _ c (by rw [zan]; omega) (by rw [List.getElem_set_self]; exact hc), List.set_set, J0 (L.set k c) k 37 (by simpa using h) _ (upA L[k] l e now) (by simp) ?_, List.set_set]
  rw [List.getElem_set_self, ← hc, ← hb, sp_lv, sp_ev, sp_at]
  rfl
noncomputable def mvF (L : List RT4) (di ev : Int) (a e : RT0) : Bool := (zlZ 600 (L.map Ren4, di, ev, a, e)).getD false
noncomputable def tmF (L : List RT4) (di ev now : Int) (e : RT0) : Bool := (zk7 600 (L.map Ren4, di, ev, e, now)).getD false
def lvF (L : List RT4) (di ev : Int) (e : RT0) : Int := (lev L di ev e : Int)
theorem mvF_ok {L : List RT4} {di ev : Int} (P : Pol L di ev) (a e : RT0) : zlZ 600 (L.map Ren4, di, ev, a, e) = some (mvF L di ev a e) := by
  obtain ⟨b, h, -⟩ := moved_ok P a e
  unfold mvF; rw [h]; rfl
theorem tmF_ok {L : List RT4} {di ev : Int} (P : Pol L di ev) (e : RT0) (now : Int) : zk7 600 (L.map Ren4, di, ev, e, now) = some (tmF L di ev now e) := by
  obtain ⟨b, h, -⟩ := zlc P e now
  unfold tmF; rw [h]; rfl
theorem lvF_ok {L : List RT4} {di ev : Int} (P : Pol L di ev) (e : RT0) : F31_d 600 (L.map Ren4, di, ev, e) = some (lvF L di ev e) := zdO di ev e (by have := P.l; omega)
theorem PkOk.len {e : RT0} (h : PkOk e) : (pkE e).length ≤ 100000 := by
  obtain ⟨P, h1, h2⟩ := h
  rw [h2, List.length_map]; omega
structure Rd1 (L : List RT4) (di ev now number : Int) (E : List RT0) (B : List RT6) : Prop where
  P : Pol L di ev
  hE : E.length ≤ 500
  pE : ∀ e ∈ E, PkOk e
  hB : B.length ≤ 5000
  n : 0 ≤ number ∧ number ≤ 999
  now : 0 ≤ now ∧ now ≤ 1000000
theorem ziD {L : List RT4} {di ev now number : Int} {E : List RT0} {B : List RT6} (H : Rd1 L di ev now number E B) (out : List RT3) (o : List Int) (t : List Bool) (len : Int) (k : Nat) (hk : k < out.length) (hko : k < o.length) (hp : PkOk (evA out[k])) (hi : o[k] = -1) :
    zes 600 (E.map Ren0, zC o, out.length, E.length, len, (k : Int), L.map Ren4, di, ev, number, now, B.map Ren6, false, fl Ren3 out, cB t) = some (E.map Ren0, zC o, out.length, E.length, len, (k : Int), L.map Ren4, di, ev, (if (s1 (lvF L di ev) (mvF L di ev) ev now out[k] none).2 = 0 then number else number + 1), now, (if (s1 (lvF L di ev) (mvF L di ev) ev now out[k] none).2 = 0 then B else B ++ [bul number (s1 (lvF L di ev) (mvF L di ev) ev now out[k] none).2 (s1 (lvF L di ev) (mvF L di ev) ev now out[k] none).1 now]).map Ren6, false, fl Ren3 (out.set k (s1 (lvF L di ev) (mvF L di ev) ev now out[k] none).1), cB t) := by
  have e3 : (0 : Int) ≤ (k : Int) := by omega
  have hz : (0 : Int) ≤ (k : Int) ∧ (k : Int) < (out.length : Int) := by omega
  show (Zv 600).b _ _ ((Zv 600).L 599) some = _
  obtain ⟨Lf, hLf⟩ : ∃ Lf, Lf = (Zv 600).L 599 := ⟨_, rfl⟩
  rw [← hLf]
  simp only [Zv]
  simp only [e3, if_true, Int.toNat_natCast, zgX o k hko, List.getElem?_cons_zero, hz, and_self, hi]
  have hw := c3_wd out k hk
  rw [Int.toNat_natCast] at hw
  rw [hw]
  cases hwd : wdA out[k] with
  | true =>
    simp only [s1, hwd, if_true, fl3, Ze, zbo out k hk]
  | false =>
    have e1 : decide ((-1 : Int) ≥ 0) = false := by decide
    have e2 : ((0 : Int) == 0) = true := by decide
    have q28 : zgn 600 (E.map Ren0, zC o, out.length, E.length, -1, (0 + k) * 38, 0, len, (k : Int), false, L.map Ren4, di, ev, number, now, B.map Ren6, false, fl Ren3 out, cB t) = some (E.map Ren0, zC o, out.length, E.length, -1, (0 + k) * 38, 0, len, (k : Int), L.map Ren4, di, ev, number, now, B.map Ren6, false, fl Ren3 out, cB t) := by
      show (ZN 600).b _ _ ((ZN 600).L 599) some = _
      simp only [ZN]
      simp only [fl3, Ze]
    have q33 : zfS 600 (E.map Ren0, zC o, out.length, E.length, -1, (0 + k) * 38, 0, len, (k : Int), true, L.map Ren4, di, ev, number, now, B.map Ren6, false, fl Ren3 out, cB t) = some (E.map Ren0, zC o, out.length, E.length, len, (k : Int), L.map Ren4, di, ev, number + 1, now, (B ++ [bul number 3 (clA out[k] now) now]).map Ren6, false, fl Ren3 (out.set k (clA out[k] now)), cB t) := by
      show (Zq 600).b _ _ ((Zq 600).L 599) some = _
      simp only [Zq]
      have p1 := put_cl out k hk now
      have g1 := zew out k 1 1 hk (by omega)
      have g2 : (0 + ((k : Int)).toNat) * 38 + 37 + 1 ≤ (splice (fl Ren3 out) ((0 + ((k : Int)).toNat) * 38 + 1) [AV.v (.bool true)]).length := by rw [zM]; exact zew out k 37 1 hk (by omega)
      have r3 := row3 (out.set k (clA out[k] now)) k (by simpa using hk)
      rw [List.getElem_set_self] at r3
      rw [Int.toNat_natCast] at p1 g1 g2 r3
      have pub := JD 3 (clA out[k] now) false number now B H.n (by have := H.hB; omega) (by rw [zmW]; exact hp.len) rfl
      simp only [g1, if_true, g2, p1, r3, pub, fl3, Ze]
      rfl
    simp only [e1, fl3, Ze, q28, e2, q33]
    simp only [s1, hwd]
    rfl
theorem evA_nm (a : RT3) (p : RT1) : evA (nmS a p) = evA a := rfl
theorem zhD {L : List RT4} {di ev now number : Int} {E : List RT0} {B : List RT6} (H : Rd1 L di ev now number E B) (out : List RT3) (o : List Int) (t : List Bool) (len : Int) (k i : Nat) (hk : k < out.length) (hko : k < o.length) (hp : PkOk (evA out[k])) (hw : wdA out[k] = false) (hat : 0 ≤ atA out[k] ∧ atA out[k] ≤ now) (hi : i < E.length) (hit : i < t.length) (hE : t.length = E.length) (ho : o[k] = (i : Int)) :
    zes 600 (E.map Ren0, zC o, out.length, E.length, len, (k : Int), L.map Ren4, di, ev, number, now, B.map Ren6, false, fl Ren3 out, cB t) = some (E.map Ren0, zC o, out.length, E.length, len, (k : Int), L.map Ren4, di, ev, (if (s1 (lvF L di ev) (mvF L di ev) ev now out[k] (some E[i])).2 = 0 then number else number + 1), now, (if (s1 (lvF L di ev) (mvF L di ev) ev now out[k] (some E[i])).2 = 0 then B else B ++ [bul number (s1 (lvF L di ev) (mvF L di ev) ev now out[k] (some E[i])).2 (s1 (lvF L di ev) (mvF L di ev) ev now out[k] (some E[i])).1 now]).map Ren6, false, fl Ren3 (out.set k (s1 (lvF L di ev) (mvF L di ev) ev now out[k] (some E[i])).1), cB (t.set i true)) := by
  have hbl := H.hB
  have hnow := H.now
  have e3 : (0 : Int) ≤ (k : Int) := by omega
  have e3i : (0 : Int) ≤ (i : Int) := by omega
  have hz : (0 : Int) ≤ (k : Int) ∧ (k : Int) < (out.length : Int) := by omega
  have hzi : (0 : Int) ≤ (i : Int) ∧ (i : Int) < (E.length : Int) := by omega
  show (Zv 600).b _ _ ((Zv 600).L 599) some = _
  obtain ⟨Lf, hLf⟩ : ∃ Lf, Lf = (Zv 600).L 599 := ⟨_, rfl⟩
  rw [← hLf]
  simp only [Zv]
  simp only [e3, if_true, Int.toNat_natCast, zgX o k hko, List.getElem?_cons_zero, hz, and_self, ho]
  have hwd := c3_wd out k hk
  rw [Int.toNat_natCast] at hwd
  rw [hwd, hw]
  have e1 : decide ((i : Int) ≥ 0) = true := by rw [decide_eq_true_iff]; omega
  have q28 : zgn 600 (E.map Ren0, zC o, out.length, E.length, (i : Int), (0 + k) * 38, 0, len, (k : Int), true, L.map Ren4, di, ev, number, now, B.map Ren6, false, fl Ren3 out, cB t) = some (E.map Ren0, zC o, out.length, E.length, (i : Int), (0 + k) * 38, lvF L di ev E[i], len, (k : Int), L.map Ren4, di, ev, number, now, B.map Ren6, false, fl Ren3 (out.set k (nmS out[k] (nmE E[i]))), cB (t.set i true)) := by
    show (ZN 600).b _ _ ((ZN 600).L 599) some = _
    simp only [ZN]
    have hb := zmC t i true
    have hr := zgb t i hit
    have hn := put_nm out k hk (nmE E[i])
    have hr2 := zew out k 2 9 hk (by omega)
    rw [Int.toNat_natCast] at hb hr hn hr2
    simp only [hzi, and_self, if_true, Int.toNat_natCast, hr, e3i, get0 E i hi, nm0, ZP, hr2, lvF_ok H.P, hn, hb, fl3, Ze]
  obtain ⟨out1, ho1⟩ : ∃ out1, out1 = out.set k (nmS out[k] (nmE E[i])) := ⟨_, rfl⟩
  have hl1 : out1.length = out.length := by rw [ho1, List.length_set]
  have hk1 : k < out1.length := by omega
  have hg1 : out1[k] = nmS out[k] (nmE E[i]) := by simp only [ho1, List.getElem_set_self]
  have hs1 : ∀ b, out1.set k b = out.set k b := fun b => by rw [ho1, List.set_set]
  have hpn : (pkE (evA out1[k])).length ≤ 100000 := by rw [hg1, evA_nm]; exact hp.len
  have fin33 : ∃ r, zfS 600 (E.map Ren0, zC o, out.length, E.length, (i : Int), (0 + k) * 38, lvF L di ev E[i], len, (k : Int), (lvF L di ev E[i] == 0), L.map Ren4, di, ev, number, now, B.map Ren6, false, fl Ren3 out1, cB (t.set i true)) = some (E.map Ren0, zC o, out.length, E.length, len, (k : Int), L.map Ren4, di, ev, r) ∧ r = ((if (s1 (lvF L di ev) (mvF L di ev) ev now out[k] (some E[i])).2 = 0 then number else number + 1), now, (if (s1 (lvF L di ev) (mvF L di ev) ev now out[k] (some E[i])).2 = 0 then B else B ++ [bul number (s1 (lvF L di ev) (mvF L di ev) ev now out[k] (some E[i])).2 (s1 (lvF L di ev) (mvF L di ev) ev now out[k] (some E[i])).1 now]).map Ren6, false, fl Ren3 (out.set k (s1 (lvF L di ev) (mvF L di ev) ev now out[k] (some E[i])).1), cB (t.set i true)) := by
    by_cases h0 : lvF L di ev E[i] = 0
    · have hs : s1 (lvF L di ev) (mvF L di ev) ev now out[k] (some E[i]) = (clA out1[k] now, 3) := by
        simp only [s1, hw, h0, if_true, hg1]
        rfl
      rw [hs]
      refine ⟨_, ?_, rfl⟩
      have e2 : (lvF L di ev E[i] == 0) = true := by rw [h0]; rfl
      rw [e2]
      show (Zq 600).b _ _ ((Zq 600).L 599) some = _
      simp only [Zq]
      have p1 := put_cl out1 k hk1 now
      have g1 := zew out1 k 1 1 hk1 (by omega)
      have g2 : (0 + ((k : Int)).toNat) * 38 + 37 + 1 ≤ (splice (fl Ren3 out1) ((0 + ((k : Int)).toNat) * 38 + 1) [AV.v (.bool true)]).length := by rw [zM]; exact zew out1 k 37 1 hk1 (by omega)
      have r3 := row3 (out1.set k (clA out1[k] now)) k (by simpa using hk1)
      rw [List.getElem_set_self] at r3
      rw [Int.toNat_natCast] at p1 g1 g2 r3
      have pub := JD 3 (clA out1[k] now) false number now B H.n (by omega) (by rw [zmW]; exact hpn) rfl
      simp only [g1, if_true, g2, p1, r3, pub, fl3, Ze]
      rw [hs1]
      rfl
    · have e2 : (lvF L di ev E[i] == 0) = false := by simp [h0]
      rw [e2]
      have q35 : ∃ r, zmT 600 (E.map Ren0, zC o, out.length, E.length, (i : Int), (0 + k) * 38, lvF L di ev E[i], len, (k : Int), L.map Ren4, di, ev, number, now, B.map Ren6, false, fl Ren3 out1, cB (t.set i true)) = some (E.map Ren0, zC o, out.length, E.length, len, (k : Int), L.map Ren4, di, ev, r) ∧ r = ((if (s1 (lvF L di ev) (mvF L di ev) ev now out[k] (some E[i])).2 = 0 then number else number + 1), now, (if (s1 (lvF L di ev) (mvF L di ev) ev now out[k] (some E[i])).2 = 0 then B else B ++ [bul number (s1 (lvF L di ev) (mvF L di ev) ev now out[k] (some E[i])).2 (s1 (lvF L di ev) (mvF L di ev) ev now out[k] (some E[i])).1 now]).map Ren6, false, fl Ren3 (out.set k (s1 (lvF L di ev) (mvF L di ev) ev now out[k] (some E[i])).1), cB (t.set i true)) := by
        have hat1 : atA out1[k] = atA out[k] := by rw [hg1]; rfl
        have hev1 : evA out1[k] = evA out[k] := by rw [hg1]; rfl
        have e5 : i64 (now - atA out1[k]) = now - atA out[k] := by rw [hat1, zN (by omega)]
        have c1 := c3_at out1 k hk1
        have c2 := zj5 out1 k hk1
        rw [Int.toNat_natCast] at c1 c2
        have hmv := mvF_ok H.P (evA out1[k]) E[i]
        by_cases hd : now - atA out[k] ≥ ev
        · cases hm : mvF L di ev (evA out[k]) E[i] with
          | true =>
            have hs : s1 (lvF L di ev) (mvF L di ev) ev now out[k] (some E[i]) = (upA out1[k] (lvF L di ev E[i]) E[i] now, 2) := by
              simp only [s1, hw, h0, hm, hd, if_false, if_true, and_self, hg1]
              simp
              show mkA _ false _ _ _ _ = mkA (idA out[k]) (wdA out[k]) (nmE E[i]) (lvF L di ev E[i]) E[i] now
              rw [hw]
            rw [hs]
            refine ⟨_, ?_, rfl⟩
            show (Zr 600).b _ _ ((Zr 600).L 599) some = _
            simp only [Zr]
            rw [hev1, hm] at hmv
            have p1 := put_up out1 k hk1 (lvF L di ev E[i]) E[i] now
            have g1 := zew out1 k 11 1 hk1 (by omega)
            have g2 : (0 + ((k : Int)).toNat) * 38 + 12 + 25 ≤ (splice (fl Ren3 out1) ((0 + ((k : Int)).toNat) * 38 + 11) [AV.v (.int .i64 (lvF L di ev E[i]))]).length := by rw [zM]; exact zew out1 k 12 25 hk1 (by omega)
            have g3 : (0 + ((k : Int)).toNat) * 38 + 37 + 1 ≤ (splice (splice (fl Ren3 out1) ((0 + ((k : Int)).toNat) * 38 + 11) [AV.v (.int .i64 (lvF L di ev E[i]))]) ((0 + ((k : Int)).toNat) * 38 + 12) (Ren0 E[i])).length := by rw [zM, zM]; exact zew out1 k 37 1 hk1 (by omega)
            have r3 := row3 (out1.set k (upA out1[k] (lvF L di ev E[i]) E[i] now)) k (by simpa using hk1)
            rw [List.getElem_set_self] at r3
            rw [Int.toNat_natCast] at p1 g1 g2 g3 r3
            have hcp := zao E[i] (H.pE _ (List.getElem_mem hi)).len
            have pub := JD 2 (upA out1[k] (lvF L di ev E[i]) E[i] now) false number now B H.n (by omega) (by rw [evA_up]; exact (H.pE _ (List.getElem_mem hi)).len) rfl
            simp only [c1, e5, hd, decide_true, if_true, c2, hev1, e3i, Int.toNat_natCast, get0 E i hi, ZP, hmv, hcp, g1, g2, g3, p1, r3, pub, fl3, Ze]
            rw [hs1]
            rfl
          | false =>
            have hs : s1 (lvF L di ev) (mvF L di ev) ev now out[k] (some E[i]) = (out1[k], 0) := by
              simp only [s1, hw, h0, hm, hd, if_false, hg1]
              simp
              show mkA _ false _ _ _ _ = mkA (idA out[k]) (wdA out[k]) (nmE E[i]) (lvA out[k]) (evA out[k]) (atA out[k])
              rw [hw]
            rw [hs]
            refine ⟨_, ?_, rfl⟩
            show (Zr 600).b _ _ ((Zr 600).L 599) some = _
            simp only [Zr]
            rw [hev1, hm] at hmv
            simp only [c1, e5, hd, decide_true, if_true, c2, hev1, e3i, Int.toNat_natCast, get0 E i hi, ZP, hmv, fl3, Ze]
            rw [← hs1, zbo out1 k hk1]
        · have hs : s1 (lvF L di ev) (mvF L di ev) ev now out[k] (some E[i]) = (out1[k], 0) := by
            simp only [s1, hw, h0, hd, if_false, hg1]
            simp
            show mkA _ false _ _ _ _ = mkA (idA out[k]) (wdA out[k]) (nmE E[i]) (lvA out[k]) (evA out[k]) (atA out[k])
            rw [hw]
          rw [hs]
          refine ⟨_, ?_, rfl⟩
          show (Zr 600).b _ _ ((Zr 600).L 599) some = _
          simp only [Zr]
          simp only [c1, e5, hd, decide_false, if_true, fl3, Ze]
          rw [← hs1, zbo out1 k hk1]
      obtain ⟨r, hq, hr⟩ := q35
      refine ⟨r, ?_, hr⟩
      subst hr
      show (Zq 600).b _ _ ((Zq 600).L 599) some = _
      simp only [Zq]
      simp only [fl3, Ze, hq]
  obtain ⟨r, hq, hr⟩ := fin33
  subst hr
  rw [← ho1] at q28
  simp only [e1, fl3, Ze, q28, hq]
end Go.Proofs.Ytnnfpoelkdgjdaa
end
section
namespace Go.Proofs.Ytnnfpoelkdgjdaa
set_option linter.unusedVariables false
set_option linter.unusedSimpArgs false
set_option linter.unnecessarySimpa false
def ph1 (lv : RT0 → Int) (mv : RT0 → RT0 → Bool) (ev now : Int) (E : List RT0) : List RT3 → List Int → Int → List RT3 × List RT6
  | a :: A, i :: o, n =>
    ((s1 lv mv ev now a (evI E i)).1 :: (ph1 lv mv ev now E A o (if (s1 lv mv ev now a (evI E i)).2 = 0 then n else n + 1)).1,
     (if (s1 lv mv ev now a (evI E i)).2 = 0 then [] else [bul n (s1 lv mv ev now a (evI E i)).2 (s1 lv mv ev now a (evI E i)).1 now]) ++ (ph1 lv mv ev now E A o (if (s1 lv mv ev now a (evI E i)).2 = 0 then n else n + 1)).2)
  | _, _, _ => ([], [])
def ph2 (lv : RT0 → Int) (tm : RT0 → Bool) (now : Int) (fw : Nat → Bool) : List RT0 → Nat → Int → List RT3 × List RT6
  | e :: R, i, n => if fw i = false ∧ tm e = true then
      (mkA n false (nmE e) (lv e) e now :: (ph2 lv tm now fw R (i + 1) (n + 1)).1, bul n 1 (mkA n false (nmE e) (lv e) e now) now :: (ph2 lv tm now fw R (i + 1) (n + 1)).2)
    else ph2 lv tm now fw R (i + 1) n
  | _, _, _ => ([], [])
noncomputable def fwO (o : List Int) (i : Nat) : Bool := decide ((i : Int) ∈ o)
theorem zgm {o : List Int} {i : Nat} : fwO o i = true ↔ (i : Int) ∈ o := by unfold fwO; exact decide_eq_true_iff
theorem zaA (lv : RT0 → Int) (mv : RT0 → RT0 → Bool) (ev now : Int) (E : List RT0) : ∀ (A : List RT3) (o : List Int) (n : Int), A.length = o.length → (ph1 lv mv ev now E A o n).1.length = A.length ∧ (ph1 lv mv ev now E A o n).2.length ≤ A.length
  | [], o, n, h => by unfold ph1; simp
  | a :: A, [], n, h => by simp at h
  | a :: A, i :: o, n, h => by
    obtain ⟨h1, h2⟩ := zaA lv mv ev now E A o (if (s1 lv mv ev now a (evI E i)).2 = 0 then n else n + 1) (by simpa using h)
    unfold ph1
    refine ⟨by simp [h1], ?_⟩
    rw [List.length_append, List.length_cons]
    by_cases h0 : (s1 lv mv ev now a (evI E i)).2 = 0
    · simp only [h0, if_true] at h2 ⊢
      simp; omega
    · simp only [h0, if_false] at h2 ⊢
      simp; omega
theorem zaC (lv : RT0 → Int) (tm : RT0 → Bool) (now : Int) (fw : Nat → Bool) : ∀ (E : List RT0) (i : Nat) (n : Int), (ph2 lv tm now fw E i n).1.length ≤ E.length ∧ (ph2 lv tm now fw E i n).2.length = (ph2 lv tm now fw E i n).1.length
  | [], i, n => by unfold ph2; simp
  | e :: R, i, n => by
    unfold ph2
    split
    · obtain ⟨h1, h2⟩ := zaC lv tm now fw R (i + 1) (n + 1)
      simp; omega
    · obtain ⟨h1, h2⟩ := zaC lv tm now fw R (i + 1) n
      simp; omega
structure Rds (L : List RT4) (di ev now : Int) (E : List RT0) : Prop where
  P : Pol L di ev
  hE : E.length ≤ 500
  pE : ∀ e ∈ E, PkOk e
  now : 0 ≤ now ∧ now ≤ 1000000
theorem J6 (E : List RT0) : evI E (-1) = none := rfl
theorem zgd (E : List RT0) (i : Nat) (h : i < E.length) : evI E (i : Int) = some E[i] := by
  unfold evI
  rw [if_pos (by omega), Int.toNat_natCast, List.getElem?_eq_getElem h]
theorem zha {L : List RT4} {di ev now : Int} {E : List RT0} (H : Rds L di ev now E) (o : List Int) (ho : ∀ k (h : k < o.length), o[k] = -1 ∨ ∃ i : Nat, i < E.length ∧ o[k] = (i : Int)) (hol : o.length ≤ 500) :
    ∀ (R : List RT3) (k f : Nat) (pre : List RT3) (B : List RT6) (n : Int) (t : List Bool), pre.length = k → k + R.length = o.length → R.length < f → (∀ a ∈ R, PkOk (evA a) ∧ 0 ≤ atA a ∧ atA a ≤ now) → (∀ j (h : j < R.length) (h' : k + j < o.length), wdA R[j] = true → o[k + j] = -1) → B.length + R.length ≤ 5000 → 0 ≤ n ∧ n + R.length ≤ 1000 → t.length = E.length → (∀ i (h : i < t.length), t[i] = true ↔ ∃ j, ∃ h : j < o.length, j < k ∧ o[j] = (i : Int)) →
    ∃ t', (Zm 600).L f (E.map Ren0, zC o, (pre ++ R).length, E.length, (o.length : Int), (k : Int), L.map Ren4, di, ev, n, now, B.map Ren6, false, fl Ren3 (pre ++ R), cB t) = some (E.map Ren0, (pre ++ R).length, E.length, L.map Ren4, di, ev, n + (ph1 (lvF L di ev) (mvF L di ev) ev now E R (o.drop k) n).2.length, now, (B ++ (ph1 (lvF L di ev) (mvF L di ev) ev now E R (o.drop k) n).2).map Ren6, false, fl Ren3 (pre ++ (ph1 (lvF L di ev) (mvF L di ev) ev now E R (o.drop k) n).1), cB t') ∧ t'.length = E.length ∧ (∀ i (h : i < t'.length), t'[i] = true ↔ (i : Int) ∈ o)
  | [], k, f, pre, B, n, t, hpre, hk, hf, hR, hw, hB, hn, ht, hT => by
    obtain ⟨f, rfl⟩ : ∃ f', f = f' + 1 := ⟨f - 1, by omega⟩
    have hk' : k = o.length := by simpa using hk
    refine ⟨t, ?_, ht, fun i h => ?_⟩
    · show (Zm 600).b _ _ ((Zm 600).L f) some = _
      simp only [Zm]
      have e2 : decide ((k : Int) < (o.length : Int)) = false := by rw [decide_eq_false_iff_not]; omega
      simp only [e2, fl3, Ze, ph1, List.append_nil, List.length_nil]
      simp
    · rw [hT i h]
      constructor
      · rintro ⟨j, h, -, e⟩; rw [← e]; exact List.getElem_mem h
      · intro h; obtain ⟨j, hj, e⟩ := List.getElem_of_mem h; exact ⟨j, hj, by omega, e⟩
  | a :: R, k, f, pre, B, n, t, hpre, hk, hf, hR, hw, hB, hn, ht, hT => by
    obtain ⟨f, rfl⟩ : ∃ f', f = f' + 1 := ⟨f - 1, by omega⟩
    rw [List.length_cons] at hk hf hB hn
    have hko : k < o.length := by omega
    have hkl : k < (pre ++ a :: R).length := by simp; omega
    have hek : (pre ++ a :: R)[k] = a := by
      rw [List.getElem_append_right (by omega)]
      simp [hpre]
    have hset : ∀ b, (pre ++ a :: R).set k b = (pre ++ [b]) ++ R := fun b => by
      rw [List.set_append, if_neg (by omega), hpre, Nat.sub_self]
      simp
    have hdo : o.drop k = o[k] :: o.drop (k + 1) := List.drop_eq_getElem_cons hko
    obtain ⟨hp, hat1, hat2⟩ := hR a List.mem_cons_self
    have H1 : Rd1 L di ev now n E B := ⟨H.P, H.hE, H.pE, by omega, by omega, H.now⟩
    have e2 : decide ((k : Int) < (o.length : Int)) = true := by rw [decide_eq_true_iff]; omega
    -- the rest
    have rest : ∀ (a' : RT3) (kd : Int) (t1 : List Bool), s1 (lvF L di ev) (mvF L di ev) ev now a (evI E o[k]) = (a', kd) → t1.length = E.length → (∀ i (h : i < t1.length), t1[i] = true ↔ ∃ j, ∃ h : j < o.length, j < k + 1 ∧ o[j] = (i : Int)) →
        zes 600 (E.map Ren0, zC o, (pre ++ a :: R).length, E.length, (o.length : Int), (k : Int), L.map Ren4, di, ev, n, now, B.map Ren6, false, fl Ren3 (pre ++ a :: R), cB t) = some (E.map Ren0, zC o, (pre ++ a :: R).length, E.length, (o.length : Int), (k : Int), L.map Ren4, di, ev, (if kd = 0 then n else n + 1), now, (if kd = 0 then B else B ++ [bul n kd a' now]).map Ren6, false, fl Ren3 ((pre ++ a :: R).set k a'), cB t1) →
        ∃ t', (Zm 600).L (f + 1) (E.map Ren0, zC o, (pre ++ a :: R).length, E.length, (o.length : Int), (k : Int), L.map Ren4, di, ev, n, now, B.map Ren6, false, fl Ren3 (pre ++ a :: R), cB t) = some (E.map Ren0, (pre ++ a :: R).length, E.length, L.map Ren4, di, ev, n + (ph1 (lvF L di ev) (mvF L di ev) ev now E (a :: R) (o.drop k) n).2.length, now, (B ++ (ph1 (lvF L di ev) (mvF L di ev) ev now E (a :: R) (o.drop k) n).2).map Ren6, false, fl Ren3 (pre ++ (ph1 (lvF L di ev) (mvF L di ev) ev now E (a :: R) (o.drop k) n).1), cB t') ∧ t'.length = E.length ∧ (∀ i (h : i < t'.length), t'[i] = true ↔ (i : Int) ∈ o) := by
      intro a' kd t1 hs ht1 hT1 hq
      obtain ⟨t', r1, r2, r3⟩ := zha H o ho hol R (k + 1) f (pre ++ [a']) (if kd = 0 then B else B ++ [bul n kd a' now]) (if kd = 0 then n else n + 1) t1 (by simp [hpre]) (by omega) (by omega) (fun x hx => hR x (List.mem_cons_of_mem _ hx)) (fun j h h' hwj => by
        have := hw (j + 1) (by simpa using h) (by omega) (by simpa using hwj)
        rw [← this]
        congr 1
        omega) (by split <;> first | omega | (rw [List.length_append, List.length_singleton]; omega)) (by split <;> omega) ht1 hT1
      refine ⟨t', ?_, r2, r3⟩
      rw [hset] at hq
      rw [hdo]
      unfold ph1
      rw [hs]
      have hl : (pre ++ a :: R).length = ((pre ++ [a']) ++ R).length := by simp
      rw [hl] at hq ⊢
      show (Zm 600).b _ _ ((Zm 600).L f) some = _
      obtain ⟨Lf, hLf⟩ : ∃ Lf, Lf = (Zm 600).L f := ⟨_, rfl⟩
      rw [← hLf] at r1 ⊢
      simp only [Zm]
      simp only [e2, fl3, Ze, hq, zn (show k < 1000000 by omega)]
      rw [r1]
      by_cases h0 : kd = 0
      · simp only [h0, if_true, List.nil_append, List.append_assoc, List.singleton_append]
      · simp only [h0, if_false, List.append_assoc, List.singleton_append, List.length_cons]
        rw [show n + 1 + ((ph1 (lvF L di ev) (mvF L di ev) ev now E R (o.drop (k + 1)) (n + 1)).2.length : Int) = n + (((ph1 (lvF L di ev) (mvF L di ev) ev now E R (o.drop (k + 1)) (n + 1)).2.length + 1 : Nat) : Int) by omega]
    rcases ho k hko with h1 | ⟨i, hi, h1⟩
    · have hq := ziD H1 (pre ++ a :: R) o t (o.length : Int) k hkl hko (by rw [hek]; exact hp) h1
      rw [hek] at hq
      refine rest _ _ t (by rw [h1, J6]) ht (fun i h => ?_) hq
      rw [hT i h]
      constructor
      · rintro ⟨j, q1, q2, q3⟩; exact ⟨j, q1, by omega, q3⟩
      · rintro ⟨j, q1, q2, q3⟩
        refine ⟨j, q1, ?_, q3⟩
        rcases Nat.lt_or_ge j k with h2 | h2
        · exact h2
        · obtain rfl : j = k := by omega
          rw [h1] at q3; omega
    · have hwa : wdA a = false := by
        cases hx : wdA a with
        | false => rfl
        | true =>
          have := hw 0 (by simp) (by omega) (by simpa using hx)
          simp only [Nat.add_zero] at this
          rw [this] at h1; omega
      have hq := zhD H1 (pre ++ a :: R) o t (o.length : Int) k i hkl hko (by rw [hek]; exact hp) (by rw [hek]; exact hwa) (by rw [hek]; exact ⟨hat1, hat2⟩) hi (by omega) ht h1
      rw [hek] at hq
      refine rest _ _ (t.set i true) (by rw [h1, zgd E i hi]) (by simpa using ht) (fun m h => ?_) hq
      rw [List.getElem_set]
      split
      · rename_i e; subst e
        exact ⟨fun _ => ⟨k, hko, by omega, h1⟩, fun _ => rfl⟩
      · rename_i e
        rw [hT m (by simpa using h)]
        constructor
        · rintro ⟨j, q1, q2, q3⟩; exact ⟨j, q1, by omega, q3⟩
        · rintro ⟨j, q1, q2, q3⟩
          refine ⟨j, q1, ?_, q3⟩
          rcases Nat.lt_or_ge j k with h2 | h2
          · exact h2
          · obtain rfl : j = k := by omega
            rw [h1] at q3; omega
theorem zbm {L : List RT4} {di ev now : Int} {E : List RT0} (H : Rds L di ev now E) (o : List Int) (t : List Bool) (ht : t.length = E.length) (hT : ∀ i (h : i < t.length), t[i] = true ↔ (i : Int) ∈ o) :
    ∀ (R : List RT0) (i f : Nat) (out : List RT3) (B : List RT6) (n : Int), E.drop i = R → i + R.length = E.length → R.length < f → B.length + R.length ≤ 50000 → out.length + R.length ≤ 50000 → 0 ≤ n ∧ n + R.length ≤ 1000 →
    (zR 600).L f (out.length, E.map Ren0, E.length, (E.length : Int), (i : Int), L.map Ren4, di, ev, n, now, B.map Ren6, false, cB t, fl Ren3 out) = some ((out ++ (ph2 (lvF L di ev) (tmF L di ev now) now (fwO o) R i n).1).length, (B ++ (ph2 (lvF L di ev) (tmF L di ev now) now (fwO o) R i n).2).map Ren6, false, fl Ren3 (out ++ (ph2 (lvF L di ev) (tmF L di ev now) now (fwO o) R i n).1))
  | [], i, f, out, B, n, hR, hi, hf, hB, ho, hn => by
    obtain ⟨f, rfl⟩ : ∃ f', f = f' + 1 := ⟨f - 1, by omega⟩
    show (zR 600).b _ _ ((zR 600).L f) some = _
    simp only [zR]
    have e2 : decide ((i : Int) < (E.length : Int)) = false := by rw [decide_eq_false_iff_not]; simp at hi; omega
    simp only [e2, fl3, ph2, List.append_nil]
  | e :: R, i, f, out, B, n, hR, hi, hf, hB, ho, hn => by
    obtain ⟨f, rfl⟩ : ∃ f', f = f' + 1 := ⟨f - 1, by omega⟩
    rw [List.length_cons] at hi hf hB ho hn
    obtain ⟨hil, hei, hR'⟩ := Je hR
    have hE := H.hE
    have hit : i < t.length := by omega
    have e2 : decide ((i : Int) < (E.length : Int)) = true := by rw [decide_eq_true_iff]; omega
    have e3 : (0 : Int) ≤ (i : Int) := by omega
    have hz : (0 : Int) ≤ (i : Int) ∧ (i : Int) < (E.length : Int) := by omega
    have hg := cB_get t i hit
    rw [Int.toNat_natCast] at hg
    have hfw : t[i] = fwO o i := by rw [Bool.eq_iff_iff, hT i hit, zgm]
    rw [hfw] at hg
    have hpe : PkOk e := by rw [← hei]; exact H.pE _ (List.getElem_mem hil)
    unfold ph2
    cases hw : fwO o i with
    | true =>
      have r1 := zbm H o t ht hT R (i + 1) f out B n hR' (by omega) (by omega) (by omega) (by omega) (by omega)
      rw [if_neg (by simp)]
      rw [hw] at hg
      show (zR 600).b _ _ ((zR 600).L f) some = _
      obtain ⟨Lf, hLf⟩ : ∃ Lf, Lf = (zR 600).L f := ⟨_, rfl⟩
      rw [← hLf] at r1 ⊢
      simp only [zR]
      rw [e2]
      simp only [e3, hz, and_self, if_true, Int.toNat_natCast, get0 E i hil, hei, ZP, hg, Bool.not_true, fl3, Ze, zn (show i < 1000000 by omega)]
      exact r1
    | false =>
      rw [hw] at hg
      cases htm : tmF L di ev now e with
      | false =>
        have r1 := zbm H o t ht hT R (i + 1) f out B n hR' (by omega) (by omega) (by omega) (by omega) (by omega)
        rw [if_neg (by simp)]
        show (zR 600).b _ _ ((zR 600).L f) some = _
        obtain ⟨Lf, hLf⟩ : ∃ Lf, Lf = (zR 600).L f := ⟨_, rfl⟩
        rw [← hLf] at r1 ⊢
        simp only [zR]
        rw [e2]
        simp only [e3, hz, and_self, if_true, Int.toNat_natCast, get0 E i hil, hei, ZP, hg, Bool.not_false, tmF_ok H.P, htm, fl3, Ze, zn (show i < 1000000 by omega)]
        exact r1
      | true =>
        obtain ⟨a, ha⟩ : ∃ a, a = mkA n false (nmE e) (lvF L di ev e) e now := ⟨_, rfl⟩
        have r1 := zbm H o t ht hT R (i + 1) f (out ++ [a]) (B ++ [bul n 1 a now]) (n + 1) hR' (by omega) (by omega) (by simp; omega) (by simp; omega) (by omega)
        rw [if_pos ⟨rfl, rfl⟩]
        have hev : evA a = e := by rw [ha]; rfl
        have hid : idA a = n := by rw [ha]; rfl
        have pub := JD 1 a false n now B (by omega) (by omega) (by rw [hev]; exact hpe.len) rfl
        replace pub : zhw 600 (1, a, false, n, B.map Ren6, now) = some (false, n + 1, (B ++ [bul n 1 a now]).map Ren6, now) := pub
        have hcp := zao e hpe.len
        have hb1 : out.length * 38 ≤ (fl Ren3 out).length := by rw [len3]; exact Nat.le_refl _
        have hb2 : ∀ r : List AV, (out.length + [r].length) * 384 ≤ zl := fun r => by unfold zl; simp; omega
        rw [← ha]
        show (zR 600).b _ _ ((zR 600).L f) some = _
        obtain ⟨Lf, hLf⟩ : ∃ Lf, Lf = (zR 600).L f := ⟨_, rfl⟩
        rw [← hLf] at r1 ⊢
        rw [List.length_append] at r1
        simp only [zR]
        rw [e2]
        simp only [e3, hz, and_self, if_true, Int.toNat_natCast, get0 E i hil, hei, ZP, hg, Bool.not_false, tmF_ok H.P, htm, lvF_ok H.P, hcp, hb1, hb2, fl3, Ze, zn (show i < 1000000 by omega)]
        have ha2 : ((n, false, e.1, e.2.1, e.2.2.1, e.2.2.2.1, e.2.2.2.2.1, e.2.2.2.2.2.1, e.2.2.2.2.2.2.1, e.2.2.2.2.2.2.2.1, e.2.2.2.2.2.2.2.2.1, lvF L di ev e, e.1, e.2.1, e.2.2.1, e.2.2.2.1, e.2.2.2.2.1, e.2.2.2.2.2.1, e.2.2.2.2.2.2.1, e.2.2.2.2.2.2.2.1, e.2.2.2.2.2.2.2.2.1, e.2.2.2.2.2.2.2.2.2.1, e.2.2.2.2.2.2.2.2.2.2.1, e.2.2.2.2.2.2.2.2.2.2.2.1, e.2.2.2.2.2.2.2.2.2.2.2.2.1, e.2.2.2.2.2.2.2.2.2.2.2.2.2.1, e.2.2.2.2.2.2.2.2.2.2.2.2.2.2.1, e.2.2.2.2.2.2.2.2.2.2.2.2.2.2.2.1, e.2.2.2.2.2.2.2.2.2.2.2.2.2.2.2.2.1, e.2.2.2.2.2.2.2.2.2.2.2.2.2.2.2.2.2.1, e.2.2.2.2.2.2.2.2.2.2.2.2.2.2.2.2.2.2.1, e.2.2.2.2.2.2.2.2.2.2.2.2.2.2.2.2.2.2.2.1, e.2.2.2.2.2.2.2.2.2.2.2.2.2.2.2.2.2.2.2.2.1, e.2.2.2.2.2.2.2.2.2.2.2.2.2.2.2.2.2.2.2.2.2.1, e.2.2.2.2.2.2.2.2.2.2.2.2.2.2.2.2.2.2.2.2.2.2.1, e.2.2.2.2.2.2.2.2.2.2.2.2.2.2.2.2.2.2.2.2.2.2.2.1, e.2.2.2.2.2.2.2.2.2.2.2.2.2.2.2.2.2.2.2.2.2.2.2.2.1, now, ()) : RT3) = a := ha.symm
        simp only [ha2, hb2, if_true, pub]
        rw [app3 out a _ rfl, fl3]
        refine Eq.trans r1 ?_
        simp only [List.append_assoc, List.singleton_append]
noncomputable def stA (L : List RT4) (di ev now : Int) (E : List RT0) (A : List RT3) (o : List Int) (n : Int) : List RT3 := (ph1 (lvF L di ev) (mvF L di ev) ev now E A o n).1 ++ (ph2 (lvF L di ev) (tmF L di ev now) now (fwO o) E 0 (n + (ph1 (lvF L di ev) (mvF L di ev) ev now E A o n).2.length)).1
noncomputable def stB (L : List RT4) (di ev now : Int) (E : List RT0) (A : List RT3) (o : List Int) (n : Int) : List RT6 := (ph1 (lvF L di ev) (mvF L di ev) ev now E A o n).2 ++ (ph2 (lvF L di ev) (tmF L di ev now) now (fwO o) E 0 (n + (ph1 (lvF L di ev) (mvF L di ev) ev now E A o n).2.length)).2
theorem zd1 {L : List RT4} {di ev number now now' : Int} {A : List RT3} {E : List RT0} (P : Pol L di ev) (O : Ok A number now) (hE : EvOk E) (hn : now ≤ now' ∧ now' ≤ 1000000) : ∃ o t, Fo A E o t ∧ F19_d 600 (A.map Ren3, E.map Ren0) = some (zC o) ∧ zeo 600 (L.map Ren4, di, ev, A.map Ren3, number, E.map Ren0, now') = some ((stA L di ev now' E A o number).map Ren3, (stB L di ev now' E A o number).map Ren6, 0) := by
  have hl := O.len
  have hnum := O.num
  have hnow := O.now
  have hEl := hE.l
  obtain ⟨o, t, h1, F⟩ := zk6 A E (by omega) (by omega) hE.names O.nm hE.pk O.pk
  refine ⟨o, t, F, h1, ?_⟩
  have hlo := F.lo
  have H : Rds L di ev now' E := ⟨P, by omega, hE.pk, by omega⟩
  obtain ⟨t', q1, q2, q3⟩ := zha H o F.v (by omega) A 0 600 [] [] number (List.replicate E.length false) rfl (by omega) (by omega) (fun a ha => ⟨O.pk a ha, by have := O.rng a ha; omega, by have := O.rng a ha; omega⟩) (fun j h h' hw => by simp only [Nat.zero_add]; exact F.w j (by omega) h hw) (by simp; omega) (by omega) (by simp) (fun i h => ⟨fun e => by simp at e, fun ⟨j, _, hj, _⟩ => by omega⟩)
  rw [List.drop_zero] at q1
  obtain ⟨p, hp⟩ : ∃ p, ph1 (lvF L di ev) (mvF L di ev) ev now' E A o number = p := ⟨_, rfl⟩
  have hpl := zaA (lvF L di ev) (mvF L di ev) ev now' E A o number hlo.symm
  rw [hp] at q1 hpl
  replace q1 : (Zm 600).L 600 (E.map Ren0, zC o, A.length, E.length, (o.length : Int), 0, L.map Ren4, di, ev, number, now', [], false, fl Ren3 A, cB (List.replicate E.length false)) = some (E.map Ren0, A.length, E.length, L.map Ren4, di, ev, number + p.2.length, now', p.2.map Ren6, false, fl Ren3 p.1, cB t') := q1
  have q4 := zbm H o t' q2 q3 E 0 600 p.1 p.2 (number + p.2.length) rfl (by omega) (by omega) (by omega) (by omega) (by omega)
  obtain ⟨r, hr⟩ : ∃ r, ph2 (lvF L di ev) (tmF L di ev now') now' (fwO o) E 0 (number + p.2.length) = r := ⟨_, rfl⟩
  have hrl := zaC (lvF L di ev) (tmF L di ev now') now' (fwO o) E 0 (number + p.2.length)
  rw [hr] at q4 hrl
  rw [hpl.1] at q4
  replace q4 : (zR 600).L 600 (A.length, E.map Ren0, E.length, (E.length : Int), 0, L.map Ren4, di, ev, number + p.2.length, now', p.2.map Ren6, false, cB t', fl Ren3 p.1) = some ((p.1 ++ r.1).length, (p.2 ++ r.2).map Ren6, false, fl Ren3 (p.1 ++ r.1)) := q4
  have hsA : stA L di ev now' E A o number = p.1 ++ r.1 := by unfold stA; rw [hp, hr]
  have hsB : stB L di ev now' E A o number = p.2 ++ r.2 := by unfold stB; rw [hp, hr]
  rw [hsA, hsB]
  have e1 : ((0 : Int) != 0) = false := by decide
  have g1 : (0 : Int) ≤ (E.length : Int) := by omega
  have g2 : E.length * 1 ≤ zl := by unfold zl; omega
  have e2 : decide ((((p.1 ++ r.1).length : Nat) : Int) > 200) = false := by rw [decide_eq_false_iff_not, List.length_append]; omega
  have g3 : (p.1 ++ r.1).length * 38 ≤ (fl Ren3 (p.1 ++ r.1)).length := by rw [len3]; exact Nat.le_refl _
  simp only [zeo, FSpec.d, zcz, zix P O hE hn, e1, all_ok A (by omega) (fun a ha => PkOk.len (O.pk a ha)), List.length_map, Int.toNat_natCast, g1, g2, Int.le_refl, and_self, if_true, h1, Jy, zkI, fl3, cB_rep, Ze, q1, zjU, q4, e2, g3]
  rw [zb9 Ren3 38 jQ (fun _ => rfl) _ _ rfl]
end Go.Proofs.Ytnnfpoelkdgjdaa
end
section
namespace Go.Proofs.Ytnnfpoelkdgjdaa
set_option linter.unusedVariables false
set_option linter.unusedSimpArgs false
set_option linter.unnecessarySimpa false
noncomputable def mvR (L : List RT4) (di ev : Int) (a e : RT0) : Bool := (ziJ 600 (L.map Ren4, di, ev, a, e)).getD false
noncomputable def tmR (L : List RT4) (di ev now : Int) (e : RT0) : Bool := (zmp 600 (L.map Ren4, di, ev, e, now)).getD false
theorem mvR_ok {L : List RT4} {di ev : Int} (P : Pol L di ev) (a e : RT0) : ziJ 600 (L.map Ren4, di, ev, a, e) = some (mvR L di ev a e) := by
  obtain ⟨b, h⟩ := zl1 P a e
  unfold mvR; rw [h]; rfl
theorem tmR_ok {L : List RT4} {di ev : Int} (P : Pol L di ev) (e : RT0) (now : Int) : zmp 600 (L.map Ren4, di, ev, e, now) = some (tmR L di ev now e) := by
  obtain ⟨b, h⟩ := zh4 P e now
  unfold tmR; rw [h]; rfl
theorem zmK {L : List RT4} {di ev : Int} (P : Pol L di ev) (e : RT0) : zdP 600 (L.map Ren4, di, ev, e) = some (lvF L di ev e) := zcn P e
@[reducible] def atS (a : RT3) (now : Int) : RT3 := (a.1, a.2.1, a.2.2.1, a.2.2.2.1, a.2.2.2.2.1, a.2.2.2.2.2.1, a.2.2.2.2.2.2.1, a.2.2.2.2.2.2.2.1, a.2.2.2.2.2.2.2.2.1, a.2.2.2.2.2.2.2.2.2.1, a.2.2.2.2.2.2.2.2.2.2.1, a.2.2.2.2.2.2.2.2.2.2.2.1, a.2.2.2.2.2.2.2.2.2.2.2.2.1, a.2.2.2.2.2.2.2.2.2.2.2.2.2.1, a.2.2.2.2.2.2.2.2.2.2.2.2.2.2.1, a.2.2.2.2.2.2.2.2.2.2.2.2.2.2.2.1, a.2.2.2.2.2.2.2.2.2.2.2.2.2.2.2.2.1, a.2.2.2.2.2.2.2.2.2.2.2.2.2.2.2.2.2.1, a.2.2.2.2.2.2.2.2.2.2.2.2.2.2.2.2.2.2.1, a.2.2.2.2.2.2.2.2.2.2.2.2.2.2.2.2.2.2.2.1, a.2.2.2.2.2.2.2.2.2.2.2.2.2.2.2.2.2.2.2.2.1, a.2.2.2.2.2.2.2.2.2.2.2.2.2.2.2.2.2.2.2.2.2.1, a.2.2.2.2.2.2.2.2.2.2.2.2.2.2.2.2.2.2.2.2.2.2.1, a.2.2.2.2.2.2.2.2.2.2.2.2.2.2.2.2.2.2.2.2.2.2.2.1, a.2.2.2.2.2.2.2.2.2.2.2.2.2.2.2.2.2.2.2.2.2.2.2.2.1, a.2.2.2.2.2.2.2.2.2.2.2.2.2.2.2.2.2.2.2.2.2.2.2.2.2.1, a.2.2.2.2.2.2.2.2.2.2.2.2.2.2.2.2.2.2.2.2.2.2.2.2.2.2.1, a.2.2.2.2.2.2.2.2.2.2.2.2.2.2.2.2.2.2.2.2.2.2.2.2.2.2.2.1, a.2.2.2.2.2.2.2.2.2.2.2.2.2.2.2.2.2.2.2.2.2.2.2.2.2.2.2.2.1, a.2.2.2.2.2.2.2.2.2.2.2.2.2.2.2.2.2.2.2.2.2.2.2.2.2.2.2.2.2.1, a.2.2.2.2.2.2.2.2.2.2.2.2.2.2.2.2.2.2.2.2.2.2.2.2.2.2.2.2.2.2.1, a.2.2.2.2.2.2.2.2.2.2.2.2.2.2.2.2.2.2.2.2.2.2.2.2.2.2.2.2.2.2.2.1, a.2.2.2.2.2.2.2.2.2.2.2.2.2.2.2.2.2.2.2.2.2.2.2.2.2.2.2.2.2.2.2.2.1, a.2.2.2.2.2.2.2.2.2.2.2.2.2.2.2.2.2.2.2.2.2.2.2.2.2.2.2.2.2.2.2.2.2.1, a.2.2.2.2.2.2.2.2.2.2.2.2.2.2.2.2.2.2.2.2.2.2.2.2.2.2.2.2.2.2.2.2.2.2.1, a.2.2.2.2.2.2.2.2.2.2.2.2.2.2.2.2.2.2.2.2.2.2.2.2.2.2.2.2.2.2.2.2.2.2.2.1, a.2.2.2.2.2.2.2.2.2.2.2.2.2.2.2.2.2.2.2.2.2.2.2.2.2.2.2.2.2.2.2.2.2.2.2.2.1, now, ())
def r1 (lv : RT0 → Int) (mv : RT0 → RT0 → Bool) (ev now : Int) (a : RT3) : Option RT0 → RT3 × Int
  | none => if wdA a = true then (a, 0) else ((a.1, true, a.2.2), 3)
  | some e => if wdA a = true then (nmS a (nmE e), 0) else if lv e = 0 then (((nmS a (nmE e)).1, true, (nmS a (nmE e)).2.2), 3)
    else if mv (evA a) e = true ∧ now - atA a ≥ ev then (upA (nmS a (nmE e)) (lv e) e (atA a), 2)
    else (nmS a (nmE e), 0)
theorem r1_none (lv : RT0 → Int) (mv : RT0 → RT0 → Bool) (ev now : Int) (a : RT3) : s1 lv mv ev now a none = (if (r1 lv mv ev now a none).2 = 0 then (r1 lv mv ev now a none).1 else atS (r1 lv mv ev now a none).1 now, (r1 lv mv ev now a none).2) := by
  unfold s1 r1
  cases hw : wdA a with
  | true => rfl
  | false => rfl
theorem r1_some (lv : RT0 → Int) (mv : RT0 → RT0 → Bool) (ev now : Int) (a : RT3) (e : RT0) (hw : wdA a = false) : s1 lv mv ev now a (some e) = (if (r1 lv mv ev now a (some e)).2 = 0 then (r1 lv mv ev now a (some e)).1 else atS (r1 lv mv ev now a (some e)).1 now, (r1 lv mv ev now a (some e)).2) := by
  unfold s1 r1
  rw [hw]
  simp only [Bool.false_eq_true, if_false]
  by_cases h0 : lv e = 0
  · simp only [h0, if_true]; rfl
  · simp only [h0, if_false]
    by_cases h1 : now - atA a ≥ ev
    · cases h2 : mv (evA a) e with
      | true =>
        simp only [h1, and_self, if_true]
        show (mkA _ false _ _ _ _, (2 : Int)) = (mkA (idA a) (wdA a) (nmE e) (lv e) e now, 2)
        rw [hw]
      | false =>
        simp only [Bool.false_eq_true, false_and, and_false, if_false, if_true]
        show (mkA _ false _ _ _ _, (0 : Int)) = (mkA (idA a) (wdA a) (nmE e) (lvA a) (evA a) (atA a), 0)
        rw [hw]
    · simp only [h1, false_and, and_false, if_false, if_true]
      show (mkA _ false _ _ _ _, (0 : Int)) = (mkA (idA a) (wdA a) (nmE e) (lvA a) (evA a) (atA a), 0)
      rw [hw]
theorem r1_nn (lv : RT0 → Int) (mv : RT0 → RT0 → Bool) (ev now : Int) (a : RT3) : ∀ x, 0 ≤ (r1 lv mv ev now a x).2
  | none => by unfold r1; dsimp only; split <;> (dsimp only; omega)
  | some e => by
    unfold r1
    dsimp only
    split
    · dsimp only; omega
    · split
      · dsimp only; omega
      · split <;> (dsimp only; omega)
theorem zhX {L : List RT4} {di ev now : Int} {E : List RT0} (H : Rds L di ev now E) (O T A : List (List AV)) (number : Int) (n : Nat) (k : Int) (a : RT3) (o : List Int) :
    zen 600 (O, T, A, E.map Ren0, number, now, n, k, 0, false, L.map Ren4, di, ev, a, cI o) = some (O, T, A, E.map Ren0, number, now, n, k, 0, L.map Ren4, di, ev, a, cI o) ∧
    zdU 600 (O, T, A, E.map Ren0, number, now, n, k, 0, -1, wdA a, L.map Ren4, di, ev, a, cI o) = some (O, T, A, E.map Ren0, number, now, n, k, (r1 (lvF L di ev) (mvR L di ev) ev now a none).2, L.map Ren4, di, ev, (r1 (lvF L di ev) (mvR L di ev) ev now a none).1, cI o) := by
  refine ⟨?_, ?_⟩
  · show (jh 600).b _ _ ((jh 600).L 599) some = _
    simp only [jh]
    simp only [zF]
  · show (ji 600).b _ _ ((ji 600).L 599) some = _
    simp only [ji]
    cases hw : wdA a with
    | true =>
      simp only [r1, hw, if_true, zF]
    | false =>
      have e1 : decide ((-1 : Int) < 0) = true := by decide
      have q28 : zgg 600 (O, T, A, E.map Ren0, number, now, n, k, 0, -1, L.map Ren4, di, ev, a, cI o) = some (O, T, A, E.map Ren0, number, now, n, k, 3, L.map Ren4, di, ev, (a.1, true, a.2.2), cI o) := by
        show (jk 600).b _ _ ((jk 600).L 599) some = _
        simp only [jk]
        have q29 : zeq 600 (O, T, A, E.map Ren0, number, now, n, k, 0, -1, true, L.map Ren4, di, ev, a, cI o) = some (O, T, A, E.map Ren0, number, now, n, k, 3, L.map Ren4, di, ev, (a.1, true, a.2.2), cI o) := by
          show (jg 600).b _ _ ((jg 600).L 599) some = _
          simp only [jg]
          simp only [zF]
        simp only [e1, zF, q29]
      simp only [zF, q28]
      simp only [r1, hw]
      rfl
theorem ziP {L : List RT4} {di ev now : Int} {E : List RT0} (H : Rds L di ev now E) (O T A : List (List AV)) (number : Int) (n k : Nat) (a : RT3) (o : List Int) (i : Nat) (hi : i < E.length) (hk : k < o.length) (hkn : k < n) (ho : o[k] = (i : Int)) (hw : wdA a = false) (hat : 0 ≤ atA a ∧ atA a ≤ now) :
    zen 600 (O, T, A, E.map Ren0, number, now, n, (k : Int), 0, true, L.map Ren4, di, ev, a, cI o) = some (O, T, A, E.map Ren0, number, now, n, (k : Int), 0, L.map Ren4, di, ev, nmS a (nmE E[i]), cI o) ∧
    zdU 600 (O, T, A, E.map Ren0, number, now, n, (k : Int), 0, (i : Int), false, L.map Ren4, di, ev, nmS a (nmE E[i]), cI o) = some (O, T, A, E.map Ren0, number, now, n, (k : Int), (r1 (lvF L di ev) (mvR L di ev) ev now a (some E[i])).2, L.map Ren4, di, ev, (r1 (lvF L di ev) (mvR L di ev) ev now a (some E[i])).1, cI o) := by
  have hnow := H.now
  have e3i : (0 : Int) ≤ (i : Int) := by omega
  have hz : (0 : Int) ≤ (k : Int) ∧ (k : Int) < (n : Int) := by omega
  refine ⟨?_, ?_⟩
  · show (jh 600).b _ _ ((jh 600).L 599) some = _
    simp only [jh]
    have hg := zev o k hk
    rw [ho, Int.toNat_natCast] at hg
    simp only [hz, and_self, if_true, hg, e3i, Int.toNat_natCast, get0 E i hi, nm00, zF]
    rfl
  · show (ji 600).b _ _ ((ji 600).L 599) some = _
    simp only [ji]
    obtain ⟨a1, ha1⟩ : ∃ a1, a1 = nmS a (nmE E[i]) := ⟨_, rfl⟩
    have hev : evA a1 = evA a := by rw [ha1]; rfl
    have hat1 : atA a1 = atA a := by rw [ha1]; rfl
    have e1 : decide ((i : Int) < 0) = false := by rw [decide_eq_false_iff_not]; omega
    have q29 : zeq 600 (O, T, A, E.map Ren0, number, now, n, (k : Int), 0, (i : Int), (lvF L di ev E[i] == 0), L.map Ren4, di, ev, a1, cI o) = some (O, T, A, E.map Ren0, number, now, n, (k : Int), (r1 (lvF L di ev) (mvR L di ev) ev now a (some E[i])).2, L.map Ren4, di, ev, (r1 (lvF L di ev) (mvR L di ev) ev now a (some E[i])).1, cI o) := by
      show (jg 600).b _ _ ((jg 600).L 599) some = _
      simp only [jg]
      by_cases h0 : lvF L di ev E[i] = 0
      · have e2 : (lvF L di ev E[i] == 0) = true := by rw [h0]; rfl
        simp only [e2, zF, r1, hw, h0, ha1]
        rfl
      · have e2 : (lvF L di ev E[i] == 0) = false := by simp [h0]
        have hm := mvR_ok H.P (evA a1) E[i]
        rw [hev] at hm
        have hx : ziJ 600 (L.map Ren4, di, ev, evA a1, E[i]) = some (mvR L di ev (evA a) E[i]) := by rw [hev]; exact hm
        have e5 : i64 (now - atA a1) = now - atA a := by rw [hat1, zN (by omega)]
        simp only [e2, e3i, if_true, Int.toNat_natCast, get0 E i hi, ZP, hx]
        cases hmv : mvR L di ev (evA a) E[i] with
        | false =>
          simp only [zF, r1, hw, h0, hmv, ha1]
          simp
        | true =>
          by_cases hd : now - atA a ≥ ev
          · simp only [e5, hd, decide_true, zmK H.P, zF]
            subst ha1
            simp only [r1, hw, h0, hmv, hd]
            simp
            rfl
          · simp only [e5, hd, decide_false, zF]
            subst ha1
            simp only [r1, hw, h0, hmv, hd]
            simp
    have q28 : zgg 600 (O, T, A, E.map Ren0, number, now, n, (k : Int), 0, (i : Int), L.map Ren4, di, ev, a1, cI o) = some (O, T, A, E.map Ren0, number, now, n, (k : Int), (r1 (lvF L di ev) (mvR L di ev) ev now a (some E[i])).2, L.map Ren4, di, ev, (r1 (lvF L di ev) (mvR L di ev) ev now a (some E[i])).1, cI o) := by
      show (jk 600).b _ _ ((jk 600).L 599) some = _
      simp only [jk]
      simp only [e1, e3i, if_true, Int.toNat_natCast, get0 E i hi, ZP, zmK H.P, zF, q29]
    rw [← ha1]
    simp only [zF, q28]
theorem zcd {L : List RT4} {di ev now number : Int} {A : List RT3} {E : List RT0} (H : Rds L di ev now E) (o : List Int) (ho : ∀ k (h : k < o.length), o[k] = -1 ∨ ∃ i : Nat, i < E.length ∧ o[k] = (i : Int)) (hol : o.length ≤ 500) (hoA : o.length = A.length) (hw : ∀ k (h : k < A.length) (h' : k < o.length), wdA A[k] = true → o[k] = -1) (hat : ∀ a ∈ A, 0 ≤ atA a ∧ atA a ≤ now) (hnum : 0 ≤ number ∧ number ≤ 1000) :
    ∀ (R : List RT3) (k f : Nat) (O : List RT3) (T : List RT6), A.drop k = R → k + R.length = A.length → R.length < f → T.length + R.length ≤ 5000 → O.length + R.length ≤ 5000 →
    (Zf 600).L f (O.map Ren3, T.map Ren6, A.map Ren3, E.map Ren0, number, now, A.length, (k : Int), L.map Ren4, di, ev, cI o) = some ((O ++ (ph1 (lvF L di ev) (mvR L di ev) ev now E R (o.drop k) (number + T.length)).1).map Ren3, (T ++ (ph1 (lvF L di ev) (mvR L di ev) ev now E R (o.drop k) (number + T.length)).2).map Ren6, E.map Ren0, number, now, A.length, L.map Ren4, di, ev, cI o)
  | [], k, f, O, T, hR, hk, hf, hT, hO => by
    obtain ⟨f, rfl⟩ : ∃ f', f = f' + 1 := ⟨f - 1, by omega⟩
    show (Zf 600).b _ _ ((Zf 600).L f) some = _
    simp only [Zf]
    have e2 : decide ((k : Int) < (A.length : Int)) = false := by rw [decide_eq_false_iff_not]; simp at hk; omega
    simp only [List.length_map, e2, zF, ph1, List.append_nil]
  | a :: R, k, f, O, T, hR, hk, hf, hT, hO => by
    obtain ⟨f, rfl⟩ : ∃ f', f = f' + 1 := ⟨f - 1, by omega⟩
    rw [List.length_cons] at hk hf hT hO
    obtain ⟨hkl, hek, hR'⟩ := Je hR
    have hko : k < o.length := by omega
    have hdo : o.drop k = o[k] :: o.drop (k + 1) := List.drop_eq_getElem_cons hko
    have e2 : decide ((k : Int) < (A.length : Int)) = true := by rw [decide_eq_true_iff]; omega
    have e3 : (0 : Int) ≤ (k : Int) := by omega
    have hz : (0 : Int) ≤ (k : Int) ∧ (k : Int) < (A.length : Int) := by omega
    have hg := zev o k hko
    rw [Int.toNat_natCast] at hg
    have hb1 : ∀ r : List AV, ((T.map Ren6).length + [r].length) * 288 ≤ zl := fun r => by
      rw [List.length_map]; unfold zl; simp; omega
    have hb2 : ∀ r : List AV, ((O.map Ren3).length + [r].length) * 384 ≤ zl := fun r => by
      rw [List.length_map]; unfold zl; simp; omega
    have e6 : i64 (number + (T.length : Int)) = number + T.length := zN (by omega)
    have hata := hat a (by rw [← hek]; exact List.getElem_mem hkl)
    -- the rest
    have rest : ∀ (a1 a2 : RT3) (kd : Int), 0 ≤ kd → s1 (lvF L di ev) (mvR L di ev) ev now a (evI E o[k]) = (if kd = 0 then a2 else atS a2 now, kd) →
        zen 600 (O.map Ren3, T.map Ren6, A.map Ren3, E.map Ren0, number, now, A.length, (k : Int), 0, decide (o[k] ≥ 0), L.map Ren4, di, ev, a, cI o) = some (O.map Ren3, T.map Ren6, A.map Ren3, E.map Ren0, number, now, A.length, (k : Int), 0, L.map Ren4, di, ev, a1, cI o) →
        zdU 600 (O.map Ren3, T.map Ren6, A.map Ren3, E.map Ren0, number, now, A.length, (k : Int), 0, o[k], a1.2.1, L.map Ren4, di, ev, a1, cI o) = some (O.map Ren3, T.map Ren6, A.map Ren3, E.map Ren0, number, now, A.length, (k : Int), kd, L.map Ren4, di, ev, a2, cI o) →
        (Zf 600).L (f + 1) (O.map Ren3, T.map Ren6, A.map Ren3, E.map Ren0, number, now, A.length, (k : Int), L.map Ren4, di, ev, cI o) = some ((O ++ (ph1 (lvF L di ev) (mvR L di ev) ev now E (a :: R) (o.drop k) (number + T.length)).1).map Ren3, (T ++ (ph1 (lvF L di ev) (mvR L di ev) ev now E (a :: R) (o.drop k) (number + T.length)).2).map Ren6, E.map Ren0, number, now, A.length, L.map Ren4, di, ev, cI o) := by
      intro a1 a2 kd hkd hs q1 q2
      rw [hdo]
      unfold ph1
      rw [hs]
      by_cases h0 : kd = 0
      · subst h0
        have r1 := zcd H o ho hol hoA hw hat hnum R (k + 1) f (O ++ [a2]) T hR' (by omega) (by omega) (by omega) (by simp; omega)
        show (Zf 600).b _ _ ((Zf 600).L f) some = _
        obtain ⟨Lf, hLf⟩ : ∃ Lf, Lf = (Zf 600).L f := ⟨_, rfl⟩
        rw [← hLf] at r1 ⊢
        simp only [Zf]
        simp only [List.length_map, e2, e3, hz, and_self, if_true, Int.toNat_natCast, get3 A k hkl, hek, jl, hg, zF, q1, q2, zn (show k < 1000000 by omega)]
        have e7 : decide ((0 : Int) > 0) = false := by decide
        have hb3 : ∀ r : List AV, (O.length + [r].length) * 384 ≤ zl := fun r => by have := hb2 r; rwa [List.length_map] at this
        simp only [e7, hb3, if_true, List.nil_append]
        rw [List.map_append] at r1
        refine Eq.trans r1 ?_
        simp only [List.append_assoc, List.singleton_append]
      · have r1 := zcd H o ho hol hoA hw hat hnum R (k + 1) f (O ++ [atS a2 now]) (T ++ [bul (number + T.length) kd (atS a2 now) now]) hR' (by omega) (by omega) (by simp; omega) (by simp; omega)
        show (Zf 600).b _ _ ((Zf 600).L f) some = _
        obtain ⟨Lf, hLf⟩ : ∃ Lf, Lf = (Zf 600).L f := ⟨_, rfl⟩
        rw [← hLf] at r1 ⊢
        simp only [Zf]
        simp only [List.length_map, e2, e3, hz, and_self, if_true, Int.toNat_natCast, get3 A k hkl, hek, jl, hg, zF, q1, q2, zn (show k < 1000000 by omega), e6]
        have e7 : decide (kd > 0) = true := by rw [decide_eq_true_iff]; omega
        have hb3 : ∀ r : List AV, (O.length + [r].length) * 384 ≤ zl := fun r => by have := hb2 r; rwa [List.length_map] at this
        have hb4 : ∀ r : List AV, (T.length + [r].length) * 288 ≤ zl := fun r => by have := hb1 r; rwa [List.length_map] at this
        simp only [e7, hb3, hb4, if_true, h0, if_false]
        rw [List.map_append, List.map_append, List.length_append, List.length_singleton] at r1
        rw [show number + (((T.length + 1 : Nat)) : Int) = number + T.length + 1 by omega] at r1
        refine Eq.trans r1 ?_
        simp only [List.append_assoc, List.singleton_append]
    rcases ho k hko with h1 | ⟨i, hi, h1⟩
    · obtain ⟨q1, q2⟩ := zhX H (O.map Ren3) (T.map Ren6) (A.map Ren3) number A.length (k : Int) a o
      refine rest a _ _ ?_ (by rw [h1, J6]; exact r1_none _ _ _ _ _) (by rw [h1]; exact q1) (by rw [h1]; exact q2)
      exact r1_nn _ _ _ _ _ _
    · have hwa : wdA a = false := by
        cases hx : wdA a with
        | false => rfl
        | true =>
          have := hw k hkl hko (by rw [hek]; exact hx)
          rw [this] at h1; omega
      obtain ⟨q1, q2⟩ := ziP H (O.map Ren3) (T.map Ren6) (A.map Ren3) number A.length k a o i hi hko hkl h1 hwa hata
      have hd : decide ((i : Int) ≥ 0) = true := by rw [decide_eq_true_iff]; omega
      refine rest (nmS a (nmE E[i])) _ _ ?_ (by rw [h1, zgd E i hi]; exact r1_some _ _ _ _ _ _ hwa) (by rw [h1, hd]; exact q1) (by
        have hwd : (nmS a (nmE E[i])).2.1 = false := hwa
        rw [h1, hwd]; exact q2)
      exact r1_nn _ _ _ _ _ _
theorem zad {L : List RT4} {di ev now number : Int} {E : List RT0} (H : Rds L di ev now E) (n : Nat) (o : List Int) (hol : o.length ≤ 500) (hon : n = o.length) (hnum : 0 ≤ number ∧ number ≤ 1000) :
    ∀ (R : List RT0) (i f : Nat) (O : List RT3) (T : List RT6), E.drop i = R → i + R.length = E.length → R.length < f → T.length + R.length ≤ 50000 → O.length + R.length ≤ 50000 →
    (Za 600).L f (O.map Ren3, T.map Ren6, E.map Ren0, number, now, n, (i : Int), L.map Ren4, di, ev, cI o) = some ((O ++ (ph2 (lvF L di ev) (tmR L di ev now) now (fwO o) R i (number + T.length)).1).map Ren3, (T ++ (ph2 (lvF L di ev) (tmR L di ev now) now (fwO o) R i (number + T.length)).2).map Ren6, number)
  | [], i, f, O, T, hR, hi, hf, hT, hO => by
    obtain ⟨f, rfl⟩ : ∃ f', f = f' + 1 := ⟨f - 1, by omega⟩
    show (Za 600).b _ _ ((Za 600).L f) some = _
    simp only [Za]
    have e2 : decide ((i : Int) < (E.length : Int)) = false := by rw [decide_eq_false_iff_not]; simp at hi; omega
    simp only [List.length_map, e2, ph2, List.append_nil]
  | e :: R, i, f, O, T, hR, hi, hf, hT, hO => by
    obtain ⟨f, rfl⟩ : ∃ f', f = f' + 1 := ⟨f - 1, by omega⟩
    rw [List.length_cons] at hi hf hT hO
    obtain ⟨hil, hei, hR'⟩ := Je hR
    have hE := H.hE
    have e2 : decide ((i : Int) < (E.length : Int)) = true := by rw [decide_eq_true_iff]; omega
    have e3 : (0 : Int) ≤ (i : Int) := by omega
    obtain ⟨b, b1, b2⟩ := in_ok o (i : Int) hol
    rw [← hon] at b1
    have hb : b = fwO o i := by rw [Bool.eq_iff_iff, b2, zgm]
    unfold ph2
    cases hw : fwO o i with
    | true =>
      rw [hb, hw] at b1
      have r1 := zad H n o hol hon hnum R (i + 1) f O T hR' (by omega) (by omega) (by omega) (by omega)
      rw [if_neg (by simp)]
      show (Za 600).b _ _ ((Za 600).L f) some = _
      obtain ⟨Lf, hLf⟩ : ∃ Lf, Lf = (Za 600).L f := ⟨_, rfl⟩
      rw [← hLf] at r1 ⊢
      simp only [Za]
      simp only [List.length_map, e2, zF, b1, zn (show i < 1000000 by omega)]
      exact r1
    | false =>
      rw [hb, hw] at b1
      cases htm : tmR L di ev now e with
      | false =>
        have r1 := zad H n o hol hon hnum R (i + 1) f O T hR' (by omega) (by omega) (by omega) (by omega)
        rw [if_neg (by simp)]
        show (Za 600).b _ _ ((Za 600).L f) some = _
        obtain ⟨Lf, hLf⟩ : ∃ Lf, Lf = (Za 600).L f := ⟨_, rfl⟩
        rw [← hLf] at r1 ⊢
        simp only [Za]
        simp only [List.length_map, e2, zF, b1, e3, if_true, Int.toNat_natCast, get0 E i hil, hei, ZP, tmR_ok H.P, htm, Bool.not_false, zn (show i < 1000000 by omega)]
        exact r1
      | true =>
        obtain ⟨nn, hnn⟩ : ∃ nn : Int, nn = number + T.length := ⟨_, rfl⟩
        rw [← hnn]
        obtain ⟨a, ha⟩ : ∃ a, a = mkA nn false (nmE e) (lvF L di ev e) e now := ⟨_, rfl⟩
        have r1 := zad H n o hol hon hnum R (i + 1) f (O ++ [a]) (T ++ [bul nn 1 a now]) hR' (by omega) (by omega) (by simp; omega) (by simp; omega)
        rw [if_pos ⟨rfl, rfl⟩, ← ha]
        have e6 : i64 (number + (T.length : Int)) = nn := by rw [hnn]; exact zN (by omega)
        have hb3 : ∀ r : List AV, (O.length + [r].length) * 384 ≤ zl := fun r => by unfold zl; simp; omega
        have hb4 : ∀ r : List AV, (T.length + [r].length) * 288 ≤ zl := fun r => by unfold zl; simp; omega
        have ha2 : ((nn, false, e.1, e.2.1, e.2.2.1, e.2.2.2.1, e.2.2.2.2.1, e.2.2.2.2.2.1, e.2.2.2.2.2.2.1, e.2.2.2.2.2.2.2.1, e.2.2.2.2.2.2.2.2.1, lvF L di ev e, e.1, e.2.1, e.2.2.1, e.2.2.2.1, e.2.2.2.2.1, e.2.2.2.2.2.1, e.2.2.2.2.2.2.1, e.2.2.2.2.2.2.2.1, e.2.2.2.2.2.2.2.2.1, e.2.2.2.2.2.2.2.2.2.1, e.2.2.2.2.2.2.2.2.2.2.1, e.2.2.2.2.2.2.2.2.2.2.2.1, e.2.2.2.2.2.2.2.2.2.2.2.2.1, e.2.2.2.2.2.2.2.2.2.2.2.2.2.1, e.2.2.2.2.2.2.2.2.2.2.2.2.2.2.1, e.2.2.2.2.2.2.2.2.2.2.2.2.2.2.2.1, e.2.2.2.2.2.2.2.2.2.2.2.2.2.2.2.2.1, e.2.2.2.2.2.2.2.2.2.2.2.2.2.2.2.2.2.1, e.2.2.2.2.2.2.2.2.2.2.2.2.2.2.2.2.2.2.1, e.2.2.2.2.2.2.2.2.2.2.2.2.2.2.2.2.2.2.2.1, e.2.2.2.2.2.2.2.2.2.2.2.2.2.2.2.2.2.2.2.2.1, e.2.2.2.2.2.2.2.2.2.2.2.2.2.2.2.2.2.2.2.2.2.1, e.2.2.2.2.2.2.2.2.2.2.2.2.2.2.2.2.2.2.2.2.2.2.1, e.2.2.2.2.2.2.2.2.2.2.2.2.2.2.2.2.2.2.2.2.2.2.2.1, e.2.2.2.2.2.2.2.2.2.2.2.2.2.2.2.2.2.2.2.2.2.2.2.2.1, now, ()) : RT3) = a := ha.symm
        have hbb : ((nn, 1, nn, now, lvF L di ev e, e.1, e.2.1, e.2.2.1, e.2.2.2.1, e.2.2.2.2.1, e.2.2.2.2.2.1, e.2.2.2.2.2.2.1, e.2.2.2.2.2.2.2.1, e.2.2.2.2.2.2.2.2.1, e.2.2.2.2.2.2.2.2.2.1, e.2.2.2.2.2.2.2.2.2.2.1, e.2.2.2.2.2.2.2.2.2.2.2.1, e.2.2.2.2.2.2.2.2.2.2.2.2.1, e.2.2.2.2.2.2.2.2.2.2.2.2.2.1, e.2.2.2.2.2.2.2.2.2.2.2.2.2.2.1, e.2.2.2.2.2.2.2.2.2.2.2.2.2.2.2.1, e.2.2.2.2.2.2.2.2.2.2.2.2.2.2.2.2.1, e.2.2.2.2.2.2.2.2.2.2.2.2.2.2.2.2.2.1, e.2.2.2.2.2.2.2.2.2.2.2.2.2.2.2.2.2.2.1, e.2.2.2.2.2.2.2.2.2.2.2.2.2.2.2.2.2.2.2.1, e.2.2.2.2.2.2.2.2.2.2.2.2.2.2.2.2.2.2.2.2.1, e.2.2.2.2.2.2.2.2.2.2.2.2.2.2.2.2.2.2.2.2.2.1, e.2.2.2.2.2.2.2.2.2.2.2.2.2.2.2.2.2.2.2.2.2.2.1, e.2.2.2.2.2.2.2.2.2.2.2.2.2.2.2.2.2.2.2.2.2.2.2.1, e.2.2.2.2.2.2.2.2.2.2.2.2.2.2.2.2.2.2.2.2.2.2.2.2.1, ()) : RT6) = bul nn 1 a now := by rw [ha]; rfl
        show (Za 600).b _ _ ((Za 600).L f) some = _
        obtain ⟨Lf, hLf⟩ : ∃ Lf, Lf = (Za 600).L f := ⟨_, rfl⟩
        rw [← hLf] at r1 ⊢
        simp only [Za]
        simp only [List.length_map, e2, zF, b1, e3, if_true, Int.toNat_natCast, get0 E i hil, hei, ZP, nm00, tmR_ok H.P, htm, Bool.not_true, zmK H.P, e6, hb3, hb4, zn (show i < 1000000 by omega)]
        simp only [ha2, hbb, hb3, hb4, if_true]
        rw [List.map_append, List.map_append, List.length_append, List.length_singleton] at r1
        rw [show number + (((T.length + 1 : Nat)) : Int) = nn + 1 by omega] at r1
        refine Eq.trans r1 ?_
        simp only [List.append_assoc, List.singleton_append]
noncomputable def stAR (L : List RT4) (di ev now : Int) (E : List RT0) (A : List RT3) (o : List Int) (n : Int) : List RT3 := (ph1 (lvF L di ev) (mvR L di ev) ev now E A o n).1 ++ (ph2 (lvF L di ev) (tmR L di ev now) now (fwO o) E 0 (n + (ph1 (lvF L di ev) (mvR L di ev) ev now E A o n).2.length)).1
noncomputable def stBR (L : List RT4) (di ev now : Int) (E : List RT0) (A : List RT3) (o : List Int) (n : Int) : List RT6 := (ph1 (lvF L di ev) (mvR L di ev) ev now E A o n).2 ++ (ph2 (lvF L di ev) (tmR L di ev now) now (fwO o) E 0 (n + (ph1 (lvF L di ev) (mvR L di ev) ev now E A o n).2.length)).2
theorem rstep_ok {L : List RT4} {di ev number now now' : Int} {A : List RT3} {E : List RT0} {m : Nat} (P : Pol L di ev) (O : Ok A number now) (hm : m ≤ 5) (hE : Evs 0 m E) (hn : now ≤ now' ∧ now' ≤ 1000000) : ∃ o t, Fo A E o t ∧ F37_d 600 (L.map Ren4, di, ev, A.map Ren3, number, E.map Ren0, now') = some ((stAR L di ev now' E A o number).map Ren3, (stBR L di ev now' E A o number).map Ren6, 0) := by
  have hl := O.len
  have hnum := O.num
  have hnow := O.now
  have hEl := zbB hE
  obtain ⟨o, t, h1, F⟩ := zi2 A E (by omega) (by omega) hE.names O.nm hE.pk O.pk
  refine ⟨o, t, F, ?_⟩
  have hlo := F.lo
  have H : Rds L di ev now' E := ⟨P, by omega, hE.pk, by omega⟩
  have q1 := zcd H o F.v (by omega) hlo (fun k h h' hw => F.w k h' h hw) (fun a ha => by have := O.rng a ha; omega) (show 0 ≤ number ∧ number ≤ 1000 by omega) A 0 600 [] [] rfl (by omega) (by omega) (by simp; omega) (by simp; omega)
  rw [List.drop_zero] at q1
  simp only [List.length_nil, List.nil_append, List.map_nil] at q1
  rw [show number + ((0 : Nat) : Int) = number by omega] at q1
  obtain ⟨p, hp⟩ : ∃ p, ph1 (lvF L di ev) (mvR L di ev) ev now' E A o number = p := ⟨_, rfl⟩
  have hpl := zaA (lvF L di ev) (mvR L di ev) ev now' E A o number hlo.symm
  rw [hp] at q1 hpl
  replace q1 : (Zf 600).L 600 ([], [], A.map Ren3, E.map Ren0, number, now', A.length, 0, L.map Ren4, di, ev, cI o) = some (p.1.map Ren3, p.2.map Ren6, E.map Ren0, number, now', A.length, L.map Ren4, di, ev, cI o) := q1
  have q4 := zad H A.length o (by omega) hlo.symm (show 0 ≤ number ∧ number ≤ 1000 by omega) E 0 600 p.1 p.2 rfl (by omega) (by omega) (by omega) (by omega)
  obtain ⟨r, hr⟩ : ∃ r, ph2 (lvF L di ev) (tmR L di ev now') now' (fwO o) E 0 (number + p.2.length) = r := ⟨_, rfl⟩
  have hrl := zaC (lvF L di ev) (tmR L di ev now') now' (fwO o) E 0 (number + p.2.length)
  rw [hr] at q4 hrl
  replace q4 : (Za 600).L 600 (p.1.map Ren3, p.2.map Ren6, E.map Ren0, number, now', A.length, 0, L.map Ren4, di, ev, cI o) = some ((p.1 ++ r.1).map Ren3, (p.2 ++ r.2).map Ren6, number) := q4
  have hsA : stAR L di ev now' E A o number = p.1 ++ r.1 := by unfold stAR; rw [hp, hr]
  have hsB : stBR L di ev now' E A o number = p.2 ++ r.2 := by unfold stBR; rw [hp, hr]
  rw [hsA, hsB]
  have e1 : ((0 : Int) != 0) = false := by decide
  have e2 : decide (((p.1 ++ r.1).length : Int) > 200) = false := by rw [decide_eq_false_iff_not, List.length_append]; omega
  have e3 : decide (i64 (number + ((p.2 ++ r.2).length : Int)) > 1000) = false := by
    rw [decide_eq_false_iff_not, List.length_append, zN (by omega)]; omega
  simp only [F37_d, FSpec.d, zcR, zj9 P O hm hE hn, e1, h1, zF, zlM, q1, zm0, q4, List.length_map, e2, e3]
end Go.Proofs.Ytnnfpoelkdgjdaa
end
section
namespace Go.Proofs.Ytnnfpoelkdgjdaa
set_option linter.unusedVariables false
set_option linter.unusedSimpArgs false
set_option linter.unnecessarySimpa false
section
variable (lv : RT0 → Int) (mv : RT0 → RT0 → Bool) (tm : RT0 → Bool) (ev now : Int) (E : List RT0)
theorem zf4 : ∀ (A : List RT3) (o : List Int) (n : Int) (h : A.length = o.length) (k : Nat) (hk : k < A.length) (hk' : k < o.length) (hk2 : k < (ph1 lv mv ev now E A o n).1.length), (ph1 lv mv ev now E A o n).1[k] = (s1 lv mv ev now A[k] (evI E o[k])).1
  | [], o, n, h, k, hk, hk', hk2 => by cases hk
  | a :: A, [], n, h, k, hk, hk', hk2 => by cases hk'
  | a :: A, i :: o, n, h, k, hk, hk', hk2 => by
    cases k with
    | zero => simp only [ph1, List.getElem_cons_zero]
    | succ k =>
      simp only [ph1, List.getElem_cons_succ]
      exact zf4 A o _ (by simpa using h) k (by simpa using hk) (by simpa using hk') (by simpa [ph1] using hk2)
theorem s1_id (a : RT3) : ∀ x, idA (s1 lv mv ev now a x).1 = idA a
  | none => by unfold s1; dsimp only; split <;> rfl
  | some e => by
    unfold s1
    dsimp only
    split
    · rfl
    · split
      · rfl
      · split <;> rfl
theorem s1_at (a : RT3) : ∀ x, atA (s1 lv mv ev now a x).1 = atA a ∨ atA (s1 lv mv ev now a x).1 = now
  | none => by
    unfold s1
    dsimp only
    split
    · exact .inl rfl
    · exact .inr rfl
  | some e => by
    unfold s1
    dsimp only
    split
    · exact .inl rfl
    · split
      · exact .inr rfl
      · split
        · exact .inr rfl
        · exact .inl rfl
theorem s1_ev (a : RT3) : ∀ x, evA (s1 lv mv ev now a x).1 = evA a ∨ ∃ e, x = some e ∧ evA (s1 lv mv ev now a x).1 = e
  | none => by
    unfold s1
    dsimp only
    split
    · exact .inl rfl
    · exact .inl rfl
  | some e => by
    unfold s1
    dsimp only
    split
    · exact .inl rfl
    · split
      · exact .inl rfl
      · split
        · exact .inr ⟨e, rfl, rfl⟩
        · exact .inl rfl
theorem s1_open (a : RT3) : ∀ x, wdA (s1 lv mv ev now a x).1 = false → wdA a = false ∧ ∃ e, x = some e ∧ lv e ≠ 0 ∧ nmA (s1 lv mv ev now a x).1 = nmE e
  | none => by
    unfold s1
    dsimp only
    split
    · rename_i h; intro h2; dsimp only at h2; rw [h] at h2; cases h2
    · intro h2; cases h2
  | some e => by
    unfold s1
    dsimp only
    split
    · rename_i h; intro h2; dsimp only at h2; rw [h] at h2; cases h2
    · rename_i hw
      have hw' : wdA a = false := by simpa using hw
      split
      · intro h2; cases h2
      · rename_i h0
        split
        · intro _; exact ⟨hw', e, rfl, h0, rfl⟩
        · intro _; exact ⟨hw', e, rfl, h0, rfl⟩
variable (fw : Nat → Bool)
theorem zfO : ∀ (R : List RT0) (i : Nat) (n : Int), (∀ a ∈ (ph2 lv tm now fw R i n).1, n ≤ idA a ∧ idA a < n + (ph2 lv tm now fw R i n).1.length) ∧ (ph2 lv tm now fw R i n).1.Pairwise fun a b => idA a < idA b
  | [], i, n => ⟨fun a h => (by simp [ph2] at h), by simp [ph2]⟩
  | e :: R, i, n => by
    unfold ph2
    split
    · obtain ⟨h1, h2⟩ := zfO R (i + 1) (n + 1)
      refine ⟨fun a ha => ?_, .cons (fun a ha => ?_) h2⟩
      · rw [List.length_cons]
        rcases List.mem_cons.1 ha with h | h
        · subst h
          rw [idA_mk]; omega
        · have := h1 a h; omega
      · have := h1 a ha
        rw [idA_mk]; omega
    · exact zfO R (i + 1) n
theorem zeg : ∀ (R : List RT0) (i : Nat) (n : Int), ∀ a ∈ (ph2 lv tm now fw R i n).1, ∃ j, ∃ h : j < R.length, fw (i + j) = false ∧ tm R[j] = true ∧ ∃ m, a = mkA m false (nmE R[j]) (lv R[j]) R[j] now
  | [], i, n => fun a h => by simp [ph2] at h
  | e :: R, i, n => by
    unfold ph2
    split
    · rename_i hc
      intro a ha
      rcases List.mem_cons.1 ha with h | h
      · exact ⟨0, by simp, by rw [Nat.add_zero]; exact hc.1, hc.2, n, h⟩
      · obtain ⟨j, hj, q1, q2, q3⟩ := zeg R (i + 1) (n + 1) a h
        exact ⟨j + 1, by simpa using hj, by rw [← q1]; congr 1; omega, q2, q3⟩
    · intro a h
      obtain ⟨j, hj, q1, q2, q3⟩ := zeg R (i + 1) n a h
      exact ⟨j + 1, by simpa using hj, by rw [← q1]; congr 1; omega, q2, q3⟩
theorem zbD : ∀ (R : List RT0) (i : Nat) (n : Int), (R.Pairwise fun a b => nmE a ≠ nmE b) → (ph2 lv tm now fw R i n).1.Pairwise fun a b => nmA a ≠ nmA b
  | [], i, n, h => by simp [ph2]
  | e :: R, i, n, h => by
    rw [List.pairwise_cons] at h
    unfold ph2
    split
    · refine .cons (fun a ha => ?_) (zbD R (i + 1) (n + 1) h.2)
      obtain ⟨j, hj, _, _, m, q3⟩ := zeg lv tm now fw R (i + 1) (n + 1) a ha
      rw [q3, zjH, zjH]
      exact h.1 _ (List.getElem_mem hj)
    · exact zbD R (i + 1) n h.2
end
theorem Ok.step {number now now' : Int} {A : List RT3} {E : List RT0} {m : Nat} {o : List Int} {t : List Bool} (O : Ok A number now) (hm : m ≤ 5) (hE : Evs 0 m E) (F : Fo A E o t) (hn : now ≤ now' ∧ now' ≤ 1000000) (h1 : A.length + m ≤ 100) (h2 : number + A.length + m ≤ 800)
    (lv : RT0 → Int) (mv : RT0 → RT0 → Bool) (tm : RT0 → Bool) (ev : Int) :
    Ok ((ph1 lv mv ev now' E A o number).1 ++ (ph2 lv tm now' (fwO o) E 0 (number + (ph1 lv mv ev now' E A o number).2.length)).1) (number + ((ph1 lv mv ev now' E A o number).2 ++ (ph2 lv tm now' (fwO o) E 0 (number + (ph1 lv mv ev now' E A o number).2.length)).2).length) now' := by
  have hEl := zbB hE
  have hlo := F.lo
  have hnum := O.num
  have hnow := O.now
  obtain ⟨p1, p2⟩ := zaA lv mv ev now' E A o number hlo.symm
  have pg := zf4 lv mv ev now' E A o number hlo.symm
  obtain ⟨p, hp⟩ : ∃ p, ph1 lv mv ev now' E A o number = p := ⟨_, rfl⟩
  rw [hp] at p1 p2
  have pg : ∀ (k : Nat) (hk : k < A.length) (hk' : k < o.length) (hk2 : k < p.1.length), p.1[k] = (s1 lv mv ev now' A[k] (evI E o[k])).1 := by subst hp; exact pg
  rw [hp]
  obtain ⟨q1, q2⟩ := zaC lv tm now' (fwO o) E 0 (number + p.2.length)
  obtain ⟨q3, q4⟩ := zfO lv tm now' (fwO o) E 0 (number + p.2.length)
  have q5 := zeg lv tm now' (fwO o) E 0 (number + p.2.length)
  have q6 := zbD lv tm now' (fwO o) E 0 (number + p.2.length) hE.names
  obtain ⟨r, hr⟩ : ∃ r, ph2 lv tm now' (fwO o) E 0 (number + p.2.length) = r := ⟨_, rfl⟩
  rw [hr] at q1 q2 q3 q4 q5 q6 ⊢
  have pm : ∀ a ∈ p.1, ∃ k, ∃ hk : k < A.length, ∃ hk' : k < o.length, a = (s1 lv mv ev now' A[k] (evI E o[k])).1 := fun a ha => by
    obtain ⟨k, hk, e⟩ := List.getElem_of_mem ha
    exact ⟨k, by omega, by omega, by rw [← e]; exact pg k (by omega) (by omega) hk⟩
  refine ⟨by rw [List.length_append]; omega, ?_, fun a ha => ?_, ?_, fun a ha => ?_, by rw [List.length_append]; omega, by omega⟩
  · -- ascending
    rw [List.pairwise_append]
    refine ⟨List.pairwise_iff_getElem.2 fun i j hi hj hij => ?_, q4, fun a ha b hb => ?_⟩
    · rw [pg i (by omega) (by omega) hi, pg j (by omega) (by omega) hj, s1_id, s1_id]
      exact List.pairwise_iff_getElem.1 O.asc i j (by omega) (by omega) hij
    · obtain ⟨k, hk, hk', rfl⟩ := pm a ha
      rw [s1_id]
      have := O.rng _ (List.getElem_mem hk)
      have := q3 b hb
      omega
  · -- ranges
    rw [List.length_append]
    rcases List.mem_append.1 ha with h | h
    · obtain ⟨k, hk, hk', rfl⟩ := pm a h
      rw [s1_id]
      have := O.rng _ (List.getElem_mem hk)
      rcases s1_at lv mv ev now' A[k] (evI E o[k]) with e | e <;> rw [e] <;> omega
    · have h1 := q3 a h
      obtain ⟨j, hj, _, _, mm, e⟩ := q5 a h
      have : atA a = now' := by rw [e]; rfl
      omega
  · -- names
    rw [List.pairwise_append]
    have idx : ∀ k (hk : k < A.length) (hk' : k < o.length), wdA (s1 lv mv ev now' A[k] (evI E o[k])).1 = false → ∃ i, ∃ hi : i < E.length, o[k] = (i : Int) ∧ nmA (s1 lv mv ev now' A[k] (evI E o[k])).1 = nmE E[i] := fun k hk hk' hw => by
      obtain ⟨-, e, he, -, hnm⟩ := s1_open lv mv ev now' A[k] (evI E o[k]) hw
      rcases F.v k hk' with h | ⟨i, hi, h⟩
      · rw [h, J6] at he; cases he
      · refine ⟨i, hi, h, ?_⟩
        rw [hnm]
        rw [h, zgd E i hi] at he
        cases he
        rfl
    refine ⟨List.pairwise_iff_getElem.2 fun i j hi hj hij w1 w2 e => ?_, q6.imp fun h _ _ => h, fun a ha b hb w1 w2 e => ?_⟩
    · rw [pg i (by omega) (by omega) hi] at w1 e
      rw [pg j (by omega) (by omega) hj] at w2 e
      obtain ⟨x, hx, ex, nx⟩ := idx i (by omega) (by omega) w1
      obtain ⟨y, hy, ey, ny⟩ := idx j (by omega) (by omega) w2
      rw [nx, ny] at e
      have hxy : x = y := by
        rcases Nat.lt_trichotomy x y with h | h | h
        · exact absurd e (List.pairwise_iff_getElem.1 hE.names x y hx hy h)
        · exact h
        · exact absurd e.symm (List.pairwise_iff_getElem.1 hE.names y x hy hx h)
      have := F.inj i j (by omega) (by omega) (by rw [ex, ey, hxy]) (by rw [ex]; omega)
      omega
    · obtain ⟨k, hk, hk', rfl⟩ := pm a ha
      obtain ⟨x, hx, ex, nx⟩ := idx k hk hk' w1
      obtain ⟨j, hj, hf, _, mm, eb⟩ := q5 b hb
      rw [nx, eb, zjH] at e
      rw [Nat.zero_add] at hf
      have hxy : x = j := by
        rcases Nat.lt_trichotomy x j with h | h | h
        · exact absurd e (List.pairwise_iff_getElem.1 hE.names x j hx hj h)
        · exact h
        · exact absurd e.symm (List.pairwise_iff_getElem.1 hE.names j x hj hx h)
      subst hxy
      have : fwO o x = true := zgm.2 (by rw [← ex]; exact List.getElem_mem hk')
      rw [hf] at this; cases this
  · -- picks
    rcases List.mem_append.1 ha with h | h
    · obtain ⟨k, hk, hk', rfl⟩ := pm a h
      rcases s1_ev lv mv ev now' A[k] (evI E o[k]) with e | ⟨e, e1, e2⟩
      · rw [e]; exact O.pk _ (List.getElem_mem hk)
      · rw [e2]
        refine hE.pk e ?_
        unfold evI at e1
        split at e1
        · exact List.mem_of_getElem? e1
        · cases e1
    · obtain ⟨j, hj, _, _, mm, e⟩ := q5 a h
      rw [e, evA_mk]
      exact hE.pk _ (List.getElem_mem hj)
end Go.Proofs.Ytnnfpoelkdgjdaa
end
section
namespace Go.Proofs.Ytnnfpoelkdgjdaa
set_option linter.unusedVariables false
set_option linter.unusedSimpArgs false
set_option linter.unnecessarySimpa false
def E0 : RT0 := (AB, st 0, LC, CH, 1000, 0, 0, 0, 0, [Ren1 (AB, st 0, LC, CH, 1000, 0, 0, 0, 0, ())], 0, 0, 0, 900, 0, 0, 0, 0, 0, 0, 0, 0, 0, 0, 1, ())
def A0 : RT3 := mkA 4 false (nmE E0) 1 E0 1200
def R0 : List RT4 := [(-1000, 1, 10000, 100000, ())]
theorem pol0 : Pol R0 0 0 := ⟨by simp [R0], fun r h => by
  have := List.mem_singleton.1 h
  subst this
  exact ⟨by dsimp only; omega, by dsimp only; omega, by dsimp only; omega, by dsimp only; omega⟩, by omega, by omega⟩
theorem evs0 : EvOk [E0] := ⟨by kernel_rfl, by simp, by simp, fun e h => by
  have := List.mem_singleton.1 h
  subst this
  exact ⟨[(AB, st 0, LC, CH, 1000, 0, 0, 0, 0, ())], by simp, rfl⟩⟩
theorem evs00 : EvOk [] := ⟨by kernel_rfl, by simp, .nil, fun e h => by cases h⟩
theorem awake1 : zeo 600 (R0.map Ren4, 0, 0, [], 4, [Ren0 E0], 1200) = some ([Ren3 A0], [Ren6 (bul 4 1 A0 1200)], 0) := by
  have O0 : Ok [] 4 1200 := ⟨by simp, List.Pairwise.nil, fun a h => (by cases h), List.Pairwise.nil, fun a h => (by cases h), by omega, by omega⟩
  obtain ⟨o, t, F, -, h⟩ := zd1 pol0 O0 evs0 (now' := 1200) (by omega)
  have ho : o = [] := List.eq_nil_of_length_eq_zero F.lo
  subst ho
  have h1 : tmF R0 0 0 1200 E0 = true := by kernel_rfl
  have h2 : lvF R0 0 0 E0 = 1 := by kernel_rfl
  have h3 : fwO [] 0 = false := by unfold fwO; simp
  have hA : stA R0 0 0 1200 [E0] [] [] 4 = [A0] := by
    unfold stA
    simp only [ph1, ph2, h1, h2, h3, and_self, if_true, List.nil_append]
    rfl
  have hB : stB R0 0 0 1200 [E0] [] [] 4 = [bul 4 1 A0 1200] := by
    unfold stB
    simp only [ph1, ph2, h1, h2, h3, and_self, if_true, List.nil_append]
    rfl
  rw [hA, hB] at h
  exact h
theorem awake2 : zeo 600 (R0.map Ren4, 0, 0, [Ren3 A0], 5, [], 1300) = some ([Ren3 (clA A0 1300)], [Ren6 (bul 5 3 (clA A0 1300) 1300)], 0) := by
  have O1 : Ok [A0] 5 1200 := ⟨by simp, by simp, fun a h => (by
      have := List.mem_singleton.1 h
      subst this
      have h1 : idA A0 = 4 := rfl
      have h2 : atA A0 = 1200 := rfl
      omega), by simp, fun a h => (by
      have := List.mem_singleton.1 h
      subst this
      exact ⟨[(AB, st 0, LC, CH, 1000, 0, 0, 0, 0, ())], by simp, rfl⟩), by omega, by omega⟩
  obtain ⟨o, t, F, -, h⟩ := zd1 pol0 O1 evs00 (now' := 1300) (by omega)
  have hl := F.lo
  obtain ⟨v, rfl⟩ : ∃ v, o = [v] := by
    match o, hl with
    | [v], _ => exact ⟨v, rfl⟩
  have hv : v = -1 := by
    rcases F.v 0 (by simp) with h | ⟨i, hi, _⟩
    · exact h
    · simp at hi
  subst hv
  have hw : wdA A0 = false := rfl
  have hA : stA R0 0 0 1300 [] [A0] [-1] 5 = [clA A0 1300] := by
    unfold stA
    simp only [ph1, ph2, J6, s1, hw]
    rfl
  have hB : stB R0 0 0 1300 [] [A0] [-1] 5 = [bul 5 3 (clA A0 1300) 1300] := by
    unfold stB
    simp only [ph1, ph2, J6, s1, hw]
    rfl
  rw [hA, hB] at h
  exact h
theorem awake_ok : F15_d 600 () = some true := by
  have h1 : F35_d 600 0 = some (AB, st 0, LC, CH, ()) := by kernel_rfl
  have h2 : F36_d 600 () = some (R0.map Ren4, 0, 0) := by kernel_rfl
  have h3 : zeo 600 (R0.map Ren4, 0, 0, [], 4, [Ren0 (AB, st 0, LC, CH, 1000, 0, 0, 0, 0, [Ren1 (AB, st 0, LC, CH, 1000, 0, 0, 0, 0, ())], 0, 0, 0, 900, 0, 0, 0, 0, 0, 0, 0, 0, 0, 0, 1, ())], 1200) = some ([Ren3 A0], [Ren6 (bul 4 1 A0 1200)], 0) := awake1
  simp only [F15_d, FSpec.d, zhA]
  simp only [h1, h2, h3, awake2]
  rfl
theorem zhT (P : List RT1) (hP : P.length ≤ 500) : ∀ (d k f : Nat), k + d = P.length → d < f → (jz 600).L f (P.map Ren1, P.map Ren1, (k : Int)) = some (.inr ()) := by
  intro d
  induction d with
  | zero =>
    intro k f hk hf
    obtain ⟨f, rfl⟩ : ∃ f', f = f' + 1 := ⟨f - 1, by omega⟩
    show (jz 600).b _ _ ((jz 600).L f) some = _
    simp only [jz]
    have e2 : decide ((k : Int) < (P.length : Int)) = false := by rw [decide_eq_false_iff_not]; omega
    simp only [List.length_map, e2]
  | succ d ih =>
    intro k f hk hf
    obtain ⟨f, rfl⟩ : ∃ f', f = f' + 1 := ⟨f - 1, by omega⟩
    have hkl : k < P.length := by omega
    have e2 : decide ((k : Int) < (P.length : Int)) = true := by rw [decide_eq_true_iff]; omega
    have e3 : (0 : Int) ≤ (k : Int) := by omega
    have r1 := ih (k + 1) f (by omega) (by omega)
    have e4 : eqP P[k] P[k] = true := zat _
    show (jz 600).b _ _ ((jz 600).L f) some = _
    obtain ⟨Lf, hLf⟩ : ∃ Lf, Lf = (jz 600).L f := ⟨_, rfl⟩
    rw [← hLf] at r1 ⊢
    simp only [jz]
    simp only [List.length_map, e2, e3, if_true, Int.toNat_natCast, get1 P k hkl, jT, e4, Bool.not_true, zn (show k < 1000000 by omega)]
    exact r1
theorem samep_ok (P : List RT1) (hP : P.length ≤ 500) : zkM 600 (P.map Ren1, P.map Ren1) = some true := by
  have h := zhT P hP P.length 0 600 (by omega) (by omega)
  replace h : (jz 600).L 600 (P.map Ren1, P.map Ren1, 0) = some (.inr ()) := h
  have e1 : ((P.length : Int) != (P.length : Int)) = false := by simp
  simp only [zkM, FSpec.d, ziV, List.length_map, e1, F64_d8, h]
theorem zin (s : RT13) (P : List RT1) (hP : P.length ≤ 500) (hs : s.1 = P.map Ren1) : F41_d 600 (s, s) = some true := by
  simp only [F41_d, FSpec.d, zi5, hs, samep_ok P hP, beq_self_eq_true, Bool.and_true]
theorem zmd (e : RT0) (h : PkOk e) : F22_d 600 (e, e) = some true := by
  obtain ⟨P, h1, h2⟩ := h
  have e4 : eqP (nmE e) (nmE e) = true := zat _
  have hs := zin (solE e) P (by omega) h2
  simp only [F22_d, FSpec.d, zhK]
  simp only [e4, hs]
theorem stBR_len {L : List RT4} {di ev now number : Int} {E : List RT0} {A : List RT3} {o : List Int} (h : A.length = o.length) : (stBR L di ev now E A o number).length ≤ A.length + E.length ∧ (stAR L di ev now E A o number).length ≤ A.length + E.length := by
  unfold stBR stAR
  obtain ⟨p1, p2⟩ := zaA (lvF L di ev) (mvR L di ev) ev now E A o number h
  obtain ⟨q1, q2⟩ := zaC (lvF L di ev) (tmR L di ev now) now (fwO o) E 0 (number + (ph1 (lvF L di ev) (mvR L di ev) ev now E A o number).2.length)
  rw [List.length_append, List.length_append]
  omega
theorem run_loop {L : List RT4} {di ev : Int} (P : Pol L di ev) {xs : List Int} : ∀ (d i n f : Nat) (A : List RT3) (number now p : Int), i + d = n → n ≤ 4 → d < f → Ok A number now → A.length ≤ 4 * i → number ≤ 4 + 32 * i → now ≤ 1000 + 400 * i → Sc xs p →
    ∃ (A' : List RT3) (number' now' p' : Int), (jx 600).L f (A.map Ren3, (n : Int), number, now, (i : Int), zC xs, p, L.map Ren4, di, ev) = some (A'.map Ren3, number', now', zC xs, p') ∧ Ok A' number' now' ∧ A'.length ≤ 16 ∧ number' ≤ 132 ∧ now' ≤ 2600 ∧ Sc xs p' := by
  intro d
  induction d with
  | zero =>
    intro i n f A number now p hi hn hf O h1 h2 h3 D
    obtain ⟨f, rfl⟩ : ∃ f', f = f' + 1 := ⟨f - 1, by omega⟩
    refine ⟨A, number, now, p, ?_, O, by omega, by omega, by omega, D⟩
    show (jx 600).b _ _ ((jx 600).L f) some = _
    simp only [jx]
    have e2 : decide ((i : Int) < (n : Int)) = false := by rw [decide_eq_false_iff_not]; omega
    simp only [e2]
  | succ d ih =>
    intro i n f A number now p hi hn hf O h1 h2 h3 D
    obtain ⟨f, rfl⟩ : ∃ f', f = f' + 1 := ⟨f - 1, by omega⟩
    have hnow := O.now
    have hnum := O.num
    obtain ⟨v, p1, g1, m1, D1⟩ := n_ok 600 (n := 400) (by omega) D
    obtain ⟨E, p2, g2, l2, hE, D2⟩ := evs_ok 4 (by omega) D1
    replace g2 : F10_d 600 (4, zC xs, p1) = some (E.map Ren0, zC xs, p2) := g2
    obtain ⟨o, t, F, g3⟩ := rstep_ok P O (show 4 ≤ 5 by omega) hE (now' := now + v) (by omega)
    have hlo := F.lo
    obtain ⟨b1, b2⟩ := stBR_len (L := L) (di := di) (ev := ev) (now := now + v) (number := number) (E := E) hlo.symm
    have O' : Ok (stAR L di ev (now + v) E A o number) (number + (stBR L di ev (now + v) E A o number).length) (now + v) := O.step (show 4 ≤ 5 by omega) hE F (by omega) (by omega) (by omega) _ _ _ _
    have e4 : i64 (number + ((stBR L di ev (now + v) E A o number).length : Int)) = number + (stBR L di ev (now + v) E A o number).length := zN (by omega)
    have e5 : i64 (now + v) = now + v := zN (by omega)
    obtain ⟨A', number', now', p', r1, r2⟩ := ih (i + 1) n f _ _ (now + v) p2 (by omega) hn (by omega) O' (by omega) (by omega) (by omega) D2
    refine ⟨A', number', now', p', ?_, r2⟩
    show (jx 600).b _ _ ((jx 600).L f) some = _
    obtain ⟨Lf, hLf⟩ : ∃ Lf, Lf = (jx 600).L f := ⟨_, rfl⟩
    rw [← hLf] at r1 ⊢
    simp only [jx]
    have e2 : decide ((i : Int) < (n : Int)) = true := by rw [decide_eq_true_iff]; omega
    have e6 : ((0 : Int) == 0) = true := by decide
    simp only [e2, g1, g2, e5, g3, e6, List.length_map, e4, zn (show i < 1000000 by omega)]
    exact r1
theorem run_ok {L : List RT4} {di ev : Int} (P : Pol L di ev) {xs : List Int} {p n : Int} (hn : 0 ≤ n ∧ n ≤ 4) (D : Sc xs p) : ∃ (A : List RT3) (number now p' : Int), F16_d 600 (L.map Ren4, di, ev, n, zC xs, p) = some (A.map Ren3, number, now, zC xs, p') ∧ Ok A number now ∧ A.length ≤ 16 ∧ number ≤ 132 ∧ now ≤ 2600 ∧ Sc xs p' := by
  obtain ⟨v, p1, g1, m1, D1⟩ := n_ok 600 (n := 5) (by omega) D
  have O0 : Ok [] v 1000 := ⟨by simp, List.Pairwise.nil, fun a h => (by cases h), List.Pairwise.nil, fun a h => (by cases h), by omega, by omega⟩
  obtain ⟨A, number, now, p', r1, r2⟩ := run_loop P n.toNat 0 n.toNat 600 [] v 1000 p1 (by omega) (by omega) (by omega) O0 (by simp) (by omega) (by omega) D1
  rw [show ((n.toNat : Nat) : Int) = n by omega] at r1
  replace r1 : (jx 600).L 600 ([], n, v, 1000, 0, zC xs, p1, L.map Ren4, di, ev) = some (A.map Ren3, number, now, zC xs, p') := r1
  refine ⟨A, number, now, p', ?_, r2⟩
  simp only [F16_d, FSpec.d, zcx, g1, F16_d6, r1]
end Go.Proofs.Ytnnfpoelkdgjdaa
end
section
namespace Go.Proofs.Ytnnfpoelkdgjdaa
open Go.RowKit
set_option linter.unusedVariables false
set_option linter.unusedSimpArgs false
set_option linter.unnecessarySimpa false
theorem s1_wd (lv : RT0 → Int) (mv : RT0 → RT0 → Bool) (ev now : Int) (a : RT3) (hw : wdA a = true) : ∀ x, s1 lv mv ev now a x = (a, 0)
  | none => by show (if wdA a = true then _ else _) = _; rw [if_pos hw]
  | some e => by show (if wdA a = true then _ else _) = _; rw [if_pos hw]
theorem EvAt.lo {n : Nat} {e : RT0} (h : EvAt n e) : loE e ≤ hiE e := by
  obtain ⟨f, c, h1, h2, h3, h4, h5, h6⟩ := h
  exact h6
end Go.Proofs.Ytnnfpoelkdgjdaa
end
section
namespace Go.Proofs.Ytnnfpoelkdgjdaa
open Go.RowKit
set_option linter.unusedVariables false
set_option linter.unusedSimpArgs false
set_option linter.unnecessarySimpa false
theorem ki_bul (n k t : Int) (a : RT3) : (bul n k a t).2.1 = k := rfl
theorem id_bul (n k t : Int) (a : RT3) : (bul n k a t).2.2.1 = idA a := rfl
theorem lv_bul (n k t : Int) (a : RT3) : (bul n k a t).2.2.2.2.1 = lvA a := rfl
theorem ev_bul (n k t : Int) (a : RT3) : zgQ (bul n k a t) = evA a := rfl
theorem ev3s (a : RT3) : jU a = evA a := rfl
def opn (a : RT3) : Bool := !wdA a
def nb (now : Int) : List RT3 → Int → List RT6
  | [], _ => []
  | a :: r, n => bul n 3 (clA a now) now :: nb now r (n + 1)
theorem zkK (now : Int) : ∀ (l : List RT3) (n : Int), (nb now l n).length = l.length
  | [], n => rfl
  | a :: r, n => by show (nb now r (n + 1)).length + 1 = r.length + 1; rw [zkK now r]
theorem nb_get (now : Int) : ∀ (l : List RT3) (n : Int) (i : Nat) (h : i < (nb now l n).length) (h' : i < l.length), (nb now l n)[i] = bul (n + i) 3 (clA l[i] now) now
  | a :: r, n, 0, h, h' => by show bul n 3 (clA a now) now = _; simp
  | a :: r, n, i + 1, h, h' => by
    show (nb now r (n + 1))[i]'(by simpa [nb] using h) = _
    rw [nb_get now r (n + 1) i (by simpa [nb] using h) (by simpa using h')]
    rw [show n + 1 + (i : Int) = n + ((i + 1 : Nat) : Int) by omega]
    rfl
theorem zdQ (lv : RT0 → Int) (mv : RT0 → RT0 → Bool) (ev now : Int) (E : List RT0) : ∀ (A : List RT3) (o : List Int) (n : Int), A.length = o.length → (∀ k (h : k < o.length), o[k] = -1) → (ph1 lv mv ev now E A o n).2 = nb now (A.filter opn) n ∧ ∀ a ∈ (ph1 lv mv ev now E A o n).1, wdA a = true
  | [], o, n, h, ho => by unfold ph1; exact ⟨rfl, fun a h => by cases h⟩
  | a :: A, [], n, h, ho => by simp at h
  | a :: A, i :: o, n, h, ho => by
    have h0 := ho 0 (by simp)
    simp only [List.getElem_cons_zero] at h0
    subst h0
    cases hw : wdA a with
    | true =>
      obtain ⟨h1, h2⟩ := zdQ lv mv ev now E A o n (by simpa using h) (fun k hk => by have := ho (k + 1) (by simpa using hk); simpa using this)
      have hs : s1 lv mv ev now a (evI E (-1)) = (a, 0) := s1_wd _ _ _ _ _ hw _
      have hop : opn a = false := by unfold opn; rw [hw]; rfl
      unfold ph1
      simp only [hs, if_true, List.nil_append]
      rw [List.filter_cons_of_neg (by rw [hop]; simp)]
      refine ⟨h1, fun b hb => ?_⟩
      rcases List.mem_cons.1 hb with h | h
      · rw [h]; exact hw
      · exact h2 b h
    | false =>
      obtain ⟨h1, h2⟩ := zdQ lv mv ev now E A o (n + 1) (by simpa using h) (fun k hk => by have := ho (k + 1) (by simpa using hk); simpa using this)
      have hs : s1 lv mv ev now a (evI E (-1)) = (clA a now, 3) := by
        rw [J6]
        unfold s1
        dsimp only
        rw [if_neg (by rw [hw]; simp)]
        rfl
      have hop : opn a = true := by unfold opn; rw [hw]; rfl
      unfold ph1
      simp only [hs]
      rw [List.filter_cons_of_pos hop]
      refine ⟨?_, fun b hb => ?_⟩
      · show [bul n 3 (clA a now) now] ++ (ph1 lv mv ev now E A o (n + 1)).2 = bul n 3 (clA a now) now :: nb now (A.filter opn) (n + 1)
        rw [h1]; rfl
      · rcases List.mem_cons.1 hb with h | h
        · rw [h]; rfl
        · exact h2 b h
theorem zgz (b : List RT3) (hb : b.length ≤ 500) (hw : ∀ a ∈ b, wdA a = true) : ∀ (d k f : Nat), k + d = b.length → d < f → (je 600).L f (b.length, 0, (k : Int), fl Ren3 b) = some (b.length, 0, fl Ren3 b) := by
  intro d
  induction d with
  | zero =>
    intro k f hk hf
    obtain ⟨f, rfl⟩ : ∃ f', f = f' + 1 := ⟨f - 1, by omega⟩
    show (je 600).b _ _ ((je 600).L f) some = _
    simp only [je]
    have e2 : decide ((k : Int) < ((b.length : Nat) : Int)) = false := by rw [decide_eq_false_iff_not]; omega
    simp only [e2, fl3]
  | succ d ih =>
    intro k f hk hf
    obtain ⟨f, rfl⟩ : ∃ f', f = f' + 1 := ⟨f - 1, by omega⟩
    have hkl : k < b.length := by omega
    have e2 : decide ((k : Int) < ((b.length : Nat) : Int)) = true := by rw [decide_eq_true_iff]; omega
    have hz : (0 : Int) ≤ (k : Int) ∧ (k : Int) < (b.length : Int) := by omega
    have r1 := ih (k + 1) f (by omega) (by omega)
    have r3 := row3 b k hkl
    have h40 : zih 600 b[k] = some true := by
      simp only [zih, FSpec.d, zfK]
      exact congrArg some (hw _ (List.getElem_mem hkl))
    show (je 600).b _ _ ((je 600).L f) some = _
    obtain ⟨Lf, hLf⟩ : ∃ Lf, Lf = (je 600).L f := ⟨_, rfl⟩
    rw [← hLf] at r1 ⊢
    simp only [je]
    rw [e2]
    simp only [hz, and_self, if_true, r3, h40, Bool.not_true, fl3, zn (show k < 1000000 by omega)]
    exact r1
theorem zmJ (b : List RT3) (hb : b.length ≤ 500) (hp : ∀ a ∈ b, PkOk (evA a)) (hw : ∀ a ∈ b, wdA a = true) : ∃ r, F20_d 600 (b.map Ren3) = some (0, r) := by
  simp only [F20_d, FSpec.d, zio, all_ok b hb (fun a ha => PkOk.len (hp a ha)), fl3]
  suffices h : ∃ r s, F39_d 600 (b.length, fl Ren3 b) = some (0, r, s) by
    obtain ⟨r, s, h⟩ := h
    exact ⟨r.map dat0, by simp only [h]⟩
  simp only [F39_d, FSpec.d, zcE, fl3]
  cases b with
  | nil =>
    have h63 : zeZ 600 (0, []) = some (-1, []) := by kernel_rfl
    have e1 : ((-1 : Int) == -1) = true := by decide
    refine ⟨[], [], ?_⟩
    show (match zeZ 600 (0, []) with | some y1 => _ | none => none) = _
    rw [h63]
    rfl
  | cons a r =>
    have h63 : zeZ 600 ((a :: r).length, fl Ren3 (a :: r)) = some (0, fl Ren3 (a :: r)) := by
      simp only [zeZ, FSpec.d, JQ, fl3]
      have : (jj 600).L 600 ((a :: r).length, (((a :: r).length : Nat) : Int), 0, fl Ren3 (a :: r)) = some (.inl (0, fl Ren3 (a :: r))) := by
        show (jj 600).b _ _ ((jj 600).L 599) some = _
        simp only [jj]
        have e2 : decide ((0 : Int) < (((a :: r).length : Nat) : Int)) = true := by rw [decide_eq_true_iff, List.length_cons]; omega
        have hz : (0 : Int) ≤ 0 ∧ (0 : Int) < ((a :: r).length : Int) := by rw [List.length_cons]; omega
        have r3 := row3 (a :: r) 0 (by simp)
        replace r3 : Rrd3 ((fl Ren3 (a :: r)).drop ((0 + Int.toNat 0) * 38)) = some a := r3
        have h40 : zih 600 a = some true := by
          simp only [zih, FSpec.d, zfK]
          exact congrArg some (hw _ List.mem_cons_self)
        rw [e2]
        simp only [hz, and_self, if_true, r3, h40, fl3]
      simp only [zk1, this, fl3]
    have h9 := zgz (a :: r) hb hw r.length 1 600 (by simp; omega) (by simp at hb; omega)
    replace h9 : (je 600).L 600 ((a :: r).length, 0, 1, fl Ren3 (a :: r)) = some ((a :: r).length, 0, fl Ren3 (a :: r)) := h9
    have e1 : ((0 : Int) == -1) = false := by decide
    have e2 : i64 (0 + 1) = 1 := by decide
    have hz : (0 : Int) ≤ 0 ∧ (0 : Int) ≤ ((a :: r).length : Int) := by omega
    have hg : (0 + Int.toNat 0 + ((a :: r).length - Int.toNat 0)) * 38 ≤ (fl Ren3 (a :: r)).length := by rw [len3]; simp
    simp only [h63, e1, e2, fl3, F39_d9, h9, hz, hg, and_self, if_true]
    exact ⟨_, _, rfl⟩
theorem zaI (A : List RT3) (hA : A.length ≤ 500) : ∀ (R : List RT3) (k f : Nat) (O : List RT3), A.drop k = R → k + R.length = A.length → R.length < f → O.length + R.length ≤ 1000 → (ZQ 600).L f (O.map Ren3, A.map Ren3, (k : Int)) = some ((O ++ R.filter opn).map Ren3)
  | [], k, f, O, hR, hk, hf, hO => by
    obtain ⟨f, rfl⟩ : ∃ f', f = f' + 1 := ⟨f - 1, by omega⟩
    show (ZQ 600).b _ _ ((ZQ 600).L f) some = _
    simp only [ZQ]
    have e2 : decide ((k : Int) < (A.length : Int)) = false := by rw [decide_eq_false_iff_not]; simp at hk; omega
    simp only [List.length_map, e2]
    simp
  | a :: R, k, f, O, hR, hk, hf, hO => by
    obtain ⟨f, rfl⟩ : ∃ f', f = f' + 1 := ⟨f - 1, by omega⟩
    rw [List.length_cons] at hk hf hO
    obtain ⟨hkl, hek, hR'⟩ := Je hR
    have e2 : decide ((k : Int) < (A.length : Int)) = true := by rw [decide_eq_true_iff]; omega
    have e3 : (0 : Int) ≤ (k : Int) := by omega
    cases hw : wdA a with
    | true =>
      have r1 := zaI A hA R (k + 1) f O hR' (by omega) (by omega) (by omega)
      rw [List.filter_cons_of_neg (by unfold opn; rw [hw]; simp)]
      show (ZQ 600).b _ _ ((ZQ 600).L f) some = _
      obtain ⟨Lf, hLf⟩ : ∃ Lf, Lf = (ZQ 600).L f := ⟨_, rfl⟩
      rw [← hLf] at r1 ⊢
      simp only [ZQ]
      simp only [List.length_map, e2, e3, if_true, Int.toNat_natCast, get3 A k hkl, hek, wd3, hw, Bool.not_true, zn (show k < 1000000 by omega)]
      exact r1
    | false =>
      have r1 := zaI A hA R (k + 1) f (O ++ [a]) hR' (by omega) (by omega) (by simp; omega)
      rw [List.filter_cons_of_pos (by unfold opn; rw [hw]; rfl)]
      have hb : ∀ r : List AV, (O.length + [r].length) * 384 ≤ zl := fun r => by unfold zl; simp; omega
      show (ZQ 600).b _ _ ((ZQ 600).L f) some = _
      obtain ⟨Lf, hLf⟩ : ∃ Lf, Lf = (ZQ 600).L f := ⟨_, rfl⟩
      rw [← hLf] at r1 ⊢
      simp only [ZQ]
      simp only [List.length_map, e2, e3, if_true, Int.toNat_natCast, get3 A k hkl, hek, wd3, jl, hw, Bool.not_false, hb, zn (show k < 1000000 by omega)]
      rw [List.map_append] at r1
      refine Eq.trans r1 ?_
      rw [List.append_assoc]
      rfl
theorem ropen_ok (A : List RT3) (hA : A.length ≤ 500) : F21_d 600 (A.map Ren3) = some ((A.filter opn).map Ren3) := by
  have h := zaI A hA A 0 600 [] rfl (by omega) (by omega) (by simp; omega)
  replace h : (ZQ 600).L 600 ([], A.map Ren3, 0) = some ((A.filter opn).map Ren3) := h
  simp only [F21_d, FSpec.d, ziY, F21_d5, h]
theorem get6 (P : List RT6) (k : Nat) (h : k < P.length) : (P.map Ren6)[k]? = some (Ren6 P[k]) := by simp [h]
theorem zl5 (now n : Int) (l : List RT3) (hl : l.length ≤ 500) (hp : ∀ a ∈ l, PkOk (evA a)) : ∀ (d k f : Nat), k + d = l.length → d < f → (jA 600).L f ((nb now l n).map Ren6, l.map Ren3, (l.length : Int), (k : Int)) = some (.inr ()) := by
  intro d
  induction d with
  | zero =>
    intro k f hk hf
    obtain ⟨f, rfl⟩ : ∃ f', f = f' + 1 := ⟨f - 1, by omega⟩
    show (jA 600).b _ _ ((jA 600).L f) some = _
    simp only [jA]
    have e2 : decide ((k : Int) < (l.length : Int)) = false := by rw [decide_eq_false_iff_not]; omega
    simp only [e2]
  | succ d ih =>
    intro k f hk hf
    obtain ⟨f, rfl⟩ : ∃ f', f = f' + 1 := ⟨f - 1, by omega⟩
    have hkl : k < l.length := by omega
    have hkn : k < (nb now l n).length := by rw [zkK]; exact hkl
    have e2 : decide ((k : Int) < (l.length : Int)) = true := by rw [decide_eq_true_iff]; omega
    have e3 : (0 : Int) ≤ (k : Int) := by omega
    have r1 := ih (k + 1) f (by omega) (by omega)
    have hs := zmd _ (hp _ (List.getElem_mem hkl))
    have i1 : ((3 : Int) != 3) = false := by decide
    have i2 : (idA (clA l[k] now) != idA l[k]) = false := by
      have : idA (clA l[k] now) = idA l[k] := rfl
      rw [this]; simp
    have i3 : (lvA (clA l[k] now) != lvA l[k]) = false := by
      have : lvA (clA l[k] now) = lvA l[k] := rfl
      rw [this]; simp
    have hs2 : F22_d 600 (evA (clA l[k] now), evA l[k]) = some true := by rw [zmW]; exact hs
    show (jA 600).b _ _ ((jA 600).L f) some = _
    obtain ⟨Lf, hLf⟩ : ∃ Lf, Lf = (jA 600).L f := ⟨_, rfl⟩
    rw [← hLf] at r1 ⊢
    simp only [jA]
    simp only [e2, e3, if_true, Int.toNat_natCast, get3 l k hkl, jl, get6 _ k hkn, nb_get now l n k hkn hkl, Rrd6_en, ki_bul, id_bul, lv_bul, ev_bul, ev3s, i1, i2, i3, hs2, Bool.not_true, zn (show k < 1000000 by omega)]
    exact r1
theorem zcV (xs : List Int) : F6_d 600 (zC xs) = some true := by
  obtain ⟨g0, D0⟩ := new_ok 600 xs
  obtain ⟨L, di, ev, p1, g1, P, D1⟩ := zkq D0
  obtain ⟨v, p2, g2, m2, D2⟩ := n_ok 600 (n := 5) (by omega) D1
  obtain ⟨A, number, now, p3, g3, O, l1, l2, l3, D3⟩ := run_ok P (show 0 ≤ v ∧ v ≤ 4 by omega) D2
  have hnow := O.now
  have hnum := O.num
  obtain ⟨o, t, F, -, g5⟩ := zd1 P O evs00 (now' := now) (by omega)
  have hlo := F.lo
  have ho : ∀ k (h : k < o.length), o[k] = -1 := fun k h => by
    rcases F.v k h with e | ⟨i, hi, _⟩
    · exact e
    · simp at hi
  obtain ⟨q1, q2⟩ := zdQ (lvF L di ev) (mvF L di ev) ev now [] A o number hlo.symm ho
  have hlen := (zaA (lvF L di ev) (mvF L di ev) ev now [] A o number hlo.symm).1
  have hA : stA L di ev now [] A o number = (ph1 (lvF L di ev) (mvF L di ev) ev now [] A o number).1 := by unfold stA; simp [ph2]
  have hB : stB L di ev now [] A o number = nb now (A.filter opn) number := by unfold stB; simp [ph2, q1]
  obtain ⟨b, hb⟩ : ∃ b, stA L di ev now [] A o number = b := ⟨_, rfl⟩
  rw [hb] at g5 hA
  rw [hB] at g5
  rw [← hA] at q2 hlen
  have hpb : ∀ a ∈ b, PkOk (evA a) := fun a ha => by
    rw [hA] at ha
    obtain ⟨k, hk, e⟩ := List.getElem_of_mem ha
    rw [hA] at hlen
    rw [zf4 _ _ _ _ _ A o number hlo.symm k (by omega) (by omega) hk] at e
    rcases s1_ev (lvF L di ev) (mvF L di ev) ev now (A[k]'(by omega)) (evI [] (o[k]'(by omega))) with h | ⟨e2, h1, h2⟩
    · rw [← e, h]; exact O.pk _ (List.getElem_mem _)
    · rw [ho k (by omega), J6] at h1; cases h1
  obtain ⟨r, g6⟩ := zmJ b (by omega) hpb q2
  have hlf : (A.filter opn).length ≤ A.length := List.length_filter_le _ _
  have g7 := ropen_ok A (by omega)
  have e1 : ((0 : Int) != 0) = false := by decide
  have e2 : decide ((((0 : Nat)) : Int) > 0) = false := by decide
  have e3 : (((A.filter opn).length : Int) != ((A.filter opn).length : Int)) = false := by simp
  have g8 := zl5 now number (A.filter opn) (by omega) (fun a ha => O.pk a ((List.mem_filter.1 ha).1)) (A.filter opn).length 0 600 (by omega) (by omega)
  replace g8 : (jA 600).L 600 ((nb now (A.filter opn) number).map Ren6, (A.filter opn).map Ren3, ((A.filter opn).length : Int), 0) = some (.inr ()) := g8
  replace g5 : zeo 600 (L.map Ren4, di, ev, A.map Ren3, number, [], now) = some (b.map Ren3, (nb now (A.filter opn) number).map Ren6, 0) := g5
  simp only [F6_d, FSpec.d, F6_s, g0, g1, g2, g3, g5, e1, g6, e2, g7, List.length_map, zkK, e3, F6_d12, g8, awake_ok]
theorem Jc (a : Option Addr) (len cap : Nat) (W : World) (hr : zgO W (.slice a len cap)) :
    Calls Try.prog 6 #[.slice a len cap] W fun e w' => e = .returned (.bool true) ∧ Below W.heap.size W w' := by
  obtain ⟨xs, h1, h2, h3⟩ := hr
  have ok := (F6_e 600).ok (zC xs) true (zcV xs)
  refine CallOk.calls (args := [.list 1 (zC xs) none]) ok W _ rfl (fun i h h' => ?_)
  obtain rfl : i = 0 := by simp at h; omega
  exact h3 _ _
end Go.Proofs.Ytnnfpoelkdgjdaa
end
section
namespace Go.Proofs.Ytnnfpoelkdgjdaa
open Go.RowKit
set_option linter.unusedVariables false
set_option linter.unusedSimpArgs false
set_option linter.unnecessarySimpa false
section
variable (lv : RT0 → Int) (mv : RT0 → RT0 → Bool) (tm : RT0 → Bool) (ev now : Int) (E : List RT0)
end
end Go.Proofs.Ytnnfpoelkdgjdaa
end
