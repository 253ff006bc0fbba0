/- ClockExact, the plain law: any anchors: Valid, Elapsed, from, Agrees, Jumps of both packages. -/
import Derived.Test.YtecoemdhnphmdaaCkA
namespace Go.Proofs.Ytecoemdhnphmdaa
open Go.RowKit
set_option linter.unusedVariables false
set_option linter.unusedSimpArgs false
set_option linter.unnecessarySimpa false
abbrev An := Int × Int × Int
theorem rowsA_snoc (xs : List An) (x y z : Int) : rowsA xs ++ [[AV.v (.int .i64 x), AV.v (.int .i64 y), AV.v (.int .i64 z)]] = rowsA (xs ++ [(x, y, z)]) := by simp [rowsA]
theorem rowsI_snoc (xs : List Int) (y : Int) : rowsI xs ++ [[AV.v (.int .i64 y)]] = rowsI (xs ++ [y]) := by simp [rowsI]
theorem ancx_loop {xs : List Int} (b : Bool) (drift : Int) : ∀ (k f : Nat) (p tag ck : Int) (acc : List An), k < f → acc.length + k ≤ 9 → Dice xs p →
    ∃ (A : List An) (p' : Int), (F13_l6 600).L f (rowsA acc, b, drift, tag, ck, (k : Int), rowsI xs, p) = some (rowsA A, drift, rowsI xs, p') ∧ A.length ≤ 9 ∧ Dice xs p'
  | 0, f, p, tag, ck, acc, hf, hl, D => by
    obtain ⟨f, rfl⟩ : ∃ f', f = f' + 1 := ⟨f - 1, by omega⟩
    refine ⟨acc, p, ?_, by omega, D⟩
    show (F13_l6 600).b _ _ ((F13_l6 600).L f) some = _
    simp only [F13_l6]
    simp
  | k + 1, f, p, tag, ck, acc, hf, hl, D => by
    obtain ⟨f, rfl⟩ : ∃ f', f = f' + 1 := ⟨f - 1, by omega⟩
    have hk : decide (((k + 1 : Nat) : Int) > 0) = true := by simp
    have hi : i64 (((k + 1 : Nat) : Int) - 1) = (k : Int) := by rw [i64_id (by omega)]; omega
    have hb : ∀ r : List AV, ((rowsA acc).length + [r].length) * 24 ≤ maxBytes := fun r => by
      rw [rowsA_len]; unfold maxBytes; simp; omega
    obtain ⟨v, p1, g1, m1, D1⟩ := next_ok 600 (n := 20) (by omega) D
    have key : ∀ (p2 a c d tg ck' : Int), Dice xs p2 → ∃ (A : List An) (p' : Int), (F13_l6 600).L f (rowsA (acc ++ [(a, c, d)]), b, drift, tg, ck', (k : Int), rowsI xs, p2) = some (rowsA A, drift, rowsI xs, p') ∧ A.length ≤ 9 ∧ Dice xs p' := fun p2 a c d tg ck' D2 =>
      ancx_loop b drift k f p2 tg ck' (acc ++ [(a, c, d)]) (by omega) (by rw [List.length_append, List.length_singleton]; omega) D2
    have fin : ∃ (A : List An) (p' : Int), (F13_l6 600).b (rowsA acc, b, drift, tag, ck, ((k + 1 : Nat) : Int), rowsI xs, p) _ ((F13_l6 600).L f) some = some (rowsA A, drift, rowsI xs, p') ∧ A.length ≤ 9 ∧ Dice xs p' := by
      obtain ⟨Lf, hL⟩ : ∃ Lf, Lf = (F13_l6 600).L f := ⟨_, rfl⟩
      rw [← hL] at key ⊢
      cases b with
      | false =>
        obtain ⟨u, p2, g2, m2, D2⟩ := next_ok 600 (n := 40) (by omega) D1
        obtain ⟨z, p3, g3, m3, D3⟩ := next_ok 600 (n := 40) (by omega) D2
        simp only [F13_l6, hk, g1, g2, g3, hi, hb, if_true, rowsA_snoc]
        exact key _ _ _ _ _ _ D3
      | true =>
        obtain ⟨q, p2, g2, m2, D2⟩ := next_ok 600 (n := 4) (by omega) D1
        by_cases h0 : q = 0
        · subst h0
          obtain ⟨w, p3, g3, m3, D3⟩ := pick_ok 600 [-500, 700, 2000000] (by simp) D2
          replace g3 : F23_d 600 ([[AV.v (.int .i64 (-500))], [AV.v (.int .i64 700)], [AV.v (.int .i64 2000000)]], rowsI xs, p2) = some (w, rowsI xs, p3) := g3
          obtain ⟨u, p4, g4, m4, D4⟩ := next_ok 600 (n := 40) (by omega) D3
          obtain ⟨z, p5, g5, m5, D5⟩ := next_ok 600 (n := 40) (by omega) D4
          simp only [F13_l6, hk, g1, g2, beq_self_eq_true, g3, g4, g5, hi, hb, if_true, rowsA_snoc]
          exact key _ _ _ _ _ _ D5
        · have c0 : (q == 0) = false := beq_eq_false_iff_ne.2 h0
          obtain ⟨u, p4, g4, m4, D4⟩ := next_ok 600 (n := 40) (by omega) D2
          obtain ⟨z, p5, g5, m5, D5⟩ := next_ok 600 (n := 40) (by omega) D4
          simp only [F13_l6, hk, g1, g2, c0, g4, g5, hi, hb, if_true, rowsA_snoc]
          exact key _ _ _ _ _ _ D5
    exact fin
theorem ancx_ok {xs : List Int} {p : Int} (b : Bool) (D : Dice xs p) : ∃ (A : List An) (drift p' : Int), F13_d 600 (b, rowsI xs, p) = some (rowsA A, drift, rowsI xs, p') ∧ A.length ≤ 9 ∧ Dice xs p' := by
  obtain ⟨n1, p1, h1, m1, D1⟩ := pick_ok 600 [0, 0, 100, 50000] (by simp) D
  replace h1 : F23_d 600 ([[AV.v (.int .i64 0)], [AV.v (.int .i64 0)], [AV.v (.int .i64 100)], [AV.v (.int .i64 50000)]], rowsI xs, p) = some (n1, rowsI xs, p1) := h1
  obtain ⟨n2, p2, h2, m2, D2⟩ := next_ok 600 (n := 6) (by omega) D1
  obtain ⟨A, p', r1, r2, r3⟩ := ancx_loop (xs := xs) b n1 n2.toNat 600 p2 1000 1000000000000 [] (by omega) (by simp; omega) D2
  have e : ((n2.toNat : Nat) : Int) = n2 := by omega
  rw [e] at r1
  refine ⟨A, n1, p', ?_, r2, r3⟩
  replace r1 : (F13_l6 600).L 600 (([] : List (List AV)), b, n1, 1000, 1000000000000, n2, rowsI xs, p2) = some (rowsA A, n1, rowsI xs, p') := r1
  simp only [F13_d, FSpec.d, F13_s, h1, h2, F13_d6, r1]
/-! Valid. -/
def tOk (t : Int) : Prop := 0 ≤ t ∧ t ≤ 9007199254740992
instance (t : Int) : Decidable (tOk t) := inferInstanceAs (Decidable (_ ∧ _))
def dOk (d : Int) : Prop := 0 ≤ d ∧ d ≤ 500000
instance (t : Int) : Decidable (dOk t) := inferInstanceAs (Decidable (_ ∧ _))
def aOk (a : An) : Prop := tOk a.1 ∧ tOk a.2.1 ∧ tOk a.2.2 ∧ a.2.1 ≤ a.2.2
def gOk (A : List An) (i : Nat) : Prop := aOk (A.getD i (0, 0, 0)) ∧ (0 < i → (A.getD (i - 1) (0, 0, 0)).1 < (A.getD i (0, 0, 0)).1)
def AllFrom (A : List An) (i : Nat) : Prop := ∀ j, i ≤ j → j < A.length → gOk A j
def Vld (A : List An) (drift : Int) : Prop := AllFrom A 0 ∧ dOk drift ∧ A.length ≤ 256
open Classical in
noncomputable instance (A : List An) (i : Nat) : Decidable (AllFrom A i) := propDecidable _
open Classical in
noncomputable instance (A : List An) (d : Int) : Decidable (Vld A d) := propDecidable _
open Classical in
noncomputable instance (a : An) : Decidable (aOk a) := propDecidable _
theorem in_any (N : Nat) (x lo hi : Int) : F39_d N (x, lo, hi) = some (decide (lo ≤ x ∧ x ≤ hi)) := by
  simp only [F39_d, FSpec.d, F39_s]
  by_cases h1 : x ≥ lo
  · have h2 : lo ≤ x := h1
    simp only [h1, h2, decide_true, true_and]
  · have h2 : ¬ lo ≤ x := h1
    simp only [h1, h2, decide_false, false_and]
theorem rin_any (N : Nat) (x lo hi : Int) : F45_d N (x, lo, hi) = some (decide (lo ≤ x ∧ x ≤ hi)) := in_any N x lo hi
theorem time_any (N : Nat) (x : Int) : F35_d N x = some (decide (tOk x)) := by
  simp only [F35_d, FSpec.d, F35_s, in_any]; rfl
theorem rtime_any (N : Nat) (x : Int) : F45_d N (x, 0, 9007199254740992) = some (decide (tOk x)) := rin_any N x _ _
theorem drift_any (N : Nat) (x : Int) : F39_d N (x, 0, 500000) = some (decide (dOk x)) := in_any N x _ _
theorem rdrift_any (N : Nat) (x : Int) : F45_d N (x, 0, 500000) = some (decide (dOk x)) := rin_any N x _ _
theorem getD_at {A : List An} {i : Nat} (h : i < A.length) : A.getD i (0, 0, 0) = A[i] := by simp [List.getD, h]
theorem all_step {A : List An} {i : Nat} (g : gOk A i) : AllFrom A i ↔ AllFrom A (i + 1) := by
  constructor
  · exact fun h j hj hl => h j (by omega) hl
  · intro h j hj hl
    by_cases e : j = i
    · rw [e]; exact g
    · exact h j (by omega) hl
theorem all_good {α : Type} {A : List An} {i : Nat} (g : gOk A i) (x y : α) : some (if AllFrom A i then x else y) = some (if AllFrom A (i + 1) then x else y) := by
  by_cases h : AllFrom A i
  · rw [if_pos h, if_pos ((all_step g).1 h)]
  · rw [if_neg h, if_neg fun q => h ((all_step g).2 q)]
theorem all_bad {α : Type} {A : List An} {i : Nat} (hl : i < A.length) (g : ¬ gOk A i) (x y : α) : some (if AllFrom A i then x else y) = some y := by
  rw [if_neg fun q => g (q i (Nat.le_refl _) hl)]
theorem all_end {A : List An} {i : Nat} (h : A.length ≤ i) : AllFrom A i := fun j hj hl => by omega
theorem v_loop {A : List An} (hl : A.length ≤ 300) (drift : Int) : ∀ (k i f : Nat), k < f → i + k = A.length → (F26_l4 600).L f (rowsA A, rowsA A, drift, (A.length : Int), (i : Int)) = some (if AllFrom A i then .inr (rowsA A, drift) else .inl (rowsA A, drift, false))
  | 0, i, f, hf, hi => by
    obtain ⟨f, rfl⟩ : ∃ f', f = f' + 1 := ⟨f - 1, by omega⟩
    show (F26_l4 600).b _ _ ((F26_l4 600).L f) some = _
    have c : decide ((i : Int) < (A.length : Int)) = false := by rw [decide_eq_false_iff_not]; omega
    refine Eq.trans ?_ (congrArg some (if_pos (all_end (by omega)))).symm
    simp only [F26_l4, c]
  | k + 1, i, f, hf, hi => by
    obtain ⟨f, rfl⟩ : ∃ f', f = f' + 1 := ⟨f - 1, by omega⟩
    have r1 := v_loop hl drift k (i + 1) f (by omega) (by omega)
    show (F26_l4 600).b _ _ ((F26_l4 600).L f) some = _
    obtain ⟨Lf, hL⟩ : ∃ Lf, Lf = (F26_l4 600).L f := ⟨_, rfl⟩
    rw [← hL] at r1 ⊢
    have hlt : i < A.length := by omega
    have c1 : decide ((i : Int) < (A.length : Int)) = true := by rw [decide_eq_true_iff]; omega
    have c2 : (0 : Int) ≤ (i : Int) := by omega
    have c4 : i64 ((i : Int) + 1) = ((i + 1 : Nat) : Int) := by rw [i64_id (by omega)]; omega
    have g0 := getD_at hlt
    by_cases t1 : tOk A[i].1
    · by_cases t2 : tOk A[i].2.1
      · by_cases t3 : tOk A[i].2.2
        · by_cases t4 : A[i].2.1 > A[i].2.2
          · refine Eq.trans ?_ (all_bad hlt (fun g => by have := g.1.2.2.2; rw [g0] at this; omega) _ _).symm
            simp only [F26_l4, c1, c2, if_true, Int.toNat_natCast, rowsA_get A i hlt, List.getElem?_cons_zero, List.getElem?_cons_succ, time_any, t1, t2, t3, decide_true, Bool.not_true, t4]
          · have ok : aOk (A.getD i (0, 0, 0)) := by rw [g0]; exact ⟨t1, t2, t3, by omega⟩
            by_cases h0 : i = 0
            · have c5 : decide ((i : Int) > 0) = false := by rw [decide_eq_false_iff_not]; omega
              have g : gOk A i := ⟨ok, fun q => by omega⟩
              refine Eq.trans ?_ (all_good g _ _).symm
              simp only [F26_l4, c1, c2, if_true, Int.toNat_natCast, rowsA_get A i hlt, List.getElem?_cons_zero, List.getElem?_cons_succ, time_any, t1, t2, t3, decide_true, Bool.not_true, t4, decide_false, c5, c4]
              exact r1
            · have c5 : decide ((i : Int) > 0) = true := by rw [decide_eq_true_iff]; omega
              have c6 : i64 ((i : Int) - 1) = ((i - 1 : Nat) : Int) := by rw [i64_id (by omega)]; omega
              have hlt' : i - 1 < A.length := by omega
              have c8 : (0 : Int) ≤ ((i - 1 : Nat) : Int) := by omega
              by_cases t5 : A[i].1 ≤ A[i - 1].1
              · refine Eq.trans ?_ (all_bad hlt (fun g => by have := g.2 (by omega); rw [g0, getD_at hlt'] at this; omega) _ _).symm
                simp only [F26_l4, c1, c2, if_true, Int.toNat_natCast, rowsA_get A i hlt, List.getElem?_cons_zero, List.getElem?_cons_succ, time_any, t1, t2, t3, decide_true, Bool.not_true, t4, decide_false, c5, c6, c8, rowsA_get A _ hlt', List.drop_zero, t5]
              · have g : gOk A i := ⟨ok, fun q => by rw [g0, getD_at hlt']; omega⟩
                refine Eq.trans ?_ (all_good g _ _).symm
                simp only [F26_l4, c1, c2, if_true, Int.toNat_natCast, rowsA_get A i hlt, List.getElem?_cons_zero, List.getElem?_cons_succ, time_any, t1, t2, t3, decide_true, Bool.not_true, t4, decide_false, c5, c6, c8, rowsA_get A _ hlt', List.drop_zero, t5, c4]
                exact r1
        · refine Eq.trans ?_ (all_bad hlt (fun g => t3 (by have := g.1.2.2.1; rw [g0] at this; exact this)) _ _).symm
          simp only [F26_l4, c1, c2, if_true, Int.toNat_natCast, rowsA_get A i hlt, List.getElem?_cons_zero, List.getElem?_cons_succ, time_any, t1, t2, t3, decide_true, Bool.not_true, decide_false, Bool.not_false]
      · refine Eq.trans ?_ (all_bad hlt (fun g => t2 (by have := g.1.2.1; rw [g0] at this; exact this)) _ _).symm
        simp only [F26_l4, c1, c2, if_true, Int.toNat_natCast, rowsA_get A i hlt, List.getElem?_cons_zero, List.getElem?_cons_succ, time_any, t1, t2, decide_true, Bool.not_true, decide_false, Bool.not_false]
    · refine Eq.trans ?_ (all_bad hlt (fun g => t1 (by have := g.1.1; rw [g0] at this; exact this)) _ _).symm
      simp only [F26_l4, c1, c2, if_true, Int.toNat_natCast, rowsA_get A i hlt, List.getElem?_cons_zero, List.getElem?_cons_succ, time_any, t1, decide_false, Bool.not_false]
theorem valid_any {A : List An} (hl : A.length ≤ 300) (drift : Int) : F26_d 600 (rowsA A, drift) = some (decide (Vld A drift)) := by
  have r := v_loop hl drift A.length 0 600 (by omega) (by omega)
  replace r : (F26_l4 600).L 600 (rowsA A, rowsA A, drift, (A.length : Int), 0) = _ := r
  by_cases h : AllFrom A 0
  · replace r := r.trans (congrArg some (if_pos h))
    by_cases h2 : (A.length : Int) ≤ 256
    · have e : decide (Vld A drift) = decide (dOk drift) := decide_eq_decide.2 ⟨fun v => v.2.1, fun d => ⟨h, d, by omega⟩⟩
      simp only [F26_d, FSpec.d, F26_s, F26_d4, rowsA_len, r, h2, decide_true, drift_any, e]
    · have e : decide (Vld A drift) = false := decide_eq_false fun v => by have := v.2.2; omega
      simp only [F26_d, FSpec.d, F26_s, F26_d4, rowsA_len, r, h2, decide_false, e]
  · replace r := r.trans (congrArg some (if_neg h))
    have e : decide (Vld A drift) = false := decide_eq_false fun v => h v.1
    simp only [F26_d, FSpec.d, F26_s, F26_d4, rowsA_len, r, e]
theorem anchor_any (a : An) (drift : Int) : F44_d 600 (a.1, a.2.1, a.2.2, drift) = some (decide (aOk a ∧ dOk drift)) := by
  have e : decide (aOk a ∧ dOk drift) = (decide (tOk a.1) && (decide (0 ≤ a.2.1 ∧ a.2.1 ≤ a.2.2) && (decide (a.2.2 ≤ 9007199254740992) && decide (dOk drift)))) := by
    rw [← Bool.decide_and, ← Bool.decide_and, ← Bool.decide_and, decide_eq_decide]
    unfold aOk tOk dOk
    omega
  rw [e]
  simp only [F44_d, FSpec.d, F44_s, rtime_any, rin_any 600 a.2.1, rdrift_any]
  cases decide (tOk a.1) <;> cases decide (0 ≤ a.2.1 ∧ a.2.1 ≤ a.2.2) <;> cases decide (a.2.2 ≤ 9007199254740992) <;> rfl
theorem rv_loop {A : List An} (hl : A.length ≤ 300) {drift : Int} (hd : dOk drift) : ∀ (k i f : Nat), k < f → i + k = A.length → (F27_l4 600).L f (rowsA A, drift, (i : Int)) = some (if AllFrom A i then .inr (rowsA A, drift) else .inl (rowsA A, drift, false))
  | 0, i, f, hf, hi => by
    obtain ⟨f, rfl⟩ : ∃ f', f = f' + 1 := ⟨f - 1, by omega⟩
    show (F27_l4 600).b _ _ ((F27_l4 600).L f) some = _
    have c : decide ((i : Int) < (A.length : Int)) = false := by rw [decide_eq_false_iff_not]; omega
    refine Eq.trans ?_ (congrArg some (if_pos (all_end (by omega)))).symm
    simp only [F27_l4, rowsA_len, c]
  | k + 1, i, f, hf, hi => by
    obtain ⟨f, rfl⟩ : ∃ f', f = f' + 1 := ⟨f - 1, by omega⟩
    have r1 := rv_loop hl hd k (i + 1) f (by omega) (by omega)
    show (F27_l4 600).b _ _ ((F27_l4 600).L f) some = _
    obtain ⟨Lf, hL⟩ : ∃ Lf, Lf = (F27_l4 600).L f := ⟨_, rfl⟩
    rw [← hL] at r1 ⊢
    have hlt : i < A.length := by omega
    have c1 : decide ((i : Int) < (A.length : Int)) = true := by rw [decide_eq_true_iff]; omega
    have c2 : (0 : Int) ≤ (i : Int) := by omega
    have c4 : i64 ((i : Int) + 1) = ((i + 1 : Nat) : Int) := by rw [i64_id (by omega)]; omega
    have g0 := getD_at hlt
    by_cases t1 : aOk A[i]
    · have t2 : decide (aOk A[i] ∧ dOk drift) = true := decide_eq_true ⟨t1, hd⟩
      have ok : aOk (A.getD i (0, 0, 0)) := by rw [g0]; exact t1
      by_cases h0 : i = 0
      · have c5 : decide ((i : Int) > 0) = false := by rw [decide_eq_false_iff_not]; omega
        have g : gOk A i := ⟨ok, fun q => by omega⟩
        refine Eq.trans ?_ (all_good g _ _).symm
        simp only [F27_l4, rowsA_len, c1, c2, if_true, Int.toNat_natCast, rowsA_get A i hlt, List.getElem?_cons_zero, List.getElem?_cons_succ, anchor_any, t2, Bool.not_true, c5, c4]
        exact r1
      · have c5 : decide ((i : Int) > 0) = true := by rw [decide_eq_true_iff]; omega
        have c6 : i64 ((i : Int) - 1) = ((i - 1 : Nat) : Int) := by rw [i64_id (by omega)]; omega
        have hlt' : i - 1 < A.length := by omega
        have c8 : (0 : Int) ≤ ((i - 1 : Nat) : Int) := by omega
        by_cases t5 : A[i].1 ≤ A[i - 1].1
        · refine Eq.trans ?_ (all_bad hlt (fun g => by have := g.2 (by omega); rw [g0, getD_at hlt'] at this; omega) _ _).symm
          simp only [F27_l4, rowsA_len, c1, c2, if_true, Int.toNat_natCast, rowsA_get A i hlt, List.getElem?_cons_zero, List.getElem?_cons_succ, anchor_any, t2, Bool.not_true, c5, c6, c8, rowsA_get A _ hlt', List.drop_zero, t5, decide_true]
        · have g : gOk A i := ⟨ok, fun q => by rw [g0, getD_at hlt']; omega⟩
          refine Eq.trans ?_ (all_good g _ _).symm
          simp only [F27_l4, rowsA_len, c1, c2, if_true, Int.toNat_natCast, rowsA_get A i hlt, List.getElem?_cons_zero, List.getElem?_cons_succ, anchor_any, t2, Bool.not_true, c5, c6, c8, rowsA_get A _ hlt', List.drop_zero, t5, decide_false, c4]
          exact r1
    · have t2 : decide (aOk A[i] ∧ dOk drift) = false := decide_eq_false fun q => t1 q.1
      refine Eq.trans ?_ (all_bad hlt (fun g => t1 (by have := g.1; rw [g0] at this; exact this)) _ _).symm
      simp only [F27_l4, rowsA_len, c1, c2, if_true, Int.toNat_natCast, rowsA_get A i hlt, List.getElem?_cons_zero, List.getElem?_cons_succ, anchor_any, t2, Bool.not_false]
theorem rvalid_any {A : List An} (hl : A.length ≤ 300) (drift : Int) : F27_d 600 (rowsA A, drift) = some (decide (Vld A drift)) := by
  by_cases hd : dOk drift
  · have r := rv_loop hl hd A.length 0 600 (by omega) (by omega)
    replace r : (F27_l4 600).L 600 (rowsA A, drift, 0) = _ := r
    by_cases h : AllFrom A 0
    · replace r := r.trans (congrArg some (if_pos h))
      by_cases h2 : (A.length : Int) ≤ 256
      · have e : decide (Vld A drift) = true := decide_eq_true ⟨h, hd, by omega⟩
        simp only [F27_d, FSpec.d, F27_s, F27_d4, rowsA_len, r, h2, decide_true, rdrift_any, hd, e]
      · have e : decide (Vld A drift) = false := decide_eq_false fun v => by have := v.2.2; omega
        simp only [F27_d, FSpec.d, F27_s, F27_d4, rowsA_len, r, h2, decide_false, rdrift_any, hd, decide_true, e]
    · replace r := r.trans (congrArg some (if_neg h))
      have e : decide (Vld A drift) = false := decide_eq_false fun v => h v.1
      simp only [F27_d, FSpec.d, F27_s, F27_d4, rowsA_len, r, e]
  · have e : decide (Vld A drift) = false := decide_eq_false fun v => hd v.2.1
    have hd2 : decide (dOk drift) = false := decide_eq_false hd
    cases A with
    | nil =>
      have r : (F27_l4 600).L 600 (rowsA [], drift, 0) = some (.inr (rowsA [], drift)) := rfl
      simp only [F27_d, FSpec.d, F27_s, F27_d4, r, rdrift_any, hd2, e]
    | cons a A =>
      have t2 : F44_d 600 (a.1, a.2.1, a.2.2, drift) = some false := by
        rw [anchor_any, decide_eq_false fun q : aOk a ∧ dOk drift => hd q.2]
      have c1 : decide ((0 : Int) < ((a :: A).length : Int)) = true := by rw [decide_eq_true_iff]; simp
      have g := rowsA_get (a :: A) 0 (by simp)
      have r : (F27_l4 600).L 600 (rowsA (a :: A), drift, 0) = some (.inl (rowsA (a :: A), drift, false)) := by
        show (F27_l4 600).b _ _ ((F27_l4 600).L 599) some = _
        obtain ⟨Lf, hL⟩ : ∃ Lf, Lf = (F27_l4 600).L 599 := ⟨_, rfl⟩
        rw [← hL]
        have c2 : (0 : Int) ≤ 0 := by omega
        have c3 : (0 : Int).toNat = 0 := rfl
        simp only [F27_l4, rowsA_len, c1, c2, if_true, c3, g, List.getElem?_cons_zero, List.getElem?_cons_succ, List.getElem_cons_zero, t2, Bool.not_false]
      simp only [F27_d, FSpec.d, F27_s, F27_d4, r, e]
/-! Elapsed, from. -/
theorem ela_any (drift d : Int) : ∃ v, F17_d 600 (drift, d) = some v ∧ F34_d 600 (drift, d) = some v := by
  by_cases h1 : dOk drift
  · by_cases h2 : tOk d
    · have q := h1
      unfold dOk at q
      have e1 : ¬ i64 (1000000 + drift) = 0 := by rw [i64_id (by omega)]; omega
      have e2 : ¬ i64 (1000000 - drift) = 0 := by rw [i64_id (by omega)]; omega
      have a1 : ∃ v, F17_d 600 (drift, d) = some v := by
        simp only [F17_d, FSpec.d, F17_s, drift_any, h1, decide_true, Bool.not_true, time_any, h2, e1, e2, if_false]
        exact ⟨_, rfl⟩
      have a2 : F34_d 600 (drift, d) = F17_d 600 (drift, d) := by
        simp only [F17_d, F34_d, FSpec.d, F17_s, F34_s, drift_any, rdrift_any, h1, decide_true, Bool.not_true, time_any, rtime_any, h2]
      obtain ⟨v, hv⟩ := a1
      exact ⟨v, hv, a2.trans hv⟩
    · have h3 := decide_eq_false h2
      refine ⟨(0, 0), ?_, ?_⟩
      · simp only [F17_d, FSpec.d, F17_s, drift_any, h1, decide_true, Bool.not_true, time_any, h3, Bool.not_false]
      · simp only [F34_d, FSpec.d, F34_s, rdrift_any, h1, decide_true, Bool.not_true, rtime_any, h3, Bool.not_false]
  · have h3 := decide_eq_false h1
    refine ⟨(0, 0), ?_, ?_⟩
    · simp only [F17_d, FSpec.d, F17_s, drift_any, h3, Bool.not_false]
    · simp only [F34_d, FSpec.d, F34_s, rdrift_any, h3, Bool.not_false]
theorem from_any (a : An) (drift t : Int) : ∃ v, F47_d 600 (a.1, a.2.1, a.2.2, drift, t) = some v ∧ F48_d 600 (a.1, a.2.1, a.2.2, drift, t) = some v := by
  by_cases h : t ≥ a.1
  · obtain ⟨v, h1, h2⟩ := ela_any drift (i64 (t - a.1))
    refine ⟨(i64 (a.2.1 + v.1), i64 (a.2.2 + v.2)), ?_, ?_⟩
    · simp only [F47_d, FSpec.d, F47_s, h, decide_true, h1]
    · simp only [F48_d, FSpec.d, F48_s, h, decide_true, h2]
  · obtain ⟨v, h1, h2⟩ := ela_any drift (i64 (a.1 - t))
    refine ⟨(i64 (a.2.1 - v.2), i64 (a.2.2 - v.1)), ?_, ?_⟩
    · simp only [F47_d, FSpec.d, F47_s, h, decide_false, h1]
    · simp only [F48_d, FSpec.d, F48_s, h, decide_false, h2]
noncomputable def fr (a : An) (drift t : Int) : Int × Int := (F47_d 600 (a.1, a.2.1, a.2.2, drift, t)).getD (0, 0)
theorem fr_ok (a : An) (drift t : Int) : F47_d 600 (a.1, a.2.1, a.2.2, drift, t) = some (fr a drift t) := by
  obtain ⟨v, h1, -⟩ := from_any a drift t
  unfold fr
  rw [h1]; rfl
theorem rfr_ok (a : An) (drift t : Int) : F48_d 600 (a.1, a.2.1, a.2.2, drift, t) = some (fr a drift t) := by
  obtain ⟨v, h1, h2⟩ := from_any a drift t
  unfold fr
  rw [h1, h2]; rfl
/-! Agrees. -/
noncomputable def agB (a b : An) (drift : Int) : Bool := decide ((if b.2.1 > (fr a drift b.1).1 then b.2.1 else (fr a drift b.1).1) ≤ (if b.2.2 < (fr a drift b.1).2 then b.2.2 else (fr a drift b.1).2))
theorem ag_ok (a b : An) (drift : Int) : F38_d 600 (a.1, a.2.1, a.2.2, b.1, b.2.1, b.2.2, drift) = some (agB a b drift) := by
  simp only [F38_d, FSpec.d, F38_s, fr_ok, F37_d, F37_s]
  rfl
theorem agrees_any (a b : An) (drift : Int) : F31_d 600 (a.1, a.2.1, a.2.2, b.1, b.2.1, b.2.2, drift) = some (decide (Vld [a, b] drift) && agB a b drift) := by
  have v := valid_any (A := [a, b]) (by simp) drift
  replace v : F26_d 600 ([[AV.v (.int .i64 a.1), AV.v (.int .i64 a.2.1), AV.v (.int .i64 a.2.2)], [AV.v (.int .i64 b.1), AV.v (.int .i64 b.2.1), AV.v (.int .i64 b.2.2)]], drift) = some (decide (Vld [a, b] drift)) := v
  simp only [F31_d, FSpec.d, F31_s, v, ag_ok]
  cases decide (Vld [a, b] drift) <;> rfl
theorem ragrees_any (a b : An) (drift : Int) : F32_d 600 (a.1, a.2.1, a.2.2, b.1, b.2.1, b.2.2, drift) = some (decide (Vld [a, b] drift) && agB a b drift) := by
  have v := rvalid_any (A := [a, b]) (by simp) drift
  replace v : F27_d 600 ([[AV.v (.int .i64 a.1), AV.v (.int .i64 a.2.1), AV.v (.int .i64 a.2.2)], [AV.v (.int .i64 b.1), AV.v (.int .i64 b.2.1), AV.v (.int .i64 b.2.2)]], drift) = some (decide (Vld [a, b] drift)) := v
  simp only [F32_d, FSpec.d, F32_s, v, rfr_ok]
  cases decide (Vld [a, b] drift) <;> rfl
/-! From. -/
theorem vld_one (a : An) (drift : Int) : Vld [a] drift ↔ aOk a ∧ dOk drift := by
  constructor
  · intro h
    exact ⟨(h.1 0 (by omega) (by simp)).1, h.2.1⟩
  · intro h
    refine ⟨fun j hj hl => ?_, h.2, by simp⟩
    have : j = 0 := by simp at hl; omega
    subst this
    exact ⟨h.1, fun q => by omega⟩
theorem From_any (a : An) (drift t : Int) : ∃ v, F29_d 600 (a.1, a.2.1, a.2.2, drift, t) = some v ∧ F30_d 600 (a.1, a.2.1, a.2.2, drift, t) = some v := by
  have v := valid_any (A := [a]) (by simp) drift
  replace v : F26_d 600 ([[AV.v (.int .i64 a.1), AV.v (.int .i64 a.2.1), AV.v (.int .i64 a.2.2)]], drift) = some (decide (Vld [a] drift)) := v
  have e : decide (Vld [a] drift) = decide (aOk a ∧ dOk drift) := decide_eq_decide.2 (vld_one a drift)
  rw [e] at v
  by_cases h1 : aOk a ∧ dOk drift
  · by_cases h2 : tOk t
    · refine ⟨((fr a drift t).1, (fr a drift t).2, 0), ?_, ?_⟩
      · simp only [F29_d, FSpec.d, F29_s, v, time_any, fr_ok, h1, h2, and_self, decide_true, Bool.not_true]
      · simp only [F30_d, FSpec.d, F30_s, anchor_any, rtime_any, rfr_ok, h1, h2, and_self, decide_true, Bool.not_true]
    · have h3 := decide_eq_false h2
      refine ⟨(0, 0, 1), ?_, ?_⟩
      · simp only [F29_d, FSpec.d, F29_s, v, time_any, fr_ok, h1, h3, and_self, decide_true, Bool.not_true, Bool.not_false]
      · simp only [F30_d, FSpec.d, F30_s, anchor_any, rtime_any, rfr_ok, h1, h3, and_self, decide_true, Bool.not_true, Bool.not_false]
  · have h3 := decide_eq_false h1
    refine ⟨(0, 0, 1), ?_, ?_⟩
    · simp only [F29_d, FSpec.d, F29_s, v, h3, Bool.not_false]
    · simp only [F30_d, FSpec.d, F30_s, anchor_any, h3, Bool.not_false]
end Go.Proofs.Ytecoemdhnphmdaa
