/- Steim, the plain law: words out of differences and back; compress, Words, Frames, unpack. -/
import Derived.Test.YtdmedeaknnldcaaDoorStC
namespace Go.Proofs.YtdmedeaknnldcaaDoor
open Go.RowKit
set_option linter.unusedVariables false
set_option linter.unusedSimpArgs false
set_option linter.unnecessarySimpa false
def rowsW (l : List (Int × Int)) : List (List AV) := l.map fun w => [I w.1, I w.2]
theorem rowsW_len (l : List (Int × Int)) : (rowsW l).length = l.length := by simp [rowsW]
theorem rowsW_snoc (l : List (Int × Int)) (a b : Int) : rowsW l ++ [[AV.v (.int .i64 a), AV.v (.int .i64 b)]] = rowsW (l ++ [(a, b)]) := by simp [rowsW]
def p8 (D : List Int) : Int := ((D.getD 0 0 % 256 * 256 + D.getD 1 0 % 256) * 256 + D.getD 2 0 % 256) * 256 + D.getD 3 0 % 256
def p16 (D : List Int) : Int := D.getD 0 0 % 65536 * 65536 + D.getD 1 0 % 65536
def p32 (D : List Int) : Int := D.getD 0 0 % 4294967296
def wds : Nat → List Int → List (Int × Int)
  | 0, _ => []
  | n + 1, D => if D.isEmpty then [] else if fitB 4 Fit8 D then (1, p8 D) :: wds n (D.drop 4) else if fitB 2 Fit16 D then (2, p16 D) :: wds n (D.drop 2) else (3, p32 D) :: wds n (D.drop 1)
theorem fit4_inv {D : List Int} (h : fitB 4 Fit8 D = true) : ∃ a b c d r, D = a :: b :: c :: d :: r ∧ Fit8 a ∧ Fit8 b ∧ Fit8 c ∧ Fit8 d := by
  unfold fitB at h
  rw [Bool.and_eq_true, decide_eq_true_iff] at h
  obtain ⟨h1, h2⟩ := h
  match D, h1, h2 with
  | a :: b :: c :: d :: r, _, h2 =>
    simp at h2
    exact ⟨a, b, c, d, r, rfl, h2⟩
theorem fit2_inv {D : List Int} (h : fitB 2 Fit16 D = true) : ∃ a b r, D = a :: b :: r ∧ Fit16 a ∧ Fit16 b := by
  unfold fitB at h
  rw [Bool.and_eq_true, decide_eq_true_iff] at h
  obtain ⟨h1, h2⟩ := h
  match D, h1, h2 with
  | a :: b :: r, _, h2 =>
    simp at h2
    exact ⟨a, b, r, rfl, h2⟩
/-! compress. -/
theorem comp_no (out : List (List AV)) (D : List Int) (hD : D.length ≤ 590) (c n w : Int) (f : Nat) (hc : (c = 1 ∧ n = 4 ∧ w = 8) ∨ (c = 2 ∧ n = 2 ∧ w = 16)) (hf : F58_d 600 (rowsI D, n, w) = some false) : (F36_l16 600).L (f + 1) (out, rowsI D, c) = (F36_l16 600).L f (out, rowsI D, c + 1) := by
  show (F36_l16 600).b _ _ ((F36_l16 600).L f) some = _
  obtain ⟨Lf, hL⟩ : ∃ Lf, Lf = (F36_l16 600).L f := ⟨_, rfl⟩
  rw [← hL]
  have hcnt : F57_d 600 () = some (0, 4, 2, 1) := rfl
  rcases hc with ⟨rfl, rfl, rfl⟩ | ⟨rfl, rfl, rfl⟩
  · have c1 : decide ((1 : Int) ≤ 3) = true := rfl
    have c2 : (0 : Int) ≤ 1 ∧ (1 : Int) < 4 := by omega
    have e1 : [AV.v (.int .i64 0), AV.v (.int .i64 4), AV.v (.int .i64 2), AV.v (.int .i64 1)][(1 : Int).toNat * 1]? = some (AV.v (.int .i64 4)) := rfl
    have e2 : i64 ((32 : Int).tdiv 4) = 8 := by kernel_rfl
    have e3 : i64 ((1 : Int) + 1) = 1 + 1 := by kernel_rfl
    have c3 : ¬ ((4 : Int) = 0) := by omega
    simp only [F36_l16, c1, hcnt, c2, and_self, if_true, e1, c3, if_false, e2, hf, Bool.not_false, e3]
    first | exact if_pos trivial | exact if_neg (fun h => h) | rfl
  · have c1 : decide ((2 : Int) ≤ 3) = true := rfl
    have c2 : (0 : Int) ≤ 2 ∧ (2 : Int) < 4 := by omega
    have e1 : [AV.v (.int .i64 0), AV.v (.int .i64 4), AV.v (.int .i64 2), AV.v (.int .i64 1)][(2 : Int).toNat * 1]? = some (AV.v (.int .i64 2)) := rfl
    have e2 : i64 ((32 : Int).tdiv 2) = 16 := by kernel_rfl
    have e3 : i64 ((2 : Int) + 1) = 2 + 1 := by kernel_rfl
    have c3 : ¬ ((2 : Int) = 0) := by omega
    simp only [F36_l16, c1, hcnt, c2, and_self, if_true, e1, c3, if_false, e2, hf, Bool.not_false, e3]
    first | exact if_pos trivial | exact if_neg (fun h => h) | rfl
theorem comp_yes (out : List (Int × Int)) (ho : out.length ≤ 1000) (D : List Int) (hD : D.length ≤ 590) (c w v : Int) (n f : Nat) (hc : (c = 1 ∧ n = 4 ∧ w = 8) ∨ (c = 2 ∧ n = 2 ∧ w = 16) ∨ (c = 3 ∧ n = 1 ∧ w = 32)) (hn : n ≤ D.length) (hf : F58_d 600 (rowsI D, (n : Int), w) = some true) (hp : F59_d 600 (rowsI (D.take n), w) = some v) : (F36_l16 600).L (f + 1) (rowsW out, rowsI D, c) = some (rowsW (out ++ [(c, v)]), rowsI (D.drop n)) := by
  show (F36_l16 600).b _ _ ((F36_l16 600).L f) some = _
  obtain ⟨Lf, hL⟩ : ∃ Lf, Lf = (F36_l16 600).L f := ⟨_, rfl⟩
  rw [← hL]
  have hcnt : F57_d 600 () = some (0, 4, 2, 1) := rfl
  have et : (rowsI D).take n = rowsI (D.take n) := by simp [rowsI, List.map_take]
  have ed : (rowsI D).drop n = rowsI (D.drop n) := by simp [rowsI, List.map_drop]
  have hb : ∀ r : List AV, ((rowsW out).length + [r].length) * 16 ≤ maxBytes := fun r => by
    rw [rowsW_len]; unfold maxBytes; simp; omega
  rcases hc with ⟨rfl, rfl, rfl⟩ | ⟨rfl, rfl, rfl⟩ | ⟨rfl, rfl, rfl⟩
  · have c1 : decide ((1 : Int) ≤ 3) = true := rfl
    have c2 : (0 : Int) ≤ 1 ∧ (1 : Int) < 4 := by omega
    have e1 : [AV.v (.int .i64 0), AV.v (.int .i64 4), AV.v (.int .i64 2), AV.v (.int .i64 1)][(1 : Int).toNat * 1]? = some (AV.v (.int .i64 4)) := rfl
    have e2 : i64 ((32 : Int).tdiv 4) = 8 := by kernel_rfl
    have c3 : ¬ ((4 : Int) = 0) := by omega
    have c4 : (0 : Int) ≤ 4 ∧ (4 : Int) ≤ (D.length : Int) := by omega
    have e4 : (4 : Int).toNat = 4 := rfl
    replace hf : F58_d 600 (rowsI D, 4, 8) = some true := hf
    simp only [F36_l16, c1, hcnt, c2, and_self, if_true, e1, c3, if_false, e2, hf, Bool.not_true, rowsI_len, c4, e4, et, ed, hp, hb, rowsW_snoc]
  · have c1 : decide ((2 : Int) ≤ 3) = true := rfl
    have c2 : (0 : Int) ≤ 2 ∧ (2 : Int) < 4 := by omega
    have e1 : [AV.v (.int .i64 0), AV.v (.int .i64 4), AV.v (.int .i64 2), AV.v (.int .i64 1)][(2 : Int).toNat * 1]? = some (AV.v (.int .i64 2)) := rfl
    have e2 : i64 ((32 : Int).tdiv 2) = 16 := by kernel_rfl
    have e1' : [AV.v (.int .i64 0), AV.v (.int .i64 4), AV.v (.int .i64 2), AV.v (.int .i64 1)][2 * 1]? = some (AV.v (.int .i64 2)) := rfl
    have c3 : ¬ ((2 : Int) = 0) := by omega
    have c4 : (0 : Int) ≤ 2 ∧ (2 : Int) ≤ (D.length : Int) := by omega
    have e4 : (2 : Int).toNat = 2 := rfl
    replace hf : F58_d 600 (rowsI D, 2, 16) = some true := hf
    simp only [F36_l16, c1, hcnt, c2, and_self, if_true, e1, e1', c3, if_false, e2, hf, Bool.not_true, rowsI_len, c4, e4, et, ed, hp, hb, rowsW_snoc]
  · have c1 : decide ((3 : Int) ≤ 3) = true := rfl
    have c2 : (0 : Int) ≤ 3 ∧ (3 : Int) < 4 := by omega
    have e1 : [AV.v (.int .i64 0), AV.v (.int .i64 4), AV.v (.int .i64 2), AV.v (.int .i64 1)][(3 : Int).toNat * 1]? = some (AV.v (.int .i64 1)) := rfl
    have e2 : i64 ((32 : Int).tdiv 1) = 32 := by kernel_rfl
    have c3 : ¬ ((1 : Int) = 0) := by omega
    have c4 : (0 : Int) ≤ 1 ∧ (1 : Int) ≤ (D.length : Int) := by omega
    have e4 : (1 : Int).toNat = 1 := rfl
    replace hf : F58_d 600 (rowsI D, 1, 32) = some true := hf
    simp only [F36_l16, c1, hcnt, c2, and_self, if_true, e1, c3, if_false, e2, hf, Bool.not_true, rowsI_len, c4, e4, et, ed, hp, hb, rowsW_snoc]
theorem comp_one (out : List (Int × Int)) (ho : out.length ≤ 1000) (D : List Int) (hD : D.length ≤ 590) (h0 : D ≠ []) (h32 : ∀ x ∈ D, Fit32 x) : F36_d16 600 (rowsW out, rowsI D, 1) = some (if fitB 4 Fit8 D then (rowsW (out ++ [(1, p8 D)]), rowsI (D.drop 4)) else if fitB 2 Fit16 D then (rowsW (out ++ [(2, p16 D)]), rowsI (D.drop 2)) else (rowsW (out ++ [(3, p32 D)]), rowsI (D.drop 1))) := by
  have f4 := fit_any 4 8 Fit8 fits8 (by omega) D
  have f2 := fit_any 2 16 Fit16 fits16 (by omega) D
  have f1 := fit_any 1 32 Fit32 fits32 (by omega) D
  show (F36_l16 600).L 600 _ = _
  cases h4 : fitB 4 Fit8 D with
  | true =>
    rw [h4] at f4
    obtain ⟨a, b, c, d, r, rfl, ha, hb, hc, hd⟩ := fit4_inv h4
    have := comp_yes out ho _ hD 1 8 _ 4 599 (.inl ⟨rfl, rfl, rfl⟩) (by simp) f4 (pack8 a b c d ha hb hc hd)
    rw [if_pos rfl]
    exact this
  | false =>
    rw [h4] at f4
    have q1 := comp_no (rowsW out) D hD 1 4 8 599 (.inl ⟨rfl, rfl, rfl⟩) f4
    rw [q1]
    cases h2 : fitB 2 Fit16 D with
    | true =>
      rw [h2] at f2
      obtain ⟨a, b, r, rfl, ha, hb⟩ := fit2_inv h2
      have := comp_yes out ho _ hD 2 16 _ 2 598 (.inr (.inl ⟨rfl, rfl, rfl⟩)) (by simp) f2 (pack16 a b ha hb)
      rw [if_neg (by simp), if_pos rfl]
      exact this
    | false =>
      rw [h2] at f2
      have q2 := comp_no (rowsW out) D hD 2 2 16 598 (.inr ⟨rfl, rfl, rfl⟩) f2
      have q2' : (F36_l16 600).L 599 (rowsW out, rowsI D, 1 + 1) = (F36_l16 600).L 598 (rowsW out, rowsI D, 2 + 1) := q2
      rw [q2']
      match D, h0, h32 with
      | a :: r, _, h32 =>
        have ha := h32 a List.mem_cons_self
        have h1 : fitB 1 Fit32 (a :: r) = true := by
          unfold fitB
          simp [ha]
        rw [h1] at f1
        have := comp_yes out ho (a :: r) hD 3 32 _ 1 597 (.inr (.inr ⟨rfl, rfl, rfl⟩)) (by simp) f1 (pack32 a ha)
        rw [if_neg (by simp), if_neg (by simp)]
        exact this
theorem comp_loop : ∀ (n f : Nat) (D : List Int) (out : List (Int × Int)), n < f → D.length ≤ n → n ≤ 590 → out.length + n ≤ 1000 → (∀ x ∈ D, Fit32 x) → (F36_l9 600).L f (rowsW out, rowsI D) = some (rowsW (out ++ wds n D))
  | 0, f, D, out, hf, hl, hn, ho, h32 => by
    obtain ⟨f, rfl⟩ : ∃ f', f = f' + 1 := ⟨f - 1, by omega⟩
    obtain rfl : D = [] := List.length_eq_zero_iff.1 (by omega)
    show (F36_l9 600).b _ _ ((F36_l9 600).L f) some = _
    have c : decide ((([] : List Int).length : Int) > 0) = false := rfl
    simp only [F36_l9, rowsI_len, c, wds, List.append_nil]
  | n + 1, f, D, out, hf, hl, hn, ho, h32 => by
    obtain ⟨f, rfl⟩ : ∃ f', f = f' + 1 := ⟨f - 1, by omega⟩
    by_cases h0 : D = []
    · subst h0
      show (F36_l9 600).b _ _ ((F36_l9 600).L f) some = _
      have c : decide ((([] : List Int).length : Int) > 0) = false := rfl
      have e : wds (n + 1) [] = [] := rfl
      simp only [F36_l9, rowsI_len, c, e, List.append_nil]
    · have hp : 0 < D.length := List.length_pos_iff.2 h0
      have c : decide ((D.length : Int) > 0) = true := by rw [decide_eq_true_iff]; omega
      have hone := comp_one out (by omega) D (by omega) h0 h32
      have he : D.isEmpty = false := by cases D with | nil => exact absurd rfl h0 | cons => rfl
      have nxt : ∀ (m : Nat) (w : Int × Int), 1 ≤ m → F36_d16 600 (rowsW out, rowsI D, 1) = some (rowsW (out ++ [w]), rowsI (D.drop m)) → (F36_l9 600).L (f + 1) (rowsW out, rowsI D) = some (rowsW (out ++ w :: wds n (D.drop m))) := fun m w hm hw => by
        have r1 := comp_loop n f (D.drop m) (out ++ [w]) (by omega) (by rw [List.length_drop]; omega) (by omega) (by simp; omega) (fun x hx => h32 x (List.mem_of_mem_drop hx))
        show (F36_l9 600).b _ _ ((F36_l9 600).L f) some = _
        obtain ⟨Lf, hL⟩ : ∃ Lf, Lf = (F36_l9 600).L f := ⟨_, rfl⟩
        rw [← hL] at r1 ⊢
        simp only [F36_l9, rowsI_len, c, hw]
        rw [List.append_assoc] at r1
        exact r1
      cases h4 : fitB 4 Fit8 D with
      | true =>
        rw [h4, if_pos rfl] at hone
        have e : wds (n + 1) D = (1, p8 D) :: wds n (D.drop 4) := by simp [wds, he, h4]
        rw [e]; exact nxt 4 _ (by omega) hone
      | false =>
        rw [h4, if_neg (by simp)] at hone
        cases h2 : fitB 2 Fit16 D with
        | true =>
          rw [h2, if_pos rfl] at hone
          have e : wds (n + 1) D = (2, p16 D) :: wds n (D.drop 2) := by simp [wds, he, h4, h2]
          rw [e]; exact nxt 2 _ (by omega) hone
        | false =>
          rw [h2, if_neg (by simp)] at hone
          have e : wds (n + 1) D = (3, p32 D) :: wds n (D.drop 1) := by simp [wds, he, h4, h2]
          rw [e]; exact nxt 1 _ (by omega) hone
theorem dX_fit {X : List Int} (hX : ∀ x ∈ X, Smp x) : ∀ x ∈ dX X, Fit32 x := by
  intro x hx
  obtain ⟨i, hi, rfl⟩ := List.getElem_of_mem hx
  rw [dX_len] at hi
  cases i with
  | zero => rw [dX_zero X hi]; unfold Fit32; omega
  | succ i =>
    rw [dX_get X i hi]
    have b1 := hX _ (List.getElem_mem hi)
    have b2 := hX _ (List.getElem_mem (show i < X.length by omega))
    unfold Smp at b1 b2
    unfold Fit32
    omega
/-- The words of samples. -/
def wX (X : List Int) : List (Int × Int) := wds X.length (dX X)
theorem all_iff (X : List Int) : (X.all fun x => decide (Smp x)) = true ↔ ∀ x ∈ X, Smp x := by simp
theorem comp_ok (X : List Int) (hl : X.length ≤ 500) (h0 : X ≠ []) (hX : ∀ x ∈ X, Smp x) : F36_d 600 (rowsI X) = some (rowsW (wX X), true) := by
  have hp : 0 < X.length := List.length_pos_iff.2 h0
  have c : ((X.length : Int) == 0) = false := by rw [beq_eq_false_iff_ne]; omega
  have r := comp_loop X.length 600 (dX X) [] (by omega) (by rw [dX_len]; omega) (by omega) (by simp; omega) (dX_fit hX)
  replace r : (F36_l9 600).L 600 (([] : List (List AV)), rowsI (dX X)) = some (rowsW (wX X)) := r
  simp only [F36_d, FSpec.d, F36_s, rowsI_len, c, out_any X (by omega), (all_iff X).2 hX, Bool.not_true, dif_ok X (by omega) h0 hX, F36_d9, r]
theorem comp_nil : F36_d 600 (rowsI []) = some ([], false) := rfl
theorem comp_bad (X : List Int) (hl : X.length ≤ 500) (hX : ¬ ∀ x ∈ X, Smp x) : F36_d 600 (rowsI X) = some ([], false) := by
  have h0 : X ≠ [] := fun e => hX (by rw [e]; simp)
  have hp : 0 < X.length := List.length_pos_iff.2 h0
  have c : ((X.length : Int) == 0) = false := by rw [beq_eq_false_iff_ne]; omega
  have ha : (X.all fun x => decide (Smp x)) = false := by
    cases hq : (X.all fun x => decide (Smp x)) with
    | false => rfl
    | true => exact absurd ((all_iff X).1 hq) hX
  simp only [F36_d, FSpec.d, F36_s, rowsI_len, c, out_any X (by omega), ha, Bool.not_false]
theorem wds_len : ∀ (n : Nat) (D : List Int), D.length ≤ n → (wds n D).length ≤ D.length ∧ D.length ≤ 4 * (wds n D).length
  | 0, D, h => by
    obtain rfl : D = [] := List.length_eq_zero_iff.1 (by omega)
    simp [wds]
  | n + 1, D, h => by
    unfold wds
    cases D with
    | nil => simp
    | cons a r =>
      simp only [List.isEmpty_cons, Bool.false_eq_true, if_false]
      cases h4 : fitB 4 Fit8 (a :: r) with
      | true =>
        obtain ⟨a', b, c, d, r', e, -⟩ := fit4_inv h4
        have ih := wds_len n ((a :: r).drop 4) (by simp at h ⊢; omega)
        rw [e] at ih h ⊢
        simp at ih h ⊢
        omega
      | false =>
        simp only [Bool.false_eq_true, if_false]
        cases h2 : fitB 2 Fit16 (a :: r) with
        | true =>
          obtain ⟨a', b, r', e, -⟩ := fit2_inv h2
          have ih := wds_len n ((a :: r).drop 2) (by simp at h ⊢; omega)
          rw [e] at ih h ⊢
          simp at ih h ⊢
          omega
        | false =>
          have ih := wds_len n ((a :: r).drop 1) (by simp at h ⊢; omega)
          simp at ih h ⊢
          omega
theorem wX_len (X : List Int) : (wX X).length ≤ X.length ∧ X.length ≤ 4 * (wX X).length := by
  have := wds_len X.length (dX X) (by rw [dX_len]; omega)
  rwa [dX_len] at this
theorem wX_pos {X : List Int} (h0 : X ≠ []) : 0 < (wX X).length := by
  have hp : 0 < X.length := List.length_pos_iff.2 h0
  have := wX_len X
  omega
theorem words_ok (X : List Int) (hl : X.length ≤ 500) (h0 : X ≠ []) (hX : ∀ x ∈ X, Smp x) : F60_d 600 (rowsI X) = some ((wX X).length : Int) := by
  simp only [F60_d, FSpec.d, F60_s, comp_ok X hl h0 hX, rowsW_len]
def nfr (n : Nat) : Nat := (n + 16) / 15
theorem frames_ok (X : List Int) (hl : X.length ≤ 500) (h0 : X ≠ []) (hX : ∀ x ∈ X, Smp x) : F37_d 600 (rowsI X) = some (nfr (wX X).length : Int) := by
  have hp := wX_pos h0
  have hb := (wX_len X).1
  have c : (((wX X).length : Int) == 0) = false := by rw [beq_eq_false_iff_ne]; omega
  have e1 : i64 (((wX X).length : Int) + 2) = (wX X).length + 2 := i64_id (by omega)
  have e2 : i64 (((wX X).length : Int) + 2 + 16) = (wX X).length + 2 + 16 := i64_id (by omega)
  have e3 : i64 (((wX X).length : Int) + 2 + 16 - 2) = (wX X).length + 16 := by rw [i64_id (by omega)]; omega
  have e4 : i64 ((((wX X).length : Int) + 16).tdiv 15) = (nfr (wX X).length : Int) := by
    rw [Int.tdiv_eq_ediv_of_nonneg (by omega), i64_id (by omega)]
    unfold nfr
    omega
  simp only [F37_d, FSpec.d, F37_s, words_ok X hl h0 hX, c, e1, e2, e3, e4]
/-! Words back into differences. -/
def unp (c v : Int) : List Int := if c = 1 then [sgn8 (v / 16777216 % 256), sgn8 (v / 65536 % 256), sgn8 (v / 256 % 256), sgn8 (v % 256)] else if c = 2 then [sgn16 (v / 65536 % 65536), sgn16 (v % 65536)] else if c = 3 then [sgn32 (v % 4294967296)] else []
theorem wds_ok : ∀ (n : Nat) (D : List Int), D.length ≤ n → (∀ x ∈ D, Fit32 x) → ((wds n D).flatMap fun w => unp w.1 w.2) = D ∧ ∀ w ∈ wds n D, (1 ≤ w.1 ∧ w.1 ≤ 3) ∧ (0 ≤ w.2 ∧ w.2 ≤ 4294967295)
  | 0, D, h, h32 => by
    obtain rfl : D = [] := List.length_eq_zero_iff.1 (by omega)
    simp [wds]
  | n + 1, D, h, h32 => by
    unfold wds
    cases D with
    | nil => simp
    | cons a r =>
      simp only [List.isEmpty_cons, Bool.false_eq_true, if_false]
      cases h4 : fitB 4 Fit8 (a :: r) with
      | true =>
        obtain ⟨a', b, c, d, r', e, ha, hb, hc, hd⟩ := fit4_inv h4
        rw [e] at h h32 ⊢
        obtain ⟨ih1, ih2⟩ := wds_ok n r' (by simp at h; omega) (fun x hx => h32 x (by simp [hx]))
        have s1 := sgn8_mod ha
        have s2 := sgn8_mod hb
        have s3 := sgn8_mod hc
        have s4 := sgn8_mod hd
        have ep : p8 (a' :: b :: c :: d :: r') = ((a' % 256 * 256 + b % 256) * 256 + c % 256) * 256 + d % 256 := rfl
        simp only [if_true, List.drop_succ_cons, List.drop_zero, List.flatMap_cons, ep]
        refine ⟨?_, fun w hw => ?_⟩
        · have u : unp 1 (((a' % 256 * 256 + b % 256) * 256 + c % 256) * 256 + d % 256) = [a', b, c, d] := by
            unfold unp
            rw [if_pos rfl, show (((a' % 256 * 256 + b % 256) * 256 + c % 256) * 256 + d % 256) / 16777216 % 256 = a' % 256 by omega, show (((a' % 256 * 256 + b % 256) * 256 + c % 256) * 256 + d % 256) / 65536 % 256 = b % 256 by omega, show (((a' % 256 * 256 + b % 256) * 256 + c % 256) * 256 + d % 256) / 256 % 256 = c % 256 by omega, show (((a' % 256 * 256 + b % 256) * 256 + c % 256) * 256 + d % 256) % 256 = d % 256 by omega, s1, s2, s3, s4]
          rw [u, ih1]; rfl
        · rcases List.mem_cons.1 hw with rfl | hw
          · dsimp only; omega
          · exact ih2 w hw
      | false =>
        simp only [Bool.false_eq_true, if_false]
        cases h2 : fitB 2 Fit16 (a :: r) with
        | true =>
          obtain ⟨a', b, r', e, ha, hb⟩ := fit2_inv h2
          rw [e] at h h32 ⊢
          obtain ⟨ih1, ih2⟩ := wds_ok n r' (by simp at h; omega) (fun x hx => h32 x (by simp [hx]))
          have s1 := sgn16_mod ha
          have s2 := sgn16_mod hb
          have ep : p16 (a' :: b :: r') = a' % 65536 * 65536 + b % 65536 := rfl
          simp only [if_true, List.drop_succ_cons, List.drop_zero, List.flatMap_cons, ep]
          refine ⟨?_, fun w hw => ?_⟩
          · have u : unp 2 (a' % 65536 * 65536 + b % 65536) = [a', b] := by
              unfold unp
              rw [if_neg (by omega), if_pos rfl, show (a' % 65536 * 65536 + b % 65536) / 65536 % 65536 = a' % 65536 by omega, show (a' % 65536 * 65536 + b % 65536) % 65536 = b % 65536 by omega, s1, s2]
            rw [u, ih1]; rfl
          · rcases List.mem_cons.1 hw with rfl | hw
            · dsimp only; omega
            · exact ih2 w hw
        | false =>
          simp only [Bool.false_eq_true, if_false]
          obtain ⟨ih1, ih2⟩ := wds_ok n r (by simp at h; omega) (fun x hx => h32 x (by simp [hx]))
          have ha := h32 a List.mem_cons_self
          have s1 := sgn32_mod ha
          have ep : p32 (a :: r) = a % 4294967296 := rfl
          simp only [List.drop_succ_cons, List.drop_zero, List.flatMap_cons, ep]
          refine ⟨?_, fun w hw => ?_⟩
          · have u : unp 3 (a % 4294967296) = [a] := by
              unfold unp
              rw [if_neg (by omega), if_neg (by omega), if_pos rfl, show a % 4294967296 % 4294967296 = a % 4294967296 by omega, s1]
            rw [u, ih1]; rfl
          · rcases List.mem_cons.1 hw with rfl | hw
            · dsimp only; omega
            · exact ih2 w hw
theorem unp_step (n W : Nat) (hn : 1 ≤ n ∧ n ≤ 4) (hW : i64 ((32 : Int).tdiv (n : Int)) = (W : Int)) (hW2 : 1 ≤ W ∧ W ≤ 32) (sg : Int → Int) (hs : ∀ u, 0 ≤ u → u < 2 ^ W → F69_d 600 (u, (W : Int)) = some (sg u, 0)) (acc : List Int) (ha : acc.length ≤ 1000) (v : Int) (i f : Nat) (hi : i < n) : (F79_l6 600).L (f + 1) (rowsI acc, v, (n : Int), (i : Int)) = (F79_l6 600).L f (rowsI (acc ++ [sg (v / 2 ^ (i * W) % 2 ^ W)]), v, (n : Int), (i : Int) - 1) := by
  show (F79_l6 600).b _ _ ((F79_l6 600).L f) some = _
  obtain ⟨Lf, hL⟩ : ∃ Lf, Lf = (F79_l6 600).L f := ⟨_, rfl⟩
  rw [← hL]
  have hiW : i * W ≤ 60 := by
    have : i * W ≤ 3 * W := Nat.mul_le_mul_right _ (by omega)
    have h2 : n * W ≤ 32 := by
      have hn' : n = 1 ∨ n = 2 ∨ n = 3 ∨ n = 4 := by omega
      have hw1 : (W : Int) = i64 ((32 : Int).tdiv (n : Int)) := hW.symm
      rcases hn' with rfl | rfl | rfl | rfl
      · have : i64 ((32 : Int).tdiv ((1 : Nat) : Int)) = 32 := by kernel_rfl
        omega
      · have : i64 ((32 : Int).tdiv ((2 : Nat) : Int)) = 16 := by kernel_rfl
        omega
      · have : i64 ((32 : Int).tdiv ((3 : Nat) : Int)) = 10 := by kernel_rfl
        omega
      · have : i64 ((32 : Int).tdiv ((4 : Nat) : Int)) = 8 := by kernel_rfl
        omega
    have h3 : i * W ≤ n * W := Nat.mul_le_mul_right _ (by omega)
    omega
  have c1 : decide ((i : Int) ≥ 0) = true := by rw [decide_eq_true_iff]; omega
  have c2 : ¬ ((n : Int) = 0) := by omega
  have e1 : i64 ((i : Int) * (W : Int)) = ((i * W : Nat) : Int) := by
    rw [← Int.natCast_mul, i64_id (by omega)]
  have c3 : ¬ (((i * W : Nat) : Int) < 0) := by omega
  have c4 : ¬ ((W : Int) < 0) := by omega
  have e2 : shR .i64 v ((i * W : Nat) : Int) = v / 2 ^ (i * W) := by
    rw [shR_ok (by omega), Int.toNat_natCast]
  have hp : (1 : Int) ≤ 2 ^ W := Int.pow_pos (by omega)
  have hp2 : (2 : Int) ^ W ≤ 2 ^ 32 := two_le hW2.2
  have e3 : i64 (shL .i64 1 (W : Int) - 1) = 2 ^ W - 1 := by
    have := shL_ok (x := 1) (y := (W : Int)) (by omega) (by rw [Int.toNat_natCast]; omega)
    rw [this, Int.toNat_natCast, i64_id (by omega)]
    omega
  have e4 : bAnd .i64 (v / 2 ^ (i * W)) (2 ^ W - 1) = v / 2 ^ (i * W) % 2 ^ W := bAnd_ok (by omega)
  have e5 := hs (v / 2 ^ (i * W) % 2 ^ W) (Int.emod_nonneg _ (by omega)) (Int.emod_lt_of_pos _ (by omega))
  have e6 : i64 ((i : Int) - 1) = (i : Int) - 1 := i64_id (by omega)
  have hb : ((rowsI acc).length + 1) * 8 ≤ maxBytes := by rw [rowsI_len]; unfold maxBytes; omega
  simp only [F79_l6, c1, c2, if_false, hW, e1, c3, c4, e2, e3, e4, e5, List.length_cons, List.length_nil, Nat.zero_add, hb, if_true, rowsI_snoc, e6]
  first | exact if_pos trivial | exact if_neg (fun h => h) | rfl
theorem unp_end (acc : List Int) (v n : Int) (f : Nat) : (F79_l6 600).L (f + 1) (rowsI acc, v, n, -1) = some (rowsI acc) := by
  show (F79_l6 600).b _ _ ((F79_l6 600).L f) some = _
  have c : decide ((-1 : Int) ≥ 0) = false := rfl
  simp only [F79_l6, c]
theorem unp_ok {c v : Int} (hc : 0 ≤ c ∧ c ≤ 3) (hv : 0 ≤ v ∧ v ≤ 4294967295) : F79_d 600 (c, v) = some (rowsI (unp c v)) := by
  have hcnt : F57_d 600 () = some (0, 4, 2, 1) := rfl
  have hcs : c = 0 ∨ c = 1 ∨ c = 2 ∨ c = 3 := by omega
  rcases hcs with rfl | rfl | rfl | rfl
  · have c2 : (0 : Int) ≤ 0 ∧ (0 : Int) < 4 := by omega
    have e1 : [AV.v (.int .i64 0), AV.v (.int .i64 4), AV.v (.int .i64 2), AV.v (.int .i64 1)][(0 : Int).toNat * 1]? = some (AV.v (.int .i64 0)) := rfl
    have e2 : i64 ((0 : Int) - 1) = -1 := by kernel_rfl
    have r := unp_end [] v 0 599
    replace r : (F79_l6 600).L 600 (([] : List (List AV)), v, 0, -1) = some (rowsI []) := r
    have u : unp 0 v = [] := rfl
    simp only [F79_d, FSpec.d, F79_s, hcnt, c2, and_self, if_true, e1, e2, F79_d6, r, u]
  · have c2 : (0 : Int) ≤ 1 ∧ (1 : Int) < 4 := by omega
    have e1 : [AV.v (.int .i64 0), AV.v (.int .i64 4), AV.v (.int .i64 2), AV.v (.int .i64 1)][(1 : Int).toNat * 1]? = some (AV.v (.int .i64 4)) := rfl
    have e2 : i64 ((4 : Int) - 1) = 3 := by kernel_rfl
    have hW : i64 ((32 : Int).tdiv ((4 : Nat) : Int)) = ((8 : Nat) : Int) := by kernel_rfl
    have hs : ∀ u, 0 ≤ u → u < 2 ^ 8 → F69_d 600 (u, ((8 : Nat) : Int)) = some (sgn8 u, 0) := fun u h1 h2 => sign8 ⟨h1, by omega⟩
    have s1 := unp_step 4 8 (by omega) hW (by omega) sgn8 hs [] (by simp) v 3 599 (by omega)
    have s2 := unp_step 4 8 (by omega) hW (by omega) sgn8 hs ([] ++ [sgn8 (v / 2 ^ (3 * 8) % 2 ^ 8)]) (by simp) v 2 598 (by omega)
    have s3 := unp_step 4 8 (by omega) hW (by omega) sgn8 hs ([] ++ [sgn8 (v / 2 ^ (3 * 8) % 2 ^ 8)] ++ [sgn8 (v / 2 ^ (2 * 8) % 2 ^ 8)]) (by simp) v 1 597 (by omega)
    have s4 := unp_step 4 8 (by omega) hW (by omega) sgn8 hs ([] ++ [sgn8 (v / 2 ^ (3 * 8) % 2 ^ 8)] ++ [sgn8 (v / 2 ^ (2 * 8) % 2 ^ 8)] ++ [sgn8 (v / 2 ^ (1 * 8) % 2 ^ 8)]) (by simp) v 0 596 (by omega)
    have s5 := unp_end ([] ++ [sgn8 (v / 2 ^ (3 * 8) % 2 ^ 8)] ++ [sgn8 (v / 2 ^ (2 * 8) % 2 ^ 8)] ++ [sgn8 (v / 2 ^ (1 * 8) % 2 ^ 8)] ++ [sgn8 (v / 2 ^ (0 * 8) % 2 ^ 8)]) v 4 595
    have r : (F79_l6 600).L 600 (([] : List (List AV)), v, 4, 3) = _ := s1.trans (s2.trans (s3.trans (s4.trans s5)))
    have u : unp 1 v = [] ++ [sgn8 (v / 2 ^ (3 * 8) % 2 ^ 8)] ++ [sgn8 (v / 2 ^ (2 * 8) % 2 ^ 8)] ++ [sgn8 (v / 2 ^ (1 * 8) % 2 ^ 8)] ++ [sgn8 (v / 2 ^ (0 * 8) % 2 ^ 8)] := by
      show [_, _, _, sgn8 (v % 256)] = [_, _, _, sgn8 (v / 1 % 256)]
      rw [Int.ediv_one]
      rfl
    simp only [F79_d, FSpec.d, F79_s, hcnt, c2, and_self, if_true, e1, e2, F79_d6, r, u]
  · have c2 : (0 : Int) ≤ 2 ∧ (2 : Int) < 4 := by omega
    have e1 : [AV.v (.int .i64 0), AV.v (.int .i64 4), AV.v (.int .i64 2), AV.v (.int .i64 1)][(2 : Int).toNat * 1]? = some (AV.v (.int .i64 2)) := rfl
    have e2 : i64 ((2 : Int) - 1) = 1 := by kernel_rfl
    have hW : i64 ((32 : Int).tdiv ((2 : Nat) : Int)) = ((16 : Nat) : Int) := by kernel_rfl
    have hs : ∀ u, 0 ≤ u → u < 2 ^ 16 → F69_d 600 (u, ((16 : Nat) : Int)) = some (sgn16 u, 0) := fun u h1 h2 => sign16 ⟨h1, by omega⟩
    have s1 := unp_step 2 16 (by omega) hW (by omega) sgn16 hs [] (by simp) v 1 599 (by omega)
    have s2 := unp_step 2 16 (by omega) hW (by omega) sgn16 hs ([] ++ [sgn16 (v / 2 ^ (1 * 16) % 2 ^ 16)]) (by simp) v 0 598 (by omega)
    have s5 := unp_end ([] ++ [sgn16 (v / 2 ^ (1 * 16) % 2 ^ 16)] ++ [sgn16 (v / 2 ^ (0 * 16) % 2 ^ 16)]) v 2 597
    have r : (F79_l6 600).L 600 (([] : List (List AV)), v, 2, 1) = _ := s1.trans (s2.trans s5)
    have u : unp 2 v = [] ++ [sgn16 (v / 2 ^ (1 * 16) % 2 ^ 16)] ++ [sgn16 (v / 2 ^ (0 * 16) % 2 ^ 16)] := by
      show [_, sgn16 (v % 65536)] = [_, sgn16 (v / 1 % 65536)]
      rw [Int.ediv_one]
      rfl
    simp only [F79_d, FSpec.d, F79_s, hcnt, c2, and_self, if_true, e1, e2, F79_d6, r, u]
  · have c2 : (0 : Int) ≤ 3 ∧ (3 : Int) < 4 := by omega
    have e1 : [AV.v (.int .i64 0), AV.v (.int .i64 4), AV.v (.int .i64 2), AV.v (.int .i64 1)][(3 : Int).toNat * 1]? = some (AV.v (.int .i64 1)) := rfl
    have e2 : i64 ((1 : Int) - 1) = 0 := by kernel_rfl
    have hW : i64 ((32 : Int).tdiv ((1 : Nat) : Int)) = ((32 : Nat) : Int) := by kernel_rfl
    have hs : ∀ u, 0 ≤ u → u < 2 ^ 32 → F69_d 600 (u, ((32 : Nat) : Int)) = some (sgn32 u, 0) := fun u h1 h2 => sign32 ⟨h1, by omega⟩
    have s1 := unp_step 1 32 (by omega) hW (by omega) sgn32 hs [] (by simp) v 0 599 (by omega)
    have s5 := unp_end ([] ++ [sgn32 (v / 2 ^ (0 * 32) % 2 ^ 32)]) v 1 598
    have r : (F79_l6 600).L 600 (([] : List (List AV)), v, 1, 0) = _ := s1.trans s5
    have u : unp 3 v = [] ++ [sgn32 (v / 2 ^ (0 * 32) % 2 ^ 32)] := by
      show [sgn32 (v % 4294967296)] = [sgn32 (v / 1 % 4294967296)]
      rw [Int.ediv_one]
    simp only [F79_d, FSpec.d, F79_s, hcnt, c2, and_self, if_true, e1, e2, F79_d6, r, u]
end Go.Proofs.YtdmedeaknnldcaaDoor
