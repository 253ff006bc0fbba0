/- Steim, the plain law: SteimWords. -/
import Derived.Test.YteplhedodcaljaaStK
import Derived.Test.YteplhedodcaljaaStV
namespace Go.Proofs.Yteplhedodcaljaa
open Go.RowKit
set_option linter.unusedVariables false
set_option linter.unusedSimpArgs false
set_option linter.unnecessarySimpa false
def cw (n : Nat) : Nat := n / 4 + n % 4 / 2 + n % 2
theorem fit4_of {D : List Int} (h : 4 ≤ D.length) (hs : ∀ x ∈ D.take 4, Fit8 x) : fitB 4 Fit8 D = true := by
  unfold fitB
  rw [decide_eq_true h, Bool.true_and, List.all_eq_true]
  exact fun x hx => decide_eq_true (hs x hx)
theorem fit2_of {D : List Int} (h : 2 ≤ D.length) (hs : ∀ x ∈ D.take 2, Fit16 x) : fitB 2 Fit16 D = true := by
  unfold fitB
  rw [decide_eq_true h, Bool.true_and, List.all_eq_true]
  exact fun x hx => decide_eq_true (hs x hx)
theorem fit_short {n : Nat} {P : Int → Prop} [DecidablePred P] {D : List Int} (h : ¬ n ≤ D.length) : fitB n P D = false := by
  unfold fitB
  rw [decide_eq_false h, Bool.false_and]
theorem fit_has {n : Nat} {P : Int → Prop} [DecidablePred P] {D : List Int} {x : Int} (h : x ∈ D.take n) (hp : ¬ P x) : fitB n P D = false := by
  unfold fitB
  cases hq : (D.take n).all (fun x => decide (P x)) with
  | false => rw [Bool.and_false]
  | true =>
    rw [List.all_eq_true] at hq
    have := hq x h
    rw [decide_eq_true_iff] at this
    exact absurd this hp
theorem f16_8 {x : Int} (h : Fit8 x) : Fit16 x := by unfold Fit8 at h; unfold Fit16; omega
theorem wds_cons (n : Nat) (D : List Int) (h : D ≠ []) : wds (n + 1) D = if fitB 4 Fit8 D then (1, p8 D) :: wds n (D.drop 4) else if fitB 2 Fit16 D then (2, p16 D) :: wds n (D.drop 2) else (3, p32 D) :: wds n (D.drop 1) := by
  have he : D.isEmpty = false := by cases D with | nil => exact absurd rfl h | cons => rfl
  simp only [wds, he, Bool.false_eq_true, if_false]
theorem cnt_small : ∀ (n : Nat) (D : List Int), D.length ≤ n → (∀ x ∈ D, Fit8 x) → (wds n D).length = cw D.length
  | 0, D, h, _ => by
    obtain rfl : D = [] := List.length_eq_zero_iff.1 (by omega)
    rfl
  | n + 1, D, h, hs => by
    by_cases h0 : D = []
    · subst h0; rfl
    rw [wds_cons n D h0]
    have hp : 0 < D.length := List.length_pos_iff.2 h0
    by_cases h4 : 4 ≤ D.length
    · rw [fit4_of h4 (fun x hx => hs x (List.mem_of_mem_take hx)), if_pos rfl, List.length_cons, cnt_small n (D.drop 4) (by rw [List.length_drop]; omega) (fun x hx => hs x (List.mem_of_mem_drop hx)), List.length_drop]
      unfold cw; omega
    · rw [fit_short h4, if_neg (by simp)]
      by_cases h2 : 2 ≤ D.length
      · rw [fit2_of h2 (fun x hx => f16_8 (hs x (List.mem_of_mem_take hx))), if_pos rfl, List.length_cons, cnt_small n (D.drop 2) (by rw [List.length_drop]; omega) (fun x hx => hs x (List.mem_of_mem_drop hx)), List.length_drop]
        unfold cw; omega
      · rw [fit_short h2, if_neg (by simp), List.length_cons, cnt_small n (D.drop 1) (by rw [List.length_drop]; omega) (fun x hx => hs x (List.mem_of_mem_drop hx)), List.length_drop]
        unfold cw; omega
theorem cnt_jump (B : Int) (hB : ¬ Fit16 B) (C : List Int) (hC : ∀ x ∈ C, Fit8 x) : ∀ (n : Nat) (A : List Int), (A ++ B :: C).length ≤ n → (∀ x ∈ A, Fit8 x) → (wds n (A ++ B :: C)).length = cw A.length + 1 + cw C.length
  | 0, A, h, _ => by simp at h
  | n + 1, A, h, hA => by
    have hB8 : ¬ Fit8 B := fun q => hB (f16_8 q)
    have h0 : A ++ B :: C ≠ [] := by simp
    rw [wds_cons n _ h0]
    rw [List.length_append, List.length_cons] at h
    by_cases h4 : 4 ≤ A.length
    · have e4 : (A ++ B :: C).take 4 = A.take 4 := List.take_append_of_le_length h4
      have d4 : (A ++ B :: C).drop 4 = A.drop 4 ++ B :: C := List.drop_append_of_le_length h4
      rw [fit4_of (by rw [List.length_append]; omega) (fun x hx => hA x (List.mem_of_mem_take (e4 ▸ hx))), if_pos rfl, d4, List.length_cons, cnt_jump B hB C hC n (A.drop 4) (by rw [List.length_append, List.length_cons, List.length_drop]; omega) (fun x hx => hA x (List.mem_of_mem_drop hx)), List.length_drop]
      unfold cw; omega
    · have m4 : B ∈ (A ++ B :: C).take 4 := by
        rw [List.take_append, show 4 - A.length = (3 - A.length) + 1 by omega, List.take_succ_cons]
        simp
      rw [fit_has m4 hB8, if_neg (by simp)]
      by_cases h2 : 2 ≤ A.length
      · have e2 : (A ++ B :: C).take 2 = A.take 2 := List.take_append_of_le_length h2
        have d2 : (A ++ B :: C).drop 2 = A.drop 2 ++ B :: C := List.drop_append_of_le_length h2
        rw [fit2_of (by rw [List.length_append]; omega) (fun x hx => f16_8 (hA x (List.mem_of_mem_take (e2 ▸ hx)))), if_pos rfl, d2, List.length_cons, cnt_jump B hB C hC n (A.drop 2) (by rw [List.length_append, List.length_cons, List.length_drop]; omega) (fun x hx => hA x (List.mem_of_mem_drop hx)), List.length_drop]
        unfold cw; omega
      · have m2 : B ∈ (A ++ B :: C).take 2 := by
          rw [List.take_append, show 2 - A.length = (1 - A.length) + 1 by omega, List.take_succ_cons]
          simp
        rw [fit_has m2 hB, if_neg (by simp)]
        cases A with
        | nil =>
          rw [List.nil_append, List.drop_succ_cons, List.drop_zero, List.length_cons, cnt_small n C (by simp at h; omega) hC]
          unfold cw
          simp
          omega
        | cons a r =>
          have hr : r = [] := List.length_eq_zero_iff.1 (by rw [List.length_cons] at h2; omega)
          subst hr
          have := cnt_jump B hB C hC n [] (by simp at h ⊢; omega) (fun x hx => by cases hx)
          rw [List.nil_append] at this
          rw [show ([a] ++ B :: C).drop 1 = B :: C from rfl, List.length_cons, this]
          unfold cw
          simp
          omega
/-! The samples of the law. -/
def xv : Nat → Int
  | 0 => 0
  | i + 1 => xv i + ((i + 1 : Nat) : Int) % 5 - 2
theorem xv_rng : ∀ i : Nat, -2 * (i : Int) ≤ xv i ∧ xv i ≤ 2 * (i : Int)
  | 0 => by simp [xv]
  | i + 1 => by
    have := xv_rng i
    unfold xv
    omega
def xs0 (n : Nat) : List Int := (List.range n).map xv
theorem xs0_len (n : Nat) : (xs0 n).length = n := by simp [xs0]
theorem xs0_get (n i : Nat) (h : i < n) : (xs0 n)[i]'(by rw [xs0_len]; exact h) = xv i := by simp [xs0]
theorem x_loop (x2 x3 : Int) (n : Nat) (hn : n ≤ 60) : ∀ (k i f : Nat), k < f → i + k = n → 1 ≤ i → (F4_l6 600).L f (rowsI (xs0 i), x2, x3, (n : Int), (i : Int)) = some (rowsI (xs0 n), x2, x3, (n : Int))
  | 0, i, f, hf, hi, h1 => by
    obtain ⟨f, rfl⟩ : ∃ f', f = f' + 1 := ⟨f - 1, by omega⟩
    obtain rfl : i = n := by omega
    show (F4_l6 600).b _ _ ((F4_l6 600).L f) some = _
    have c : decide ((i : Int) < (i : Int)) = false := by rw [decide_eq_false_iff_not]; omega
    simp only [F4_l6, c]
  | k + 1, i, f, hf, hi, h1 => by
    obtain ⟨f, rfl⟩ : ∃ f', f = f' + 1 := ⟨f - 1, by omega⟩
    obtain ⟨j, rfl⟩ : ∃ j, i = j + 1 := ⟨i - 1, by omega⟩
    have r1 := x_loop x2 x3 n hn k (j + 1 + 1) f (by omega) (by omega) (by omega)
    show (F4_l6 600).b _ _ ((F4_l6 600).L f) some = _
    obtain ⟨Lf, hL⟩ : ∃ Lf, Lf = (F4_l6 600).L f := ⟨_, rfl⟩
    rw [← hL] at r1 ⊢
    have c1 : decide (((j + 1 : Nat) : Int) < (n : Int)) = true := by rw [decide_eq_true_iff]; omega
    have e1 : i64 (((j + 1 : Nat) : Int) - 1) = (j : Int) := by rw [i64_id (by omega)]; omega
    have c2 : (0 : Int) ≤ (j : Int) := by omega
    have hj : j < (xs0 (j + 1)).length := by rw [xs0_len]; omega
    have g := rowsI_get (xs0 (j + 1)) j hj
    rw [xs0_get (j + 1) j (by omega)] at g
    unfold I at g
    have hr := xv_rng j
    have e2 : ((j + 1 : Nat) : Int).tmod 5 = ((j + 1 : Nat) : Int) % 5 := Int.tmod_eq_emod_of_nonneg (by omega)
    have e3 : i64 (xv j + ((j + 1 : Nat) : Int) % 5) = xv j + ((j + 1 : Nat) : Int) % 5 := i64_id (by omega)
    have e4 : i64 (xv j + ((j + 1 : Nat) : Int) % 5 - 2) = xv (j + 1) := by
      rw [i64_id (by omega)]; rfl
    have e5 : xs0 (j + 1) ++ [xv (j + 1)] = xs0 (j + 1 + 1) := by
      unfold xs0
      rw [List.range_succ (n := j + 1), List.map_append]
      rfl
    have e6 : i64 (((j + 1 : Nat) : Int) + 1) = ((j + 1 + 1 : Nat) : Int) := by rw [i64_id (by omega)]; omega
    have hb : ((rowsI (xs0 (j + 1))).length + 1) * 8 ≤ maxBytes := by rw [rowsI_len, xs0_len]; unfold maxBytes; omega
    simp only [F4_l6, c1, e1, c2, if_true, Int.toNat_natCast, g, List.getElem?_cons_zero, e2, e3, e4, List.length_cons, List.length_nil, Nat.zero_add, hb, rowsI_snoc, e5, e6]
    exact r1
def ys0 (n j : Nat) (J : Int) : List Int := (List.range n).map fun i => if j < i then xv i + J else xv i
theorem ys0_len (n j : Nat) (J : Int) : (ys0 n j J).length = n := by simp [ys0]
theorem ys0_get (n j : Nat) (J : Int) (i : Nat) (h : i < n) : (ys0 n j J)[i]'(by rw [ys0_len]; exact h) = if j < i then xv i + J else xv i := by simp [ys0]
theorem flatI (l : List Int) : (rowsI l).flatten = cellsI l := by
  induction l with
  | nil => rfl
  | cons a r ih =>
    show [I a] ++ (rowsI r).flatten = _
    rw [ih]
    rfl
theorem put_at (l m : List Int) (i : Nat) (h : i < l.length) (hm : m.length = l.length) : (l.take i ++ m.drop i).set i l[i] = l.take (i + 1) ++ m.drop (i + 1) := by
  have ht : (l.take i).length = i := by simp; omega
  rw [List.set_append_right _ _ (by omega), ht, Nat.sub_self, List.drop_eq_getElem_cons (by omega : i < m.length), List.set_cons_zero, List.take_succ_eq_append_getElem h, List.append_assoc]
  rfl
theorem y_loop (large kk jj : Int) (n j : Nat) (hn : n ≤ 60) (hj : j < n) (hla : 0 ≤ large ∧ large ≤ 255) : ∀ (k i f : Nat), k < f → i + k = n → j < i → (F4_l22 600).L f (large, (n : Int), kk, jj, n, (i : Int), cellsI ((ys0 n j (1000000 + large)).take i ++ (xs0 n).drop i)) = some ((n : Int), kk, jj, n, cellsI (ys0 n j (1000000 + large)))
  | 0, i, f, hf, hi, h1 => by
    obtain ⟨f, rfl⟩ : ∃ f', f = f' + 1 := ⟨f - 1, by omega⟩
    show (F4_l22 600).b _ _ ((F4_l22 600).L f) some = _
    have c : decide ((i : Int) < (n : Int)) = false := by rw [decide_eq_false_iff_not]; omega
    have e : (ys0 n j (1000000 + large)).take i ++ (xs0 n).drop i = ys0 n j (1000000 + large) := by
      rw [List.take_of_length_le (by rw [ys0_len]; omega), List.drop_of_length_le (by rw [xs0_len]; omega), List.append_nil]
    simp only [F4_l22, c, e, cellsI_dat]
  | k + 1, i, f, hf, hi, h1 => by
    obtain ⟨f, rfl⟩ : ∃ f', f = f' + 1 := ⟨f - 1, by omega⟩
    have r1 := y_loop large kk jj n j hn hj hla k (i + 1) f (by omega) (by omega) (by omega)
    show (F4_l22 600).b _ _ ((F4_l22 600).L f) some = _
    obtain ⟨Lf, hL⟩ : ∃ Lf, Lf = (F4_l22 600).L f := ⟨_, rfl⟩
    rw [← hL] at r1 ⊢
    have hin : i < n := by omega
    have c1 : decide ((i : Int) < (n : Int)) = true := by rw [decide_eq_true_iff]; omega
    have c2 : (0 : Int) ≤ (i : Int) ∧ (i : Int) < (n : Int) := by omega
    have e0 : (0 + i) * 1 = i := by omega
    have hl : i < ((ys0 n j (1000000 + large)).take i ++ (xs0 n).drop i).length := by simp [ys0_len, xs0_len]; omega
    have hg := cellsI_get _ i hl
    have ht : ((ys0 n j (1000000 + large)).take i).length = i := by simp [ys0_len]; omega
    have ev : ((ys0 n j (1000000 + large)).take i ++ (xs0 n).drop i)[i] = xv i := by
      rw [List.getElem_append_right (by omega)]
      simp [ht, xs0]
    rw [ev] at hg
    have hr := xv_rng i
    have e1 : IntKind.i64.wrap large = large := i64_id (by omega)
    have e2 : i64 (1000000 + large) = 1000000 + large := i64_id (by omega)
    have e3 : i64 (xv i + (1000000 + large)) = (ys0 n j (1000000 + large))[i]'(by rw [ys0_len]; exact hin) := by
      rw [i64_id (by omega), ys0_get n j _ i hin, if_pos h1]
    have hlen : i + 1 ≤ (cellsI ((ys0 n j (1000000 + large)).take i ++ (xs0 n).drop i)).length := by rw [cellsI_len]; omega
    have st := put_at (ys0 n j (1000000 + large)) (xs0 n) i (by rw [ys0_len]; exact hin) (by rw [ys0_len, xs0_len])
    have e6 : i64 ((i : Int) + 1) = ((i + 1 : Nat) : Int) := by rw [i64_id (by omega)]; omega
    simp only [F4_l22, c1, c2, and_self, if_true, Int.toNat_natCast, e0, hg, e1, e2, e3, hlen, e6, cellsI_set, st, cellsI_dat]
    exact r1
theorem dX_at (X : List Int) (i : Nat) (h : i < (dX X).length) : (dX X)[i] = if i = 0 then 0 else X.getD i 0 - X.getD (i - 1) 0 := by simp [dX]
theorem xs_dif (n i : Nat) (h : i < n) (X : List Int) (hX : X = xs0 n) : Fit8 ((dX X)[i]'(by rw [dX_len, hX, xs0_len]; exact h)) := by
  subst hX
  rw [dX_at]
  by_cases h0 : i = 0
  · rw [if_pos h0]; unfold Fit8; omega
  · rw [if_neg h0]
    obtain ⟨j, rfl⟩ : ∃ j, i = j + 1 := ⟨i - 1, by omega⟩
    have a1 : (xs0 n).getD (j + 1) 0 = xv (j + 1) := by simp [xs0, List.getD, h]
    have a2 : (xs0 n).getD (j + 1 - 1) 0 = xv j := by
      have : j < n := by omega
      simp [xs0, List.getD, this]
    have e : xv (j + 1) = xv j + ((j + 1 : Nat) : Int) % 5 - 2 := rfl
    rw [a1, a2, e]
    unfold Fit8
    omega
theorem ys_dif (n j : Nat) (J : Int) (hJ : 1000000 ≤ J) (i : Nat) (h : i < n) : (i = j + 1 → ¬ Fit16 ((dX (ys0 n j J))[i]'(by rw [dX_len, ys0_len]; exact h))) ∧ (i ≠ j + 1 → Fit8 ((dX (ys0 n j J))[i]'(by rw [dX_len, ys0_len]; exact h))) := by
  rw [dX_at]
  by_cases h0 : i = 0
  · rw [if_pos h0]
    exact ⟨fun q => by omega, fun _ => by unfold Fit8; omega⟩
  · rw [if_neg h0]
    obtain ⟨q, rfl⟩ : ∃ q, i = q + 1 := ⟨i - 1, by omega⟩
    have hq : q < n := by omega
    have a1 : (ys0 n j J).getD (q + 1) 0 = if j < q + 1 then xv (q + 1) + J else xv (q + 1) := by simp [ys0, List.getD, h]
    have a2 : (ys0 n j J).getD (q + 1 - 1) 0 = if j < q then xv q + J else xv q := by simp [ys0, List.getD, hq]
    have e : xv (q + 1) = xv q + ((q + 1 : Nat) : Int) % 5 - 2 := rfl
    rw [a1, a2, e]
    refine ⟨fun hh => ?_, fun hh => ?_⟩
    · rw [if_pos (by omega), if_neg (by omega)]
      unfold Fit16
      omega
    · unfold Fit8
      split <;> split <;> omega
theorem words_law (small large at_ : Int) (h1 : 0 ≤ small ∧ small ≤ 255) (h2 : 0 ≤ large ∧ large ≤ 255) (h3 : 0 ≤ at_ ∧ at_ ≤ 255) : F4_d 600 (small, large, at_) = some true := by
  have w1 : IntKind.i64.wrap small = small := i64_id (by omega)
  have w3 : IntKind.i64.wrap at_ = at_ := i64_id (by omega)
  have m1 : small.tmod 60 = small % 60 := Int.tmod_eq_emod_of_nonneg h1.1
  obtain ⟨n, hn⟩ : ∃ n : Nat, (n : Int) = 1 + small % 60 := ⟨(1 + small % 60).toNat, by omega⟩
  have e1 : i64 (1 + small % 60) = (n : Int) := by rw [i64_id (by omega), hn]
  have hn1 : 1 ≤ n ∧ n ≤ 60 := by omega
  have x1 := x_loop large at_ n hn1.2 (n - 1) 1 600 (by omega) (by omega) (by omega)
  replace x1 : (F4_l6 600).L 600 ([[AV.v (.int .i64 0)]], large, at_, (n : Int), 1) = _ := x1
  have hx0 : xs0 n ≠ [] := fun e => by have := xs0_len n; rw [e] at this; simp at this; omega
  have hX : ∀ x ∈ xs0 n, Smp x := fun x hx => by
    obtain ⟨i, hi, rfl⟩ := List.mem_map.1 hx
    rw [List.mem_range] at hi
    have := xv_rng i
    unfold Smp
    omega
  have hxl := xs0_len n
  have wx := words_ok (xs0 n) (by omega) hx0 hX
  have cx : (wX (xs0 n)).length = cw n := by
    have := cnt_small (xs0 n).length (dX (xs0 n)) (by rw [dX_len]; omega) (fun x hx => by
      obtain ⟨i, hi, rfl⟩ := List.getElem_of_mem hx
      rw [dX_len, hxl] at hi
      exact xs_dif n i hi _ rfl)
    rw [dX_len, hxl] at this
    unfold wX
    rw [hxl]
    exact this
  rw [cx] at wx
  have t1 : i64 ((n : Int).tdiv 4) = (n : Int) / 4 := by rw [Int.tdiv_eq_ediv_of_nonneg (by omega), i64_id (by omega)]
  have t2 : (n : Int).tmod 4 = (n : Int) % 4 := Int.tmod_eq_emod_of_nonneg (by omega)
  have t3 : i64 (((n : Int) % 4).tdiv 2) = (n : Int) % 4 / 2 := by rw [Int.tdiv_eq_ediv_of_nonneg (by omega), i64_id (by omega)]
  have t4 : (n : Int).tmod 2 = (n : Int) % 2 := Int.tmod_eq_emod_of_nonneg (by omega)
  have t5 : i64 ((n : Int) / 4 + (n : Int) % 4 / 2) = (n : Int) / 4 + (n : Int) % 4 / 2 := i64_id (by omega)
  have t6 : i64 ((n : Int) / 4 + (n : Int) % 4 / 2 + (n : Int) % 2) = ((cw n : Nat) : Int) := by
    rw [i64_id (by omega)]
    unfold cw
    omega
  have c0 : ¬ ((n : Int) = 0) := by omega
  have b1 : n * 8 ≤ maxBytes := by unfold maxBytes; omega
  have m3 : at_.tmod (n : Int) = at_ % (n : Int) := Int.tmod_eq_emod_of_nonneg h3.1
  have hj0 : 0 ≤ at_ % (n : Int) := Int.emod_nonneg _ (by omega)
  have hj1 : at_ % (n : Int) < (n : Int) := Int.emod_lt_of_pos _ (by omega)
  obtain ⟨j, hj⟩ : ∃ j : Nat, (j : Int) = at_ % (n : Int) := ⟨(at_ % (n : Int)).toNat, by omega⟩
  have hjn : j < n := by omega
  have e2 : i64 (at_ % (n : Int) + 1) = ((j + 1 : Nat) : Int) := by rw [i64_id (by omega)]; omega
  have ef : ((rowsI (xs0 n)).flatten).map dat0 = cellsI ((ys0 n j (1000000 + large)).take (j + 1) ++ (xs0 n).drop (j + 1)) := by
    rw [flatI, cellsI_dat]
    congr 1
    have : (ys0 n j (1000000 + large)).take (j + 1) = (xs0 n).take (j + 1) := by
      apply List.ext_getElem
      · simp [ys0_len, hxl]
      · intro i q1 q2
        rw [List.length_take, ys0_len] at q1
        rw [List.getElem_take, List.getElem_take, ys0_get n j _ i (by omega), xs0_get n i (by omega), if_neg (by omega)]
    rw [this, List.take_append_drop]
  have y1 := y_loop large ((cw n : Nat) : Int) (at_ % (n : Int)) n j hn1.2 hjn h2 (n - (j + 1)) (j + 1) 600 (by omega) (by omega) (by omega)
  have hyl := ys0_len n j (1000000 + large)
  have b2 : n * 1 ≤ (cellsI (ys0 n j (1000000 + large))).length := by rw [cellsI_len, hyl]; omega
  have e3 : (cellsI (ys0 n j (1000000 + large))).take (n * 1) = cellsI (ys0 n j (1000000 + large)) := List.take_of_length_le (by rw [cellsI_len, hyl]; omega)
  have e4 : chunks (cellsI (ys0 n j (1000000 + large))) 1 n = rowsI (ys0 n j (1000000 + large)) := by
    have := chunksI (ys0 n j (1000000 + large))
    rw [hyl] at this
    exact this
  have hy0 : ys0 n j (1000000 + large) ≠ [] := fun e => by rw [e] at hyl; simp at hyl; omega
  have hY : ∀ x ∈ ys0 n j (1000000 + large), Smp x := fun x hx => by
    obtain ⟨i, hi, rfl⟩ := List.mem_map.1 hx
    rw [List.mem_range] at hi
    have := xv_rng i
    unfold Smp
    split <;> omega
  have wy := words_ok (ys0 n j (1000000 + large)) (by omega) hy0 hY
  have e5 : i64 (at_ % (n : Int) + 1) = ((j + 1 : Nat) : Int) := e2
  by_cases hlast : j + 1 = n
  · -- no jump
    have eqy : ys0 n j (1000000 + large) = xs0 n := by
      unfold ys0 xs0
      apply List.map_congr_left
      intro i hi
      rw [List.mem_range] at hi
      rw [if_neg (by omega)]
    rw [eqy, cx] at wy
    have q1 : (((j + 1 : Nat) : Int) == (n : Int)) = true := by rw [beq_iff_eq]; omega
    rw [eqy] at b2 e3 e4 y1 ef
    simp only [F4_d, FSpec.d, F4_s, w1, m1, e1, F4_d6, x1, wx, t1, t2, t3, t4, t5, t6, bne_self_eq_false, c0, if_false, b1, if_true, w3, m3, e2, rowsI_len, hxl, ef, F4_d22, y1, b2, e3, e4, q1, beq_self_eq_true, sane_ok]
  · have q1 : (((j + 1 : Nat) : Int) == (n : Int)) = false := by rw [beq_eq_false_iff_ne]; omega
    have cy : (wX (ys0 n j (1000000 + large))).length = cw (j + 1) + 1 + cw (n - (j + 2)) := by
      have hdl : (dX (ys0 n j (1000000 + large))).length = n := by rw [dX_len, hyl]
      have sp : dX (ys0 n j (1000000 + large)) = (dX (ys0 n j (1000000 + large))).take (j + 1) ++ (dX (ys0 n j (1000000 + large)))[j + 1]'(by omega) :: (dX (ys0 n j (1000000 + large))).drop (j + 2) := by
        rw [← List.drop_eq_getElem_cons, List.take_append_drop]
      have := cnt_jump ((dX (ys0 n j (1000000 + large)))[j + 1]'(by omega)) ((ys_dif n j (1000000 + large) (by omega) (j + 1) (by omega)).1 rfl) ((dX (ys0 n j (1000000 + large))).drop (j + 2)) (fun x hx => by
        obtain ⟨i, hi, rfl⟩ := List.getElem_of_mem hx
        rw [List.length_drop, hdl] at hi
        rw [List.getElem_drop]
        exact (ys_dif n j (1000000 + large) (by omega) (j + 2 + i) (by omega)).2 (by omega)) n ((dX (ys0 n j (1000000 + large))).take (j + 1)) (by rw [← sp]; omega) (fun x hx => by
        obtain ⟨i, hi, rfl⟩ := List.getElem_of_mem hx
        rw [List.length_take, hdl] at hi
        rw [List.getElem_take]
        exact (ys_dif n j (1000000 + large) (by omega) i (by omega)).2 (by omega))
      rw [← sp, List.length_take, List.length_drop, hdl, Nat.min_eq_left (by omega)] at this
      unfold wX
      rw [hyl]
      exact this
    rw [cy] at wy
    obtain ⟨b3, b4⟩ := back (ys0 n j (1000000 + large)) hY (by omega) n (by omega)
    have el : (ys0 n j (1000000 + large)).getD (n - 1) 0 = (ys0 n j (1000000 + large)).getLastD 0 := by
      have := getLast_at (ys0 n j (1000000 + large)) (by omega)
      rw [hyl] at this
      exact this
    rw [if_pos el, List.take_of_length_le (by rw [hyl]; omega)] at b4
    have s1 := same_ok (ys0 n j (1000000 + large)) (by omega)
    have q2 : decide (((cw (j + 1) + 1 + cw (n - (j + 2)) : Nat) : Int) > i64 ((n : Int).tdiv 4)) = true := by
      rw [decide_eq_true_iff, t1]
      unfold cw
      omega
    rw [t1] at q2
    have e7 : i64 (((cw n : Nat) : Int) + 3) = ((cw n : Nat) : Int) + 3 := by
      rw [i64_id]
      unfold cw
      omega
    have q3 : decide (((cw (j + 1) + 1 + cw (n - (j + 2)) : Nat) : Int) ≤ ((cw n : Nat) : Int) + 3) = true := by
      rw [decide_eq_true_iff]
      unfold cw
      omega
    simp only [F4_d, FSpec.d, F4_s, w1, m1, e1, F4_d6, x1, wx, t1, t2, t3, t4, t5, t6, bne_self_eq_false, c0, if_false, b1, if_true, w3, m3, e2, rowsI_len, hxl, ef, F4_d22, y1, b2, e3, e4, wy, q1, b3, b4, q2, e7, q3, beq_self_eq_true, s1, sane_ok]
theorem steim_words (x y z : Int) (hx : 0 ≤ x ∧ x ≤ 255) (hy : 0 ≤ y ∧ y ≤ 255) (hz : 0 ≤ z ∧ z ≤ 255) (W : World) :
    Calls Try.prog 4 #[.int .u8 x, .int .u8 y, .int .u8 z] W fun e w' => e = .returned (.bool true) ∧ Below W.heap.size W w' := by
  have ok := (F4_e 600).ok (x, y, z) true (words_law x y z hx hy hz)
  refine CallOk.calls (args := [.v (.int .u8 x), .v (.int .u8 y), .v (.int .u8 z)]) ok W _ rfl (fun i h h' => ?_)
  have : i = 0 ∨ i = 1 ∨ i = 2 := by simp at h; omega
  rcases this with rfl | rfl | rfl <;> exact .v
end Go.Proofs.Yteplhedodcaljaa
