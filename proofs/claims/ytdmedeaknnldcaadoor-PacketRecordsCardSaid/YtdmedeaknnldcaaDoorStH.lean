/- Steim, the plain law: decoding what was encoded. -/
import Derived.Test.YtdmedeaknnldcaaDoorStG
namespace Go.Proofs.YtdmedeaknnldcaaDoor
open Go.RowKit
set_option linter.unusedVariables false
set_option linter.unusedSimpArgs false
set_option linter.unnecessarySimpa false
theorem fm4_get : ∀ (W : List Int) (m j : Nat), m < W.length → j < 4 → (W.flatMap be4).getD (4 * m + j) 0 = (be4 (W.getD m 0)).getD j 0
  | [], m, j, h, _ => by cases h
  | a :: r, 0, j, h, hj => by
    rw [List.flatMap_cons, List.getD_eq_getElem?_getD, List.getElem?_append_left (by show 4 * 0 + j < 4; omega), Nat.mul_zero, Nat.zero_add, List.getD_cons_zero, List.getD_eq_getElem?_getD]
  | a :: r, m + 1, j, h, hj => by
    have ih := fm4_get r m j (by simpa using h) hj
    have e4 : (be4 a).length = 4 := rfl
    rw [List.flatMap_cons, List.getD_eq_getElem?_getD, List.getElem?_append_right (by omega), e4, show 4 * (m + 1) + j - 4 = 4 * m + j by omega, List.getD_cons_succ, ← List.getD_eq_getElem?_getD]
    exact ih
theorem get4_str (W : List Int) (m : Nat) (h : m < W.length) (hr : 0 ≤ W.getD m 0 ∧ W.getD m 0 ≤ 4294967295) : get4 (strOfNums (W.flatMap be4)) (4 * m) = W.getD m 0 := by
  unfold get4
  rw [nums_strOf (be4_all W)]
  have e0 := fm4_get W m 0 h (by omega)
  have e1 := fm4_get W m 1 h (by omega)
  have e2 := fm4_get W m 2 h (by omega)
  have e3 := fm4_get W m 3 h (by omega)
  rw [Nat.add_zero] at e0
  rw [e0, e1, e2, e3]
  generalize W.getD m 0 = n at hr ⊢
  simp only [be4, List.getD_cons_zero, List.getD_cons_succ]
  omega
theorem allw_get : ∀ (k n : Nat) (L : List Wo) (i : Nat), k < n → i < 16 → (allw n L).getD (16 * k + i) 0 = (hor 0 (pad 15 (L.drop (15 * k))) :: (pad 15 (L.drop (15 * k))).map (·.2)).getD i 0
  | 0, n, L, i, hk, hi => by
    obtain ⟨n, rfl⟩ : ∃ n', n = n' + 1 := ⟨n - 1, by omega⟩
    simp only [Nat.mul_zero, Nat.zero_add, List.drop_zero]
    show ((hor 0 (pad 15 L) :: (pad 15 L).map (·.2)) ++ allw n (L.drop 15)).getD i 0 = _
    rw [List.getD_eq_getElem?_getD, List.getElem?_append_left (by simp [pad_len]; omega), ← List.getD_eq_getElem?_getD]
  | k + 1, n, L, i, hk, hi => by
    obtain ⟨n, rfl⟩ : ∃ n', n = n' + 1 := ⟨n - 1, by omega⟩
    have ih := allw_get k n (L.drop 15) i (by omega) hi
    have hl : (hor 0 (pad 15 L) :: (pad 15 L).map (·.2)).length = 16 := by simp [pad_len]
    show ((hor 0 (pad 15 L) :: (pad 15 L).map (·.2)) ++ allw n (L.drop 15)).getD (16 * (k + 1) + i) 0 = _
    rw [List.getD_eq_getElem?_getD, List.getElem?_append_right (by omega), hl, show 16 * (k + 1) + i - 16 = 16 * k + i by omega, ← List.getD_eq_getElem?_getD, ih, List.drop_drop, show 15 + 15 * k = 15 * (k + 1) by omega]
theorem hor_snoc (a : Int) (ws : List Wo) (w : Wo) : hor a (ws ++ [w]) = 4 * hor a ws + w.1 := by
  unfold hor
  rw [List.foldl_append]
  rfl
theorem hor_rng : ∀ (n : Nat) (ws : List Wo), ws.length = n → (∀ w ∈ ws, WOk w) → 0 ≤ hor 0 ws ∧ hor 0 ws < 4 ^ n
  | 0, ws, h, _ => by
    obtain rfl := List.length_eq_zero_iff.1 h
    show (0 : Int) ≤ 0 ∧ (0 : Int) < 1
    omega
  | n + 1, ws, h, hw => by
    rcases List.eq_nil_or_concat ws with rfl | ⟨ws', w, rfl⟩
    · simp at h
    · rw [List.concat_eq_append] at h hw ⊢
      have ih := hor_rng n ws' (by simpa using h) (fun x hx => hw x (List.mem_append_left _ hx))
      have h1 := (hw w (by simp)).1
      rw [hor_snoc, Int.pow_succ]
      omega
/-- The codes come back. -/
theorem hor_digit : ∀ (j : Nat) (ws : List Wo), j < ws.length → (∀ w ∈ ws, WOk w) → hor 0 ws / 4 ^ j % 4 = (ws.getD (ws.length - 1 - j) (0, 0)).1
  | 0, ws, hj, hw => by
    rcases List.eq_nil_or_concat ws with rfl | ⟨ws', w, rfl⟩
    · simp at hj
    · rw [List.concat_eq_append] at hj hw ⊢
      have h1 := (hw w (by simp)).1
      have e : (ws' ++ [w]).getD ((ws' ++ [w]).length - 1 - 0) (0, 0) = w := by
        rw [List.length_append, List.length_singleton, show ws'.length + 1 - 1 - 0 = ws'.length by omega, List.getD_eq_getElem?_getD, List.getElem?_append_right (by omega), Nat.sub_self]
        rfl
      rw [hor_snoc, e, Int.pow_zero, Int.ediv_one]
      omega
  | j + 1, ws, hj, hw => by
    rcases List.eq_nil_or_concat ws with rfl | ⟨ws', w, rfl⟩
    · simp at hj
    · rw [List.concat_eq_append] at hj hw ⊢
      rw [List.length_append, List.length_singleton] at hj
      have h1 := (hw w (by simp)).1
      have ih := hor_digit j ws' (by omega) (fun x hx => hw x (List.mem_append_left _ hx))
      have e : (ws' ++ [w]).getD ((ws' ++ [w]).length - 1 - (j + 1)) (0, 0) = ws'.getD (ws'.length - 1 - j) (0, 0) := by
        rw [List.length_append, List.length_singleton, show ws'.length + 1 - 1 - (j + 1) = ws'.length - 1 - j by omega, List.getD_eq_getElem?_getD, List.getElem?_append_left (by omega), ← List.getD_eq_getElem?_getD]
      have e2 : (4 * hor 0 ws' + w.1) / 4 ^ (j + 1) = hor 0 ws' / 4 ^ j := by
        rw [Int.pow_succ, Int.mul_comm (4 ^ j) 4, ← Int.ediv_ediv_of_nonneg (by omega)]
        congr 1
        omega
      rw [hor_snoc, e, e2, ih]
theorem pow24 (n : Nat) : (2 : Int) ^ (2 * n) = 4 ^ n := by
  rw [Int.pow_mul]
  rfl
section
variable {n : Nat} {L : List Wo}
theorem fs_word (k i : Nat) (hk : k < n) (hi : i < 16) (hL : ∀ w ∈ L, WOk w) : get4 (FS n L) (64 * k + 4 * i) = (hor 0 (pad 15 (L.drop (15 * k))) :: (pad 15 (L.drop (15 * k))).map (·.2)).getD i 0 := by
  have hp := pad_ok 15 (L.drop (15 * k)) (fun w hw => hL w (List.mem_of_mem_drop hw))
  have hg := allw_get k n L i hk hi
  have hh := hor_rng 15 (pad 15 (L.drop (15 * k))) (pad_len _ _) hp
  have hr : 0 ≤ (allw n L).getD (16 * k + i) 0 ∧ (allw n L).getD (16 * k + i) 0 ≤ 4294967295 := by
    rw [hg]
    cases i with
    | zero => rw [List.getD_cons_zero]; omega
    | succ i =>
      rw [List.getD_cons_succ, List.getD_eq_getElem?_getD, List.getElem?_map]
      have hi2 : i < (pad 15 (L.drop (15 * k))).length := by rw [pad_len]; omega
      rw [List.getElem?_eq_getElem hi2]
      exact (hp _ (List.getElem_mem hi2)).2
  have := get4_str (allw n L) (16 * k + i) (by rw [allw_len]; omega) hr
  rw [hg] at this
  rw [show 64 * k + 4 * i = 4 * (16 * k + i) by omega]
  exact this
theorem fs_head (k : Nat) (hk : k < n) (hL : ∀ w ∈ L, WOk w) : get4 (FS n L) (64 * k) = hor 0 (pad 15 (L.drop (15 * k))) := fs_word k 0 hk (by omega) hL
theorem fs_cod0 (k : Nat) (hk : k < n) (hL : ∀ w ∈ L, WOk w) : codA (FS n L) k 0 = 0 := by
  have hp := pad_ok 15 (L.drop (15 * k)) (fun w hw => hL w (List.mem_of_mem_drop hw))
  have hh := hor_rng 15 (pad 15 (L.drop (15 * k))) (pad_len _ _) hp
  unfold codA
  rw [fs_head k hk hL]
  have e : (2 : Int) ^ (30 - 2 * 0) = 1073741824 := rfl
  rw [e]
  omega
theorem fs_cod (k j : Nat) (hk : k < n) (hj : j < 15) (hL : ∀ w ∈ L, WOk w) : codA (FS n L) k (j + 1) = ((pad 15 (L.drop (15 * k))).getD j (0, 0)).1 := by
  have hp := pad_ok 15 (L.drop (15 * k)) (fun w hw => hL w (List.mem_of_mem_drop hw))
  unfold codA
  rw [fs_head k hk hL, show 30 - 2 * (j + 1) = 2 * (14 - j) by omega, pow24]
  have := hor_digit (14 - j) (pad 15 (L.drop (15 * k))) (by rw [pad_len]; omega) hp
  rw [pad_len, show 15 - 1 - (14 - j) = j by omega] at this
  exact this
theorem fs_wd (k j : Nat) (hk : k < n) (hj : j < 15) (hL : ∀ w ∈ L, WOk w) : wdA (FS n L) k (j + 1) = ((pad 15 (L.drop (15 * k))).getD j (0, 0)).2 := by
  unfold wdA
  rw [fs_word k (j + 1) hk (by omega) hL, List.getD_cons_succ]
  have hj2 : j < (pad 15 (L.drop (15 * k))).length := by rw [pad_len]; omega
  simp only [List.getD_eq_getElem?_getD, List.getElem?_map, List.getElem?_eq_getElem hj2]
  rfl
theorem range_fm {α β : Type} (f : α → List β) (d : α) : ∀ l : List α, ((List.range l.length).flatMap fun j => f (l.getD j d)) = l.flatMap f := by
  intro l
  have : l = (List.range l.length).map fun j => l.getD j d := by
    apply List.ext_getElem
    · simp
    · intro i h1 h2
      simp [List.getD, h1]
  conv => rhs; rw [this]
  rw [List.flatMap_map]
theorem fs_frm (k : Nat) (hk : k < n) (hL : ∀ w ∈ L, WOk w) : frm (FS n L) k 15 = (pad 15 (L.drop (15 * k))).flatMap fun w => unp w.1 w.2 := by
  have h := range_fm (fun w : Wo => unp w.1 w.2) (0, 0) (pad 15 (L.drop (15 * k)))
  rw [pad_len] at h
  rw [← h]
  unfold frm
  rw [List.flatMap_def, List.flatMap_def]
  congr 1
  apply List.map_congr_left
  intro j hj
  rw [List.mem_range] at hj
  rw [fs_cod k j hk hj hL, fs_wd k j hk hj hL]
theorem pad_unp : ∀ (m : Nat) (L : List Wo), ((pad m L).flatMap fun w => unp w.1 w.2) = (L.take m).flatMap fun w => unp w.1 w.2
  | 0, L => by simp [pad]
  | m + 1, [] => by
    have := pad_unp m []
    simp only [pad, List.headD_nil, List.tail_nil, List.flatMap_cons, this, List.take_nil, List.flatMap_nil, List.append_nil]
    rfl
  | m + 1, a :: r => by
    have := pad_unp m r
    simp only [pad, List.headD_cons, List.tail_cons, List.flatMap_cons, this, List.take_succ_cons]
theorem fs_frms (hL : ∀ w ∈ L, WOk w) : ∀ (j k : Nat), k + j = n → (L.drop (15 * k)).length ≤ 15 * j → frms (FS n L) k j = (L.drop (15 * k)).flatMap fun w => unp w.1 w.2
  | 0, k, hk, hl => by
    rw [List.length_eq_zero_iff.1 (by omega : (L.drop (15 * k)).length = 0)]
    rfl
  | j + 1, k, hk, hl => by
    have ih := fs_frms hL j (k + 1) (by omega) (by rw [List.length_drop] at hl ⊢; omega)
    show frm (FS n L) k 15 ++ frms (FS n L) (k + 1) j = _
    rw [fs_frm k (by omega) hL, pad_unp, ih, ← List.flatMap_append]
    congr 1
    rw [show 15 * (k + 1) = 15 * k + 15 by omega, ← List.drop_drop, List.take_append_drop]
theorem fs_bads (hL : ∀ w ∈ L, WOk w) (h1 : (L.getD 0 (0, 0)).1 = 0) (h2 : (L.getD 1 (0, 0)).1 = 0) : ∀ (j k : Nat), k + j = n → bads (FS n L) k j = false
  | 0, k, hk => rfl
  | j + 1, k, hk => by
    have ih := fs_bads hL h1 h2 j (k + 1) (by omega)
    have e0 := fs_cod0 (n := n) k (by omega) hL
    have hb : badf (FS n L) k = false := by
      by_cases k0 : k = 0
      · subst k0
        have e1 := fs_cod (n := n) 0 0 (by omega) (by omega) hL
        have e2 := fs_cod (n := n) 0 1 (by omega) (by omega) hL
        have q1 : ((pad 15 (L.drop (15 * 0))).getD 0 (0, 0)).1 = 0 := by
          rw [← h1]
          cases L <;> rfl
        have q2 : ((pad 15 (L.drop (15 * 0))).getD 1 (0, 0)).1 = 0 := by
          rw [← h2]
          match L with
          | [] => rfl
          | [a] => rfl
          | a :: b :: r => rfl
        rw [q1] at e1
        rw [q2] at e2
        simp [badf, e0, e1, e2]
      · simp [badf, e0, k0]
    show (badf (FS n L) k || bads (FS n L) (k + 1) j) = false
    rw [hb, ih]; rfl
theorem fs_dcm (hn : 1 ≤ n ∧ n ≤ 8) (hl : L.length ≤ 15 * n) (hL : ∀ w ∈ L, WOk w) (h1 : (L.getD 0 (0, 0)).1 = 0) (h2 : (L.getD 1 (0, 0)).1 = 0) : dcm (FS n L) = some (L.flatMap fun w => unp w.1 w.2) := by
  have e : (FS n L).size / 64 = n := by rw [FS_size]; omega
  unfold dcm
  rw [e, if_pos ⟨by rw [FS_size]; omega, hn.1, hn.2, fs_bads hL h1 h2 n 0 (by omega)⟩, fs_frms hL n 0 (by omega) (by simpa using hl)]
  rfl
theorem fs_first (hn : 1 ≤ n) (hL : ∀ w ∈ L, WOk w) : get4 (FS n L) 4 = (L.getD 0 (0, 0)).2 ∧ get4 (FS n L) 8 = (L.getD 1 (0, 0)).2 := by
  have e1 := fs_wd (n := n) 0 0 (by omega) (by omega) hL
  have e2 := fs_wd (n := n) 0 1 (by omega) (by omega) hL
  refine ⟨e1.trans ?_, e2.trans ?_⟩
  · cases L <;> rfl
  · match L with
    | [] => rfl
    | [a] => rfl
    | a :: b :: r => rfl
end
theorem sm_dX (X : List Int) : ∀ i, (h : i < X.length) → sm X[0] (dX X) i = X[i]
  | 0, h => rfl
  | i + 1, h => by
    have ih := sm_dX X i (by omega)
    have h2 : i + 1 < (dX X).length := by rw [dX_len]; exact h
    show sm X[0] (dX X) i + (dX X).getD (i + 1) 0 = _
    rw [ih, List.getD_eq_getElem?_getD, List.getElem?_eq_getElem h2, Option.getD_some, dX_get X i h]
    omega
theorem sms_dX (X : List Int) (m : Nat) (hm : m ≤ X.length) (h0 : 0 < X.length) : sms X[0] (dX X) m = X.take m := by
  apply List.ext_getElem
  · rw [sms_len, List.length_take]; omega
  · intro i h1 h2
    rw [sms_len] at h1
    rw [sms_get _ _ m i h1, sm_dX X i (by omega), List.getElem_take]
/-- Decoding frames of samples, with whatever last sample they bear. -/
theorem dec_frames (X : List Int) (hX : ∀ x ∈ X, Smp x) (h0 : X ≠ []) (hl : X.length ≤ 500) (n : Nat) (hn : 1 ≤ n ∧ n ≤ 8) (hw : (wX X).length + 2 ≤ 15 * n) (last : Int) (hla : 0 ≤ last ∧ last ≤ 4294967295) (m : Nat) (hm : 1 ≤ m ∧ m ≤ X.length) (hm2 : m ≤ 420) :
    decR (FS n ((0, X.headD 0 % 4294967296) :: (0, last) :: wX X)) (m : Int) = if X.getD (m - 1) 0 = sgn32 last then (X.take m, 0) else ([], 11) := by
  have hp : 0 < X.length := List.length_pos_iff.2 h0
  have eh : X.headD 0 = X[0] := by cases X with | nil => exact absurd rfl h0 | cons a r => rfl
  obtain ⟨w1, w2⟩ := wds_ok X.length (dX X) (by rw [dX_len]; omega) (dX_fit hX)
  have hL : ∀ w ∈ ((0, X.headD 0 % 4294967296) :: (0, last) :: wX X : List Wo), WOk w := by
    intro w hw
    rcases List.mem_cons.1 hw with rfl | hw
    · unfold WOk; dsimp only; omega
    rcases List.mem_cons.1 hw with rfl | hw
    · unfold WOk; dsimp only; omega
    have := w2 w hw
    unfold WOk
    omega
  have hd := fs_dcm (n := n) hn (by simp; omega) hL rfl rfl
  have hD : (((0, X.headD 0 % 4294967296) :: (0, last) :: wX X : List Wo).flatMap fun w => unp w.1 w.2) = dX X := by
    rw [List.flatMap_cons, List.flatMap_cons]
    show [] ++ ([] ++ (wX X).flatMap fun w => unp w.1 w.2) = _
    rw [List.nil_append, List.nil_append]
    exact w1
  rw [hD] at hd
  obtain ⟨f1, f2⟩ := fs_first (n := n) hn.1 hL
  have f1' : get4 (FS n ((0, X.headD 0 % 4294967296) :: (0, last) :: wX X)) 4 = X.headD 0 % 4294967296 := f1
  have f2' : get4 (FS n ((0, X.headD 0 % 4294967296) :: (0, last) :: wX X)) 8 = last := f2
  have s0 := hX _ (List.getElem_mem hp)
  have e0 : sgn32 (X.headD 0 % 4294967296) = X[0] := by
    rw [eh]
    refine sgn32_mod ?_
    unfold Smp at s0
    unfold Fit32
    omega
  have hlen := dX_len X
  unfold decR
  rw [if_pos (by omega), hd, f1', f2', e0]
  simp only
  rw [if_neg (by omega), Int.toNat_natCast, sms_dX X m hm.2 hp, sm_dX X (m - 1) (by omega)]
  have hall : ((X.take m).all fun x => decide (Smp x)) = true := by
    rw [List.all_eq_true]
    exact fun x hx => decide_eq_true (hX x (List.mem_of_mem_take hx))
  have eg : X.getD (m - 1) 0 = X[m - 1] := by
    rw [List.getD_eq_getElem?_getD, List.getElem?_eq_getElem (by omega)]; rfl
  rw [if_pos hall, eg]
end Go.Proofs.YtdmedeaknnldcaaDoor
