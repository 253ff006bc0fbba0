/- The detector, plain laws: open, Run. -/
import Derived.Test.YtaiadjadgpgnmaaDtC
namespace Go.Proofs.Ytaiadjadgpgnmaa
set_option linter.unusedVariables false
set_option linter.unusedSimpArgs false
set_option linter.unnecessarySimpa false
def cellsI (xs : List Int) : List AV := xs.map I
theorem rowsI_flat (xs : List Int) : (rowsI xs).flatten = cellsI xs := by
  induction xs with
  | nil => rfl
  | cons x r ih =>
    show [I x] ++ (rowsI r).flatten = I x :: cellsI r
    rw [ih]; rfl
theorem cellsI_len (xs : List Int) : (cellsI xs).length = xs.length := by simp [cellsI]
theorem splice_all {α : Type} {cs new : List α} (h : new.length = cs.length) : splice cs 0 new = new := by
  apply List.ext_getElem?
  intro j
  rw [splice_get new cs 0 (by omega) j]
  split
  · simp
  · rename_i hj
    rw [List.getElem?_eq_none (by omega), List.getElem?_eq_none (by omega)]
theorem chunks_one : ∀ (xs : List Int), chunks (cellsI xs) 1 xs.length = rowsI xs
  | [] => rfl
  | x :: r => by
    show ((cellsI (x :: r)).take 1).map dat0 :: chunks ((cellsI (x :: r)).drop 1) 1 r.length = [I x] :: rowsI r
    rw [show (cellsI (x :: r)).drop 1 = cellsI r from rfl, chunks_one r]
    rfl
theorem zeros_cells (n : Nat) : List.replicate n (AV.v (.int .i64 0)) = cellsI (List.replicate n 0) := by simp [cellsI]
theorem ab_id {x : Int} (h : Abs x) : ab x = x := by
  unfold Abs at h
  unfold ab
  split <;> omega
theorem ab_map {l : List Int} (h : ∀ v ∈ l, Abs v) : l.map ab = l := by
  induction l with
  | nil => rfl
  | cons x r ih =>
    rw [List.map_cons, ab_id (h x List.mem_cons_self), ih fun v hv => h v (List.mem_cons_of_mem _ hv)]
theorem Abs.smp {x : Int} (h : Abs x) : Smp x := by
  unfold Abs at h; unfold Smp; omega
theorem wrong_ok {x : Int} (h : Smp x) (N : Nat) : F34_d N x = some false := by
  obtain ⟨h1, h2⟩ := h
  have c1 : decide (x ≥ -1073741823) = true := by simp; omega
  have c2 : decide (x ≤ 1073741823) = true := by simp; omega
  simp only [F34_d, FSpec.d, F34_s, F37_d, F37_s, c1, c2, Bool.not_true]
theorem idx_loop (N : Nat) (l : List Int) (hl : l.length ≤ 100000) (hx : ∀ x ∈ l, Smp x) : ∀ (k i f : Nat), k < f → i + k = l.length → (F48_l4 N).L f (rowsI l, (l.length : Int), (i : Int)) = some (.inr ())
  | 0, i, f, hf, hi => by
    obtain ⟨f, rfl⟩ : ∃ f', f = f' + 1 := ⟨f - 1, by omega⟩
    show (F48_l4 N).b _ _ ((F48_l4 N).L f) some = _
    have c : decide ((i : Int) < (l.length : Int)) = false := by simp; omega
    simp only [F48_l4, c]
  | k + 1, i, f, hf, hi => by
    obtain ⟨f, rfl⟩ : ∃ f', f = f' + 1 := ⟨f - 1, by omega⟩
    have hlt : i < l.length := by omega
    have hs := hx _ (List.getElem_mem hlt)
    have c1 : decide ((i : Int) < (l.length : Int)) = true := by simp; omega
    have c2 : (0 : Int) ≤ (i : Int) := by omega
    have e2 : i64 ((i : Int) + 1) = ((i + 1 : Nat) : Int) := by rw [i64_id (by omega)]; omega
    have r := idx_loop N l hl hx k (i + 1) f (by omega) (by omega)
    show (F48_l4 N).b _ _ ((F48_l4 N).L f) some = _
    obtain ⟨Lf, hL⟩ : ∃ Lf, Lf = (F48_l4 N).L f := ⟨_, rfl⟩
    rw [← hL] at r ⊢
    simp only [F48_l4, c1, c2, if_true, Int.toNat_natCast, rowsI_get l i hlt, List.getElem?_cons_zero, wrong_ok hs, e2]
    exact r
theorem cont_ok (l : List Int) (hl : l.length ≤ 590) (hx : ∀ x ∈ l, Smp x) : F33_d 600 (rowsI l) = some false := by
  have r := idx_loop 600 l (by omega) hx l.length 0 600 (by omega) (by omega)
  replace r : (F48_l4 600).L 600 (rowsI l, (l.length : Int), 0) = _ := r
  have c : decide ((-1 : Int) ≥ 0) = false := rfl
  simp only [F33_d, FSpec.d, F33_s, F48_d, F48_s, F48_d4, rowsI_len, r, c]
theorem open_ok {S L a b : Int} (h : DtOk S L a b) {pa : List Int} (hpa : ∀ v ∈ pa, Abs v) (hl : (pa.length : Int) < L) (c o f p : Int) : F35_d 600 (S, L, a, b, rowsI pa, c, o, f, p) = some (S, L, a, b, rowsI pa, c, o, f, p, (pa.drop (pa.length - (S.toNat - 1))).sum, pa.sum, []) := by
  obtain ⟨h1, h2, h3, h4, h5, h6⟩ := h
  have e1 : i64 ((pa.length : Int) + 512) = (pa.length : Int) + 512 := i64_id (by omega)
  have e2 : i64 ((pa.length : Int) - S) = (pa.length : Int) - S := i64_id (by omega)
  have e3 : i64 ((pa.length : Int) - S + 1) = (pa.length : Int) - S + 1 := i64_id (by omega)
  have b0 : (0 : Int) ≤ (pa.length : Int) ∧ (pa.length : Int) ≤ (pa.length : Int) + 512 ∧ ((pa.length : Int) + 512).toNat * 8 ≤ maxBytes := ⟨by omega, by omega, by unfold maxBytes; omega⟩
  have b1 : (0 + pa.length) * 1 ≤ (cellsI (List.replicate pa.length 0)).length := by rw [cellsI_len]; simp
  have s1 : splice (cellsI (List.replicate pa.length 0)) (0 * 1) (((rowsI pa).take (Nat.min pa.length pa.length)).flatten) = cellsI pa := by
    rw [show Nat.min pa.length pa.length = pa.length from Nat.min_self _, List.take_of_length_le (by rw [rowsI_len]; omega), rowsI_flat, Nat.zero_mul, splice_all (by rw [cellsI_len, cellsI_len]; simp)]
  have b2 : pa.length * 1 ≤ (cellsI pa).length := by rw [cellsI_len]; omega
  have s2 : (cellsI pa).take (pa.length * 1) = cellsI pa := List.take_of_length_le (by rw [cellsI_len]; omega)
  have d : (if (pa.length : Int) - S + 1 > 0 then (pa.length : Int) - S + 1 else 0) = ((pa.length - (S.toNat - 1) : Nat) : Int) := by split <;> omega
  have b3 : (0 : Int) ≤ ((pa.length - (S.toNat - 1) : Nat) : Int) ∧ ((pa.length - (S.toNat - 1) : Nat) : Int) ≤ (pa.length : Int) := by omega
  have r1 := sum_ok pa (by omega) (fun v hv => (hpa v hv).smp)
  have r2 := sum_ok (pa.drop (pa.length - (S.toNat - 1))) (by rw [List.length_drop]; omega) (fun v hv => (hpa v (List.mem_of_mem_drop hv)).smp)
  rw [ab_map hpa] at r1
  rw [ab_map (fun v hv => hpa v (List.mem_of_mem_drop hv))] at r2
  simp only [F35_d, FSpec.d, F35_s, rowsI_len, e1, e2, e3, Int.toNat_natCast, zeros_cells, s1, s2, chunks_one, d, rowsI_drop, r1, r2]
  rw [if_pos b0, if_pos b1, if_pos b2, if_pos b3]
theorem start_ok {S L a b : Int} (h : DtOk S L a b) (N : Nat) : F18_d N (S, L, a, b) = some (S, L, a, b, [], 0, -1, 0, 0, 0) := by
  simp only [F18_d, FSpec.d, F18_s, valid_ok h, Bool.not_true]
/-- What Run returns. -/
def closed (q : Trg × List Trg) : List Trg := if q.1.1 ≥ 0 then q.2 ++ [q.1] else q.2
def none0 : Trg × List Trg := ((-1, 0, 0), [])
def outs (S L a b : Int) (z : List Int) : List Trg := closed (runT S L a b z 0 z.length 0 none0)
theorem zrow (xs : List Int) (h : ∀ x ∈ xs, Smp x) : ZRow (xs.map ab) 0 xs where
  len := by simp
  at_ := fun k hk => by simp
  abs := fun v hv => by
    obtain ⟨x, hx, rfl⟩ := List.mem_map.1 hv
    exact (h x hx).ab
  smp := h
theorem run_ok {S L a b : Int} (h : DtOk S L a b) {xs : List Int} (hx : ∀ x ∈ xs, Smp x) (hl : xs.length ≤ 590) : F13_d 600 (S, L, a, b, rowsI xs) = some (rowsT (outs S L a b (xs.map ab)), 0) := by
  have ⟨h1, h2, h3, h4, h5, h6⟩ := h
  have c1 : decide ((xs.length : Int) > 65536) = false := by simp; omega
  have ho := open_ok h (pa := []) (fun v hv => by cases hv) (by simp; omega) 0 (-1) 0 0
  replace ho : F35_d 600 (S, L, a, b, ([] : List (List AV)), 0, -1, 0, 0) = some (S, L, a, b, [], 0, -1, 0, 0, 0, 0, []) := by simpa [rowsI] using ho
  have r := run_loop h (zrow xs hx) (base := 0) (by omega) (by simp; omega) xs.length 0 600 none0 (by omega) (by omega) (by simp [none0]; omega)
  have v0 : ∀ n, V (xs.map ab) n (0 + 0) = 0 := fun n => by simp [V, P]
  have p0 : pst (xs.map ab) L.toNat (0 + 0) = [] := by simp [pst]
  rw [v0, v0, p0] at r
  replace r : (F13_l17 600).L 600 (rowsI xs, (xs.length : Int), 0, S, L, a, b, [], 0, -1, 0, 0, 0, 0, []) = _ := r
  have hlen := runT_len S L a b (xs.map ab) 0 xs.length 0 none0
  have hq : outs S L a b (xs.map ab) = closed (runT S L a b (xs.map ab) 0 xs.length 0 none0) := by unfold outs; rw [List.length_map]
  rw [hq]
  obtain ⟨⟨⟨o, f, p⟩, E⟩, hT⟩ : ∃ q, q = runT S L a b (xs.map ab) 0 xs.length 0 none0 := ⟨_, rfl⟩
  rw [Nat.zero_add, ← hT] at r
  rw [← hT] at hlen ⊢
  simp [none0] at hlen
  simp only [F13_d, FSpec.d, F13_s, valid_ok h, Bool.not_true, rowsI_len, c1, cont_ok xs hl hx, start_ok h, ho, F13_d17, r]
  unfold closed
  by_cases g : o ≥ 0
  · have b1 : (E.length + [[AV.v (.int .i64 o), AV.v (.int .i64 f), AV.v (.int .i64 p)]].length) * 24 ≤ maxBytes := by unfold maxBytes; simp; omega
    have c2 : decide (((E ++ [(o, f, p)]).length : Int) > 1024) = false := by simp; omega
    simp only [g, decide_true, if_true, rowsT_snoc, rowsT_len, c2, b1]
  · have c2 : decide ((E.length : Int) > 1024) = false := by simp; omega
    simp only [g, decide_false, if_false, rowsT_len, c2]
theorem sane_ok : F9_d 600 () = some true := by kernel_rfl
theorem light_ok (N : Nat) (xs : List Int) : F8_d N (rowsI xs) = some (decide ((xs.length : Int) ≤ 500)) := by
  simp only [F8_d, FSpec.d, F8_s, rowsI_len]
end Go.Proofs.Ytaiadjadgpgnmaa
