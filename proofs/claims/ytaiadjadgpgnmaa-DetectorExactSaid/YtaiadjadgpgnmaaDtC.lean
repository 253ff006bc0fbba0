/- The detector, plain laws: the window over a row of absolute values, Run. -/
import Derived.Test.YtaiadjadgpgnmaaDtB
namespace Go.Proofs.Ytaiadjadgpgnmaa
set_option linter.unusedVariables false
set_option linter.unusedSimpArgs false
set_option linter.unnecessarySimpa false
/-- The sum of the first n values. -/
def P (z : List Int) (n : Nat) : Int := (z.take n).sum
theorem P_succ {z : List Int} {i : Nat} (h : i < z.length) : P z (i + 1) = P z i + z[i] := by
  unfold P
  rw [List.take_add_one, List.getElem?_eq_getElem h, List.sum_append]
  simp only [Option.toList, List.sum_cons, List.sum_nil, Int.add_zero]
theorem P_zero (z : List Int) : P z 0 = 0 := by simp [P]
theorem P_le {z : List Int} (hz : ∀ v ∈ z, Abs v) : ∀ (j i : Nat), i ≤ j → j ≤ z.length → P z i ≤ P z j ∧ P z j ≤ P z i + (j - i : Nat) * 1073741823
  | 0, i, h, _ => by
    have : i = 0 := by omega
    subst this; simp
  | j + 1, i, h, hj => by
    by_cases e : i = j + 1
    · subst e; simp
    · have r := P_le hz j i (by omega) (by omega)
      have hv := hz _ (List.getElem_mem (show j < z.length by omega))
      unfold Abs at hv
      rw [P_succ (by omega)]
      have : j + 1 - i = (j - i) + 1 := by omega
      rw [this]
      push_cast
      omega
/-- The sum of the n values up to index i, as far as there are any. -/
def W (z : List Int) (n i : Nat) : Int := P z (i + 1) - P z (i + 1 - n)
/-- The sum of the last n - 1 values ahead of index i. -/
def V (z : List Int) (n i : Nat) : Int := P z i - P z (i - (n - 1))
/-- The values that a window keeps ahead of index i. -/
def pst (z : List Int) (l i : Nat) : List Int := (z.take i).drop (i - (l - 1))
theorem V_add {z : List Int} {n i : Nat} (hn : 1 ≤ n) (h : i < z.length) : V z n i + z[i] = W z n i := by
  unfold V W
  rw [P_succ h]
  have : i - (n - 1) = i + 1 - n := by omega
  rw [this]
  omega
theorem pst_snoc {z : List Int} {l i : Nat} (h : i < z.length) : pst z l i ++ [z[i]] = (z.take (i + 1)).drop (i - (l - 1)) := by
  unfold pst
  rw [List.take_add_one, List.getElem?_eq_getElem h, List.drop_append]
  have : i - (l - 1) - (z.take i).length = 0 := by rw [List.length_take]; omega
  rw [this]
  simp
theorem pst_len {z : List Int} {l i : Nat} (h : i ≤ z.length) : (pst z l i).length = i - (i - (l - 1)) := by
  unfold pst; rw [List.length_drop, List.length_take]; omega
theorem pst_next {z : List Int} {l i : Nat} {L : Int} (hL : L = (l : Int)) (hl : 2 ≤ l) (h : i < z.length) : pa2 L (pst z l i ++ [z[i]]) = pst z l (i + 1) := by
  subst hL
  rw [pst_snoc h]
  unfold pa2 pst
  rw [List.length_drop, List.length_take]
  by_cases c : l ≤ i + 1
  · rw [if_pos (by omega), List.drop_drop]
    congr 1
    omega
  · rw [if_neg (by omega)]
    congr 1
    omega
theorem getD_win {z : List Int} {i d k : Nat} (h : i < z.length) (hd : d + k ≤ i) : ((z.take (i + 1)).drop d).getD k 0 = z[d + k] := by
  rw [List.getD_eq_getElem?_getD, List.getElem?_drop, List.getElem?_take, if_pos (by omega), List.getElem?_eq_getElem (by omega)]
  rfl
theorem sh_next {z : List Int} {l s i : Nat} {S : Int} (hS : S = (s : Int)) (hs : 1 ≤ s) (hl : s < l) (h : i < z.length) : sh2 S (pst z l i ++ [z[i]]) (V z s i + z[i]) = V z s (i + 1) := by
  subst hS
  rw [pst_snoc h, V_add hs h]
  unfold sh2
  rw [List.length_drop, List.length_take]
  by_cases c : s ≤ i + 1
  · rw [if_pos (by omega), getD_win h (by omega)]
    have e : i - (l - 1) + (min (i + 1) z.length - (i - (l - 1)) - (s : Int).toNat) = i + 1 - s := by omega
    unfold W V
    have e2 : i + 1 - (s - 1) = (i + 1 - s) + 1 := by omega
    rw [e2, P_succ (show i + 1 - s < z.length by omega)]
    simp only [e]
    omega
  · rw [if_neg (by omega)]
    unfold W V
    have e2 : i + 1 - (s - 1) = i + 1 - s := by omega
    rw [e2]
theorem lg_next {z : List Int} {l i : Nat} {L : Int} (hL : L = (l : Int)) (hl : 2 ≤ l) (h : i < z.length) : lg2 L (pst z l i ++ [z[i]]) (V z l i + z[i]) = V z l (i + 1) := by
  subst hL
  rw [pst_snoc h, V_add (by omega) h]
  unfold lg2
  rw [List.length_drop, List.length_take]
  by_cases c : l ≤ i + 1
  · rw [if_pos (by omega), getD_win h (by omega)]
    unfold W V
    have e2 : i + 1 - (l - 1) = (i + 1 - l) + 1 := by omega
    rw [e2, P_succ (show i + 1 - l < z.length by omega)]
    have e : i - (l - 1) + 0 = i + 1 - l := by omega
    simp only [e]
    omega
  · rw [if_neg (by omega)]
    unfold W V
    have e2 : i + 1 - (l - 1) = i + 1 - l := by omega
    rw [e2]
/-- One sample's step. -/
def stp (S L a b : Int) (z : List Int) (base : Int) (i : Nat) (q : Trg × List Trg) : Trg × List Trg :=
  (tr2 (z.getD i 0) (tr1 S L a b (base + i) (W z S.toNat i) (W z L.toNat i) q.1 q.2).1, (tr1 S L a b (base + i) (W z S.toNat i) (W z L.toNat i) q.1 q.2).2)
/-- k samples from index i on. -/
def runT (S L a b : Int) (z : List Int) (base : Int) : Nat → Nat → Trg × List Trg → Trg × List Trg
  | 0, _, q => q
  | k + 1, i, q => runT S L a b z base k (i + 1) (stp S L a b z base i q)
theorem runT_add (S L a b : Int) (z : List Int) (base : Int) : ∀ (k m i : Nat) (q : Trg × List Trg), runT S L a b z base (k + m) i q = runT S L a b z base m (i + k) (runT S L a b z base k i q)
  | 0, m, i, q => by simp [runT]
  | k + 1, m, i, q => by
    rw [show k + 1 + m = (k + m) + 1 by omega]
    show runT S L a b z base (k + m) (i + 1) _ = runT S L a b z base m (i + (k + 1)) (runT S L a b z base k (i + 1) _)
    rw [runT_add S L a b z base k m (i + 1)]
    rw [show i + (k + 1) = i + 1 + k by omega]
theorem runT_len (S L a b : Int) (z : List Int) (base : Int) : ∀ (k i : Nat) (q : Trg × List Trg), (runT S L a b z base k i q).2.length ≤ q.2.length + k
  | 0, i, q => by simp [runT]
  | k + 1, i, q => by
    have := runT_len S L a b z base k (i + 1) (stp S L a b z base i q)
    have h2 := tr1_len S L a b (base + i) (W z S.toNat i) (W z L.toNat i) q.1 q.2
    unfold runT
    unfold stp at this ⊢
    simp only at this ⊢
    omega
theorem V_in {z : List Int} (hz : ∀ v ∈ z, Abs v) {n i : Nat} (hn : n ≤ 512) (hi : i ≤ z.length) : 0 ≤ V z n i ∧ V z n i ≤ 1098437885952 := by
  have := P_le hz i (i - (n - 1)) (by omega) hi
  have e : i - (i - (n - 1)) ≤ 511 := by omega
  unfold V
  omega
theorem mem_pst {z : List Int} {l i : Nat} {v : Int} (h : v ∈ pst z l i) : v ∈ z := List.mem_of_mem_take (List.mem_of_mem_drop h)
structure ZRow (z : List Int) (n0 : Nat) (xs : List Int) : Prop where
  len : z.length = n0 + xs.length
  at_ : ∀ (k : Nat) (h : k < xs.length), z[n0 + k]'(by omega) = ab xs[k]
  abs : ∀ v ∈ z, Abs v
  smp : ∀ x ∈ xs, Smp x
theorem look_at {S L a b : Int} (h : DtOk S L a b) {z xs : List Int} {n0 : Nat} (R : ZRow z n0 xs) {k : Nat} (hk : k < xs.length) {base : Int} (hb : 0 ≤ base ∧ base ≤ 1073741823) (hz : z.length ≤ 1073741823) {o f p : Int} {E : List Trg} (hE : E.length ≤ 1000000) :
    F36_d 600 (xs[k], S, L, a, b, rowsI (pst z L.toNat (n0 + k)), base + (n0 + k : Nat), o, f, p, V z S.toNat (n0 + k), V z L.toNat (n0 + k), rowsT E) = some (S, L, a, b, rowsI (pst z L.toNat (n0 + k + 1)), base + (n0 + k + 1 : Nat), (stp S L a b z base (n0 + k) ((o, f, p), E)).1.1, (stp S L a b z base (n0 + k) ((o, f, p), E)).1.2.1, (stp S L a b z base (n0 + k) ((o, f, p), E)).1.2.2, V z S.toNat (n0 + k + 1), V z L.toNat (n0 + k + 1), rowsT (stp S L a b z base (n0 + k) ((o, f, p), E)).2) := by
  have ⟨h1, h2, h3, h4, h5, h6⟩ := h
  have hl := R.len
  have hi : n0 + k < z.length := by omega
  have hx := R.at_ k hk
  have r := look_ok h (R.smp _ (List.getElem_mem hk)) (pa := pst z L.toNat (n0 + k)) (fun v hv => R.abs v (mem_pst hv)) (by rw [pst_len (by omega)]; omega) (c := base + (n0 + k : Nat)) (by omega) (V_in R.abs (n := S.toNat) (i := n0 + k) (by omega) (by omega)) (V_in R.abs (n := L.toNat) (i := n0 + k) (by omega) (by omega)) (o := o) (f := f) (p := p) hE
  rw [r, ← hx, pst_next (by omega) (by omega) hi, sh_next (by omega) (by omega) (by omega) hi, lg_next (by omega) (by omega) hi, V_add (by omega) hi, V_add (by omega) hi]
  have e : z.getD (n0 + k) 0 = z[n0 + k] := by simp [List.getD, hi]
  unfold stp
  simp only [e]
  rw [show base + ((n0 + k : Nat) : Int) + 1 = base + ((n0 + k + 1 : Nat) : Int) by omega]
theorem run_loop {S L a b : Int} (h : DtOk S L a b) {z xs : List Int} {n0 : Nat} (R : ZRow z n0 xs) {base : Int} (hb : 0 ≤ base ∧ base ≤ 1073741823) (hz : z.length ≤ 1073741823) : ∀ (m k fu : Nat) (q : Trg × List Trg), m < fu → k + m = xs.length → q.2.length + m ≤ 1000000 →
    (F13_l17 600).L fu (rowsI xs, (xs.length : Int), (k : Int), S, L, a, b, rowsI (pst z L.toNat (n0 + k)), base + (n0 + k : Nat), q.1.1, q.1.2.1, q.1.2.2, V z S.toNat (n0 + k), V z L.toNat (n0 + k), rowsT q.2) = some (S, L, a, b, rowsI (pst z L.toNat z.length), base + (z.length : Nat), (runT S L a b z base m (n0 + k) q).1.1, (runT S L a b z base m (n0 + k) q).1.2.1, (runT S L a b z base m (n0 + k) q).1.2.2, V z S.toNat z.length, V z L.toNat z.length, rowsT (runT S L a b z base m (n0 + k) q).2)
  | 0, k, fu, q, hf, hk, hE => by
    obtain ⟨f, rfl⟩ : ∃ f', fu = f' + 1 := ⟨fu - 1, by omega⟩
    have hl := R.len
    have e : n0 + k = z.length := by omega
    show (F13_l17 600).b _ _ ((F13_l17 600).L f) some = _
    have c : decide ((k : Int) < (xs.length : Int)) = false := by simp; omega
    simp only [F13_l17, c, e, runT]
  | m + 1, k, fu, q, hf, hk, hE => by
    obtain ⟨f, rfl⟩ : ∃ f', fu = f' + 1 := ⟨fu - 1, by omega⟩
    have hl := R.len
    have hlt : k < xs.length := by omega
    obtain ⟨⟨o, fo, p⟩, E⟩ := q
    simp only at hE
    have r := look_at h R hlt hb hz (o := o) (f := fo) (p := p) (E := E) (by omega)
    have hT := tr1_len S L a b (base + (n0 + k : Nat)) (W z S.toNat (n0 + k)) (W z L.toNat (n0 + k)) (o, fo, p) E
    have r2 := run_loop h R hb hz m (k + 1) f (stp S L a b z base (n0 + k) ((o, fo, p), E)) (by omega) (by omega) (by unfold stp; simp only; omega)
    have c1 : decide ((k : Int) < (xs.length : Int)) = true := by simp; omega
    have c2 : (0 : Int) ≤ (k : Int) := by omega
    have c4 : i64 ((k : Int) + 1) = ((k + 1 : Nat) : Int) := by
      have := hz
      rw [i64_id (by omega)]; omega
    show (F13_l17 600).b _ _ ((F13_l17 600).L f) some = _
    obtain ⟨Lf, hL⟩ : ∃ Lf, Lf = (F13_l17 600).L f := ⟨_, rfl⟩
    rw [← hL] at r2 ⊢
    simp only [F13_l17, c1, c2, if_true, Int.toNat_natCast, rowsI_get xs k hlt, List.getElem?_cons_zero, r, c4]
    exact r2
end Go.Proofs.Ytaiadjadgpgnmaa
