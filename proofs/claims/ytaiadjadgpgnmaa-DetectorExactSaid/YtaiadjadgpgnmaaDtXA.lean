/- DetectorExact, the plain law: any detectors, any samples, any watches. -/
import Derived.Test.YtaiadjadgpgnmaaDetU
import Derived.Test.YtaiadjadgpgnmaaDtStreamB
namespace Go.Proofs.Ytaiadjadgpgnmaa
open Go.RowKit
set_option linter.unusedVariables false
set_option linter.unusedSimpArgs false
set_option linter.unnecessarySimpa false
instance (S L a b : Int) : Decidable (DtOk S L a b) :=
  decidable_of_iff (1 ≤ S ∧ S < L ∧ L ≤ 512 ∧ 1 ≤ b ∧ b ≤ a ∧ a ≤ 10000) ⟨fun ⟨h1, h2, h3, h4, h5, h6⟩ => ⟨h1, h2, h3, h4, h5, h6⟩, fun ⟨h1, h2, h3, h4, h5, h6⟩ => ⟨h1, h2, h3, h4, h5, h6⟩⟩
theorem valid_any (N : Nat) (S L a b : Int) : F25_d N (S, L, a, b) = some (decide (DtOk S L a b)) := by
  by_cases h : DtOk S L a b
  · rw [valid_ok h, decide_eq_true h]
  · rw [decide_eq_false h]
    simp only [F25_d, FSpec.d, F25_s]
    by_cases h1 : S ≥ 1
    · by_cases h2 : S < L
      · by_cases h3 : L ≤ 512
        · by_cases h4 : b ≥ 1
          · by_cases h5 : b ≤ a
            · by_cases h6 : a ≤ 10000
              · exact absurd ⟨h1, h2, h3, h4, h5, h6⟩ h
              · simp only [h1, h2, h3, h4, h5, h6, decide_true, decide_false]
            · simp only [h1, h2, h3, h4, h5, decide_true, decide_false]
          · simp only [h1, h2, h3, h4, decide_true, decide_false]
        · simp only [h1, h2, h3, decide_true, decide_false]
      · simp only [h1, h2, decide_true, decide_false]
    · simp only [h1, decide_false]
theorem rvalid_any (N : Nat) (S L a b : Int) : F26_d N (S, L, a, b) = some (decide (DtOk S L a b)) := valid_any N S L a b
def smpB (x : Int) : Bool := decide (-1073741823 ≤ x ∧ x ≤ 1073741823)
def absB (x : Int) : Bool := decide (0 ≤ x ∧ x ≤ 1073741823)
theorem in_any (N : Nat) (x lo hi : Int) : F37_d N (x, lo, hi) = some (decide (lo ≤ x ∧ x ≤ hi)) := by
  simp only [F37_d, FSpec.d, F37_s]
  by_cases h1 : x ≥ lo
  · have h2 : lo ≤ x := h1
    simp only [h1, h2, decide_true, true_and]
  · have h2 : ¬ lo ≤ x := h1
    simp only [h1, h2, decide_false, false_and]
theorem rin_any (N : Nat) (x lo hi : Int) : F40_d N (x, lo, hi) = some (decide (lo ≤ x ∧ x ≤ hi)) := in_any N x lo hi
theorem wrong_any (N : Nat) (x : Int) : F34_d N x = some (!smpB x) := by
  simp only [F34_d, FSpec.d, F34_s, in_any]; rfl
theorem sample_any (N : Nat) (x : Int) : F51_d N x = some (smpB x) := by
  simp only [F51_d, FSpec.d, F51_s, rin_any]; rfl
theorem wrong2_any (N : Nat) (x : Int) : F47_d N x = some (!absB x) := by
  simp only [F47_d, FSpec.d, F47_s, in_any]; rfl
theorem all_drop {α : Type} {p : α → Bool} {l : List α} {i : Nat} (h : i < l.length) : (l.drop i).all p = (p l[i] && (l.drop (i + 1)).all p) := by
  rw [List.drop_eq_getElem_cons h, List.all_cons]
theorem idx_any (N : Nat) (l : List Int) (hl : l.length ≤ 100000) : ∀ (k i f : Nat), k < f → i + k = l.length → ∃ y, (F48_l4 N).L f (rowsI l, (l.length : Int), (i : Int)) = some y ∧ ((l.drop i).all smpB = true ∧ y = .inr () ∨ (l.drop i).all smpB = false ∧ ∃ j : Nat, y = .inl (j : Int))
  | 0, i, f, hf, hi => by
    obtain ⟨f, rfl⟩ : ∃ f', f = f' + 1 := ⟨f - 1, by omega⟩
    refine ⟨.inr (), ?_, .inl ⟨?_, rfl⟩⟩
    · show (F48_l4 N).b _ _ ((F48_l4 N).L f) some = _
      have c : decide ((i : Int) < (l.length : Int)) = false := by rw [decide_eq_false_iff_not]; omega
      simp only [F48_l4, c]
    · rw [List.drop_eq_nil_of_le (by omega)]; rfl
  | k + 1, i, f, hf, hi => by
    obtain ⟨f, rfl⟩ : ∃ f', f = f' + 1 := ⟨f - 1, by omega⟩
    have hlt : i < l.length := by omega
    have c1 : decide ((i : Int) < (l.length : Int)) = true := by rw [decide_eq_true_iff]; omega
    have c2 : (0 : Int) ≤ (i : Int) := by omega
    have e2 : i64 ((i : Int) + 1) = ((i + 1 : Nat) : Int) := by rw [i64_id (by omega)]; omega
    obtain ⟨y, r, hy⟩ := idx_any N l hl k (i + 1) f (by omega) (by omega)
    have key : (F48_l4 N).L (f + 1) (rowsI l, (l.length : Int), (i : Int)) = if smpB l[i] then (F48_l4 N).L f (rowsI l, (l.length : Int), ((i + 1 : Nat) : Int)) else some (.inl (i : Int)) := by
      show (F48_l4 N).b _ _ ((F48_l4 N).L f) some = _
      obtain ⟨Lf, hL⟩ : ∃ Lf, Lf = (F48_l4 N).L f := ⟨_, rfl⟩
      rw [← hL]
      simp only [F48_l4, c1, c2, if_true, Int.toNat_natCast, rowsI_get l i hlt, List.getElem?_cons_zero, wrong_any, e2]
      cases smpB l[i] <;> rfl
    rw [key, all_drop hlt]
    cases h : smpB l[i] with
    | true => exact ⟨y, r, by simpa using hy⟩
    | false => exact ⟨_, rfl, .inr ⟨rfl, i, rfl⟩⟩
theorem cont_any (l : List Int) (hl : l.length ≤ 590) : F33_d 600 (rowsI l) = some (!l.all smpB) := by
  obtain ⟨y, r, hy⟩ := idx_any 600 l (by omega) l.length 0 600 (by omega) (by omega)
  replace r : (F48_l4 600).L 600 (rowsI l, (l.length : Int), 0) = _ := r
  simp only [F33_d, FSpec.d, F33_s, F48_d, F48_s, F48_d4, rowsI_len, r]
  rcases hy with ⟨h, rfl⟩ | ⟨h, j, rfl⟩
  · rw [List.drop_zero] at h; rw [h]; rfl
  · rw [List.drop_zero] at h; rw [h]
    have : decide ((j : Int) ≥ 0) = true := by rw [decide_eq_true_iff]; omega
    simp only [this]; rfl
theorem aidx_any (N : Nat) (l : List Int) (hl : l.length ≤ 100000) : ∀ (k i f : Nat), k < f → i + k = l.length → ∃ y, (F48a_l4 N).L f (rowsI l, (l.length : Int), (i : Int)) = some y ∧ ((l.drop i).all absB = true ∧ y = .inr () ∨ (l.drop i).all absB = false ∧ ∃ j : Nat, y = .inl (j : Int))
  | 0, i, f, hf, hi => by
    obtain ⟨f, rfl⟩ : ∃ f', f = f' + 1 := ⟨f - 1, by omega⟩
    refine ⟨.inr (), ?_, .inl ⟨?_, rfl⟩⟩
    · show (F48a_l4 N).b _ _ ((F48a_l4 N).L f) some = _
      have c : decide ((i : Int) < (l.length : Int)) = false := by rw [decide_eq_false_iff_not]; omega
      simp only [F48a_l4, c]
    · rw [List.drop_eq_nil_of_le (by omega)]; rfl
  | k + 1, i, f, hf, hi => by
    obtain ⟨f, rfl⟩ : ∃ f', f = f' + 1 := ⟨f - 1, by omega⟩
    have hlt : i < l.length := by omega
    have c1 : decide ((i : Int) < (l.length : Int)) = true := by rw [decide_eq_true_iff]; omega
    have c2 : (0 : Int) ≤ (i : Int) := by omega
    have e2 : i64 ((i : Int) + 1) = ((i + 1 : Nat) : Int) := by rw [i64_id (by omega)]; omega
    obtain ⟨y, r, hy⟩ := aidx_any N l hl k (i + 1) f (by omega) (by omega)
    have key : (F48a_l4 N).L (f + 1) (rowsI l, (l.length : Int), (i : Int)) = if absB l[i] then (F48a_l4 N).L f (rowsI l, (l.length : Int), ((i + 1 : Nat) : Int)) else some (.inl (i : Int)) := by
      show (F48a_l4 N).b _ _ ((F48a_l4 N).L f) some = _
      obtain ⟨Lf, hL⟩ : ∃ Lf, Lf = (F48a_l4 N).L f := ⟨_, rfl⟩
      rw [← hL]
      simp only [F48a_l4, c1, c2, if_true, Int.toNat_natCast, rowsI_get l i hlt, List.getElem?_cons_zero, wrong2_any, e2]
      cases absB l[i] <;> rfl
    rw [key, all_drop hlt]
    cases h : absB l[i] with
    | true => exact ⟨y, r, by simpa using hy⟩
    | false => exact ⟨_, rfl, .inr ⟨rfl, i, rfl⟩⟩
theorem acont_any (l : List Int) (hl : l.length ≤ 590) : F33a_d 600 (rowsI l) = some (!l.all absB) := by
  obtain ⟨y, r, hy⟩ := aidx_any 600 l (by omega) l.length 0 600 (by omega) (by omega)
  replace r : (F48a_l4 600).L 600 (rowsI l, (l.length : Int), 0) = _ := r
  simp only [F33a_d, FSpec.d, F33a_s, F48a_d, F48a_s, F48a_d4, rowsI_len, r]
  rcases hy with ⟨h, rfl⟩ | ⟨h, j, rfl⟩
  · rw [List.drop_zero] at h; rw [h]; rfl
  · rw [List.drop_zero] at h; rw [h]
    have : decide ((j : Int) ≥ 0) = true := by rw [decide_eq_true_iff]; omega
    simp only [this]; rfl
theorem rng_loop (N : Nat) (l : List Int) (hl : l.length ≤ 100000) : ∀ (k i f : Nat), k < f → i + k = l.length → (F41_l4 N).L f (rowsI l, (i : Int)) = some (if (l.drop i).all smpB then .inr () else .inl false)
  | 0, i, f, hf, hi => by
    obtain ⟨f, rfl⟩ : ∃ f', f = f' + 1 := ⟨f - 1, by omega⟩
    show (F41_l4 N).b _ _ ((F41_l4 N).L f) some = _
    have c : decide ((i : Int) < (l.length : Int)) = false := by rw [decide_eq_false_iff_not]; omega
    rw [List.drop_eq_nil_of_le (by omega)]
    simp only [F41_l4, rowsI_len, c]; rfl
  | k + 1, i, f, hf, hi => by
    obtain ⟨f, rfl⟩ : ∃ f', f = f' + 1 := ⟨f - 1, by omega⟩
    have hlt : i < l.length := by omega
    have c1 : decide ((i : Int) < (l.length : Int)) = true := by rw [decide_eq_true_iff]; omega
    have c2 : (0 : Int) ≤ (i : Int) := by omega
    have e2 : i64 ((i : Int) + 1) = ((i + 1 : Nat) : Int) := by rw [i64_id (by omega)]; omega
    have r := rng_loop N l hl k (i + 1) f (by omega) (by omega)
    show (F41_l4 N).b _ _ ((F41_l4 N).L f) some = _
    obtain ⟨Lf, hL⟩ : ∃ Lf, Lf = (F41_l4 N).L f := ⟨_, rfl⟩
    rw [← hL] at r ⊢
    rw [all_drop hlt]
    cases h : smpB l[i] with
    | true =>
      simp only [F41_l4, rowsI_len, c1, c2, if_true, Int.toNat_natCast, rowsI_get l i hlt, List.getElem?_cons_zero, sample_any, h, e2, Bool.not_true, Bool.true_and]
      exact r
    | false =>
      simp only [F41_l4, rowsI_len, c1, c2, if_true, Int.toNat_natCast, rowsI_get l i hlt, List.getElem?_cons_zero, sample_any, h, e2, Bool.not_false, Bool.false_and]
      rfl
theorem rng_any (l : List Int) (hl : l.length ≤ 590) : F41_d 600 (rowsI l) = some (l.all smpB) := by
  have r := rng_loop 600 l (by omega) l.length 0 600 (by omega) (by omega)
  replace r : (F41_l4 600).L 600 (rowsI l, 0) = _ := r
  rw [List.drop_zero] at r
  simp only [F41_d, FSpec.d, F41_s, F41_d4, r]
  cases l.all smpB <;> rfl
theorem all_smp {l : List Int} (h : l.all smpB = true) : ∀ x ∈ l, Smp x := fun x hx => by
  have := List.all_eq_true.1 h x hx
  unfold smpB at this
  exact @of_decide_eq_true (-1073741823 ≤ x ∧ x ≤ 1073741823) _ this
theorem all_abs {l : List Int} (h : l.all absB = true) : ∀ x ∈ l, Abs x := fun x hx => by
  have := List.all_eq_true.1 h x hx
  unfold absB at this
  exact @of_decide_eq_true (0 ≤ x ∧ x ≤ 1073741823) _ this
theorem rabs_ok {x : Int} (h : Smp x) (N : Nat) : F52_d N x = some (ab x) := by
  unfold Smp at h
  simp only [F52_d, FSpec.d, F52_s, Int.zero_sub, i64_id (x := -x) (by omega), ab]
theorem absl_loop (N : Nat) (l : List Int) (hl : l.length ≤ 100000) (hx : ∀ x ∈ l, Smp x) : ∀ (k i f : Nat), k < f → i + k = l.length → (F42_l5 N).L f (rowsI ((l.take i).map ab), rowsI l, (i : Int)) = some (rowsI (l.map ab))
  | 0, i, f, hf, hi => by
    obtain ⟨f, rfl⟩ : ∃ f', f = f' + 1 := ⟨f - 1, by omega⟩
    show (F42_l5 N).b _ _ ((F42_l5 N).L f) some = _
    have c : decide ((i : Int) < (l.length : Int)) = false := by rw [decide_eq_false_iff_not]; omega
    rw [List.take_of_length_le (by omega)]
    simp only [F42_l5, rowsI_len, c]
  | k + 1, i, f, hf, hi => by
    obtain ⟨f, rfl⟩ : ∃ f', f = f' + 1 := ⟨f - 1, by omega⟩
    have hlt : i < l.length := by omega
    have hs := hx _ (List.getElem_mem hlt)
    have c1 : decide ((i : Int) < (l.length : Int)) = true := by rw [decide_eq_true_iff]; omega
    have c2 : (0 : Int) ≤ (i : Int) := by omega
    have e2 : i64 ((i : Int) + 1) = ((i + 1 : Nat) : Int) := by rw [i64_id (by omega)]; omega
    have r := absl_loop N l hl hx k (i + 1) f (by omega) (by omega)
    have hb : ∀ v, ((rowsI ((l.take i).map ab)).length + [[(AV.v (.int .i64 v))]].length) * 8 ≤ maxBytes := fun v => by
      rw [rowsI_len]; unfold maxBytes; simp; omega
    have ht : (l.take i).map ab ++ [ab l[i]] = (l.take (i + 1)).map ab := by
      rw [List.take_add_one, List.getElem?_eq_getElem hlt, List.map_append]; rfl
    show (F42_l5 N).b _ _ ((F42_l5 N).L f) some = _
    obtain ⟨Lf, hL⟩ : ∃ Lf, Lf = (F42_l5 N).L f := ⟨_, rfl⟩
    rw [← hL] at r ⊢
    simp only [F42_l5, rowsI_len l, c1, c2, if_true, Int.toNat_natCast, rowsI_get l i hlt, List.getElem?_cons_zero, rabs_ok hs, hb, rowsI_snoc, ht, e2]
    exact r
theorem absl_ok (l : List Int) (hl : l.length ≤ 590) (hx : ∀ x ∈ l, Smp x) : F42_d 600 (rowsI l) = some (rowsI (l.map ab)) := by
  have r := absl_loop 600 l (by omega) hx l.length 0 600 (by omega) (by omega)
  replace r : (F42_l5 600).L 600 ([], rowsI l, 0) = _ := r
  simp only [F42_d, FSpec.d, F42_s, F42_d5, r]
/-! The reference's sums. -/
theorem W_zero (z : List Int) (i : Nat) : W z 0 i = 0 := by unfold W; rw [Nat.sub_zero]; omega
theorem W_succ {z : List Int} {n i : Nat} (hn : n ≤ i) (hi : i < z.length) : W z (n + 1) i = W z n i + z[i - n] := by
  unfold W
  have e1 : i + 1 - n = (i - n) + 1 := by omega
  have e2 : i + 1 - (n + 1) = i - n := by omega
  rw [e1, e2, P_succ (show i - n < z.length by omega)]
  omega
theorem W_in {z : List Int} (hz : ∀ v ∈ z, Abs v) {n i : Nat} (hn : n ≤ 512) (hi : i < z.length) : 0 ≤ W z n i ∧ W z n i ≤ 1099511627776 := by
  have := P_le hz (i + 1) (i + 1 - n) (by omega) (by omega)
  have e : i + 1 - (i + 1 - n) ≤ 512 := by omega
  unfold W
  omega
theorem sums_loop {S L a b : Int} (h : DtOk S L a b) {z : List Int} (hz : ∀ v ∈ z, Abs v) (hzl : z.length ≤ 1000000) {i : Nat} (hi : i < z.length) (hL : L ≤ i + 1) : ∀ (m k fu : Nat), m < fu → k + m = L.toNat →
    (F45_l4 600).L fu (rowsI z, (i : Int), W z (min k S.toNat) i, W z k i, (k : Int), S, L, a, b) = some (W z S.toNat i, W z L.toNat i)
  | 0, k, fu, hf, hk => by
    obtain ⟨f, rfl⟩ : ∃ f', fu = f' + 1 := ⟨fu - 1, by omega⟩
    obtain ⟨g1, g2, g3, g4, g5, g6⟩ := h
    show (F45_l4 600).b _ _ ((F45_l4 600).L f) some = _
    have c : decide ((k : Int) < L) = false := by rw [decide_eq_false_iff_not]; omega
    have e1 : min k S.toNat = S.toNat := by omega
    have e2 : k = L.toNat := by omega
    rw [e1]
    simp only [F45_l4, c]
    rw [e2]
  | m + 1, k, fu, hf, hk => by
    obtain ⟨f, rfl⟩ : ∃ f', fu = f' + 1 := ⟨fu - 1, by omega⟩
    have ⟨g1, g2, g3, g4, g5, g6⟩ := h
    have c1 : decide ((k : Int) < L) = true := by rw [decide_eq_true_iff]; omega
    have e0 : i64 ((i : Int) - (k : Int)) = ((i - k : Nat) : Int) := by rw [i64_id (by omega)]; omega
    have c2 : (0 : Int) ≤ ((i - k : Nat) : Int) := by omega
    have hik : i - k < z.length := by omega
    have w1 := W_in hz (n := k) (i := i) (by omega) hi
    have w2 := W_in hz (n := k + 1) (i := i) (by omega) hi
    have w3 := W_in hz (n := min k S.toNat) (i := i) (by omega) hi
    have s1 := W_succ (z := z) (n := k) (i := i) (by omega) hi
    have e3 : i64 (W z k i + z[i - k]) = W z (k + 1) i := by rw [s1]; exact i64_id (by omega)
    have e4 : i64 ((k : Int) + 1) = ((k + 1 : Nat) : Int) := by rw [i64_id (by omega)]; omega
    have r := sums_loop h hz hzl hi hL m (k + 1) f (by omega) (by omega)
    show (F45_l4 600).b _ _ ((F45_l4 600).L f) some = _
    obtain ⟨Lf, hLf⟩ : ∃ Lf, Lf = (F45_l4 600).L f := ⟨_, rfl⟩
    rw [← hLf] at r ⊢
    by_cases c : (k : Int) < S
    · have m1 : min k S.toNat = k := by omega
      have m2 : min (k + 1) S.toNat = k + 1 := by omega
      rw [m2] at r
      rw [m1]
      simp only [F45_l4, c1, e0, c2, if_true, Int.toNat_natCast, rowsI_get z _ hik, List.getElem?_cons_zero, c, decide_true, e3, e4]
      exact r
    · have m1 : min k S.toNat = S.toNat := by omega
      have m2 : min (k + 1) S.toNat = S.toNat := by omega
      rw [m2] at r
      rw [m1]
      simp only [F45_l4, c1, e0, c2, if_true, Int.toNat_natCast, rowsI_get z _ hik, List.getElem?_cons_zero, c, decide_false, e3, e4]
      exact r
theorem sums_ok {S L a b : Int} (h : DtOk S L a b) {z : List Int} (hz : ∀ v ∈ z, Abs v) (hzl : z.length ≤ 1000000) {i : Nat} (hi : i < z.length) (hL : L ≤ i + 1) : F45_d 600 (S, L, a, b, rowsI z, (i : Int)) = some (W z S.toNat i, W z L.toNat i) := by
  have ⟨g1, g2, g3, g4, g5, g6⟩ := h
  have r := sums_loop h hz hzl hi hL L.toNat 0 600 (by omega) (by omega)
  rw [Nat.zero_min, W_zero] at r
  replace r : (F45_l4 600).L 600 (rowsI z, (i : Int), 0, 0, 0, S, L, a, b) = _ := r
  simp only [F45_d, FSpec.d, F45_s, F45_d4, r]
theorem rreach_ok {S L a b p sh lg : Int} (h : DtOk S L a b) (hp : 0 ≤ p ∧ p ≤ 10000) (hs : 0 ≤ sh ∧ sh ≤ 1099511627776) (hg : 0 ≤ lg ∧ lg ≤ 1099511627776) (N : Nat) : F53_d N (S, L, a, b, sh, lg, p) = some (reachB S L p sh lg) := reach_ok h hp hs hg N
theorem tail_ok (N : Nat) : F43_d N () = some (-1, 0, 0) := rfl
end Go.Proofs.Ytaiadjadgpgnmaa
