/- The detector, plain laws: sums, look. -/
import Derived.Test.YtaiadjadgpgnmaaDtA
namespace Go.Proofs.Ytaiadjadgpgnmaa
set_option linter.unusedVariables false
set_option linter.unusedSimpArgs false
set_option linter.unnecessarySimpa false
theorem LSpec.one (l : LSpec) (x : l.X) : l.L 600 x = l.b x l.Y (l.L 599) some := rfl
def ab (x : Int) : Int := if -x > x then -x else x
/-- A sample's bounds. -/
def Smp (x : Int) : Prop := -1073741823 ≤ x ∧ x ≤ 1073741823
def Abs (x : Int) : Prop := 0 ≤ x ∧ x ≤ 1073741823
theorem Smp.ab {x : Int} (h : Smp x) : Abs (ab x) := by
  unfold Smp at h
  unfold Abs Ytaiadjadgpgnmaa.ab
  split <;> omega
theorem abs_ok {x : Int} (h : Smp x) (N : Nat) : F49_d N x = some (ab x) := by
  unfold Smp at h
  simp only [F49_d, FSpec.d, F49_s, Int.zero_sub, i64_id (x := -x) (by omega), ab]
theorem sum_loop (N : Nat) (l : List Int) (hl : l.length ≤ 100000) (hx : ∀ x ∈ l, Smp x) : ∀ (k i f : Nat) (acc : Int), k < f → i + k = l.length → (0 ≤ acc ∧ acc ≤ i * 1073741823) → (F38_l5 N).L f (rowsI l, acc, (l.length : Int), (i : Int)) = some (acc + ((l.drop i).map ab).sum)
  | 0, i, f, acc, hf, hi, ha => by
    obtain ⟨f, rfl⟩ : ∃ f', f = f' + 1 := ⟨f - 1, by omega⟩
    show (F38_l5 N).b _ _ ((F38_l5 N).L f) some = _
    have c : decide ((i : Int) < (l.length : Int)) = false := by simp; omega
    have e : l.drop i = [] := List.drop_eq_nil_of_le (by omega)
    simp only [F38_l5, c, e]
    simp
  | k + 1, i, f, acc, hf, hi, ha => by
    obtain ⟨f, rfl⟩ : ∃ f', f = f' + 1 := ⟨f - 1, by omega⟩
    have hlt : i < l.length := by omega
    have hs := hx _ (List.getElem_mem hlt)
    have hb := hs.ab
    unfold Abs at hb
    have c1 : decide ((i : Int) < (l.length : Int)) = true := by simp; omega
    have c2 : (0 : Int) ≤ (i : Int) := by omega
    have e1 : i64 (acc + ab l[i]) = acc + ab l[i] := i64_id (by omega)
    have e2 : i64 ((i : Int) + 1) = ((i + 1 : Nat) : Int) := by rw [i64_id (by omega)]; omega
    have r := sum_loop N l hl hx k (i + 1) f (acc + ab l[i]) (by omega) (by omega) (by push_cast; omega)
    show (F38_l5 N).b _ _ ((F38_l5 N).L f) some = _
    obtain ⟨Lf, hL⟩ : ∃ Lf, Lf = (F38_l5 N).L f := ⟨_, rfl⟩
    rw [← hL] at r ⊢
    simp only [F38_l5, c1, c2, if_true, Int.toNat_natCast, rowsI_get l i hlt, List.getElem?_cons_zero, abs_ok hs, e1, e2]
    exact r.trans (by rw [List.drop_eq_getElem_cons hlt, List.map_cons, List.sum_cons, Int.add_assoc])
theorem sum_ok (l : List Int) (hl : l.length ≤ 590) (hx : ∀ x ∈ l, Smp x) : F38_d 600 (rowsI l) = some ((l.map ab).sum) := by
  have r := sum_loop 600 l (by omega) hx l.length 0 600 0 (by omega) (by omega) (by omega)
  replace r : (F38_l5 600).L 600 (rowsI l, 0, (l.length : Int), 0) = _ := r
  simp only [F38_d, FSpec.d, F38_s, F38_d5, rowsI_len, r]
  simp
/-- Does the ratio reach p hundredths? -/
def reachB (S L p sh lg : Int) : Bool := lg != 0 && decide (100 * L * sh ≥ p * S * lg)
theorem reach_ok {S L a b p sh lg : Int} (h : DtOk S L a b) (hp : 0 ≤ p ∧ p ≤ 10000) (hs : 0 ≤ sh ∧ sh ≤ 1099511627776) (hg : 0 ≤ lg ∧ lg ≤ 1099511627776) (N : Nat) : F50_d N (S, L, a, b, sh, lg, p) = some (reachB S L p sh lg) := by
  obtain ⟨h1, h2, h3, h4, h5, h6⟩ := h
  have l0 : 0 ≤ 100 * L * sh := Int.mul_nonneg (by omega) hs.1
  have l1 : 100 * L * sh ≤ 51200 * 1099511627776 := Int.mul_le_mul (by omega) hs.2 hs.1 (by omega)
  have p0 : 0 ≤ p * S := Int.mul_nonneg hp.1 (by omega)
  have p1 : p * S ≤ 10000 * 512 := Int.mul_le_mul hp.2 (by omega) (by omega) (by omega)
  have q0 : 0 ≤ p * S * lg := Int.mul_nonneg p0 hg.1
  have q1 : p * S * lg ≤ 5120000 * 1099511627776 := Int.mul_le_mul (by omega) hg.2 hg.1 (by omega)
  have e1 : i64 (100 * L) = 100 * L := i64_id (by omega)
  have e2 : i64 (100 * L * sh) = 100 * L * sh := i64_id (by omega)
  have e3 : i64 (p * S) = p * S := i64_id (by omega)
  have e4 : i64 (p * S * lg) = p * S * lg := i64_id (by omega)
  simp only [F50_d, FSpec.d, F50_s, e1, e2, e3, e4, reachB]
  cases lg != 0 <;> rfl
abbrev Trg := Int × Int × Int
def rowsT (E : List Trg) : List (List AV) := E.map fun t => [I t.1, I t.2.1, I t.2.2]
theorem rowsT_len (E : List Trg) : (rowsT E).length = E.length := by simp [rowsT]
theorem rowsT_get (E : List Trg) (k : Nat) (h : k < E.length) : (rowsT E)[k]? = some [I E[k].1, I E[k].2.1, I E[k].2.2] := by simp [rowsT, h]
theorem rowsT_snoc (E : List Trg) (x y z : Int) : rowsT E ++ [[AV.v (.int .i64 x), AV.v (.int .i64 y), AV.v (.int .i64 z)]] = rowsT (E ++ [(x, y, z)]) := by simp [rowsT]
/-- What a sample does to the trigger that is open, and to those that have ended. -/
def tr1 (S L a b c sh lg : Int) (t : Trg) (E : List Trg) : Trg × List Trg :=
  if c + 1 ≥ L then
    (if t.1 ≥ 0 then (if reachB S L b sh lg then (t, E) else ((-1, 0, 0), E ++ [(t.1, c, t.2.2)]))
     else (if reachB S L a sh lg then ((c, -1, 0), E) else (t, E)))
  else (t, E)
def tr2 (x : Int) (t : Trg) : Trg := if t.1 ≥ 0 then (t.1, t.2.1, if x > t.2.2 then x else t.2.2) else t
def pa2 (L : Int) (pa : List Int) : List Int := if (pa.length : Int) = L then pa.drop 1 else pa
def sh2 (S : Int) (pa : List Int) (sh : Int) : Int := if (pa.length : Int) ≥ S then sh - pa.getD (pa.length - S.toNat) 0 else sh
def lg2 (L : Int) (pa : List Int) (lg : Int) : Int := if (pa.length : Int) = L then lg - pa.getD 0 0 else lg
theorem tr1_len (S L a b c sh lg : Int) (t : Trg) (E : List Trg) : (tr1 S L a b c sh lg t E).2.length ≤ E.length + 1 := by
  unfold tr1
  split
  · split
    · split <;> simp
    · split <;> simp
  · simp
theorem look_ok {S L a b : Int} (h : DtOk S L a b) {x : Int} (hx : Smp x) {pa : List Int} (hpa : ∀ v ∈ pa, Abs v) (hl : (pa.length : Int) < L) {c sh lg : Int} (hc : 0 ≤ c ∧ c ≤ 1099511627776) (hs : 0 ≤ sh ∧ sh ≤ 1098437885952) (hg : 0 ≤ lg ∧ lg ≤ 1098437885952) {o f p : Int} {E : List Trg} (hE : E.length ≤ 1000000) :
    F36_d 600 (x, S, L, a, b, rowsI pa, c, o, f, p, sh, lg, rowsT E) = some (S, L, a, b, rowsI (pa2 L (pa ++ [ab x])), c + 1, (tr2 (ab x) (tr1 S L a b c (sh + ab x) (lg + ab x) (o, f, p) E).1).1, (tr2 (ab x) (tr1 S L a b c (sh + ab x) (lg + ab x) (o, f, p) E).1).2.1, (tr2 (ab x) (tr1 S L a b c (sh + ab x) (lg + ab x) (o, f, p) E).1).2.2, sh2 S (pa ++ [ab x]) (sh + ab x), lg2 L (pa ++ [ab x]) (lg + ab x), rowsT (tr1 S L a b c (sh + ab x) (lg + ab x) (o, f, p) E).2) := by
  have hb := hx.ab
  obtain ⟨h1, h2, h3, h4, h5, h6⟩ := h
  have h : DtOk S L a b := ⟨h1, h2, h3, h4, h5, h6⟩
  unfold Abs at hb hpa
  have e1 : i64 (c + 1) = c + 1 := i64_id (by omega)
  have e2 : i64 (sh + ab x) = sh + ab x := i64_id (by omega)
  have e3 : i64 (lg + ab x) = lg + ab x := i64_id (by omega)
  have e4 : i64 (c + 1 - 1) = c := by rw [i64_id (by omega)]; omega
  have r1 := reach_ok h (p := b) (sh := sh + ab x) (lg := lg + ab x) (by omega) (by omega) (by omega) 600
  have r2 := reach_ok h (p := a) (sh := sh + ab x) (lg := lg + ab x) (by omega) (by omega) (by omega) 600
  have hEb : ∀ r : List AV, ((rowsT E).length + [r].length) * 24 ≤ maxBytes := fun r => by
    rw [rowsT_len]; unfold maxBytes; simp; omega
  -- the part that opens and ends
  have A : F36_d6 600 (ab x, decide (c + 1 ≥ L), S, L, a, b, rowsI pa, c + 1, o, f, p, sh + ab x, lg + ab x, rowsT E, S, L, a, b) = some (ab x, S, L, a, b, rowsI pa, c + 1, (tr1 S L a b c (sh + ab x) (lg + ab x) (o, f, p) E).1.1, (tr1 S L a b c (sh + ab x) (lg + ab x) (o, f, p) E).1.2.1, (tr1 S L a b c (sh + ab x) (lg + ab x) (o, f, p) E).1.2.2, sh + ab x, lg + ab x, rowsT (tr1 S L a b c (sh + ab x) (lg + ab x) (o, f, p) E).2, S, L, a, b) := by
    unfold tr1
    by_cases g1 : c + 1 ≥ L
    · by_cases g2 : o ≥ 0
      · cases g3 : reachB S L b (sh + ab x) (lg + ab x) with
        | true =>
          have g4 : decide (o < 0) = false := by simp; omega
          simp only [F36_d6, LSpec.one, F36_l6, F36_d8, F36_l8, F36_d9, F36_l9, g1, g2, decide_true, r1, g3, Bool.not_true, g4, if_true]
        | false =>
          simp only [F36_d6, LSpec.one, F36_l6, F36_d8, F36_l8, F36_d9, F36_l9, g1, g2, decide_true, r1, g3, Bool.not_false, hEb, if_true, e4, rowsT_snoc, Bool.false_eq_true, if_false]
          first | done | exact if_pos trivial
      · have g4 : decide (o < 0) = true := by simp; omega
        cases g3 : reachB S L a (sh + ab x) (lg + ab x) with
        | true => simp only [F36_d6, LSpec.one, F36_l6, F36_d8, F36_l8, F36_d9, F36_l9, g1, g2, decide_true, decide_false, r2, g3, g4, if_true, if_false, e4, Bool.false_eq_true]
        | false => simp only [F36_d6, LSpec.one, F36_l6, F36_d8, F36_l8, F36_d9, F36_l9, g1, g2, decide_true, decide_false, r2, g3, g4, if_true, if_false, e4, Bool.false_eq_true]
    · simp only [F36_d6, LSpec.one, F36_l6, g1, decide_false, if_false]
  obtain ⟨⟨⟨t1, t2, t3⟩, E'⟩, hT⟩ : ∃ q, q = tr1 S L a b c (sh + ab x) (lg + ab x) (o, f, p) E := ⟨_, rfl⟩
  rw [← hT] at A ⊢
  have Bt : F36_d16 600 (ab x, decide (t1 ≥ 0), S, L, a, b, rowsI pa, c + 1, t1, t2, t3, sh + ab x, lg + ab x, rowsT E', S, L, a, b) = some (ab x, S, L, a, b, rowsI pa, c + 1, (tr2 (ab x) (t1, t2, t3)).1, (tr2 (ab x) (t1, t2, t3)).2.1, (tr2 (ab x) (t1, t2, t3)).2.2, sh + ab x, lg + ab x, rowsT E', S, L, a, b) := by
    unfold tr2
    by_cases g1 : t1 ≥ 0
    · simp only [F36_d16, LSpec.one, F36_l16, g1, decide_true, if_true]
    · simp only [F36_d16, LSpec.one, F36_l16, g1, decide_false, if_false]
  have b1 : (pa.length + [[AV.v (.int .i64 (ab x))]].length) * 8 ≤ maxBytes := by
    unfold maxBytes; simp; omega
  have len : (pa ++ [ab x]).length = pa.length + 1 := by simp
  obtain ⟨q, hq⟩ : ∃ q, q = pa ++ [ab x] := ⟨_, rfl⟩
  have hq2 : ∀ v ∈ q, 0 ≤ v ∧ v ≤ 1073741823 := fun v hv => by
    rw [hq] at hv
    rcases List.mem_append.1 hv with hv | hv
    · exact hpa v hv
    · simp at hv; rw [hv]; exact hb
  rw [← hq] at len ⊢
  simp only [F36_d, FSpec.d, F36_s, abs_ok hx, e1, e2, e3, A, Bt, b1, if_true, rowsI_snoc, ← hq, rowsI_len]
  have hq0 : 0 < q.length := by omega
  have m0 := hq2 _ (List.getElem_mem hq0)
  have g0 : (rowsI q)[(0 : Int).toNat]? = some [I q[0]] := rowsI_get q 0 hq0
  have d0 : q.getD 0 0 = q[0] := by simp [List.getD, hq0]
  have one : (0 : Int) ≤ 1 ∧ (1 : Int) ≤ (q.length : Int) := by omega
  by_cases g1 : (q.length : Int) ≥ S
  · have hi : q.length - S.toNat < q.length := by omega
    have m1 := hq2 _ (List.getElem_mem hi)
    have k1 : i64 ((q.length : Int) - S) = ((q.length - S.toNat : Nat) : Int) := by rw [i64_id (by omega)]; omega
    have k2 : (0 : Int) ≤ ((q.length - S.toNat : Nat) : Int) := by omega
    have d1 : q.getD (q.length - S.toNat) 0 = q[q.length - S.toNat] := by simp [List.getD, hi]
    have k3 : i64 (sh + ab x - q[q.length - S.toNat]) = sh + ab x - q[q.length - S.toNat] := i64_id (by omega)
    have S2 : sh2 S q (sh + ab x) = sh + ab x - q[q.length - S.toNat] := by unfold sh2; rw [if_pos g1, d1]
    have c1 : decide ((q.length : Int) ≥ S) = true := by simp; omega
    by_cases g2 : (q.length : Int) = L
    · have k4 : i64 (lg + ab x - q[0]) = lg + ab x - q[0] := i64_id (by omega)
      have P2 : pa2 L q = q.drop 1 := if_pos g2
      have L2 : lg2 L q (lg + ab x) = lg + ab x - q[0] := by unfold lg2; rw [if_pos g2, d0]
      have g2' : ((q.length : Int) == L) = true := by simp [g2]
      have c0 : (0 : Int) ≤ 0 := by omega
      have t1 : (1 : Int).toNat = 1 := rfl
      simp only [c1, k1, k2, if_true, Int.toNat_natCast, rowsI_get q _ hi, List.getElem?_cons_zero, g2', g0, one, k3, k4, rowsI_drop, c0, and_self, S2, P2, L2, t1]
    · have g2' : ((q.length : Int) == L) = false := by simp [g2]
      have P2 : pa2 L q = q := if_neg g2
      have L2 : lg2 L q (lg + ab x) = lg + ab x := if_neg g2
      simp only [c1, k1, k2, if_true, Int.toNat_natCast, rowsI_get q _ hi, List.getElem?_cons_zero, g2', k3, S2, P2, L2]
  · have c1 : decide ((q.length : Int) ≥ S) = false := by simp; omega
    have g2 : ¬ (q.length : Int) = L := by omega
    have g2' : ((q.length : Int) == L) = false := by simp [g2]
    have P2 : pa2 L q = q := if_neg g2
    have L2 : lg2 L q (lg + ab x) = lg + ab x := if_neg g2
    have S2 : sh2 S q (sh + ab x) = sh + ab x := if_neg g1
    simp only [c1, g2', S2, P2, L2]
end Go.Proofs.Ytaiadjadgpgnmaa
