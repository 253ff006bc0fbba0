/- Several texts as one (written by merge.py): StI StJ StM StN StO StP PkB PkC PkD. -/
import Derived.Test.YtdmedeaknnldcaaGreatDoorPyA
import Derived.Test.YtdmedeaknnldcaaGreatDoorPkU
import Derived.Test.YtdmedeaknnldcaaGreatDoorPkCrc
/- Steim, the plain law: the dice, samples, lists compared; the law SteimBack. -/
namespace Go.Proofs.YtdmedeaknnldcaaGreatDoor
open Go.RowKit
set_option linter.unusedVariables false
set_option linter.unusedSimpArgs false
set_option linter.unnecessarySimpa false
structure Dice (xs : List Int) (p : Int) : Prop where
  b : ∀ x ∈ xs, -9223372036854775808 ≤ x ∧ x ≤ 9223372036854775807
  l : xs.length ≤ 500
  p0 : 0 ≤ p
  p1 : p ≤ 500
theorem next_ok (N : Nat) {n : Int} {xs : List Int} {p : Int} (hn : 1 ≤ n ∧ n ≤ 1000000) (D : Dice xs p) : ∃ v p', F8_d N (n, rowsI xs, p) = some (v, rowsI xs, p') ∧ (0 ≤ v ∧ v < n) ∧ Dice xs p' := by
  obtain ⟨b, l, p0, p1⟩ := D
  simp only [F8_d, FSpec.d, F8_s]
  by_cases h : p ≥ ((rowsI xs).length : Int)
  · simp only [h, decide_true]
    exact ⟨0, p, rfl, by omega, ⟨b, l, p0, p1⟩⟩
  · have h1 : ¬ n < 1 := by omega
    have h2 : p.toNat < xs.length := by rw [rowsI_len] at h; omega
    have h3 : ¬ n = 0 := by omega
    simp only [h, decide_false, h1, p0, if_true, rowsI_get xs _ h2, List.getElem?_cons_zero, h3, if_false]
    have hb := b _ (List.getElem_mem h2)
    have hp : i64 (p + 1) = p + 1 := i64_id (by omega)
    by_cases hneg : (xs[p.toNat]).tmod n < 0
    · simp only [hneg, decide_true, hp]
      have t1 : -n < (xs[p.toNat]).tmod n := by
        have := Int.tmod_lt_of_pos (-xs[p.toNat]) (show 0 < n by omega)
        rw [Int.neg_tmod] at this
        omega
      rw [i64_id (by omega)]
      exact ⟨_, _, rfl, by omega, ⟨b, l, by omega, by rw [rowsI_len] at h; omega⟩⟩
    · simp only [hneg, decide_false, hp]
      have t1 := Int.tmod_lt_of_pos xs[p.toNat] (show 0 < n by omega)
      exact ⟨_, _, rfl, by omega, ⟨b, l, by omega, by rw [rowsI_len] at h; omega⟩⟩
theorem pick_ok (N : Nat) (O : List Int) {xs : List Int} {p : Int} (hO : 1 ≤ O.length ∧ O.length ≤ 1000) (D : Dice xs p) : ∃ v p', F30_d N (rowsI O, rowsI xs, p) = some (v, rowsI xs, p') ∧ v ∈ O ∧ Dice xs p' := by
  simp only [F30_d, FSpec.d, F30_s]
  obtain ⟨v, p', h1, h2, h3⟩ := next_ok N (n := (O.length : Int)) (by omega) D
  rw [rowsI_len, h1]
  have h4 : v.toNat < O.length := by omega
  simp only [h2.1, if_true, rowsI_get O _ h4, List.getElem?_cons_zero]
  exact ⟨_, _, rfl, List.getElem_mem h4, h3⟩

theorem light_ok (N : Nat) (xs : List Int) : F5_d N (rowsI xs) = some (decide ((xs.length : Int) ≤ 500)) := by
  simp only [F5_d, FSpec.d, F5_s, rowsI_len]
def clm (x : Int) : Int := if 1073741823 < (if -1073741823 > x then -1073741823 else x) then 1073741823 else (if -1073741823 > x then -1073741823 else x)
theorem clm_smp (x : Int) : Smp (clm x) := by
  unfold clm Smp
  split <;> split <;> omega
theorem smp_loop {xs : List Int} : ∀ (k f : Nat) (p v : Int) (acc : List Int), k < f → acc.length + k ≤ 400 → Dice xs p → Smp v → (∀ x ∈ acc, Smp x) →
    ∃ (X : List Int) (p' : Int), (F32_l6 600).L f (rowsI acc, v, (k : Int), rowsI xs, p) = some (rowsI X, rowsI xs, p') ∧ X.length = acc.length + k ∧ (∀ x ∈ X, Smp x) ∧ Dice xs p'
  | 0, f, p, v, acc, hf, hl, D, hv, ha => by
    obtain ⟨f, rfl⟩ : ∃ f', f = f' + 1 := ⟨f - 1, by omega⟩
    refine ⟨acc, p, ?_, rfl, ha, D⟩
    show (F32_l6 600).b _ _ ((F32_l6 600).L f) some = _
    have c : decide (((0 : Nat) : Int) > 0) = false := rfl
    simp only [F32_l6, c]
  | k + 1, f, p, v, acc, hf, hl, D, hv, ha => by
    obtain ⟨f, rfl⟩ : ∃ f', f = f' + 1 := ⟨f - 1, by omega⟩
    have hk : decide (((k + 1 : Nat) : Int) > 0) = true := by rw [decide_eq_true_iff]; omega
    have hi : i64 (((k + 1 : Nat) : Int) - 1) = (k : Int) := by rw [i64_id (by omega)]; omega
    have hb : ((rowsI acc).length + 1) * 8 ≤ maxBytes := by rw [rowsI_len]; unfold maxBytes; omega
    obtain ⟨c, p1, g1, m1, D1⟩ := next_ok 600 (n := 10) (by omega) D
    have key : ∀ (p2 u : Int), Dice xs p2 → Smp u → ∃ (X : List Int) (p' : Int), (F32_l6 600).L f (rowsI (acc ++ [u]), u, (k : Int), rowsI xs, p2) = some (rowsI X, rowsI xs, p') ∧ X.length = acc.length + (k + 1) ∧ (∀ x ∈ X, Smp x) ∧ Dice xs p' := fun p2 u D2 hu => by
      obtain ⟨X, p', r1, r2, r3, r4⟩ := smp_loop k f p2 u (acc ++ [u]) (by omega) (by simp; omega) D2 hu (fun x hx => by
        rcases List.mem_append.1 hx with h | h
        · exact ha x h
        · rw [List.mem_singleton.1 h]; exact hu)
      exact ⟨X, p', r1, by rw [r2]; simp; omega, r3, r4⟩
    have fin : ∃ (X : List Int) (p' : Int), (F32_l6 600).b (rowsI acc, v, ((k + 1 : Nat) : Int), rowsI xs, p) _ ((F32_l6 600).L f) some = some (rowsI X, rowsI xs, p') ∧ X.length = acc.length + (k + 1) ∧ (∀ x ∈ X, Smp x) ∧ Dice xs p' := by
      obtain ⟨Lf, hL⟩ : ∃ Lf, Lf = (F32_l6 600).L f := ⟨_, rfl⟩
      rw [← hL] at key ⊢
      by_cases h0 : c = 0
      · subst h0
        obtain ⟨w, p2, g2, m2, D2⟩ := pick_ok 600 [127, 128, -128, -129, 300] (by simp) D1
        replace g2 : F30_d 600 ([[(AV.v (.int .i64 127))], [(AV.v (.int .i64 128))], [(AV.v (.int .i64 (-128)))], [(AV.v (.int .i64 (-129)))], [(AV.v (.int .i64 300))]], rowsI xs, p1) = some (w, rowsI xs, p2) := g2
        have hu := clm_smp (i64 (v + w))
        have q := key p2 _ D2 hu
        unfold clm at q
        simp only [F32_l6, hk, g1, beq_self_eq_true, g2, List.length_cons, List.length_nil, Nat.zero_add, hb, if_true, rowsI_snoc, hi]
        exact q
      · have b0 : (c == 0) = false := beq_eq_false_iff_ne.2 h0
        by_cases h1 : c = 1
        · subst h1
          obtain ⟨w, p2, g2, m2, D2⟩ := pick_ok 600 [32767, 32768, -32768, -32769] (by simp) D1
          replace g2 : F30_d 600 ([[(AV.v (.int .i64 32767))], [(AV.v (.int .i64 32768))], [(AV.v (.int .i64 (-32768)))], [(AV.v (.int .i64 (-32769)))]], rowsI xs, p1) = some (w, rowsI xs, p2) := g2
          have hu := clm_smp (i64 (v + w))
          have q := key p2 _ D2 hu
          unfold clm at q
          simp only [F32_l6, hk, g1, b0, beq_self_eq_true, g2, List.length_cons, List.length_nil, Nat.zero_add, hb, if_true, rowsI_snoc, hi]
          exact q
        · have b1 : (c == 1) = false := beq_eq_false_iff_ne.2 h1
          by_cases h2 : c = 2
          · subst h2
            obtain ⟨w, p2, g2, m2, D2⟩ := pick_ok 600 [0, 1073741823, -1073741823, 536870912] (by simp) D1
            replace g2 : F30_d 600 ([[(AV.v (.int .i64 0))], [(AV.v (.int .i64 1073741823))], [(AV.v (.int .i64 (-1073741823)))], [(AV.v (.int .i64 536870912))]], rowsI xs, p1) = some (w, rowsI xs, p2) := g2
            have hu := clm_smp w
            have q := key p2 _ D2 hu
            unfold clm at q
            simp only [F32_l6, hk, g1, b0, b1, beq_self_eq_true, g2, List.length_cons, List.length_nil, Nat.zero_add, hb, if_true, rowsI_snoc, hi]
            exact q
          · have b2 : (c == 2) = false := beq_eq_false_iff_ne.2 h2
            obtain ⟨w, p2, g2, m2, D2⟩ := next_ok 600 (n := 9) (by omega) D1
            have hu := clm_smp (i64 (v + i64 (w - 4)))
            have q := key p2 _ D2 hu
            unfold clm at q
            simp only [F32_l6, hk, g1, b0, b1, b2, g2, List.length_cons, List.length_nil, Nat.zero_add, hb, if_true, rowsI_snoc, hi]
            exact q
    exact fin
theorem samples_ok {n : Int} (hn : 1 ≤ n ∧ n ≤ 200) {xs : List Int} {p : Int} (D : Dice xs p) : ∃ (X : List Int) (p' : Int), F32_d 600 (n, rowsI xs, p) = some (rowsI X, rowsI xs, p') ∧ (1 ≤ X.length ∧ (X.length : Int) ≤ n) ∧ (∀ x ∈ X, Smp x) ∧ Dice xs p' := by
  obtain ⟨v, p1, g1, m1, D1⟩ := pick_ok 600 [0, 5, -100, 1000] (by simp) D
  replace g1 : F30_d 600 ([[(AV.v (.int .i64 0))], [(AV.v (.int .i64 5))], [(AV.v (.int .i64 (-100)))], [(AV.v (.int .i64 1000))]], rowsI xs, p) = some (v, rowsI xs, p1) := g1
  obtain ⟨c, p2, g2, m2, D2⟩ := next_ok 600 (n := n) (by omega) D1
  have e1 : i64 (1 + c) = ((1 + c.toNat : Nat) : Int) := by rw [i64_id (by omega)]; omega
  have hv : Smp v := by unfold Smp; simp at m1; omega
  obtain ⟨X, p', r1, r2, r3, r4⟩ := smp_loop (xs := xs) (1 + c.toNat) 600 p2 v [] (by omega) (by simp; omega) D2 hv (by simp)
  replace r1 : (F32_l6 600).L 600 (([] : List (List AV)), v, ((1 + c.toNat : Nat) : Int), rowsI xs, p2) = _ := r1
  simp only [List.length_nil, Nat.zero_add] at r2
  refine ⟨X, p', ?_, by omega, r3, r4⟩
  simp only [F32_d, FSpec.d, F32_s, g1, g2, e1, F32_d6, r1]
theorem same_loop (S : List Int) : ∀ (k i f : Nat), k < f → i + k = S.length → S.length ≤ 590 → (F43_l8 600).L f (rowsI S, rowsI S, (i : Int)) = some (.inr ())
  | 0, i, f, hf, hi, hl => by
    obtain ⟨f, rfl⟩ : ∃ f', f = f' + 1 := ⟨f - 1, by omega⟩
    show (F43_l8 600).b _ _ ((F43_l8 600).L f) some = _
    have : decide ((i : Int) < (S.length : Int)) = false := by rw [decide_eq_false_iff_not]; omega
    simp only [F43_l8, rowsI_len, this]
  | k + 1, i, f, hf, hi, hl => by
    obtain ⟨f, rfl⟩ : ∃ f', f = f' + 1 := ⟨f - 1, by omega⟩
    have hlt : i < S.length := by omega
    have c1 : decide ((i : Int) < (S.length : Int)) = true := by rw [decide_eq_true_iff]; omega
    have c2 : (0 : Int) ≤ (i : Int) := by omega
    have c4 : i64 ((i : Int) + 1) = ((i + 1 : Nat) : Int) := by rw [i64_id (by omega)]; omega
    have r1 := same_loop S k (i + 1) f (by omega) (by omega) hl
    show (F43_l8 600).b _ _ ((F43_l8 600).L f) some = _
    obtain ⟨Lf, hL⟩ : ∃ Lf, Lf = (F43_l8 600).L f := ⟨_, rfl⟩
    rw [← hL] at r1 ⊢
    simp only [F43_l8, rowsI_len, c1, c2, if_true, Int.toNat_natCast, rowsI_get S i hlt, List.getElem?_cons_zero, bne_self_eq_false, c4]
    exact r1
theorem same_ok (S : List Int) (hl : S.length ≤ 590) : F43_d 600 (rowsI S, rowsI S) = some true := by
  have r := same_loop S S.length 0 600 (by omega) (by omega) hl
  replace r : (F43_l8 600).L 600 (rowsI S, rowsI S, 0) = some (.inr ()) := r
  simp only [F43_d, FSpec.d, F43_s, bne_self_eq_false, F43_d8, r]
/-- Decoding the encoding of samples. -/
theorem nfr_rng (w : Nat) (h : w ≤ 104) : 1 ≤ nfr w ∧ nfr w ≤ 8 ∧ w + 2 ≤ 15 * nfr w := by
  unfold nfr
  omega
theorem back (X : List Int) (hX : ∀ x ∈ X, Smp x) (hl : 1 ≤ X.length ∧ X.length ≤ 104) (m : Nat) (hm : 1 ≤ m ∧ m ≤ X.length) : F34_d 600 (rowsI X) = some (FS (nfr (wX X).length) (lX X), 0) ∧ F75_d 600 (FS (nfr (wX X).length) (lX X), (m : Int)) = some (if X.getD (m - 1) 0 = X.getLastD 0 then (rowsI (X.take m), 0) else (rowsI [], 11)) := by
  have h0 : X ≠ [] := fun e => by rw [e] at hl; simp at hl
  have hw := (wX_len X).1
  have hn := nfr_rng (wX X).length (by omega)
  refine ⟨enc_ok X (by omega) h0 hX hn.2.1, ?_⟩
  have hlast : Fit32 (X.getLastD 0) := by
    have hl1 : X.length - 1 < X.length := by omega
    have el : X.getLastD 0 = X[X.length - 1] := by
      rw [List.getLastD_eq_getLast?, List.getLast?_eq_getElem?, List.getElem?_eq_getElem hl1]; rfl
    have := hX _ (List.getElem_mem hl1)
    rw [el]
    unfold Smp at this
    unfold Fit32
    omega
  have d := dec_frames X hX h0 (by omega) (nfr (wX X).length) ⟨hn.1, hn.2.1⟩ hn.2.2 (X.getLastD 0 % 4294967296) (by omega) m hm (by omega)
  rw [sgn32_mod hlast] at d
  rw [dec_any _ (by rw [FS_size]; omega)]
  have e : lX X = (0, X.headD 0 % 4294967296) :: (0, X.getLastD 0 % 4294967296) :: wX X := rfl
  rw [e, d]
  split <;> rfl
end Go.Proofs.YtdmedeaknnldcaaGreatDoor
/- Steim, the plain law: SteimDamage. -/
namespace Go.Proofs.YtdmedeaknnldcaaGreatDoor
open Go.RowKit
set_option linter.unusedVariables false
set_option linter.unusedSimpArgs false
set_option linter.unnecessarySimpa false
/-! The document's Get and Put. -/
theorem rin_any (N : Nat) (x lo hi : Int) : F42_d N (x, lo, hi) = some (decide (lo ≤ x ∧ x ≤ hi)) := in_any N x lo hi
theorem rin_yes {x lo hi : Int} (h : lo ≤ x ∧ x ≤ hi) : F42_d 600 (x, lo, hi) = some true := by rw [rin_any, decide_eq_true h]
theorem rget_step (s : ByteArray) (m i f : Nat) (acc : Int) (hm : m ≤ 1000000) (hi : i < 4) (hs : m + i < s.size) (ha : 0 ≤ acc ∧ acc < 16777216) : (F76_l13 600).L (f + 1) (s, (m : Int), 4, acc, (i : Int)) = (F76_l13 600).L f (s, (m : Int), 4, acc * 256 + (nums s).getD (m + i) 0, ((i + 1 : Nat) : Int)) := by
  show (F76_l13 600).b _ _ ((F76_l13 600).L f) some = _
  obtain ⟨Lf, hL⟩ : ∃ Lf, Lf = (F76_l13 600).L f := ⟨_, rfl⟩
  rw [← hL]
  have c1 : decide ((i : Int) < 4) = true := by rw [decide_eq_true_iff]; omega
  have e1 : i64 ((m : Int) + (i : Int)) = ((m + i : Nat) : Int) := by rw [i64_id (by omega)]; omega
  have c2 : (0 : Int) ≤ ((m + i : Nat) : Int) := by omega
  have e3 : i64 ((i : Int) + 1) = ((i + 1 : Nat) : Int) := by rw [i64_id (by omega)]; omega
  obtain ⟨u, hu, hv⟩ := byte_get s (m + i) hs
  have hr := num_rng s (m + i)
  have e4 : shL .i64 acc 8 = acc * 2 ^ 8 := shL_ok (by omega) (by
    have : ((8 : Int)).toNat = 8 := rfl
    rw [this]
    omega)
  have e5 : IntKind.i64.wrap ((nums s).getD (m + i) 0) = (nums s).getD (m + i) 0 := i64_id (by omega)
  have e6 : bOr .i64 (acc * 2 ^ 8) ((nums s).getD (m + i) 0) = acc * 2 ^ 8 + (nums s).getD (m + i) 0 := bOr_ok (by omega) ha.1 (by omega) (by omega)
  simp only [F76_l13, c1, e1, c2, if_true, Int.toNat_natCast, hu, hv, e4, e5, e6, e3]
  exact if_pos trivial
theorem rget4_ok (s : ByteArray) (m : Nat) (hm : m ≤ 1000000) (h : m + 4 ≤ s.size) (hs : s.size ≤ 1000000) : F76_d 600 (s, (m : Int), 4) = some (get4 s m, 0) := by
  have i1 : F42_d 600 (4, 1, 7) = some true := rin_yes (by omega)
  have c1 : decide ((m : Int) < 0) = false := by rw [decide_eq_false_iff_not]; omega
  have e1 : i64 ((s.size : Int) - 4) = (s.size : Int) - 4 := i64_id (by omega)
  have c2 : decide ((m : Int) > (s.size : Int) - 4) = false := by rw [decide_eq_false_iff_not]; omega
  have h1 := num_rng s m
  have h2 := num_rng s (m + 1)
  have h3 := num_rng s (m + 2)
  have h4 := num_rng s (m + 3)
  have r : (F76_l13 600).L 600 (s, (m : Int), 4, 0, 0) = some (get4 s m) := by
    have s1 := rget_step s m 0 599 0 hm (by omega) (by omega) (by omega)
    have s2 := rget_step s m 1 598 (0 * 256 + (nums s).getD (m + 0) 0) hm (by omega) (by omega) (by simp only [Nat.add_zero]; omega)
    have s3 := rget_step s m 2 597 ((0 * 256 + (nums s).getD (m + 0) 0) * 256 + (nums s).getD (m + 1) 0) hm (by omega) (by omega) (by simp only [Nat.add_zero]; omega)
    have s4 := rget_step s m 3 596 (((0 * 256 + (nums s).getD (m + 0) 0) * 256 + (nums s).getD (m + 1) 0) * 256 + (nums s).getD (m + 2) 0) hm (by omega) (by omega) (by simp only [Nat.add_zero]; omega)
    have s5 : ∀ x : Int, (F76_l13 600).L 596 (s, (m : Int), 4, x, ((3 + 1 : Nat) : Int)) = some x := fun x => by
      show (F76_l13 600).b _ _ ((F76_l13 600).L 595) some = _
      have c0 : decide (((3 + 1 : Nat) : Int) < 4) = false := by rw [decide_eq_false_iff_not]; omega
      simp only [F76_l13, c0]
    refine s1.trans (s2.trans (s3.trans (s4.trans ((s5 _).trans ?_))))
    congr 1
    unfold get4
    simp only [Nat.add_zero]
    omega
  simp only [F76_d, FSpec.d, F76_s, i1, Bool.not_true, c1, e1, c2, F76_d13, r]
theorem u64_id {x : Int} (h : 0 ≤ x ∧ x ≤ 1000000) : IntKind.u64.wrap x = x := by
  show x % 18446744073709551616 = x
  omega
theorem rput_step (l : List Int) (hl : l.length ≤ 1000000) (n : Int) (i f : Nat) (hi : i ≤ 7) : (F28_l9 600).L (f + 1) (rows8 l, n, (i : Int)) = (F28_l9 600).L f (rows8 (l ++ [n / 2 ^ (8 * i) % 256]), n, (i : Int) - 1) := by
  show (F28_l9 600).b _ _ ((F28_l9 600).L f) some = _
  obtain ⟨Lf, hL⟩ : ∃ Lf, Lf = (F28_l9 600).L f := ⟨_, rfl⟩
  rw [← hL]
  have c1 : decide ((i : Int) ≥ 0) = true := by rw [decide_eq_true_iff]; omega
  have e1 : i64 (8 * (i : Int)) = 8 * (i : Int) := i64_id (by omega)
  have e0 : IntKind.u64.wrap (8 * (i : Int)) = 8 * (i : Int) := u64_id (by omega)
  have c2 : ¬ (8 * (i : Int) < 0) := by omega
  have e2 : shR .i64 n (8 * (i : Int)) = n / 2 ^ (8 * i) := by
    rw [shR_ok (by omega)]
    have : (8 * (i : Int)).toNat = 8 * i := by omega
    rw [this]
  have e3 : i64 ((i : Int) - 1) = (i : Int) - 1 := i64_id (by omega)
  have b : ((rows8 l).length + 1) * 1 ≤ maxBytes := by rw [rows8_len]; unfold maxBytes; omega
  simp only [F28_l9, c1, e1, e0, c2, if_false, e2, e3, u8_wrap, List.length_cons, List.length_nil, Nat.zero_add, b, if_true, rows8_snoc]
  exact if_pos trivial
theorem rput4 (s : ByteArray) (hs : s.size ≤ 900000) {n : Int} (hn : 0 ≤ n ∧ n ≤ 4294967295) : F28_d 600 (s, n, 4) = some (s ++ strOfNums (be4 n), 0) := by
  have e1 : i64 (8 * 4) = 32 := by kernel_rfl
  have e0 : IntKind.u64.wrap 32 = 32 := by kernel_rfl
  have e2 : shL .i64 1 32 = 4294967296 := by kernel_rfl
  have e3 : i64 (4 - 1) = 3 := by kernel_rfl
  have c : ¬ ((32 : Int) < 0) := by omega
  have i1 : F42_d 600 (4, 1, 7) = some true := rin_yes (by omega)
  have i2 : decide (n < 0) = false := by rw [decide_eq_false_iff_not]; omega
  have i3 : decide (n ≥ 4294967296) = false := by rw [decide_eq_false_iff_not]; omega
  have hl := nums_len s
  have r : (F28_l9 600).L 600 (rows8 (nums s), n, 3) = some (rows8 (nums s ++ be4 n)) := by
    have s1 := rput_step (nums s) (by omega) n 3 599 (by omega)
    have s2 := rput_step (nums s ++ [n / 2 ^ (8 * 3) % 256]) (by simp; omega) n 2 598 (by omega)
    have s3 := rput_step (nums s ++ [n / 2 ^ (8 * 3) % 256] ++ [n / 2 ^ (8 * 2) % 256]) (by simp; omega) n 1 597 (by omega)
    have s4 := rput_step (nums s ++ [n / 2 ^ (8 * 3) % 256] ++ [n / 2 ^ (8 * 2) % 256] ++ [n / 2 ^ (8 * 1) % 256]) (by simp; omega) n 0 596 (by omega)
    have s5 : ∀ l : List Int, (F28_l9 600).L 596 (rows8 l, n, ((0 : Nat) : Int) - 1) = some (rows8 l) := fun l => by
      show (F28_l9 600).b _ _ ((F28_l9 600).L 595) some = _
      have c0 : decide ((((0 : Nat) : Int) - 1) ≥ 0) = false := by rw [decide_eq_false_iff_not]; omega
      simp only [F28_l9, c0]
    have t1 : (((3 : Nat) : Int) - 1) = ((2 : Nat) : Int) := by omega
    have t2 : (((2 : Nat) : Int) - 1) = ((1 : Nat) : Int) := by omega
    have t3 : (((1 : Nat) : Int) - 1) = ((0 : Nat) : Int) := by omega
    rw [t1] at s1
    rw [t2] at s2
    rw [t3] at s3
    refine s1.trans (s2.trans (s3.trans (s4.trans ((s5 _).trans ?_))))
    congr 2
    simp only [be4, List.append_assoc, List.cons_append, List.nil_append]
    simp
  simp only [F28_d, FSpec.d, F28_s, i1, Bool.not_true, e1, e0, c, if_false, i2, e2, i3, e3, bytesL_eq, F28_d9, r, numsOf_rows8, strOf_app, strOf_nums]
/-! Another number. -/
/-! The last sample in the encoding. -/
end Go.Proofs.YtdmedeaknnldcaaGreatDoor
/- Steim, the plain law: the document's functions. -/
namespace Go.Proofs.YtdmedeaknnldcaaGreatDoor
open Go.RowKit
set_option linter.unusedVariables false
set_option linter.unusedSimpArgs false
set_option linter.unnecessarySimpa false
theorem wds_cons (n : Nat) (D : List Int) (h : D ≠ []) : wds (n + 1) D = if fitB 4 Fit8 D then (1, p8 D) :: wds n (D.drop 4) else if fitB 2 Fit16 D then (2, p16 D) :: wds n (D.drop 2) else (3, p32 D) :: wds n (D.drop 1) := by
  have he : D.isEmpty = false := by cases D with | nil => exact absurd rfl h | cons => rfl
  simp only [wds, he, Bool.false_eq_true, if_false]
theorem rin_no {x lo hi : Int} (h : ¬ (lo ≤ x ∧ x ≤ hi)) : F42_d 600 (x, lo, hi) = some false := by rw [rin_any, decide_eq_false h]

theorem rfits8 (x : Int) : F84_d 600 (x, 8) = some (decide (Fit8 x)) := by
  have e1 : i64 (8 - 1) = 7 := by kernel_rfl
  have e0 : IntKind.u64.wrap 7 = 7 := by kernel_rfl
  have e2 : shL .i64 1 7 = 128 := by kernel_rfl
  have e3 : i64 (0 - 128) = -128 := by kernel_rfl
  have c : ¬ ((7 : Int) < 0) := by omega
  simp only [F84_d, FSpec.d, F84_s, rin_yes (x := 8) (lo := 1) (hi := 56) (by omega), e1, e0, c, if_false, e2, e3]
  unfold Fit8
  by_cases h1 : x ≥ -128
  · have h2 : -128 ≤ x := h1
    simp only [h1, h2, decide_true, true_and]
    congr 1
    exact decide_eq_decide.2 (by omega)
  · have h2 : ¬ -128 ≤ x := h1
    simp only [h1, h2, decide_false, false_and]
theorem rwrap8 {x : Int} (h : Fit8 x) : F54_d 600 (x, 8) = some (x % 256, 0) := by
  have e0 : IntKind.u64.wrap 8 = 8 := by kernel_rfl
  have e1 : shL .i64 1 8 = 256 := by kernel_rfl
  have c : ¬ ((8 : Int) < 0) := by omega
  have hh := h
  unfold Fit8 at hh
  have e2 : i64 (x + 256) = x + 256 := i64_id (by omega)
  simp only [F54_d, FSpec.d, F54_s, rfits8, decide_eq_true h, Bool.not_true, e0, c, if_false, e1, e2]
  by_cases h1 : x < 0
  · simp only [h1, decide_true]
    congr 2
    omega
  · simp only [h1, decide_false]
    congr 2
    omega
theorem rsign8 {v : Int} (h : 0 ≤ v ∧ v < 256) : F79_d 600 (v, 8) = some (sgn8 v, 0) := by
  have e0 : IntKind.u64.wrap 8 = 8 := by kernel_rfl
  have e1 : shL .i64 1 8 = 256 := by kernel_rfl
  have e2 : i64 (8 - 1) = 7 := by kernel_rfl
  have e3 : IntKind.u64.wrap 7 = 7 := by kernel_rfl
  have e4 : shL .i64 1 7 = 128 := by kernel_rfl
  have c : ¬ ((8 : Int) < 0) := by omega
  have c2 : ¬ ((7 : Int) < 0) := by omega
  have i1 : F42_d 600 (8, 1, 56) = some true := rin_yes (by omega)
  have d1 : decide (v < 0) = false := by rw [decide_eq_false_iff_not]; omega
  have d2 : decide (v ≥ 256) = false := by rw [decide_eq_false_iff_not]; omega
  simp only [F79_d, FSpec.d, F79_s, i1, Bool.not_true, d1, e0, c, if_false, e1, d2, e2, e3, c2, e4]
  by_cases hv : v ≥ 128
  · have e5 : i64 (v - 256) = v - 256 := i64_id (by omega)
    have s : sgn8 v = v - 256 := if_neg (by omega)
    simp only [hv, decide_true, e5, s]
  · have s : sgn8 v = v := if_pos (by omega)
    simp only [hv, decide_false, s]

theorem rfits16 (x : Int) : F84_d 600 (x, 16) = some (decide (Fit16 x)) := by
  have e1 : i64 (16 - 1) = 15 := by kernel_rfl
  have e0 : IntKind.u64.wrap 15 = 15 := by kernel_rfl
  have e2 : shL .i64 1 15 = 32768 := by kernel_rfl
  have e3 : i64 (0 - 32768) = -32768 := by kernel_rfl
  have c : ¬ ((15 : Int) < 0) := by omega
  simp only [F84_d, FSpec.d, F84_s, rin_yes (x := 16) (lo := 1) (hi := 56) (by omega), e1, e0, c, if_false, e2, e3]
  unfold Fit16
  by_cases h1 : x ≥ -32768
  · have h2 : -32768 ≤ x := h1
    simp only [h1, h2, decide_true, true_and]
    congr 1
    exact decide_eq_decide.2 (by omega)
  · have h2 : ¬ -32768 ≤ x := h1
    simp only [h1, h2, decide_false, false_and]
theorem rwrap16 {x : Int} (h : Fit16 x) : F54_d 600 (x, 16) = some (x % 65536, 0) := by
  have e0 : IntKind.u64.wrap 16 = 16 := by kernel_rfl
  have e1 : shL .i64 1 16 = 65536 := by kernel_rfl
  have c : ¬ ((16 : Int) < 0) := by omega
  have hh := h
  unfold Fit16 at hh
  have e2 : i64 (x + 65536) = x + 65536 := i64_id (by omega)
  simp only [F54_d, FSpec.d, F54_s, rfits16, decide_eq_true h, Bool.not_true, e0, c, if_false, e1, e2]
  by_cases h1 : x < 0
  · simp only [h1, decide_true]
    congr 2
    omega
  · simp only [h1, decide_false]
    congr 2
    omega
theorem rsign16 {v : Int} (h : 0 ≤ v ∧ v < 65536) : F79_d 600 (v, 16) = some (sgn16 v, 0) := by
  have e0 : IntKind.u64.wrap 16 = 16 := by kernel_rfl
  have e1 : shL .i64 1 16 = 65536 := by kernel_rfl
  have e2 : i64 (16 - 1) = 15 := by kernel_rfl
  have e3 : IntKind.u64.wrap 15 = 15 := by kernel_rfl
  have e4 : shL .i64 1 15 = 32768 := by kernel_rfl
  have c : ¬ ((16 : Int) < 0) := by omega
  have c2 : ¬ ((15 : Int) < 0) := by omega
  have i1 : F42_d 600 (16, 1, 56) = some true := rin_yes (by omega)
  have d1 : decide (v < 0) = false := by rw [decide_eq_false_iff_not]; omega
  have d2 : decide (v ≥ 65536) = false := by rw [decide_eq_false_iff_not]; omega
  simp only [F79_d, FSpec.d, F79_s, i1, Bool.not_true, d1, e0, c, if_false, e1, d2, e2, e3, c2, e4]
  by_cases hv : v ≥ 32768
  · have e5 : i64 (v - 65536) = v - 65536 := i64_id (by omega)
    have s : sgn16 v = v - 65536 := if_neg (by omega)
    simp only [hv, decide_true, e5, s]
  · have s : sgn16 v = v := if_pos (by omega)
    simp only [hv, decide_false, s]

theorem rfits32 (x : Int) : F84_d 600 (x, 32) = some (decide (Fit32 x)) := by
  have e1 : i64 (32 - 1) = 31 := by kernel_rfl
  have e0 : IntKind.u64.wrap 31 = 31 := by kernel_rfl
  have e2 : shL .i64 1 31 = 2147483648 := by kernel_rfl
  have e3 : i64 (0 - 2147483648) = -2147483648 := by kernel_rfl
  have c : ¬ ((31 : Int) < 0) := by omega
  simp only [F84_d, FSpec.d, F84_s, rin_yes (x := 32) (lo := 1) (hi := 56) (by omega), e1, e0, c, if_false, e2, e3]
  unfold Fit32
  by_cases h1 : x ≥ -2147483648
  · have h2 : -2147483648 ≤ x := h1
    simp only [h1, h2, decide_true, true_and]
    congr 1
    exact decide_eq_decide.2 (by omega)
  · have h2 : ¬ -2147483648 ≤ x := h1
    simp only [h1, h2, decide_false, false_and]
theorem rwrap32 {x : Int} (h : Fit32 x) : F54_d 600 (x, 32) = some (x % 4294967296, 0) := by
  have e0 : IntKind.u64.wrap 32 = 32 := by kernel_rfl
  have e1 : shL .i64 1 32 = 4294967296 := by kernel_rfl
  have c : ¬ ((32 : Int) < 0) := by omega
  have hh := h
  unfold Fit32 at hh
  have e2 : i64 (x + 4294967296) = x + 4294967296 := i64_id (by omega)
  simp only [F54_d, FSpec.d, F54_s, rfits32, decide_eq_true h, Bool.not_true, e0, c, if_false, e1, e2]
  by_cases h1 : x < 0
  · simp only [h1, decide_true]
    congr 2
    omega
  · simp only [h1, decide_false]
    congr 2
    omega
theorem rsign32 {v : Int} (h : 0 ≤ v ∧ v < 4294967296) : F79_d 600 (v, 32) = some (sgn32 v, 0) := by
  have e0 : IntKind.u64.wrap 32 = 32 := by kernel_rfl
  have e1 : shL .i64 1 32 = 4294967296 := by kernel_rfl
  have e2 : i64 (32 - 1) = 31 := by kernel_rfl
  have e3 : IntKind.u64.wrap 31 = 31 := by kernel_rfl
  have e4 : shL .i64 1 31 = 2147483648 := by kernel_rfl
  have c : ¬ ((32 : Int) < 0) := by omega
  have c2 : ¬ ((31 : Int) < 0) := by omega
  have i1 : F42_d 600 (32, 1, 56) = some true := rin_yes (by omega)
  have d1 : decide (v < 0) = false := by rw [decide_eq_false_iff_not]; omega
  have d2 : decide (v ≥ 4294967296) = false := by rw [decide_eq_false_iff_not]; omega
  simp only [F79_d, FSpec.d, F79_s, i1, Bool.not_true, d1, e0, c, if_false, e1, d2, e2, e3, c2, e4]
  by_cases hv : v ≥ 2147483648
  · have e5 : i64 (v - 4294967296) = v - 4294967296 := i64_id (by omega)
    have s : sgn32 v = v - 4294967296 := if_neg (by omega)
    simp only [hv, decide_true, e5, s]
  · have s : sgn32 v = v := if_pos (by omega)
    simp only [hv, decide_false, s]

theorem len1 (x : List AV) : [x].length = 1 := rfl
theorem rsmp_any (x : Int) : F80_d 600 x = some (decide (Smp x)) := by
  simp only [F80_d, FSpec.d, F80_s, rin_any]
  rfl
theorem rall_loop (l : List Int) (hl : l.length ≤ 1000) : ∀ (k i f : Nat), k < f → i + k = l.length → (F51_l4 600).L f (rowsI l, (i : Int)) = some (.inr ()) ∧ (l.drop i).all (fun x => decide (Smp x)) = true ∨ (F51_l4 600).L f (rowsI l, (i : Int)) = some (.inl false) ∧ (l.drop i).all (fun x => decide (Smp x)) = false
  | 0, i, f, hf, hi => by
    obtain ⟨f, rfl⟩ : ∃ f', f = f' + 1 := ⟨f - 1, by omega⟩
    have c : decide ((i : Int) < (l.length : Int)) = false := by rw [decide_eq_false_iff_not]; omega
    refine .inl ⟨?_, by rw [List.drop_of_length_le (by omega)]; rfl⟩
    show (F51_l4 600).b _ _ ((F51_l4 600).L f) some = _
    simp only [F51_l4, rowsI_len, c]
  | k + 1, i, f, hf, hi => by
    obtain ⟨f, rfl⟩ : ∃ f', f = f' + 1 := ⟨f - 1, by omega⟩
    have hlt : i < l.length := by omega
    have c1 : decide ((i : Int) < (l.length : Int)) = true := by rw [decide_eq_true_iff]; omega
    have c2 : (0 : Int) ≤ (i : Int) := by omega
    have c4 : i64 ((i : Int) + 1) = ((i + 1 : Nat) : Int) := by rw [i64_id (by omega)]; omega
    have hd : l.drop i = l[i] :: l.drop (i + 1) := List.drop_eq_getElem_cons hlt
    by_cases h : Smp l[i]
    · have st : (F51_l4 600).L (f + 1) (rowsI l, (i : Int)) = (F51_l4 600).L f (rowsI l, ((i + 1 : Nat) : Int)) := by
        show (F51_l4 600).b _ _ ((F51_l4 600).L f) some = _
        obtain ⟨Lf, hL⟩ : ∃ Lf, Lf = (F51_l4 600).L f := ⟨_, rfl⟩
        rw [← hL]
        simp only [F51_l4, rowsI_len, c1, c2, if_true, Int.toNat_natCast, rowsI_get l i hlt, List.getElem?_cons_zero, rsmp_any, decide_eq_true h, Bool.not_true, c4]
        exact if_pos trivial
      have r := rall_loop l hl k (i + 1) f (by omega) (by omega)
      rw [st, hd, List.all_cons, decide_eq_true h, Bool.true_and]
      exact r
    · refine .inr ⟨?_, by rw [hd, List.all_cons, decide_eq_false h]; rfl⟩
      show (F51_l4 600).b _ _ ((F51_l4 600).L f) some = _
      simp only [F51_l4, rowsI_len, c1, c2, if_true, Int.toNat_natCast, rowsI_get l i hlt, List.getElem?_cons_zero, rsmp_any, decide_eq_false h, Bool.not_false]
theorem rall_any (l : List Int) (hl : l.length ≤ 590) : F51_d 600 (rowsI l) = some (l.all fun x => decide (Smp x)) := by
  simp only [F51_d, FSpec.d, F51_s, F51_d4]
  rcases rall_loop l (by omega) l.length 0 600 (by omega) (by omega) with ⟨h1, h2⟩ | ⟨h1, h2⟩
  · replace h1 : (F51_l4 600).L 600 (rowsI l, 0) = _ := h1
    replace h2 : l.all (fun x => decide (Smp x)) = true := h2
    simp only [h1, h2]
  · replace h1 : (F51_l4 600).L 600 (rowsI l, 0) = _ := h1
    replace h2 : l.all (fun x => decide (Smp x)) = false := h2
    simp only [h1, h2]
/-! fit, pack, words. -/
theorem rfit_loop (w : Int) (P : Int → Prop) [DecidablePred P] (hP : ∀ x, F84_d 600 (x, w) = some (decide (P x))) (l : List Int) (n : Nat) (hn : n ≤ 4) (hl : n ≤ l.length) : ∀ (k i f : Nat), k < f → i + k = n → (F82_l8 600).L f (rowsI l, (n : Int), w, (i : Int)) = some (.inr ()) ∧ ((l.take n).drop i).all (fun x => decide (P x)) = true ∨ (F82_l8 600).L f (rowsI l, (n : Int), w, (i : Int)) = some (.inl false) ∧ ((l.take n).drop i).all (fun x => decide (P x)) = false
  | 0, i, f, hf, hi => by
    obtain ⟨f, rfl⟩ : ∃ f', f = f' + 1 := ⟨f - 1, by omega⟩
    have c : decide ((i : Int) < (n : Int)) = false := by rw [decide_eq_false_iff_not]; omega
    refine .inl ⟨?_, by rw [List.drop_of_length_le (by simp; omega)]; rfl⟩
    show (F82_l8 600).b _ _ ((F82_l8 600).L f) some = _
    simp only [F82_l8, c]
  | k + 1, i, f, hf, hi => by
    obtain ⟨f, rfl⟩ : ∃ f', f = f' + 1 := ⟨f - 1, by omega⟩
    have hlt : i < l.length := by omega
    have hlt2 : i < (l.take n).length := by simp; omega
    have c1 : decide ((i : Int) < (n : Int)) = true := by rw [decide_eq_true_iff]; omega
    have c2 : (0 : Int) ≤ (i : Int) := by omega
    have c4 : i64 ((i : Int) + 1) = ((i + 1 : Nat) : Int) := by rw [i64_id (by omega)]; omega
    have hd : (l.take n).drop i = l[i] :: (l.take n).drop (i + 1) := by rw [List.drop_eq_getElem_cons hlt2, List.getElem_take]
    by_cases h : P l[i]
    · have st : (F82_l8 600).L (f + 1) (rowsI l, (n : Int), w, (i : Int)) = (F82_l8 600).L f (rowsI l, (n : Int), w, ((i + 1 : Nat) : Int)) := by
        show (F82_l8 600).b _ _ ((F82_l8 600).L f) some = _
        obtain ⟨Lf, hL⟩ : ∃ Lf, Lf = (F82_l8 600).L f := ⟨_, rfl⟩
        rw [← hL]
        simp only [F82_l8, c1, c2, if_true, Int.toNat_natCast, rowsI_get l i hlt, List.getElem?_cons_zero, hP, decide_eq_true h, Bool.not_true, c4]
        exact if_pos trivial
      have r := rfit_loop w P hP l n hn hl k (i + 1) f (by omega) (by omega)
      rw [st, hd, List.all_cons, decide_eq_true h, Bool.true_and]
      exact r
    · refine .inr ⟨?_, by rw [hd, List.all_cons, decide_eq_false h]; rfl⟩
      show (F82_l8 600).b _ _ ((F82_l8 600).L f) some = _
      simp only [F82_l8, c1, c2, if_true, Int.toNat_natCast, rowsI_get l i hlt, List.getElem?_cons_zero, hP, decide_eq_false h, Bool.not_false]
theorem rfit_any (n : Nat) (w : Int) (P : Int → Prop) [DecidablePred P] (hP : ∀ x, F84_d 600 (x, w) = some (decide (P x))) (hn : n ≤ 4) (D : List Int) : F82_d 600 (rowsI D, (n : Int), w) = some (fitB n P D) := by
  simp only [F82_d, FSpec.d, F82_s, rowsI_len]
  unfold fitB
  by_cases h : n ≤ D.length
  · have c1 : ¬ (D.length : Int) < (n : Int) := by omega
    simp only [c1, decide_false, h, decide_true, Bool.true_and, F82_d8]
    rcases rfit_loop w P hP D n hn h n 0 600 (by omega) (by omega) with ⟨h1, h2⟩ | ⟨h1, h2⟩
    · replace h1 : (F82_l8 600).L 600 (rowsI D, (n : Int), w, 0) = _ := h1
      replace h2 : (D.take n).all (fun x => decide (P x)) = true := h2
      simp only [h1, h2]
    · replace h1 : (F82_l8 600).L 600 (rowsI D, (n : Int), w, 0) = _ := h1
      replace h2 : (D.take n).all (fun x => decide (P x)) = false := h2
      simp only [h1, h2]
  · have c1 : (D.length : Int) < (n : Int) := by omega
    simp only [c1, decide_true, h, decide_false, Bool.false_and]
theorem rpack_step (l : List Int) (hl : l.length ≤ 4) (w : Nat) (hw : w ≤ 32) (i f : Nat) (hi : i < l.length) (acc y : Int) (hy : F54_d 600 (l[i], (w : Int)) = some (y, 0)) (hy2 : 0 ≤ y ∧ y < 2 ^ w) (ha : 0 ≤ acc) (hb : acc * 2 ^ w + y ≤ 4294967295) : (F83_l5 600).L (f + 1) (rowsI l, (w : Int), acc, (i : Int)) = (F83_l5 600).L f (rowsI l, (w : Int), acc * 2 ^ w + y, ((i + 1 : Nat) : Int)) := by
  show (F83_l5 600).b _ _ ((F83_l5 600).L f) some = _
  obtain ⟨Lf, hL⟩ : ∃ Lf, Lf = (F83_l5 600).L f := ⟨_, rfl⟩
  rw [← hL]
  have c1 : decide ((i : Int) < (l.length : Int)) = true := by rw [decide_eq_true_iff]; omega
  have c2 : (0 : Int) ≤ (i : Int) := by omega
  have c4 : i64 ((i : Int) + 1) = ((i + 1 : Nat) : Int) := by rw [i64_id (by omega)]; omega
  have c5 : ¬ ((w : Int) < 0) := by omega
  have c6 : IntKind.u64.wrap (w : Int) = (w : Int) := u64_id (by omega)
  have h0 : 0 ≤ acc * 2 ^ w := Int.mul_nonneg ha (Int.le_of_lt (Int.pow_pos (by omega)))
  have e1 : shL .i64 acc (w : Int) = acc * 2 ^ w := by
    have := shL_ok (x := acc) (y := (w : Int)) (by omega) (by rw [Int.toNat_natCast]; omega)
    rwa [Int.toNat_natCast] at this
  have e2 : bOr .i64 (acc * 2 ^ w) y = acc * 2 ^ w + y := bOr_ok (by omega) ha hy2 (by omega)
  simp only [F83_l5, rowsI_len, c1, c2, if_true, Int.toNat_natCast, rowsI_get l i hi, List.getElem?_cons_zero, hy, c6, c5, if_false, e1, e2, c4]
  exact if_neg (fun h => h)
theorem rpack_end (l : List Int) (w acc : Int) (f : Nat) : (F83_l5 600).L (f + 1) (rowsI l, w, acc, (l.length : Int)) = some acc := by
  show (F83_l5 600).b _ _ ((F83_l5 600).L f) some = _
  have c : decide ((l.length : Int) < (l.length : Int)) = false := by rw [decide_eq_false_iff_not]; omega
  simp only [F83_l5, rowsI_len, c]
theorem rpack8 (a b c d : Int) (ha : Fit8 a) (hb : Fit8 b) (hc : Fit8 c) (hd : Fit8 d) : F83_d 600 (rowsI [a, b, c, d], 8) = some (((a % 256 * 256 + b % 256) * 256 + c % 256) * 256 + d % 256) := by
  have s1 := rpack_step [a, b, c, d] (by simp) 8 (by omega) 0 599 (by simp) 0 (a % 256) (rwrap8 ha) (by omega) (by omega) (by omega)
  have s2 := rpack_step [a, b, c, d] (by simp) 8 (by omega) 1 598 (by simp) (0 * 2 ^ 8 + a % 256) (b % 256) (rwrap8 hb) (by omega) (by omega) (by omega)
  have s3 := rpack_step [a, b, c, d] (by simp) 8 (by omega) 2 597 (by simp) ((0 * 2 ^ 8 + a % 256) * 2 ^ 8 + b % 256) (c % 256) (rwrap8 hc) (by omega) (by omega) (by omega)
  have s4 := rpack_step [a, b, c, d] (by simp) 8 (by omega) 3 596 (by simp) (((0 * 2 ^ 8 + a % 256) * 2 ^ 8 + b % 256) * 2 ^ 8 + c % 256) (d % 256) (rwrap8 hd) (by omega) (by omega) (by omega)
  have s5 := rpack_end [a, b, c, d] 8 ((((0 * 2 ^ 8 + a % 256) * 2 ^ 8 + b % 256) * 2 ^ 8 + c % 256) * 2 ^ 8 + d % 256) 595
  have r : (F83_l5 600).L 600 (rowsI [a, b, c, d], 8, 0, 0) = _ := s1.trans (s2.trans (s3.trans (s4.trans s5)))
  simp only [F83_d, FSpec.d, F83_s, F83_d5, r]
  congr 1
  omega
theorem rpack16 (a b : Int) (ha : Fit16 a) (hb : Fit16 b) : F83_d 600 (rowsI [a, b], 16) = some (a % 65536 * 65536 + b % 65536) := by
  have s1 := rpack_step [a, b] (by simp) 16 (by omega) 0 599 (by simp) 0 (a % 65536) (rwrap16 ha) (by omega) (by omega) (by omega)
  have s2 := rpack_step [a, b] (by simp) 16 (by omega) 1 598 (by simp) (0 * 2 ^ 16 + a % 65536) (b % 65536) (rwrap16 hb) (by omega) (by omega) (by omega)
  have s5 := rpack_end [a, b] 16 ((0 * 2 ^ 16 + a % 65536) * 2 ^ 16 + b % 65536) 597
  have r : (F83_l5 600).L 600 (rowsI [a, b], 16, 0, 0) = _ := s1.trans (s2.trans s5)
  simp only [F83_d, FSpec.d, F83_s, F83_d5, r]
  congr 1
  omega
theorem rpack32 (a : Int) (ha : Fit32 a) : F83_d 600 (rowsI [a], 32) = some (a % 4294967296) := by
  have s1 := rpack_step [a] (by simp) 32 (by omega) 0 599 (by simp) 0 (a % 4294967296) (rwrap32 ha) (by omega) (by omega) (by omega)
  have s5 := rpack_end [a] 32 (0 * 2 ^ 32 + a % 4294967296) 598
  have r : (F83_l5 600).L 600 (rowsI [a], 32, 0, 0) = _ := s1.trans s5
  simp only [F83_d, FSpec.d, F83_s, F83_d5, r]
  congr 1
  omega
theorem rdif_loop (X : List Int) (hl : X.length ≤ 590) (hX : ∀ x ∈ X, Smp x) : ∀ (k i f : Nat), k < f → i + k = X.length → (F53_l5 600).L f (rowsI ((dX X).take i), rowsI X, (i : Int)) = some (rowsI (dX X))
  | 0, i, f, hf, hi => by
    obtain ⟨f, rfl⟩ : ∃ f', f = f' + 1 := ⟨f - 1, by omega⟩
    show (F53_l5 600).b _ _ ((F53_l5 600).L f) some = _
    have c : decide ((i : Int) < (X.length : Int)) = false := by rw [decide_eq_false_iff_not]; omega
    have e : (dX X).take i = dX X := List.take_of_length_le (by rw [dX_len]; omega)
    simp only [F53_l5, rowsI_len, c, e]
  | k + 1, i, f, hf, hi => by
    obtain ⟨f, rfl⟩ : ∃ f', f = f' + 1 := ⟨f - 1, by omega⟩
    have r1 := rdif_loop X hl hX k (i + 1) f (by omega) (by omega)
    show (F53_l5 600).b _ _ ((F53_l5 600).L f) some = _
    obtain ⟨Lf, hL⟩ : ∃ Lf, Lf = (F53_l5 600).L f := ⟨_, rfl⟩
    rw [← hL] at r1 ⊢
    have hlt : i < X.length := by omega
    have hltD : i < (dX X).length := by rw [dX_len]; exact hlt
    have c1 : decide ((i : Int) < (X.length : Int)) = true := by rw [decide_eq_true_iff]; omega
    have c2 : (0 : Int) ≤ (i : Int) := by omega
    have c4 : i64 ((i : Int) + 1) = ((i + 1 : Nat) : Int) := by rw [i64_id (by omega)]; omega
    have hb : (((dX X).take i).length + 1) * 8 ≤ maxBytes := by simp [dX_len]; unfold maxBytes; omega
    have et : (dX X).take (i + 1) = (dX X).take i ++ [(dX X)[i]] := List.take_succ_eq_append_getElem hltD
    rw [et] at r1
    cases i with
    | zero =>
      have m0 : (((0 : Nat) : Int) == 0) = true := rfl
      rw [dX_zero X hlt] at r1
      simp only [F53_l5, rowsI_len, c1, m0, len1, hb, if_true, rowsI_snoc, c4]
      exact r1
    | succ j =>
      have m0 : (((j + 1 : Nat) : Int) == 0) = false := by rw [beq_eq_false_iff_ne]; omega
      have c3 : i64 (((j + 1 : Nat) : Int) - 1) = (j : Int) := by rw [i64_id (by omega)]; omega
      have c5 : (0 : Int) ≤ (j : Int) := by omega
      have hlt' : j < X.length := by omega
      have b1 := hX _ (List.getElem_mem hlt)
      have b2 := hX _ (List.getElem_mem hlt')
      unfold Smp at b1 b2
      have e1 : i64 (X[j + 1] - X[j]) = (dX X)[j + 1] := by rw [dX_get X j hlt]; exact i64_id (by omega)
      simp only [F53_l5, rowsI_len, c1, m0, c2, c3, c5, if_true, Int.toNat_natCast, rowsI_get X _ hlt, rowsI_get X _ hlt', List.getElem?_cons_zero, e1, len1, hb, rowsI_snoc, c4]
      exact r1
theorem rwds_loop : ∀ (n f : Nat) (D : List Int) (out : List (Int × Int)), n < f → D.length ≤ n → n ≤ 590 → out.length + n ≤ 1000 → (∀ x ∈ D, Fit32 x) → (F53_l16 600).L f (rowsW out, rowsI D) = some (rowsW (out ++ wds n D))
  | 0, f, D, out, hf, hl, hn, ho, h32 => by
    obtain ⟨f, rfl⟩ : ∃ f', f = f' + 1 := ⟨f - 1, by omega⟩
    obtain rfl : D = [] := List.length_eq_zero_iff.1 (by omega)
    show (F53_l16 600).b _ _ ((F53_l16 600).L f) some = _
    have c : decide ((([] : List Int).length : Int) > 0) = false := rfl
    simp only [F53_l16, rowsI_len, c, wds, List.append_nil]
  | n + 1, f, D, out, hf, hl, hn, ho, h32 => by
    obtain ⟨f, rfl⟩ : ∃ f', f = f' + 1 := ⟨f - 1, by omega⟩
    by_cases h0 : D = []
    · subst h0
      show (F53_l16 600).b _ _ ((F53_l16 600).L f) some = _
      have c : decide ((([] : List Int).length : Int) > 0) = false := rfl
      have e : wds (n + 1) [] = [] := rfl
      simp only [F53_l16, rowsI_len, c, e, List.append_nil]
    · have hp : 0 < D.length := List.length_pos_iff.2 h0
      have c : decide ((D.length : Int) > 0) = true := by rw [decide_eq_true_iff]; omega
      have f4 := rfit_any 4 8 Fit8 rfits8 (by omega) D
      have f2 := rfit_any 2 16 Fit16 rfits16 (by omega) D
      replace f4 : F82_d 600 (rowsI D, 4, 8) = some (fitB 4 Fit8 D) := f4
      replace f2 : F82_d 600 (rowsI D, 2, 16) = some (fitB 2 Fit16 D) := f2
      have hb : ((rowsW out).length + 1) * 16 ≤ maxBytes := by rw [rowsW_len]; unfold maxBytes; omega
      have ih : ∀ (m : Nat) (w : Int × Int), 1 ≤ m → (F53_l16 600).L f (rowsW (out ++ [w]), rowsI (D.drop m)) = some (rowsW (out ++ w :: wds n (D.drop m))) := fun m w hm => by
        have r1 := rwds_loop n f (D.drop m) (out ++ [w]) (by omega) (by rw [List.length_drop]; omega) (by omega) (by simp; omega) (fun x hx => h32 x (List.mem_of_mem_drop hx))
        rw [List.append_assoc] at r1
        exact r1
      have et : ∀ m, (rowsI D).take m = rowsI (D.take m) := fun m => by simp [rowsI, List.map_take]
      have ed : ∀ m, (rowsI D).drop m = rowsI (D.drop m) := fun m => by simp [rowsI, List.map_drop]
      rw [wds_cons n D h0]
      show (F53_l16 600).b _ _ ((F53_l16 600).L f) some = _
      obtain ⟨Lf, hL⟩ : ∃ Lf, Lf = (F53_l16 600).L f := ⟨_, rfl⟩
      rw [← hL] at ih ⊢
      have t4 : (4 : Int).toNat = 4 := rfl
      have t2 : (2 : Int).toNat = 2 := rfl
      have t1 : (1 : Int).toNat = 1 := rfl
      cases h4 : fitB 4 Fit8 D with
      | true =>
        rw [h4] at f4
        obtain ⟨a, b, e, d, r, rfl, q1, q2, q3, q4⟩ := fit4_inv h4
        have pk : F83_d 600 (rowsI ((a :: b :: e :: d :: r).take 4), 8) = some (p8 (a :: b :: e :: d :: r)) := rpack8 a b e d q1 q2 q3 q4
        have c3 : (0 : Int) ≤ 4 ∧ (4 : Int) ≤ ((a :: b :: e :: d :: r).length : Int) := by simp only [List.length_cons]; omega
        have i1 := ih 4 (1, p8 (a :: b :: e :: d :: r)) (by omega)
        rw [if_pos rfl]
        simp only [F53_l16, rowsI_len, c, f4, c3, and_self, if_true, t4, et, ed, pk, len1, hb, rowsW_snoc]
        first | exact i1 | exact (if_pos trivial).trans i1 | (simp only [List.length_cons] at c3; simp only [c3, and_self, if_true]; exact i1)
      | false =>
        rw [h4] at f4
        rw [if_neg (by simp)]
        cases h2 : fitB 2 Fit16 D with
        | true =>
          rw [h2] at f2
          obtain ⟨a, b, r, rfl, q1, q2⟩ := fit2_inv h2
          have pk : F83_d 600 (rowsI ((a :: b :: r).take 2), 16) = some (p16 (a :: b :: r)) := rpack16 a b q1 q2
          have c3 : (0 : Int) ≤ 2 ∧ (2 : Int) ≤ ((a :: b :: r).length : Int) := by simp only [List.length_cons]; omega
          have i1 := ih 2 (2, p16 (a :: b :: r)) (by omega)
          rw [if_pos rfl]
          simp only [F53_l16, rowsI_len, c, f4, f2, c3, and_self, if_true, t2, et, ed, pk, len1, hb, rowsW_snoc]
          first | exact i1 | exact (if_pos trivial).trans i1 | (simp only [List.length_cons] at c3; simp only [c3, and_self, if_true]; exact i1)
        | false =>
          rw [h2] at f2
          rw [if_neg (by simp)]
          match D, h0, h32, hp, c, f4, f2, ih, et, ed with
          | a :: r, _, h32, hp, c, f4, f2, ih, et, ed =>
            have pk : F83_d 600 (rowsI ((a :: r).take 1), 32) = some (p32 (a :: r)) := rpack32 a (h32 a List.mem_cons_self)
            have c3 : (0 : Int) ≤ 1 ∧ (1 : Int) ≤ ((a :: r).length : Int) := by simp only [List.length_cons]; omega
            have i1 := ih 1 (3, p32 (a :: r)) (by omega)
            simp only [F53_l16, rowsI_len, c, f4, f2, c3, and_self, if_true, t1, et, ed, pk, len1, hb, rowsW_snoc]
            first | exact i1 | exact (if_pos trivial).trans i1 | (simp only [List.length_cons] at c3; simp only [c3, and_self, if_true]; exact i1)
theorem rwords_ok (X : List Int) (hl : X.length ≤ 500) (hX : ∀ x ∈ X, Smp x) : F53_d 600 (rowsI X) = some (rowsW (wX X)) := by
  have r1 := rdif_loop X (by omega) hX X.length 0 600 (by omega) (by omega)
  replace r1 : (F53_l5 600).L 600 (([] : List (List AV)), rowsI X, 0) = _ := r1
  have r2 := rwds_loop X.length 600 (dX X) [] (by omega) (by rw [dX_len]; omega) (by omega) (by simp; omega) (dX_fit hX)
  replace r2 : (F53_l16 600).L 600 (([] : List (List AV)), rowsI (dX X)) = some (rowsW (wX X)) := r2
  simp only [F53_d, FSpec.d, F53_s, F53_d5, r1, F53_d16, r2]
theorem rWords_ok (X : List Int) (hl : X.length ≤ 500) : F81_d 600 (rowsI X) = some (if X.all fun x => decide (Smp x) then ((wX X).length : Int) else 0) := by
  cases h : X.all fun x => decide (Smp x) with
  | true =>
    simp only [F81_d, FSpec.d, F81_s, rall_any X (by omega), h, Bool.not_true, rwords_ok X hl ((all_iff X).1 h), rowsW_len, if_true]
  | false =>
    simp only [F81_d, FSpec.d, F81_s, rall_any X (by omega), h, Bool.not_false]
    rfl
def frI (n : Nat) : Int := if n = 0 then 0 else (nfr n : Int)
theorem rFrames_ok (X : List Int) (hl : X.length ≤ 500) : F52_d 600 (rowsI X) = some (if X.all fun x => decide (Smp x) then frI (wX X).length else 0) := by
  have hw := (wX_len X).1
  cases h : X.all fun x => decide (Smp x) with
  | true =>
    have h2 := rWords_ok X hl
    rw [h] at h2
    simp only [if_true] at h2
    by_cases h0 : (wX X).length = 0
    · have c : (((wX X).length : Int) == 0) = true := by simp [h0]
      have e : frI (wX X).length = 0 := if_pos h0
      simp only [F52_d, FSpec.d, F52_s, h2, c, if_true, e]
    · have c : (((wX X).length : Int) == 0) = false := by rw [beq_eq_false_iff_ne]; omega
      have e : frI (wX X).length = (nfr (wX X).length : Int) := if_neg h0
      have e1 : i64 (((wX X).length : Int) - 13) = ((wX X).length : Int) - 13 := i64_id (by omega)
      have e2 : i64 ((if 0 > ((wX X).length : Int) - 13 then 0 else ((wX X).length : Int) - 13) + 14) = (if 0 > ((wX X).length : Int) - 13 then 0 else ((wX X).length : Int) - 13) + 14 := i64_id (by split <;> omega)
      have e3 : i64 (((if 0 > ((wX X).length : Int) - 13 then 0 else ((wX X).length : Int) - 13) + 14).tdiv 15) = ((if 0 > ((wX X).length : Int) - 13 then 0 else ((wX X).length : Int) - 13) + 14) / 15 := by
        rw [Int.tdiv_eq_ediv_of_nonneg (by split <;> omega), i64_id (by split <;> omega)]
      have e4 : i64 (1 + ((if 0 > ((wX X).length : Int) - 13 then 0 else ((wX X).length : Int) - 13) + 14) / 15) = (nfr (wX X).length : Int) := by
        rw [i64_id (by split <;> omega)]
        unfold nfr
        split <;> omega
      simp only [F52_d, FSpec.d, F52_s, h2, c, if_true, e, e1, e2, e3, e4]
  | false =>
    have h2 := rWords_ok X hl
    rw [h] at h2
    simp only [Bool.false_eq_true, if_false] at h2
    simp only [F52_d, FSpec.d, F52_s, h2, beq_self_eq_true, Bool.false_eq_true, if_false]
end Go.Proofs.YtdmedeaknnldcaaGreatDoor
/- Steim, the plain law: the document's Encode. -/
namespace Go.Proofs.YtdmedeaknnldcaaGreatDoor
open Go.RowKit
set_option linter.unusedVariables false
set_option linter.unusedSimpArgs false
set_option linter.unnecessarySimpa false
theorem rsetp_ok {a v : Int} {i : Nat} (hi : i ≤ 15) (ha : 0 ≤ a) (hx : a * 2 ^ (32 - 2 * i) ≤ 4294967295) (hv : 0 ≤ v ∧ v ≤ 3) (hb : (4 * a + v) * 2 ^ (30 - 2 * i) ≤ 4294967295) : F55_d 600 (a * 2 ^ (32 - 2 * i), (i : Int), v) = some ((4 * a + v) * 2 ^ (30 - 2 * i), 0) := by
  have q := setp_ok hi ha hx hv hb
  have h0 : 0 ≤ a * 2 ^ (32 - 2 * i) := Int.mul_nonneg ha (Int.le_of_lt (Int.pow_pos (by omega)))
  have i1 : F64_d 600 (v, 0, 3) = some true := in_yes hv
  have c : ¬ (30 - 2 * (i : Int) < 0) := by omega
  simp only [F63_d, FSpec.d, F63_s, shift_ok ⟨h0, hx⟩ (show 0 ≤ (i : Int) ∧ (i : Int) ≤ 15 by omega), Bool.not_true, i1, c, if_false] at q
  have e1 : i64 (2 * (i : Int)) = 2 * (i : Int) := i64_id (by omega)
  have e2 : i64 (30 - 2 * (i : Int)) = 30 - 2 * (i : Int) := i64_id (by omega)
  have e3 : IntKind.u64.wrap (30 - 2 * (i : Int)) = 30 - 2 * (i : Int) := u64_id (by omega)
  simp only [F55_d, FSpec.d, F55_s, rin_yes ⟨h0, hx⟩, rin_yes (show 0 ≤ (i : Int) ∧ (i : Int) ≤ 15 by omega), rin_yes hv, Bool.not_true, e1, e2, e3, c, if_false]
  exact q
theorem bnd_ok {a : Int} {i : Nat} (hi : 1 ≤ i ∧ i ≤ 15) (ha : 0 ≤ a ∧ a < 2 ^ (2 * i - 2)) : a * 2 ^ (32 - 2 * i) ≤ 1073741824 ∧ ∀ v : Int, 0 ≤ v ∧ v ≤ 3 → (4 * a + v) * 2 ^ (30 - 2 * i) ≤ 4294967295 := by
  have hpp : (2 : Int) ^ (2 * i - 2) * 2 ^ (32 - 2 * i) = 1073741824 := by
    rw [← Int.pow_add, show 2 * i - 2 + (32 - 2 * i) = 30 by omega]
    rfl
  have hp : (1 : Int) ≤ 2 ^ (32 - 2 * i) := Int.pow_pos (by omega)
  have b0 : (a + 1) * 2 ^ (32 - 2 * i) ≤ 1073741824 := by
    rw [← hpp]
    exact Int.mul_le_mul_of_nonneg_right (by omega) (by omega)
  have b1 : a * 2 ^ (32 - 2 * i) + 2 ^ (32 - 2 * i) ≤ 1073741824 := by
    rwa [Int.add_mul, Int.one_mul] at b0
  have hq : (2 : Int) ^ (32 - 2 * i) = 4 * 2 ^ (30 - 2 * i) := by
    rw [show 32 - 2 * i = (30 - 2 * i) + 2 by omega, Int.pow_add]
    omega
  have hp2 : (1 : Int) ≤ 2 ^ (30 - 2 * i) := Int.pow_pos (by omega)
  refine ⟨by omega, fun v hv => ?_⟩
  have h1 : (4 * a + v) * 2 ^ (30 - 2 * i) ≤ (4 * a + 3) * 2 ^ (30 - 2 * i) := Int.mul_le_mul_of_nonneg_right (by omega) (by omega)
  have h2 : (4 * a + 3) * 2 ^ (30 - 2 * i) = a * (4 * 2 ^ (30 - 2 * i)) + 3 * 2 ^ (30 - 2 * i) := by
    rw [Int.add_mul, Int.mul_comm 4 a, Int.mul_assoc]
  rw [hq] at b1
  generalize (4 * a + v) * 2 ^ (30 - 2 * i) = g1 at h1 ⊢
  generalize (4 * a + 3) * 2 ^ (30 - 2 * i) = g2 at h1 h2
  generalize a * (4 * 2 ^ (30 - 2 * i)) = g3 at h2 b1
  generalize (2 : Int) ^ (30 - 2 * i) = g4 at h2 b1 hp2
  omega
theorem rput_ok (s : ByteArray) (hs : s.size ≤ 900000) {n : Int} (hn : 0 ≤ n ∧ n ≤ 4294967295) : F56_d 600 (s, n) = some (s ++ strOfNums (be4 n), 0) := by
  simp only [F56_d, FSpec.d, F56_s, rput4 s hs hn]
theorem pad_nil : ∀ m : Nat, pad m [] = List.replicate m (0, 0)
  | 0 => rfl
  | m + 1 => by
    show (0, 0) :: pad m [] = _
    rw [pad_nil m, List.replicate_succ]
theorem hor_nil (a : Int) : ∀ m : Nat, hor a (pad m []) = a * 2 ^ (2 * m)
  | 0 => by show a = _; rw [Nat.mul_zero, Int.pow_zero, Int.mul_one]
  | m + 1 => by
    have ih := hor_nil (4 * a + 0) m
    show hor (4 * a + 0) (pad m []) = _
    rw [ih, show 2 * (m + 1) = 2 * m + 2 by omega, Int.pow_add, Int.add_zero, Int.mul_comm 4 a, Int.mul_assoc]
    congr 1
    omega
theorem set_snoc (B : List Int) (m : Nat) (v : Int) : (B ++ List.replicate (m + 1) 0).set B.length v = (B ++ [v]) ++ List.replicate m 0 := by
  rw [List.set_append_right _ _ (Nat.le_refl _), Nat.sub_self, List.replicate_succ, List.set_cons_zero, List.append_assoc]
  rfl
theorem fill_loop (rX : List (List AV)) (n k : Int) (s : ByteArray) : ∀ (m i f : Nat) (L : List Wo) (a : Int) (B : List Int), m < f → i + m = 16 → 1 ≤ i → (∀ w ∈ L, WOk w) → L.length ≤ 1000 → B.length = i → (0 ≤ a ∧ a < 2 ^ (2 * i - 2)) →
    (F27_l36 600).L f (rX, rowsW L, n, s, k, a * 2 ^ (32 - 2 * i), (i : Int), cellsI (B ++ List.replicate m 0)) = some (rX, rowsW (L.drop m), n, s, k, hor a (pad m L), cellsI (B ++ (pad m L).map (·.2)))
  | 0, i, f, L, a, B, hf, hi, h1, hL, hl, hB, ha => by
    obtain ⟨f, rfl⟩ : ∃ f', f = f' + 1 := ⟨f - 1, by omega⟩
    obtain rfl : i = 16 := by omega
    show (F27_l36 600).b _ _ ((F27_l36 600).L f) some = _
    have c : decide (((16 : Nat) : Int) < 16) = false := rfl
    have e : a * 2 ^ (32 - 2 * 16) = a := Int.mul_one a
    have e2 : hor a [] = a := rfl
    have e3 : List.replicate 0 (0 : Int) = [] := rfl
    simp only [F27_l36, c, e, List.drop_zero, pad, e2, e3, List.map_nil, List.append_nil, cellsI_dat]
  | m + 1, i, f, L, a, B, hf, hi, h1, hL, hl, hB, ha => by
    obtain ⟨f, rfl⟩ : ∃ f', f = f' + 1 := ⟨f - 1, by omega⟩
    have c1 : decide ((i : Int) < 16) = true := by rw [decide_eq_true_iff]; omega
    cases L with
    | nil =>
      have c2 : decide ((([] : List Wo).length : Int) > 0) = false := rfl
      have e1 : hor a (pad (m + 1) []) = a * 2 ^ (32 - 2 * i) := by rw [hor_nil, show 2 * (m + 1) = 32 - 2 * i by omega]
      have e2 : (pad (m + 1) []).map (·.2) = List.replicate (m + 1) (0 : Int) := by rw [pad_nil, List.map_replicate]
      show (F27_l36 600).b _ _ ((F27_l36 600).L f) some = _
      rw [e1, e2, List.drop_nil]
      simp only [F27_l36, c1, rowsW_len, c2, cellsI_dat]
    | cons w r =>
      obtain ⟨b1, b2⟩ := bnd_ok (a := a) (i := i) (by omega) ha
      have hok := hL w List.mem_cons_self
      have sp := rsetp_ok (a := a) (v := w.1) (i := i) (by omega) ha.1 (by omega) hok.1 (b2 _ hok.1)
      have ha2 : 0 ≤ 4 * a + w.1 ∧ 4 * a + w.1 < 2 ^ (2 * (i + 1) - 2) := by
        have hq : (2 : Int) ^ (2 * (i + 1) - 2) = 4 * 2 ^ (2 * i - 2) := by
          rw [show 2 * (i + 1) - 2 = (2 * i - 2) + 2 by omega, Int.pow_add]
          omega
        have := hok.1
        rw [hq]
        omega
      have r1 := fill_loop rX n k s m (i + 1) f r (4 * a + w.1) (B ++ [w.2]) (by omega) (by omega) (by omega) (fun x hx => hL x (List.mem_cons_of_mem _ hx)) (by simp at hl; omega) (by simp; omega) ha2
      have e : 32 - 2 * (i + 1) = 30 - 2 * i := by omega
      rw [e] at r1
      have e2 : hor a (pad (m + 1) (w :: r)) = hor (4 * a + w.1) (pad m r) := rfl
      have e3 : B ++ (pad (m + 1) (w :: r)).map (·.2) = B ++ [w.2] ++ (pad m r).map (·.2) := by
        rw [List.append_assoc]; rfl
      rw [e2, e3]
      show (F27_l36 600).b _ _ ((F27_l36 600).L f) some = _
      obtain ⟨Lf, hLf⟩ : ∃ Lf, Lf = (F27_l36 600).L f := ⟨_, rfl⟩
      rw [← hLf] at r1 ⊢
      have c2 : decide (((w :: r).length : Int) > 0) = true := by rw [decide_eq_true_iff]; simp
      have z0 : (0 : Int) ≤ 0 := by omega
      have t0 : (0 : Int).toNat = 0 := rfl
      have t1 : (1 : Int).toNat = 1 := rfl
      have c3 : (0 : Int) ≤ 1 ∧ (1 : Int) ≤ ((w :: r).length : Int) := by rw [List.length_cons]; omega
      have g0 : (rowsW (w :: r))[0]? = some [AV.v (.int .i64 w.1), AV.v (.int .i64 w.2)] := rfl
      have d0 : ([AV.v (.int .i64 w.1), AV.v (.int .i64 w.2)].drop 0)[0]? = some (AV.v (.int .i64 w.1)) := rfl
      have d1 : ([AV.v (.int .i64 w.1), AV.v (.int .i64 w.2)].drop 1)[0]? = some (AV.v (.int .i64 w.2)) := rfl
      have g1 : (rowsW (w :: r)).drop 1 = rowsW r := rfl
      have c4 : (0 : Int) ≤ (i : Int) ∧ (i : Int) < 16 := by omega
      have e5 : 0 + i * 1 = i := by omega
      have hlen : i + 1 ≤ (cellsI (B ++ List.replicate (m + 1) 0)).length := by rw [cellsI_len]; simp; omega
      have e6 : i64 ((i : Int) + 1) = ((i + 1 : Nat) : Int) := by rw [i64_id (by omega)]; omega
      have st := set_snoc B m w.2
      rw [hB] at st
      have dr : (w :: r : List Wo).drop (m + 1) = r.drop m := rfl
      rw [dr]
      simp only [F27_l36, c1, rowsW_len, c2, z0, t0, t1, c3, c4, and_self, if_true, g0, d0, d1, sp, Int.toNat_natCast, e5, hlen, g1, e6, cellsI_set, st, cellsI_dat]
      exact r1
theorem lay_loop (rX l : List (List AV)) (n k : Int) (C : List Int) (hC : C.length = 16) (hr : ∀ x ∈ C, 0 ≤ x ∧ x ≤ 4294967295) : ∀ (m i f : Nat) (bs : List Int), m < f → i + m = 16 → bs.length ≤ 10000 + 4 * i →
    (F27_l47 600).L f (rX, l, n, strOfNums bs, k, (i : Int), cellsI C) = some (rX, l, n, strOfNums (bs ++ (C.drop i).flatMap be4), k)
  | 0, i, f, bs, hf, hi, hb => by
    obtain ⟨f, rfl⟩ : ∃ f', f = f' + 1 := ⟨f - 1, by omega⟩
    obtain rfl : i = 16 := by omega
    show (F27_l47 600).b _ _ ((F27_l47 600).L f) some = _
    have c : decide (((16 : Nat) : Int) < 16) = false := rfl
    have e : C.drop 16 = [] := List.drop_of_length_le (by omega)
    rw [e, List.flatMap_nil, List.append_nil]
    simp only [F27_l47, c]
  | m + 1, i, f, bs, hf, hi, hb => by
    obtain ⟨f, rfl⟩ : ∃ f', f = f' + 1 := ⟨f - 1, by omega⟩
    have hlt : i < C.length := by omega
    have r1 := lay_loop rX l n k C hC hr m (i + 1) f (bs ++ be4 C[i]) (by omega) (by omega) (by rw [List.length_append]; have : (be4 C[i]).length = 4 := rfl; omega)
    have c1 : decide ((i : Int) < 16) = true := by rw [decide_eq_true_iff]; omega
    have c4 : (0 : Int) ≤ (i : Int) ∧ (i : Int) < 16 := by omega
    have e5 : 0 + i * 1 = i := by omega
    have pu := rput_ok (strOfNums bs) (by rw [strOf_size]; omega) (hr _ (List.getElem_mem hlt))
    rw [← strOf_app] at pu
    have e6 : i64 ((i : Int) + 1) = ((i + 1 : Nat) : Int) := by rw [i64_id (by omega)]; omega
    rw [List.drop_eq_getElem_cons hlt, List.flatMap_cons, ← List.append_assoc]
    show (F27_l47 600).b _ _ ((F27_l47 600).L f) some = _
    obtain ⟨Lf, hLf⟩ : ∃ Lf, Lf = (F27_l47 600).L f := ⟨_, rfl⟩
    rw [← hLf] at r1 ⊢
    simp only [F27_l47, c1, c4, and_self, if_true, Int.toNat_natCast, e5, cellsI_get C i hlt, pu, e6, cellsI_dat]
    exact r1
theorem zero16 : [AV.v (.int .i64 0), AV.v (.int .i64 0), AV.v (.int .i64 0), AV.v (.int .i64 0), AV.v (.int .i64 0), AV.v (.int .i64 0), AV.v (.int .i64 0), AV.v (.int .i64 0), AV.v (.int .i64 0), AV.v (.int .i64 0), AV.v (.int .i64 0), AV.v (.int .i64 0), AV.v (.int .i64 0), AV.v (.int .i64 0), AV.v (.int .i64 0), AV.v (.int .i64 0)].map dat0 = cellsI ([0] ++ List.replicate 15 0) := rfl
theorem first16 (a b : Int) : [AV.v (.int .i64 0), AV.v (.int .i64 a), AV.v (.int .i64 b), AV.v (.int .i64 0), AV.v (.int .i64 0), AV.v (.int .i64 0), AV.v (.int .i64 0), AV.v (.int .i64 0), AV.v (.int .i64 0), AV.v (.int .i64 0), AV.v (.int .i64 0), AV.v (.int .i64 0), AV.v (.int .i64 0), AV.v (.int .i64 0), AV.v (.int .i64 0), AV.v (.int .i64 0)].map dat0 = cellsI ([0, a, b] ++ List.replicate 13 0) := rfl
theorem pad_rng (m : Nat) {L : List Wo} (hL : ∀ w ∈ L, WOk w) : ∀ x ∈ (pad m L).map (·.2), 0 ≤ x ∧ x ≤ 4294967295 := fun x hx => by
  obtain ⟨w, hw, rfl⟩ := List.mem_map.1 hx
  exact (pad_ok m L hL w hw).2
theorem renc_loop (rX : List (List AV)) (n : Nat) (hn : n ≤ 8) : ∀ (j k f : Nat) (L : List Wo) (bs : List Int), j < f → k + j = n → 1 ≤ k → (∀ w ∈ L, WOk w) → L.length ≤ 1000 → bs.length ≤ 64 * k →
    (F27_l19 600).L f (rX, rowsW L, (n : Int), strOfNums bs, (k : Int)) = some (strOfNums (bs ++ (allw j L).flatMap be4))
  | 0, k, f, L, bs, hf, hk, h1, hL, hl, hb => by
    obtain ⟨f, rfl⟩ : ∃ f', f = f' + 1 := ⟨f - 1, by omega⟩
    show (F27_l19 600).b _ _ ((F27_l19 600).L f) some = _
    have c : decide ((k : Int) < (n : Int)) = false := by rw [decide_eq_false_iff_not]; omega
    simp only [F27_l19, c, allw, List.flatMap_nil, List.append_nil]
  | j + 1, k, f, L, bs, hf, hk, h1, hL, hl, hb => by
    obtain ⟨f, rfl⟩ : ∃ f', f = f' + 1 := ⟨f - 1, by omega⟩
    have q := fill_loop rX (n : Int) (k : Int) (strOfNums bs) 15 1 600 L 0 [0] (by omega) (by omega) (by omega) hL hl rfl (by simp)
    rw [Int.zero_mul] at q
    replace q : (F27_l36 600).L 600 (rX, rowsW L, (n : Int), strOfNums bs, (k : Int), 0, 1, cellsI ([0] ++ List.replicate 15 0)) = _ := q
    have hh := hor_rng 15 (pad 15 L) (pad_len _ _) (pad_ok 15 L hL)
    have es : ([0] ++ (pad 15 L).map (·.2) : List Int).set 0 (hor 0 (pad 15 L)) = hor 0 (pad 15 L) :: (pad 15 L).map (·.2) := rfl
    have hr : ∀ x ∈ hor 0 (pad 15 L) :: (pad 15 L).map (·.2), 0 ≤ x ∧ x ≤ 4294967295 := fun x hx => by
      rcases List.mem_cons.1 hx with rfl | hx
      · omega
      · exact pad_rng 15 hL x hx
    have lay := lay_loop rX (rowsW (L.drop 15)) (n : Int) (k : Int) (hor 0 (pad 15 L) :: (pad 15 L).map (·.2)) (by simp [pad_len]) hr 16 0 600 bs (by omega) (by omega) (by omega)
    rw [List.drop_zero] at lay
    replace lay : (F27_l47 600).L 600 (rX, rowsW (L.drop 15), (n : Int), strOfNums bs, (k : Int), 0, cellsI (hor 0 (pad 15 L) :: (pad 15 L).map (·.2))) = _ := lay
    have e5 : bs ++ (hor 0 (pad 15 L) :: (pad 15 L).map (·.2)).flatMap be4 ++ (allw j (L.drop 15)).flatMap be4 = bs ++ (allw (j + 1) L).flatMap be4 := by
      simp only [allw, List.flatMap_cons, List.flatMap_append, List.append_assoc]
    have hl16 : ((hor 0 (pad 15 L) :: (pad 15 L).map (·.2)).flatMap be4).length = 64 := by rw [fm4_len]; simp [pad_len]
    have r1 := renc_loop rX n hn j (k + 1) f (L.drop 15) (bs ++ (hor 0 (pad 15 L) :: (pad 15 L).map (·.2)).flatMap be4) (by omega) (by omega) (by omega) (fun w hw => hL w (List.mem_of_mem_drop hw)) (by simp; omega) (by rw [List.length_append, hl16]; omega)
    rw [e5] at r1
    have c1 : decide ((k : Int) < (n : Int)) = true := by rw [decide_eq_true_iff]; omega
    have m0 : ((k : Int) == 0) = false := by rw [beq_eq_false_iff_ne]; omega
    have c2 : 0 + 1 ≤ (cellsI ([0] ++ (pad 15 L).map (·.2))).length := by rw [cellsI_len]; simp
    have e6 : i64 ((k : Int) + 1) = ((k + 1 : Nat) : Int) := by rw [i64_id (by omega)]; omega
    show (F27_l19 600).b _ _ ((F27_l19 600).L f) some = _
    obtain ⟨Lf, hLf⟩ : ∃ Lf, Lf = (F27_l19 600).L f := ⟨_, rfl⟩
    rw [← hLf] at r1 ⊢
    simp only [F27_l19, c1, m0, zero16, F27_d36, q, c2, if_true, cellsI_set, es, cellsI_dat, F27_d47, lay, e6]
    exact r1
/-- Both packages' Encode. -/
theorem renc_ok (X : List Int) (hl : X.length ≤ 500) (h0 : X ≠ []) (hX : ∀ x ∈ X, Smp x) (hn : nfr (wX X).length ≤ 8) : F27_d 600 (rowsI X) = some (FS (nfr (wX X).length) (lX X), 0) := by
  have hp : 0 < X.length := List.length_pos_iff.2 h0
  have hwp := wX_pos h0
  have hw := (wX_len X).1
  have c : ((X.length : Int) == 0) = false := by rw [beq_eq_false_iff_ne]; omega
  have hall := (all_iff X).2 hX
  have f1 := rFrames_ok X hl
  have e0 : frI (wX X).length = (nfr (wX X).length : Int) := if_neg (by omega)
  rw [hall, e0] at f1
  simp only [if_true] at f1
  have hn1 : 1 ≤ nfr (wX X).length := by unfold nfr; omega
  obtain ⟨n, hnn⟩ : ∃ n, n + 1 = nfr (wX X).length := ⟨nfr (wX X).length - 1, by omega⟩
  rw [← hnn] at f1 hn ⊢
  have c2 : decide (((n + 1 : Nat) : Int) > 8) = false := by rw [decide_eq_false_iff_not]; omega
  have hLok := lX_ok hX
  have hwok : ∀ w ∈ wX X, WOk w := fun w hw => hLok w (List.mem_cons_of_mem _ (List.mem_cons_of_mem _ hw))
  have hl1 : X.length - 1 < X.length := by omega
  have f0 : ∀ x, Smp x → Fit32 x := fun x h => by unfold Smp at h; unfold Fit32; omega
  have w0 := rwrap32 (f0 _ (hX _ (List.getElem_mem hp)))
  have w1 := rwrap32 (f0 _ (hX _ (List.getElem_mem hl1)))
  have eh : X.headD 0 = X[0] := by cases X with | nil => exact absurd rfl h0 | cons a r => rfl
  have el : X.getLastD 0 = X[X.length - 1] := by
    rw [List.getLastD_eq_getLast?, List.getLast?_eq_getElem?, List.getElem?_eq_getElem hl1]; rfl
  rw [← eh] at w0
  rw [← el] at w1
  have g0 := rowsI_get X 0 hp
  have g1 := rowsI_get X (X.length - 1) hl1
  rw [← eh] at g0
  rw [← el] at g1
  have q := fill_loop (rowsI X) ((n + 1 : Nat) : Int) 0 (⟨#[]⟩ : ByteArray) 13 3 600 (wX X) 0 [0, X.headD 0 % 4294967296, X.getLastD 0 % 4294967296] (by omega) (by omega) (by omega) hwok (by omega) rfl (by simp)
  rw [Int.zero_mul] at q
  replace q : (F27_l36 600).L 600 (rowsI X, rowsW (wX X), ((n + 1 : Nat) : Int), (⟨#[]⟩ : ByteArray), 0, 0, 3, cellsI ([0, X.headD 0 % 4294967296, X.getLastD 0 % 4294967296] ++ List.replicate 13 0)) = _ := q
  have hh := hor_rng 15 (pad 15 (lX X)) (pad_len _ _) (pad_ok 15 _ hLok)
  have ehor : hor 0 (pad 13 (wX X)) = hor 0 (pad 15 (lX X)) := rfl
  have es : ([0, X.headD 0 % 4294967296, X.getLastD 0 % 4294967296] ++ (pad 13 (wX X)).map (·.2) : List Int).set 0 (hor 0 (pad 15 (lX X))) = hor 0 (pad 15 (lX X)) :: (pad 15 (lX X)).map (·.2) := rfl
  rw [ehor] at q
  have hr : ∀ x ∈ hor 0 (pad 15 (lX X)) :: (pad 15 (lX X)).map (·.2), 0 ≤ x ∧ x ≤ 4294967295 := fun x hx => by
    rcases List.mem_cons.1 hx with rfl | hx
    · omega
    · exact pad_rng 15 hLok x hx
  have lay := lay_loop (rowsI X) (rowsW ((wX X).drop 13)) ((n + 1 : Nat) : Int) 0 (hor 0 (pad 15 (lX X)) :: (pad 15 (lX X)).map (·.2)) (by simp [pad_len]) hr 16 0 600 [] (by omega) (by omega) (by simp)
  rw [List.drop_zero, List.nil_append] at lay
  replace lay : (F27_l47 600).L 600 (rowsI X, rowsW ((wX X).drop 13), ((n + 1 : Nat) : Int), (⟨#[]⟩ : ByteArray), 0, 0, cellsI (hor 0 (pad 15 (lX X)) :: (pad 15 (lX X)).map (·.2))) = _ := lay
  have hl16 : ((hor 0 (pad 15 (lX X)) :: (pad 15 (lX X)).map (·.2)).flatMap be4).length = 64 := by rw [fm4_len]; simp [pad_len]
  have r1 := renc_loop (rowsI X) (n + 1) hn n 1 599 ((wX X).drop 13) ((hor 0 (pad 15 (lX X)) :: (pad 15 (lX X)).map (·.2)).flatMap be4) (by omega) (by omega) (by omega) (fun w hw => hwok w (List.mem_of_mem_drop hw)) (by simp; omega) (by omega)
  have eF : strOfNums ((hor 0 (pad 15 (lX X)) :: (pad 15 (lX X)).map (·.2)).flatMap be4 ++ (allw n ((wX X).drop 13)).flatMap be4) = FS (n + 1) (lX X) := by
    unfold FS
    rw [← List.flatMap_append]
    rfl
  rw [eF] at r1
  have c3 : decide ((0 : Int) < ((n + 1 : Nat) : Int)) = true := by rw [decide_eq_true_iff]; omega
  have z0 : (0 : Int) ≤ 0 := by omega
  have t0 : (0 : Int).toNat = 0 := rfl
  have e1 : i64 ((X.length : Int) - 1) = ((X.length - 1 : Nat) : Int) := by rw [i64_id (by omega)]; omega
  have z1 : (0 : Int) ≤ ((X.length - 1 : Nat) : Int) := by omega
  have c4 : 0 + 1 ≤ (cellsI ([0, X.headD 0 % 4294967296, X.getLastD 0 % 4294967296] ++ (pad 13 (wX X)).map (·.2))).length := by rw [cellsI_len]; simp
  have e6 : i64 ((0 : Int) + 1) = ((1 : Nat) : Int) := by kernel_rfl
  have st : (F27_l19 600).L 600 (rowsI X, rowsW (wX X), ((n + 1 : Nat) : Int), (⟨#[]⟩ : ByteArray), 0) = some (FS (n + 1) (lX X)) := by
    show (F27_l19 600).b _ _ ((F27_l19 600).L 599) some = _
    obtain ⟨Lf, hLf⟩ : ∃ Lf, Lf = (F27_l19 600).L 599 := ⟨_, rfl⟩
    rw [← hLf] at r1 ⊢
    simp only [F27_l19, c3, beq_self_eq_true, z0, t0, if_true, g0, List.getElem?_cons_zero, w0, rowsI_len, e1, z1, Int.toNat_natCast, g1, w1, first16, F27_d36, q, c4, cellsI_set, es, cellsI_dat, F27_d47, lay, e6]
    exact r1
  simp only [F27_d, FSpec.d, F27_s, rowsI_len, c, rall_any X (by omega), hall, Bool.not_true, f1, c2, rwords_ok X hl hX, F27_d19, st]
end Go.Proofs.YtdmedeaknnldcaaGreatDoor
/- Steim, the plain law: the document's Codes, Decode, Canonical of any string. -/
namespace Go.Proofs.YtdmedeaknnldcaaGreatDoor
open Go.RowKit
set_option linter.unusedVariables false
set_option linter.unusedSimpArgs false
set_option linter.unnecessarySimpa false
theorem rpair_ok {x : Int} {i : Nat} (hx : 0 ≤ x ∧ x ≤ 4294967295) (hi : i ≤ 15) : F116_d 600 (x, (i : Int)) = some (x / 2 ^ (30 - 2 * i) % 4, 0) := by
  have c : ¬ (30 - 2 * (i : Int) < 0) := by omega
  have e0 : i64 (2 * (i : Int)) = 2 * (i : Int) := i64_id (by omega)
  have e00 : i64 (30 - 2 * (i : Int)) = 30 - 2 * (i : Int) := i64_id (by omega)
  have e3 : IntKind.u64.wrap (30 - 2 * (i : Int)) = 30 - 2 * (i : Int) := u64_id (by omega)
  have e1 : shR .i64 x (30 - 2 * (i : Int)) = x / 2 ^ (30 - 2 * i) := by
    rw [shR_ok (by omega)]
    have : (30 - 2 * (i : Int)).toNat = 30 - 2 * i := by omega
    rw [this]
  have e2 : bAnd .i64 (x / 2 ^ (30 - 2 * i)) 3 = x / 2 ^ (30 - 2 * i) % 4 := bAnd_ok (w := 2) (by omega)
  simp only [F116_d, FSpec.d, F116_s, rin_yes hx, rin_yes (show 0 ≤ (i : Int) ∧ (i : Int) ≤ 15 by omega), Bool.not_true, e0, e00, e3, c, if_false, e1, e2]
theorem rcod_loop (w : Int) (hw : 0 ≤ w ∧ w ≤ 4294967295) : ∀ (k i f : Nat), k < f → i + k = 16 → (F107_l10 600).L f (rowsI ((List.range i).map fun j => w / 2 ^ (30 - 2 * j) % 4), w, (i : Int)) = some (rowsI ((List.range 16).map fun j => w / 2 ^ (30 - 2 * j) % 4))
  | 0, i, f, hf, hi => by
    obtain ⟨f, rfl⟩ : ∃ f', f = f' + 1 := ⟨f - 1, by omega⟩
    obtain rfl : i = 16 := by omega
    show (F107_l10 600).b _ _ ((F107_l10 600).L f) some = _
    have c : decide (((16 : Nat) : Int) < 16) = false := rfl
    simp only [F107_l10, c]
  | k + 1, i, f, hf, hi => by
    obtain ⟨f, rfl⟩ : ∃ f', f = f' + 1 := ⟨f - 1, by omega⟩
    have r1 := rcod_loop w hw k (i + 1) f (by omega) (by omega)
    show (F107_l10 600).b _ _ ((F107_l10 600).L f) some = _
    obtain ⟨Lf, hL⟩ : ∃ Lf, Lf = (F107_l10 600).L f := ⟨_, rfl⟩
    rw [← hL] at r1 ⊢
    have c1 : decide ((i : Int) < 16) = true := by rw [decide_eq_true_iff]; omega
    have c4 : i64 ((i : Int) + 1) = ((i + 1 : Nat) : Int) := by rw [i64_id (by omega)]; omega
    have hb : ((rowsI ((List.range i).map fun j => w / 2 ^ (30 - 2 * j) % 4)).length + 1) * 8 ≤ maxBytes := by
      rw [rowsI_len]; simp; unfold maxBytes; omega
    have e : (List.range (i + 1)).map (fun j => w / 2 ^ (30 - 2 * j) % 4) = (List.range i).map (fun j => w / 2 ^ (30 - 2 * j) % 4) ++ [w / 2 ^ (30 - 2 * i) % 4] := by
      rw [List.range_succ, List.map_append]; rfl
    rw [e] at r1
    simp only [F107_l10, c1, rpair_ok hw (show i ≤ 15 by omega), len1, hb, if_true, rowsI_snoc, c4]
    exact r1
theorem rcodes_ok (f : ByteArray) (h : f.size = 64) : F107_d 600 f = some (rowsI ((List.range 16).map fun j => get4 f 0 / 2 ^ (30 - 2 * j) % 4), 0) := by
  have c : ((f.size : Int) != 64) = false := by rw [h]; rfl
  have g := rget4_ok f 0 (by omega) (by omega) (by omega)
  have r := rcod_loop (get4 f 0) (get4_rng f 0) 16 0 600 (by omega) rfl
  replace r : (F107_l10 600).L 600 (([] : List (List AV)), get4 f 0, 0) = _ := r
  replace g : F76_d 600 (f, 0, 4) = some (get4 f 0, 0) := g
  simp only [F107_d, FSpec.d, F107_s, c, g, F107_d10, r]
/-! A word's differences. -/
theorem runp_step (n W : Nat) (hW2 : 1 ≤ W ∧ W ≤ 32) (hnW : n * W = 32) (sg : Int → Int) (hs : ∀ u, 0 ≤ u → u < 2 ^ W → F79_d 600 (u, (W : Int)) = some (sg u, 0)) (acc : List Int) (ha : acc.length ≤ 10000) (x2 : List (List AV)) (x3 : ByteArray) (x4 : Int) (x5 : ByteArray) (x6 v : Int) (i f : Nat) (hi : i < n) :
    (F78_l33 600).L (f + 1) (rowsI acc, x2, x3, x4, x5, x6, v, (n : Int), (W : Int), (i : Int)) = (F78_l33 600).L f (rowsI (acc ++ [sg (v / 2 ^ (32 - W * (i + 1)) % 2 ^ W)]), x2, x3, x4, x5, x6, v, (n : Int), (W : Int), ((i + 1 : Nat) : Int)) := by
  show (F78_l33 600).b _ _ ((F78_l33 600).L f) some = _
  obtain ⟨Lf, hL⟩ : ∃ Lf, Lf = (F78_l33 600).L f := ⟨_, rfl⟩
  rw [← hL]
  have hm : W * (i + 1) ≤ 32 := by
    have : W * (i + 1) ≤ W * n := Nat.mul_le_mul_left _ (by omega)
    rw [Nat.mul_comm W n, hnW] at this
    exact this
  have c1 : decide ((i : Int) < (n : Int)) = true := by rw [decide_eq_true_iff]; omega
  have e1 : i64 ((i : Int) + 1) = ((i + 1 : Nat) : Int) := by
    have : i + 1 ≤ W * (i + 1) := Nat.le_mul_of_pos_left _ (by omega)
    rw [i64_id (by omega)]; omega
  have e2 : i64 ((W : Int) * ((i + 1 : Nat) : Int)) = ((W * (i + 1) : Nat) : Int) := by
    rw [← Int.natCast_mul, i64_id (by omega)]
  have e3 : i64 (32 - ((W * (i + 1) : Nat) : Int)) = ((32 - W * (i + 1) : Nat) : Int) := by rw [i64_id (by omega)]; omega
  have e4 : IntKind.u64.wrap ((32 - W * (i + 1) : Nat) : Int) = ((32 - W * (i + 1) : Nat) : Int) := u64_id (by omega)
  have e5 : IntKind.u64.wrap (W : Int) = (W : Int) := u64_id (by omega)
  have c3 : ¬ (((32 - W * (i + 1) : Nat) : Int) < 0) := by omega
  have c4 : ¬ ((W : Int) < 0) := by omega
  have e6 : shR .i64 v ((32 - W * (i + 1) : Nat) : Int) = v / 2 ^ (32 - W * (i + 1)) := by
    rw [shR_ok (by omega), Int.toNat_natCast]
  have hp : (1 : Int) ≤ 2 ^ W := Int.pow_pos (by omega)
  have hp2 : (2 : Int) ^ W ≤ 2 ^ 32 := two_le hW2.2
  have e7 : i64 (shL .i64 1 (W : Int) - 1) = 2 ^ W - 1 := by
    have := shL_ok (x := 1) (y := (W : Int)) (by omega) (by rw [Int.toNat_natCast]; omega)
    rw [this, Int.toNat_natCast, i64_id (by omega)]
    omega
  have e8 : bAnd .i64 (v / 2 ^ (32 - W * (i + 1))) (2 ^ W - 1) = v / 2 ^ (32 - W * (i + 1)) % 2 ^ W := bAnd_ok (by omega)
  have e9 := hs (v / 2 ^ (32 - W * (i + 1)) % 2 ^ W) (Int.emod_nonneg _ (by omega)) (Int.emod_lt_of_pos _ (by omega))
  have hb : ((rowsI acc).length + 1) * 8 ≤ maxBytes := by rw [rowsI_len]; unfold maxBytes; omega
  simp only [F78_l33, c1, e1, e2, e3, e4, e5, c3, c4, if_false, e6, e7, e8, e9, len1, hb, if_true, rowsI_snoc]
  first | exact if_pos trivial | exact if_neg (fun h => h) | rfl
theorem runp_end (acc : List Int) (x2 : List (List AV)) (x3 : ByteArray) (x4 : Int) (x5 : ByteArray) (x6 v n W : Int) (f : Nat) : (F78_l33 600).L (f + 1) (rowsI acc, x2, x3, x4, x5, x6, v, n, W, n) = some (rowsI acc, x2, x3, x4, x5, x6) := by
  show (F78_l33 600).b _ _ ((F78_l33 600).L f) some = _
  have c : decide (n < n) = false := by rw [decide_eq_false_iff_not]; omega
  simp only [F78_l33, c]
theorem runp_ok (acc : List Int) (ha : acc.length ≤ 9000) (x2 : List (List AV)) (x3 : ByteArray) (x4 : Int) (x5 : ByteArray) (x6 : Int) {c v : Int} (hc : c = 1 ∨ c = 2 ∨ c = 3) (hv : 0 ≤ v ∧ v ≤ 4294967295) :
    ∃ n W : Int, [[AV.v (.int .i64 0)], [AV.v (.int .i64 4)], [AV.v (.int .i64 2)], [AV.v (.int .i64 1)]][c.toNat]? = some [AV.v (.int .i64 n)] ∧ n ≠ 0 ∧ i64 ((32 : Int).tdiv n) = W ∧ F78_d33 600 (rowsI acc, x2, x3, x4, x5, x6, v, n, W, 0) = some (rowsI (acc ++ unp c v), x2, x3, x4, x5, x6) := by
  rcases hc with rfl | rfl | rfl
  · refine ⟨4, 8, rfl, by omega, by kernel_rfl, ?_⟩
    have hs : ∀ u, 0 ≤ u → u < 2 ^ 8 → F79_d 600 (u, ((8 : Nat) : Int)) = some (sgn8 u, 0) := fun u h1 h2 => rsign8 ⟨h1, by omega⟩
    have s1 := runp_step 4 8 (by omega) (by omega) sgn8 hs acc (by omega) x2 x3 x4 x5 x6 v 0 599 (by omega)
    have s2 := runp_step 4 8 (by omega) (by omega) sgn8 hs (acc ++ [sgn8 (v / 2 ^ (32 - 8 * (0 + 1)) % 2 ^ 8)]) (by simp; omega) x2 x3 x4 x5 x6 v 1 598 (by omega)
    have s3 := runp_step 4 8 (by omega) (by omega) sgn8 hs (acc ++ [sgn8 (v / 2 ^ (32 - 8 * (0 + 1)) % 2 ^ 8)] ++ [sgn8 (v / 2 ^ (32 - 8 * (1 + 1)) % 2 ^ 8)]) (by simp; omega) x2 x3 x4 x5 x6 v 2 597 (by omega)
    have s4 := runp_step 4 8 (by omega) (by omega) sgn8 hs (acc ++ [sgn8 (v / 2 ^ (32 - 8 * (0 + 1)) % 2 ^ 8)] ++ [sgn8 (v / 2 ^ (32 - 8 * (1 + 1)) % 2 ^ 8)] ++ [sgn8 (v / 2 ^ (32 - 8 * (2 + 1)) % 2 ^ 8)]) (by simp; omega) x2 x3 x4 x5 x6 v 3 596 (by omega)
    have s5 := runp_end (acc ++ [sgn8 (v / 2 ^ (32 - 8 * (0 + 1)) % 2 ^ 8)] ++ [sgn8 (v / 2 ^ (32 - 8 * (1 + 1)) % 2 ^ 8)] ++ [sgn8 (v / 2 ^ (32 - 8 * (2 + 1)) % 2 ^ 8)] ++ [sgn8 (v / 2 ^ (32 - 8 * (3 + 1)) % 2 ^ 8)]) x2 x3 x4 x5 x6 v 4 8 595
    have u : acc ++ unp 1 v = acc ++ [sgn8 (v / 2 ^ (32 - 8 * (0 + 1)) % 2 ^ 8)] ++ [sgn8 (v / 2 ^ (32 - 8 * (1 + 1)) % 2 ^ 8)] ++ [sgn8 (v / 2 ^ (32 - 8 * (2 + 1)) % 2 ^ 8)] ++ [sgn8 (v / 2 ^ (32 - 8 * (3 + 1)) % 2 ^ 8)] := by
      have : unp 1 v = [sgn8 (v / 2 ^ (32 - 8 * (0 + 1)) % 2 ^ 8), sgn8 (v / 2 ^ (32 - 8 * (1 + 1)) % 2 ^ 8), sgn8 (v / 2 ^ (32 - 8 * (2 + 1)) % 2 ^ 8), sgn8 (v / 2 ^ (32 - 8 * (3 + 1)) % 2 ^ 8)] := by
        show [_, _, _, sgn8 (v % 256)] = [_, _, _, sgn8 (v / 1 % 256)]
        rw [Int.ediv_one]
        rfl
      rw [this]
      simp only [List.append_assoc, List.cons_append, List.nil_append]
    rw [u]
    exact s1.trans (s2.trans (s3.trans (s4.trans s5)))
  · refine ⟨2, 16, rfl, by omega, by kernel_rfl, ?_⟩
    have hs : ∀ u, 0 ≤ u → u < 2 ^ 16 → F79_d 600 (u, ((16 : Nat) : Int)) = some (sgn16 u, 0) := fun u h1 h2 => rsign16 ⟨h1, by omega⟩
    have s1 := runp_step 2 16 (by omega) (by omega) sgn16 hs acc (by omega) x2 x3 x4 x5 x6 v 0 599 (by omega)
    have s2 := runp_step 2 16 (by omega) (by omega) sgn16 hs (acc ++ [sgn16 (v / 2 ^ (32 - 16 * (0 + 1)) % 2 ^ 16)]) (by simp; omega) x2 x3 x4 x5 x6 v 1 598 (by omega)
    have s5 := runp_end (acc ++ [sgn16 (v / 2 ^ (32 - 16 * (0 + 1)) % 2 ^ 16)] ++ [sgn16 (v / 2 ^ (32 - 16 * (1 + 1)) % 2 ^ 16)]) x2 x3 x4 x5 x6 v 2 16 597
    have u : acc ++ unp 2 v = acc ++ [sgn16 (v / 2 ^ (32 - 16 * (0 + 1)) % 2 ^ 16)] ++ [sgn16 (v / 2 ^ (32 - 16 * (1 + 1)) % 2 ^ 16)] := by
      have : unp 2 v = [sgn16 (v / 2 ^ (32 - 16 * (0 + 1)) % 2 ^ 16), sgn16 (v / 2 ^ (32 - 16 * (1 + 1)) % 2 ^ 16)] := by
        show [_, sgn16 (v % 65536)] = [_, sgn16 (v / 1 % 65536)]
        rw [Int.ediv_one]
        rfl
      rw [this]
      simp only [List.append_assoc, List.cons_append, List.nil_append]
    rw [u]
    exact s1.trans (s2.trans s5)
  · refine ⟨1, 32, rfl, by omega, by kernel_rfl, ?_⟩
    have hs : ∀ u, 0 ≤ u → u < 2 ^ 32 → F79_d 600 (u, ((32 : Nat) : Int)) = some (sgn32 u, 0) := fun u h1 h2 => rsign32 ⟨h1, by omega⟩
    have s1 := runp_step 1 32 (by omega) (by omega) sgn32 hs acc (by omega) x2 x3 x4 x5 x6 v 0 599 (by omega)
    have s5 := runp_end (acc ++ [sgn32 (v / 2 ^ (32 - 32 * (0 + 1)) % 2 ^ 32)]) x2 x3 x4 x5 x6 v 1 32 598
    have u : acc ++ unp 3 v = acc ++ [sgn32 (v / 2 ^ (32 - 32 * (0 + 1)) % 2 ^ 32)] := by
      have : unp 3 v = [sgn32 (v / 2 ^ (32 - 32 * (0 + 1)) % 2 ^ 32)] := by
        show [sgn32 (v % 4294967296)] = [sgn32 (v / 1 % 4294967296)]
        rw [Int.ediv_one]
      rw [this]
    rw [u]
    exact s1.trans s5
theorem unp_zero (v : Int) : unp 0 v = [] := rfl
theorem rfrm_loop (s : ByteArray) (hs : s.size ≤ 900000) (k : Nat) (hk : 64 * k + 64 ≤ s.size) (h12 : k = 0 → codA s 0 1 = 0 ∧ codA s 0 2 = 0) (acc : List Int) (ha : acc.length ≤ 1000) : ∀ (m n f : Nat), m < f → n + m = 15 →
    (F78_l19 600).L f (rowsI (acc ++ frm s k n), rowsI ((List.range 16).map fun j => get4 s (64 * k) / 2 ^ (30 - 2 * j) % 4), s, (k : Int), s.extract (64 * k) (64 * k + 64), ((n + 1 : Nat) : Int)) = some (rowsI (acc ++ frm s k 15), s, (k : Int))
  | 0, n, f, hf, hi => by
    obtain ⟨f, rfl⟩ : ∃ f', f = f' + 1 := ⟨f - 1, by omega⟩
    obtain rfl : n = 15 := by omega
    show (F78_l19 600).b _ _ ((F78_l19 600).L f) some = _
    have c : decide (((15 + 1 : Nat) : Int) < 16) = false := rfl
    simp only [F78_l19, c]
  | m + 1, n, f, hf, hi => by
    obtain ⟨f, rfl⟩ : ∃ f', f = f' + 1 := ⟨f - 1, by omega⟩
    have r1 := rfrm_loop s hs k hk h12 acc ha m (n + 1) f (by omega) (by omega)
    have c1 : decide (((n + 1 : Nat) : Int) < 16) = true := by rw [decide_eq_true_iff]; omega
    have c2 : (0 : Int) ≤ ((n + 1 : Nat) : Int) := by omega
    have e1 : i64 (4 * ((n + 1 : Nat) : Int)) = ((4 * (n + 1) : Nat) : Int) := by rw [i64_id (by omega)]; omega
    have hsz := ext_size s (64 * k) (64 * k + 64) hk
    have g := rget4_ok (s.extract (64 * k) (64 * k + 64)) (4 * (n + 1)) (by omega) (by omega) (by omega)
    rw [get4_ext s (64 * k) (64 * k + 64) (4 * (n + 1)) (by omega)] at g
    have e2 := cod_at s k (n + 1) (by omega)
    have l2 := frm_len s k n
    have hr := codA_rng s k (n + 1)
    have c4 : i64 (((n + 1 : Nat) : Int) + 1) = ((n + 1 + 1 : Nat) : Int) := by rw [i64_id (by omega)]; omega
    rw [frm_succ, ← List.append_assoc] at r1
    by_cases h0 : codA s k (n + 1) = 0
    · rw [h0, unp_zero, List.append_nil] at r1
      show (F78_l19 600).b _ _ ((F78_l19 600).L f) some = _
      obtain ⟨Lf, hL⟩ : ∃ Lf, Lf = (F78_l19 600).L f := ⟨_, rfl⟩
      rw [← hL] at r1 ⊢
      have b0 : (codA s k (n + 1) == 0) = true := by rw [h0]; rfl
      by_cases k0 : k = 0
      · have m0 : ((k : Int) == 0) = true := by rw [k0]; rfl
        by_cases n3 : ((n + 1 : Nat) : Int) < 3
        · have c5 : decide (((n + 1 : Nat) : Int) < 3) = true := decide_eq_true n3
          simp only [F78_l19, c1, m0, c5, c4]
          exact r1
        · have c5 : decide (((n + 1 : Nat) : Int) < 3) = false := decide_eq_false n3
          simp only [F78_l19, c1, m0, c5, c2, if_true, Int.toNat_natCast, e2, List.getElem?_cons_zero, b0, c4]
          exact r1
      · have m0 : ((k : Int) == 0) = false := by rw [beq_eq_false_iff_ne]; omega
        simp only [F78_l19, c1, m0, c2, if_true, Int.toNat_natCast, e2, List.getElem?_cons_zero, b0, c4]
        exact r1
    · have hc : codA s k (n + 1) = 1 ∨ codA s k (n + 1) = 2 ∨ codA s k (n + 1) = 3 := by omega
      have b0 : (codA s k (n + 1) == 0) = false := beq_eq_false_iff_ne.2 h0
      obtain ⟨N, W, u1, u2, u3, u4⟩ := runp_ok (acc ++ frm s k n) (by rw [List.length_append]; omega) (rowsI ((List.range 16).map fun j => get4 s (64 * k) / 2 ^ (30 - 2 * j) % 4)) s (k : Int) (s.extract (64 * k) (64 * k + 64)) ((n + 1 : Nat) : Int) hc (get4_rng s (64 * k + 4 * (n + 1)))
      have c6 : (0 : Int) ≤ codA s k (n + 1) := hr.1
      show (F78_l19 600).b _ _ ((F78_l19 600).L f) some = _
      obtain ⟨Lf, hL⟩ : ∃ Lf, Lf = (F78_l19 600).L f := ⟨_, rfl⟩
      rw [← hL] at r1 ⊢
      by_cases k0 : k = 0
      · have m0 : ((k : Int) == 0) = true := by rw [k0]; rfl
        have n3 : ¬ ((n + 1 : Nat) : Int) < 3 := fun h => by
          subst k0
          have hh := h12 rfl
          have : n = 0 ∨ n = 1 := by omega
          rcases this with rfl | rfl
          · exact h0 hh.1
          · exact h0 hh.2
        have c5 : decide (((n + 1 : Nat) : Int) < 3) = false := decide_eq_false n3
        simp only [F78_l19, c1, m0, c5, c2, if_true, Int.toNat_natCast, e2, List.getElem?_cons_zero, b0, e1, g, c6, u1, u2, if_false, u3, u4, c4]
        exact r1
      · have m0 : ((k : Int) == 0) = false := by rw [beq_eq_false_iff_ne]; omega
        simp only [F78_l19, c1, m0, c2, if_true, Int.toNat_natCast, e2, List.getElem?_cons_zero, b0, e1, g, c6, u1, u2, if_false, u3, u4, c4]
        exact r1
theorem rdcm_loop (s : ByteArray) (hs : s.size ≤ 900000) (n : Nat) (hn : n ≤ 8) (hns : s.size / 64 = n) : ∀ (j k f : Nat) (acc : List Int), j < f → k + j = n → acc.length ≤ 60 * k →
    ((bads s k j = false ∧ (F78_l5 600).L f (rowsI acc, s, (k : Int)) = some (.inr (rowsI (acc ++ frms s k j)))) ∨ (bads s k j = true ∧ ∃ z, (F78_l5 600).L f (rowsI acc, s, (k : Int)) = some (.inl (z, [], false))))
  | 0, k, f, acc, hf, hk, ha => by
    obtain ⟨f, rfl⟩ : ∃ f', f = f' + 1 := ⟨f - 1, by omega⟩
    have t2 : i64 ((s.size : Int).tdiv 64) = (n : Int) := by rw [Int.tdiv_eq_ediv_of_nonneg (by omega), i64_id (by omega)]; omega
    refine .inl ⟨rfl, ?_⟩
    show (F78_l5 600).b _ _ ((F78_l5 600).L f) some = _
    have c : decide ((k : Int) < (n : Int)) = false := by rw [decide_eq_false_iff_not]; omega
    simp only [F78_l5, t2, c, frms, List.append_nil]
  | j + 1, k, f, acc, hf, hk, ha => by
    obtain ⟨f, rfl⟩ : ∃ f', f = f' + 1 := ⟨f - 1, by omega⟩
    have t2 : i64 ((s.size : Int).tdiv 64) = (n : Int) := by rw [Int.tdiv_eq_ediv_of_nonneg (by omega), i64_id (by omega)]; omega
    have hks : 64 * k + 64 ≤ s.size := by omega
    have c1 : decide ((k : Int) < (n : Int)) = true := by rw [decide_eq_true_iff]; omega
    have e1 : i64 (64 * (k : Int)) = ((64 * k : Nat) : Int) := by rw [i64_id (by omega)]; omega
    have e2 : i64 ((k : Int) + 1) = ((k + 1 : Nat) : Int) := by rw [i64_id (by omega)]; omega
    have e3 : i64 (((64 * k : Nat) : Int) + 64) = ((64 * k + 64 : Nat) : Int) := by rw [i64_id (by omega)]; omega
    have c2 : (0 : Int) ≤ ((64 * k : Nat) : Int) ∧ ((64 * k : Nat) : Int) ≤ ((64 * k + 64 : Nat) : Int) ∧ ((64 * k + 64 : Nat) : Int) ≤ (s.size : Int) := by omega
    have hsz := ext_size s (64 * k) (64 * k + 64) hks
    have g := rcodes_ok (s.extract (64 * k) (64 * k + 64)) (by omega)
    rw [get4_ext s (64 * k) (64 * k + 64) 0 (by omega)] at g
    simp only [Nat.add_zero] at g
    have z0 : (0 : Int) ≤ 0 := by omega
    have z1 : (0 : Int) ≤ 1 := by omega
    have z2 : (0 : Int) ≤ 2 := by omega
    have t0 : (0 : Int).toNat = 0 := rfl
    have t1 : (1 : Int).toNat = 1 := rfl
    have t22 : (2 : Int).toNat = 2 := rfl
    have a0 := cod_at s k 0 (by omega)
    have a1 := cod_at s k 1 (by omega)
    have a2 := cod_at s k 2 (by omega)
    have l2 := frm_len s k 15
    by_cases b0 : codA s k 0 = 0
    · have n0 : (codA s k 0 != 0) = false := by simp [b0]
      have hfr : (k = 0 → codA s 0 1 = 0 ∧ codA s 0 2 = 0) → (F78_l19 600).L 600 (rowsI acc, rowsI ((List.range 16).map fun j => get4 s (64 * k) / 2 ^ (30 - 2 * j) % 4), s, (k : Int), s.extract (64 * k) (64 * k + 64), 1) = some (rowsI (acc ++ frm s k 15), s, (k : Int)) := fun h12 => by
        have := rfrm_loop s hs k hks h12 acc (by omega) 15 0 600 (by omega) rfl
        have e4 : frm s k 0 = [] := rfl
        rw [e4, List.append_nil] at this
        exact this
      have go : (bads s (k + 1) j = false ∧ (F78_l5 600).L f (rowsI (acc ++ frm s k 15), s, ((k + 1 : Nat) : Int)) = some (.inr (rowsI (acc ++ frm s k 15 ++ frms s (k + 1) j)))) ∨ (bads s (k + 1) j = true ∧ ∃ z, (F78_l5 600).L f (rowsI (acc ++ frm s k 15), s, ((k + 1 : Nat) : Int)) = some (.inl (z, [], false))) :=
        rdcm_loop s hs n hn hns j (k + 1) f (acc ++ frm s k 15) (by omega) (by omega) (by rw [List.length_append]; omega)
      have fin : badf s k = false → (F78_l5 600).L (f + 1) (rowsI acc, s, (k : Int)) = (F78_l5 600).L f (rowsI (acc ++ frm s k 15), s, ((k + 1 : Nat) : Int)) → ((bads s k (j + 1) = false ∧ (F78_l5 600).L (f + 1) (rowsI acc, s, (k : Int)) = some (.inr (rowsI (acc ++ frms s k (j + 1))))) ∨ (bads s k (j + 1) = true ∧ ∃ z, (F78_l5 600).L (f + 1) (rowsI acc, s, (k : Int)) = some (.inl (z, [], false)))) := fun hb hst => by
        rw [hst]
        have e5 : bads s k (j + 1) = bads s (k + 1) j := by show (badf s k || bads s (k + 1) j) = _; rw [hb]; rfl
        have e6 : acc ++ frms s k (j + 1) = acc ++ frm s k 15 ++ frms s (k + 1) j := by rw [List.append_assoc]; rfl
        rw [e5, e6]
        exact go
      by_cases k0 : k = 0
      · subst k0
        have m0 : (((0 : Nat) : Int) == 0) = true := rfl
        by_cases b1 : codA s 0 1 = 0
        · have n1 : (codA s 0 1 != 0) = false := by simp [b1]
          by_cases b2 : codA s 0 2 = 0
          · have n2 : (codA s 0 2 != 0) = false := by simp [b2]
            have hfr' := hfr (fun _ => ⟨b1, b2⟩)
            refine fin (by simp [badf, b0, b1, b2]) ?_
            show (F78_l5 600).b _ _ ((F78_l5 600).L f) some = _
            obtain ⟨Lf, hL⟩ : ∃ Lf, Lf = (F78_l5 600).L f := ⟨_, rfl⟩
            rw [← hL]
            simp only [F78_l5, t2, c1, e1, e2, e3, c2, and_self, if_true, Int.toNat_natCast, g, z0, z1, z2, t0, t1, t22, a0, a1, a2, List.getElem?_cons_zero, n0, n1, n2, m0, F78_d19, hfr']
            first | exact if_pos trivial | rfl
          · have n2 : (codA s 0 2 != 0) = true := by simp [b2]
            refine .inr ⟨by simp [bads, badf, b2], rowsI acc, ?_⟩
            show (F78_l5 600).b _ _ ((F78_l5 600).L f) some = _
            simp only [F78_l5, t2, c1, e1, e2, e3, c2, and_self, if_true, Int.toNat_natCast, g, z0, z1, z2, t0, t1, t22, a0, a1, a2, List.getElem?_cons_zero, n0, n1, n2, m0]
        · have n1 : (codA s 0 1 != 0) = true := by simp [b1]
          refine .inr ⟨by simp [bads, badf, b1], rowsI acc, ?_⟩
          show (F78_l5 600).b _ _ ((F78_l5 600).L f) some = _
          simp only [F78_l5, t2, c1, e1, e2, e3, c2, and_self, if_true, Int.toNat_natCast, g, z0, z1, z2, t0, t1, t22, a0, a1, a2, List.getElem?_cons_zero, n0, n1, m0]
      · have m0 : ((k : Int) == 0) = false := by rw [beq_eq_false_iff_ne]; omega
        have hfr' := hfr (fun h => absurd h k0)
        refine fin (by simp [badf, b0, k0]) ?_
        show (F78_l5 600).b _ _ ((F78_l5 600).L f) some = _
        obtain ⟨Lf, hL⟩ : ∃ Lf, Lf = (F78_l5 600).L f := ⟨_, rfl⟩
        rw [← hL]
        simp only [F78_l5, t2, c1, e1, e2, e3, c2, and_self, if_true, Int.toNat_natCast, g, z0, t0, a0, List.getElem?_cons_zero, n0, m0, F78_d19, hfr']
        first | exact if_pos trivial | rfl
    · have n0 : (codA s k 0 != 0) = true := by simp [b0]
      refine .inr ⟨by simp [bads, badf, b0], rowsI acc, ?_⟩
      show (F78_l5 600).b _ _ ((F78_l5 600).L f) some = _
      simp only [F78_l5, t2, c1, e1, e2, e3, c2, and_self, if_true, Int.toNat_natCast, g, z0, t0, a0, List.getElem?_cons_zero, n0]
end Go.Proofs.YtdmedeaknnldcaaGreatDoor
/- Steim, the plain law: SteimExact. -/
namespace Go.Proofs.YtdmedeaknnldcaaGreatDoor
open Go.RowKit
set_option linter.unusedVariables false
set_option linter.unusedSimpArgs false
set_option linter.unnecessarySimpa false
theorem rsum_loop {e : Int} {D : List Int} (he : Fit32 e) (hD : ∀ x ∈ D, Fit32 x) (n : Nat) (hn : n ≤ 420) (hnD : n ≤ D.length) (la : Int) : ∀ (k i f : Nat), k < f → i + k = n → 1 ≤ i →
    ((((sms e D n).drop i).all (fun x => decide (Smp x)) = true ∧ (F50_l26 600).L f (rowsI ((sms e D n).take i), rowsI D, (n : Int), sm e D (i - 1), la, (i : Int)) = some (.inr (rowsI (sms e D n), sm e D (n - 1), la))) ∨ (((sms e D n).drop i).all (fun x => decide (Smp x)) = false ∧ ∃ z1 z2, (F50_l26 600).L f (rowsI ((sms e D n).take i), rowsI D, (n : Int), sm e D (i - 1), la, (i : Int)) = some (.inl (z1, [], 2, z2, la))))
  | 0, i, f, hf, hi, h1 => by
    obtain ⟨f, rfl⟩ : ∃ f', f = f' + 1 := ⟨f - 1, by omega⟩
    obtain rfl : i = n := by omega
    refine .inl ⟨by rw [List.drop_of_length_le (by rw [sms_len]; omega)]; rfl, ?_⟩
    show (F50_l26 600).b _ _ ((F50_l26 600).L f) some = _
    have c : decide ((i : Int) < (i : Int)) = false := by rw [decide_eq_false_iff_not]; omega
    have et : (sms e D i).take i = sms e D i := List.take_of_length_le (by rw [sms_len]; omega)
    simp only [F50_l26, c, et]
  | k + 1, i, f, hf, hi, h1 => by
    obtain ⟨f, rfl⟩ : ∃ f', f = f' + 1 := ⟨f - 1, by omega⟩
    obtain ⟨j, rfl⟩ : ∃ j, i = j + 1 := ⟨i - 1, by omega⟩
    have hlt : j + 1 < n := by omega
    have hltD : j + 1 < D.length := by omega
    have hlS : j + 1 < (sms e D n).length := by rw [sms_len]; exact hlt
    have c1 : decide (((j + 1 : Nat) : Int) < (n : Int)) = true := by rw [decide_eq_true_iff]; omega
    have c0 : decide (((j + 1 : Nat) : Int) > 0) = true := by rw [decide_eq_true_iff]; omega
    have c2 : (0 : Int) ≤ ((j + 1 : Nat) : Int) := by omega
    have c4 : i64 (((j + 1 : Nat) : Int) + 1) = ((j + 1 + 1 : Nat) : Int) := by rw [i64_id (by omega)]; omega
    have b1 := sm_rng he hD (j + 1)
    have eD : D.getD (j + 1) 0 = D[j + 1] := by simp [List.getD, hltD]
    have es : sm e D (j + 1) = sm e D j + D[j + 1] := by rw [← eD]; rfl
    have e1 : i64 (sm e D j + D[j + 1]) = sm e D (j + 1) := by
      rw [← es]
      exact i64_id (by omega)
    have hb : ((rowsI ((sms e D n).take (j + 1))).length + 1) * 8 ≤ maxBytes := by rw [rowsI_len]; simp [sms_len]; unfold maxBytes; omega
    have hd : (sms e D n).drop (j + 1) = sm e D (j + 1) :: (sms e D n).drop (j + 1 + 1) := by rw [List.drop_eq_getElem_cons hlS, sms_get e D n (j + 1) hlt]
    have et : (sms e D n).take (j + 1) ++ [sm e D (j + 1)] = (sms e D n).take (j + 1 + 1) := by
      rw [List.take_succ_eq_append_getElem hlS, sms_get e D n (j + 1) hlt]
    rw [Nat.add_sub_cancel]
    by_cases h : Smp (sm e D (j + 1))
    · have st : (F50_l26 600).L (f + 1) (rowsI ((sms e D n).take (j + 1)), rowsI D, (n : Int), sm e D j, la, ((j + 1 : Nat) : Int)) = (F50_l26 600).L f (rowsI ((sms e D n).take (j + 1 + 1)), rowsI D, (n : Int), sm e D (j + 1), la, ((j + 1 + 1 : Nat) : Int)) := by
        show (F50_l26 600).b _ _ ((F50_l26 600).L f) some = _
        obtain ⟨Lf, hL⟩ : ∃ Lf, Lf = (F50_l26 600).L f := ⟨_, rfl⟩
        rw [← hL]
        simp only [F50_l26, c1, c0, c2, if_true, Int.toNat_natCast, rowsI_get D _ hltD, List.getElem?_cons_zero, e1, rsmp_any, decide_eq_true h, Bool.not_true, len1, hb, rowsI_snoc, et, c4]
        first | rfl | exact if_pos trivial
      have r := rsum_loop he hD n hn hnD la k (j + 1 + 1) f (by omega) (by omega) (by omega)
      rw [Nat.add_sub_cancel] at r
      rw [st, hd, List.all_cons, decide_eq_true h, Bool.true_and]
      exact r
    · refine .inr ⟨by rw [hd, List.all_cons, decide_eq_false h]; rfl, rowsI ((sms e D n).take (j + 1)), sm e D (j + 1), ?_⟩
      show (F50_l26 600).b _ _ ((F50_l26 600).L f) some = _
      simp only [F50_l26, c1, c0, c2, if_true, Int.toNat_natCast, rowsI_get D _ hltD, List.getElem?_cons_zero, e1, rsmp_any, decide_eq_false h, Bool.not_false]
theorem rsum_ok {e : Int} {D : List Int} (he : Fit32 e) (hD : ∀ x ∈ D, Fit32 x) (n : Nat) (hn : 1 ≤ n ∧ n ≤ 420) (hnD : n ≤ D.length) (la : Int) :
    (((sms e D n).all (fun x => decide (Smp x)) = true ∧ (F50_l26 600).L 600 ([], rowsI D, (n : Int), e, la, 0) = some (.inr (rowsI (sms e D n), sm e D (n - 1), la))) ∨ ((sms e D n).all (fun x => decide (Smp x)) = false ∧ ∃ z1 z2, (F50_l26 600).L 600 ([], rowsI D, (n : Int), e, la, 0) = some (.inl (z1, [], 2, z2, la)))) := by
  have h0 : 0 < (sms e D n).length := by rw [sms_len]; omega
  have hd : sms e D n = e :: (sms e D n).drop 1 := by
    have := List.drop_eq_getElem_cons h0
    rw [List.drop_zero, sms_get e D n 0 (by omega)] at this
    exact this
  have et : (sms e D n).take 1 = [e] := by rw [hd]; rfl
  have c1 : decide ((0 : Int) < (n : Int)) = true := by rw [decide_eq_true_iff]; omega
  have c0 : decide ((0 : Int) > 0) = false := rfl
  have c4 : i64 ((0 : Int) + 1) = ((1 : Nat) : Int) := by kernel_rfl
  have hb : (([] : List (List AV)).length + 1) * 8 ≤ maxBytes := by decide
  have e0 : ([] : List (List AV)) ++ [[AV.v (.int .i64 e)]] = rowsI [e] := rfl
  by_cases h : Smp e
  · have st : (F50_l26 600).L 600 ([], rowsI D, (n : Int), e, la, 0) = (F50_l26 600).L 599 (rowsI ((sms e D n).take 1), rowsI D, (n : Int), sm e D (1 - 1), la, ((1 : Nat) : Int)) := by
      rw [et]
      show (F50_l26 600).b _ _ ((F50_l26 600).L 599) some = _
      obtain ⟨Lf, hL⟩ : ∃ Lf, Lf = (F50_l26 600).L 599 := ⟨_, rfl⟩
      rw [← hL]
      simp only [F50_l26, c1, c0, rsmp_any, decide_eq_true h, Bool.not_true, len1, hb, if_true, e0, c4]
      first | rfl | exact if_pos trivial
    have r := rsum_loop he hD n hn.2 hnD la (n - 1) 1 599 (by omega) (by omega) (by omega)
    rw [hd, List.all_cons, decide_eq_true h, Bool.true_and, ← hd, st]
    exact r
  · refine .inr ⟨by rw [hd, List.all_cons, decide_eq_false h]; rfl, [], e, ?_⟩
    show (F50_l26 600).b _ _ ((F50_l26 600).L 599) some = _
    simp only [F50_l26, c1, c0, rsmp_any, decide_eq_false h, Bool.not_false]
theorem rdec_any (s : ByteArray) (hs : s.size ≤ 900000) (n : Int) : F50_d 600 (s, n) = some (rowsI (decR s n).1, (decR s n).2) := by
  have t1 : (s.size : Int).tmod 64 = ((s.size % 64 : Nat) : Int) := by rw [Int.tmod_eq_emod_of_nonneg (by omega)]; omega
  have t2 : i64 ((s.size : Int).tdiv 64) = ((s.size / 64 : Nat) : Int) := by rw [Int.tdiv_eq_ediv_of_nonneg (by omega), i64_id (by omega)]; omega
  unfold decR
  simp only [F50_d, FSpec.d, F50_s, rin_any 600 n, t1, t2]
  by_cases h1 : 1 ≤ n ∧ n ≤ 420
  · simp only [decide_eq_true h1, Bool.not_true, if_pos h1]
    by_cases h2 : s.size % 64 = 0
    · have c1 : (((s.size % 64 : Nat) : Int) != 0) = false := by simp [h2]
      simp only [c1]
      by_cases h3 : 1 ≤ s.size / 64 ∧ s.size / 64 ≤ 8
      · have c2 : F42_d 600 (((s.size / 64 : Nat) : Int), 1, 8) = some true := rin_yes (by omega)
        simp only [c2, Bool.not_true]
        rcases rdcm_loop s hs (s.size / 64) h3.2 rfl (s.size / 64) 0 600 [] (by omega) (by omega) (by simp) with ⟨q1, q2⟩ | ⟨q1, z, q2⟩
        · replace q2 : (F78_l5 600).L 600 (([] : List (List AV)), s, 0) = some (.inr (rowsI (frms s 0 (s.size / 64)))) := q2
          have e : dcm s = some (frms s 0 (s.size / 64)) := if_pos ⟨h2, h3.1, h3.2, q1⟩
          have f48 : F78_d 600 s = some (rowsI (frms s 0 (s.size / 64)), true) := by
            simp only [F78_d, FSpec.d, F78_s, F78_d5, q2]
          obtain ⟨D, hDe⟩ : ∃ D, D = frms s 0 (s.size / 64) := ⟨_, rfl⟩
          have hDf : ∀ x ∈ D, Fit32 x := by rw [hDe]; exact frms_fit s _ _
          have hDl : D.length ≤ 480 := by
            have := frms_len s (s.size / 64) 0
            rw [hDe]
            omega
          rw [← hDe] at e f48
          simp only [f48, e, Bool.not_true, rowsI_len]
          by_cases h4 : (D.length : Int) < n
          · simp only [h4, decide_true, if_true]; rfl
          · obtain ⟨m, rfl⟩ : ∃ m : Nat, n = (m : Int) := ⟨n.toNat, by omega⟩
            have hsz : 64 ≤ s.size := by omega
            have g4 := rget4_ok s 4 (by omega) (by omega) (by omega)
            have g8 := rget4_ok s 8 (by omega) (by omega) (by omega)
            replace g4 : F76_d 600 (s, 4, 4) = some (get4 s 4, 0) := g4
            replace g8 : F76_d 600 (s, 8, 4) = some (get4 s 8, 0) := g8
            have r4 := get4_rng s 4
            have r8 := get4_rng s 8
            have s4 := rsign32 (v := get4 s 4) ⟨r4.1, by omega⟩
            have s8 := rsign32 (v := get4 s 8) ⟨r8.1, by omega⟩
            have hEf : Fit32 (sgn32 (get4 s 4)) := sgn32_fit ⟨r4.1, by omega⟩
            simp only [h4, decide_false, if_false, g4, g8, s4, s8, Int.toNat_natCast, F50_d26]
            rcases rsum_ok hEf hDf m (by omega) (by omega) (sgn32 (get4 s 8)) with ⟨q3, q4⟩ | ⟨q3, z1, z2, q4⟩
            · simp only [q3, q4, if_true]
              by_cases h5 : sm (sgn32 (get4 s 4)) D (m - 1) = sgn32 (get4 s 8)
              · have b : (sm (sgn32 (get4 s 4)) D (m - 1) != sgn32 (get4 s 8)) = false := by simp [h5]
                simp only [b, if_pos h5]
              · have b : (sm (sgn32 (get4 s 4)) D (m - 1) != sgn32 (get4 s 8)) = true := by simp [h5]
                simp only [b, if_neg h5]
                rfl
            · simp only [q3, q4, Bool.false_eq_true, if_false]; rfl
        · replace q2 : (F78_l5 600).L 600 (([] : List (List AV)), s, 0) = some (.inl (z, [], false)) := q2
          have e : dcm s = none := if_neg (fun h => by rw [q1] at h; exact absurd h.2.2.2 (by simp))
          have f48 : F78_d 600 s = some ([], false) := by
            simp only [F78_d, FSpec.d, F78_s, F78_d5, q2]
          simp only [f48, e, Bool.not_false]; rfl
      · have c2 : F42_d 600 (((s.size / 64 : Nat) : Int), 1, 8) = some false := rin_no (by omega)
        have e : dcm s = none := if_neg (fun h => h3 ⟨h.2.1, h.2.2.1⟩)
        simp only [c2, Bool.not_false, e]; rfl
    · have c1 : (((s.size % 64 : Nat) : Int) != 0) = true := by rw [bne_iff_ne]; omega
      have e : dcm s = none := if_neg (fun h => h2 h.1)
      simp only [c1, e]; rfl
  · simp only [decide_eq_false h1, Bool.not_false, if_neg h1]
    rfl
/-! Encode of any samples. -/
theorem enc_any (X : List Int) (hl : X.length ≤ 430) : ∃ (u : ByteArray) (e : Int), F34_d 600 (rowsI X) = some (u, e) ∧ F27_d 600 (rowsI X) = some (u, e) ∧ (u.size = 0 ∨ (64 ≤ u.size ∧ u.size ≤ 512)) := by
  by_cases h0 : X = []
  · subst h0
    exact ⟨⟨#[]⟩, 1, rfl, rfl, .inl rfl⟩
  · have hp : 0 < X.length := List.length_pos_iff.2 h0
    have c : ((X.length : Int) == 0) = false := by rw [beq_eq_false_iff_ne]; omega
    have hw := (wX_len X).1
    have hwp := wX_pos h0
    by_cases hX : ∀ x ∈ X, Smp x
    · by_cases hn : nfr (wX X).length ≤ 8
      · refine ⟨_, 0, enc_ok X (by omega) h0 hX hn, renc_ok X (by omega) h0 hX hn, .inr ?_⟩
        rw [FS_size]
        have : 1 ≤ nfr (wX X).length := by unfold nfr; omega
        omega
      · have hall := (all_iff X).2 hX
        have f1 := rFrames_ok X (by omega)
        have e0 : frI (wX X).length = (nfr (wX X).length : Int) := if_neg (by omega)
        rw [hall, e0] at f1
        simp only [if_true] at f1
        have c2 : decide (((nfr (wX X).length : Nat) : Int) > 8) = true := by rw [decide_eq_true_iff]; omega
        refine ⟨⟨#[]⟩, 8, ?_, ?_, .inl rfl⟩
        · simp only [F34_d, FSpec.d, F34_s, rowsI_len, c, comp_ok X (by omega) h0 hX, Bool.not_true, frames_ok X (by omega) h0 hX, c2]
        · simp only [F27_d, FSpec.d, F27_s, rowsI_len, c, rall_any X (by omega), hall, Bool.not_true, f1, c2]
    · have hall : (X.all fun x => decide (Smp x)) = false := by
        cases hq : (X.all fun x => decide (Smp x)) with
        | false => rfl
        | true => exact absurd ((all_iff X).1 hq) hX
      refine ⟨⟨#[]⟩, 2, ?_, ?_, .inl rfl⟩
      · simp only [F34_d, FSpec.d, F34_s, rowsI_len, c, comp_bad X (by omega) hX, Bool.not_false]
      · simp only [F27_d, FSpec.d, F27_s, rowsI_len, c, rall_any X (by omega), hall, Bool.not_false]
theorem decR_len (s : ByteArray) (n : Int) : (decR s n).1.length ≤ 420 := by
  unfold decR
  split
  · rename_i h
    split
    · simp
    · split
      · simp
      · split
        · split
          · rw [sms_len]; omega
          · simp
        · simp
  · simp
/-! Damage. -/
/-! The loops of the law. -/
def rowsS (l : List ByteArray) : List (List AV) := l.map fun s => [AV.v (.string s)]
theorem rowsS_get (l : List ByteArray) (k : Nat) (h : k < l.length) : (rowsS l)[k]? = some [AV.v (.string l[k])] := by simp [rowsS, h]
def outI (O : List (List Int)) : List (List AV) := O.map fun A => [AV.list 1 (rowsI A) none]
end Go.Proofs.YtdmedeaknnldcaaGreatDoor
/- Packets: the dice's sources, rates, packets. -/
namespace Go.Proofs.YtdmedeaknnldcaaGreatDoor
open Go.RowKit
set_option linter.unusedVariables false
set_option linter.unusedSimpArgs false
set_option linter.unnecessarySimpa false
/-- A source, its text, and back. -/
structure SrcOk (a b c d : ByteArray) : Prop where
  v : F37_d 600 (a, b, c, d) = some true
  n : 8 ≤ (joined [a, b, c, d]).size ∧ (joined [a, b, c, d]).size ≤ 15
  q : F73_d 600 (joined [a, b, c, d]) = some (a, b, c, d, 0)
def srcA : List ByteArray := [⟨#[71, 82]⟩, ⟨#[88]⟩, ⟨#[55, 65]⟩]
def srcB : List ByteArray := [⟨#[70, 85, 82]⟩, ⟨#[65]⟩, ⟨#[65, 66, 67, 68, 69]⟩, ⟨#[70, 85]⟩]
def srcC : List ByteArray := [⟨#[]⟩, ⟨#[48, 48]⟩, ⟨#[49, 48]⟩]
def srcD : List ByteArray := [⟨#[72, 72, 90]⟩, ⟨#[72, 72, 78]⟩, ⟨#[66, 72, 90]⟩]
set_option maxHeartbeats 4000000 in
theorem src_all (a b c d : ByteArray) (ha : a ∈ srcA) (hb : b ∈ srcB) (hc : c ∈ srcC) (hd : d ∈ srcD) : SrcOk a b c d := by
  simp only [srcA, srcB, srcC, srcD, List.mem_cons, List.not_mem_nil, or_false] at ha hb hc hd
  rcases ha with rfl | rfl | rfl <;> rcases hb with rfl | rfl | rfl | rfl <;> rcases hc with rfl | rfl | rfl <;> rcases hd with rfl | rfl | rfl <;> exact ⟨by kernel_rfl, of_decide_eq_true (by kernel_rfl), by kernel_rfl⟩
theorem pickS (O : List ByteArray) {v : Int} (h : 0 ≤ v ∧ v < (O.length : Int)) : ∃ s ∈ O, (O.map fun s => [AV.v (.string s)])[v.toNat]? = some [AV.v (.string s)] := by
  have h1 : v.toNat < O.length := by omega
  exact ⟨O[v.toNat], List.getElem_mem h1, by simp [h1]⟩
theorem source_ok {xs : List Int} {p : Int} (D : Dice xs p) : ∃ (a b c d : ByteArray) (p' : Int), F29_d 600 (rowsI xs, p) = some (a, b, c, d, rowsI xs, p') ∧ SrcOk a b c d ∧ Dice xs p' := by
  obtain ⟨v1, p1, g1, r1, D1⟩ := next_ok 600 (n := 3) (by omega) D
  obtain ⟨v2, p2, g2, r2, D2⟩ := next_ok 600 (n := 4) (by omega) D1
  obtain ⟨v3, p3, g3, r3, D3⟩ := next_ok 600 (n := 3) (by omega) D2
  obtain ⟨v4, p4, g4, r4, D4⟩ := next_ok 600 (n := 3) (by omega) D3
  obtain ⟨a, ha, ea⟩ := pickS srcA (v := v1) r1
  obtain ⟨b, hb, eb⟩ := pickS srcB (v := v2) r2
  obtain ⟨c, hc, ec⟩ := pickS srcC (v := v3) r3
  obtain ⟨d, hd, ed⟩ := pickS srcD (v := v4) r4
  simp only [srcA, srcB, srcC, srcD, List.map_cons, List.map_nil] at ea eb ec ed
  refine ⟨a, b, c, d, p4, ?_, src_all a b c d ha hb hc hd, D4⟩
  simp only [F29_d, FSpec.d, F29_s, g1, g2, g3, g4, r1.1, r2.1, r3.1, r4.1, if_true, ea, eb, ec, ed, List.getElem?_cons_zero]
/-- A rate in lowest terms. -/
structure RateOk (n d : Int) : Prop where
  v : F38_d 600 (n, d) = some true
  n : 1 ≤ n ∧ n ≤ 4096
  d : 1 ≤ d ∧ d ≤ 4096
def ratN : List Int := [1, 3, 20, 100, 40, 4096, 7]
def ratD : List Int := [1, 1, 1, 3, 7, 4096]
theorem rate_all (n d : Int) (hn : n ∈ ratN) (hd : d ∈ ratD) : F57_d 600 (n, d) = some (n / (Int.gcd n d : Int), d / (Int.gcd n d : Int), 0) ∧ RateOk (n / (Int.gcd n d : Int)) (d / (Int.gcd n d : Int)) := by
  simp only [ratN, ratD, List.mem_cons, List.not_mem_nil, or_false] at hn hd
  rcases hn with rfl | rfl | rfl | rfl | rfl | rfl | rfl <;> rcases hd with rfl | rfl | rfl | rfl | rfl | rfl <;> exact ⟨by kernel_rfl, by kernel_rfl, of_decide_eq_true (by kernel_rfl), of_decide_eq_true (by kernel_rfl)⟩
theorem rate_ok {xs : List Int} {p : Int} (D : Dice xs p) : ∃ (n d p' : Int), F31_d 600 (rowsI xs, p) = some (n, d, rowsI xs, p') ∧ RateOk n d ∧ Dice xs p' := by
  obtain ⟨v1, p1, g1, m1, D1⟩ := pick_ok 600 ratN (by simp [ratN]) D
  obtain ⟨v2, p2, g2, m2, D2⟩ := pick_ok 600 ratD (by simp [ratD]) D1
  obtain ⟨h1, h2⟩ := rate_all v1 v2 m1 m2
  simp only [ratN, ratD, rowsI, List.map_cons, List.map_nil] at g1 g2
  refine ⟨_, _, p2, ?_, h2, D2⟩
  simp only [F31_d, FSpec.d, F31_s, rowsI, g1, g2, h1]
/-- A valid packet. -/
structure PV (a b c d : ByteArray) (run seq start num den clk err : Int) (X : List Int) : Prop where
  src : SrcOk a b c d
  rate : RateOk num den
  run : 0 ≤ run ∧ run ≤ 65535
  seq : 0 ≤ seq ∧ seq ≤ 1073741824
  start : 0 ≤ start ∧ start ≤ 9007199254740992
  clk : 0 ≤ clk ∧ clk ≤ 2
  err : 0 ≤ err ∧ err ≤ 1099511627776
  len : 1 ≤ X.length ∧ X.length ≤ 104
  smp : ∀ x ∈ X, Smp x
theorem packet_ok {xs : List Int} {p : Int} (D : Dice xs p) : ∃ (a b c d : ByteArray) (run seq start num den clk err : Int) (X : List Int) (p' : Int), F10_d 600 (rowsI xs, p) = some (a, b, c, d, run, seq, start, num, den, clk, err, rowsI X, rowsI xs, p') ∧ PV a b c d run seq start num den clk err X ∧ Dice xs p' := by
  obtain ⟨a, b, c, d, p1, g1, S1, D1⟩ := source_ok D
  obtain ⟨v2, p2, g2, m2, D2⟩ := pick_ok 600 [0, 1, 65535] (by simp) D1
  obtain ⟨v3, p3, g3, m3, D3⟩ := pick_ok 600 [0, 7, 1073741824] (by simp) D2
  obtain ⟨v4, p4, g4, m4, D4⟩ := pick_ok 600 [0, 1000000000000, 9007199254740992] (by simp) D3
  obtain ⟨n5, d5, p5, g5, R5, D5⟩ := rate_ok D4
  obtain ⟨v6, p6, g6, r6, D6⟩ := next_ok 600 (n := 3) (by omega) D5
  obtain ⟨v7, p7, g7, m7, D7⟩ := pick_ok 600 [0, 50, 1099511627776] (by simp) D6
  obtain ⟨X, p8, g8, r8, s8, D8⟩ := samples_ok (n := 24) (by omega) D7
  replace g2 : F30_d 600 ([[(AV.v (.int .i64 0))], [(AV.v (.int .i64 1))], [(AV.v (.int .i64 65535))]], rowsI xs, p1) = _ := g2
  replace g3 : F30_d 600 ([[(AV.v (.int .i64 0))], [(AV.v (.int .i64 7))], [(AV.v (.int .i64 1073741824))]], rowsI xs, p2) = _ := g3
  replace g4 : F30_d 600 ([[(AV.v (.int .i64 0))], [(AV.v (.int .i64 1000000000000))], [(AV.v (.int .i64 9007199254740992))]], rowsI xs, p3) = _ := g4
  replace g7 : F30_d 600 ([[(AV.v (.int .i64 0))], [(AV.v (.int .i64 50))], [(AV.v (.int .i64 1099511627776))]], rowsI xs, p6) = _ := g7
  simp only [List.mem_cons, List.not_mem_nil, or_false] at m2 m3 m4 m7
  refine ⟨a, b, c, d, v2, v3, v4, n5, d5, v6, v7, X, p8, ?_, ⟨S1, R5, by omega, by omega, by omega, by omega, by omega, by omega, s8⟩, D8⟩
  simp only [F10_d, FSpec.d, F10_s, g1, g2, g3, g4, g5, g6, g7, g8]
theorem sane_ok : F6_d 600 () = some true := by kernel_rfl
end Go.Proofs.YtdmedeaknnldcaaGreatDoor
/- Packets: Valid, Encode. -/
namespace Go.Proofs.YtdmedeaknnldcaaGreatDoor
open Go.RowKit
set_option linter.unusedVariables false
set_option linter.unusedSimpArgs false
set_option linter.unnecessarySimpa false
theorem pin_any (N : Nat) (x lo hi : Int) : F39_d N (x, lo, hi) = some (decide (lo ≤ x ∧ x ≤ hi)) := in_any N x lo hi
theorem pin_yes {x lo hi : Int} (h : lo ≤ x ∧ x ≤ hi) : F39_d 600 (x, lo, hi) = some true := by rw [pin_any, decide_eq_true h]
theorem pin_no {x lo hi : Int} (h : ¬ (lo ≤ x ∧ x ≤ hi)) : F39_d 600 (x, lo, hi) = some false := by rw [pin_any, decide_eq_false h]
def nf (X : List Int) : Nat := nfr (wX X).length
def dat (X : List Int) : ByteArray := FS (nf X) (lX X)
theorem PV.nf {a b c d : ByteArray} {run seq start num den clk err : Int} {X : List Int} (P : PV a b c d run seq start num den clk err X) : 1 ≤ nf X ∧ nf X ≤ 8 := by
  have hw := (wX_len X).1
  have h := nfr_rng (wX X).length (by have := P.len; omega)
  exact ⟨h.1, h.2.1⟩
theorem PV.enc {a b c d : ByteArray} {run seq start num den clk err : Int} {X : List Int} (P : PV a b c d run seq start num den clk err X) : F34_d 600 (rowsI X) = some (dat X, 0) := (back X P.smp P.len 1 ⟨Nat.le_refl _, P.len.1⟩).1
theorem valid_ok {a b c d : ByteArray} {run seq start num den clk err : Int} {X : List Int} (P : PV a b c d run seq start num den clk err X) : F16_d 600 (a, b, c, d, run, seq, start, num, den, clk, err, rowsI X) = some true := by
  have h := P.len
  have c1 : decide (((rowsI X).length : Int) > 420) = false := by rw [rowsI_len, decide_eq_false_iff_not]; omega
  have z : ((0 : Int) == 0) = true := rfl
  simp only [F16_d, FSpec.d, F16_s, P.src.v, P.rate.v, pin_yes P.run, pin_yes P.seq, pin_yes P.start, pin_yes P.clk, pin_yes P.err, Bool.not_true, c1, P.enc, z]
/-- The fields of the header. -/
def flds (nm : Nat) (run seq start num den clk err : Int) (X : List Int) : List (Int × Int) :=
  [(clk, 1), (run, 2), (seq, 4), (start, 7), (num, 2), (den, 2), (err, 6), ((X.length : Int), 2), ((nm : Int), 1), ((nf X : Int), 1)]
def FOk (q : Int × Int) : Prop := (1 ≤ q.2 ∧ q.2 ≤ 7) ∧ 0 ≤ q.1 ∧ q.1 < 2 ^ (8 * q.2.toNat)
def fbs (L : List (Int × Int)) : List Int := L.flatMap fun q => beP q.2.toNat q.1
theorem fbs_cons (q : Int × Int) (L : List (Int × Int)) : fbs (q :: L) = beP q.2.toNat q.1 ++ fbs L := rfl
theorem rowsW_get (L : List (Int × Int)) (i : Nat) (h : i < L.length) : (rowsW L)[i]? = some [AV.v (.int .i64 (L[i]).1), AV.v (.int .i64 (L[i]).2)] := by simp [rowsW, h]
theorem fld_loop (L : List (Int × Int)) (hL : ∀ q ∈ L, FOk q) (hl : L.length ≤ 100) (nm dt : ByteArray) : ∀ (k i f : Nat) (out : ByteArray), k < f → i + k = L.length → out.size + 7 * k ≤ 800000 →
    (F13_l11 600).L f (rowsW L, nm, dt, out, (L.length : Int), (i : Int)) = some (nm, dt, out ++ strOfNums (fbs (L.drop i)))
  | 0, i, f, out, hf, hi, ho => by
    obtain ⟨f, rfl⟩ : ∃ f', f = f' + 1 := ⟨f - 1, by omega⟩
    show (F13_l11 600).b _ _ ((F13_l11 600).L f) some = _
    have c : decide ((i : Int) < (L.length : Int)) = false := by rw [decide_eq_false_iff_not]; omega
    have e : L.drop i = [] := List.drop_eq_nil_of_le (by omega)
    have e2 : out ++ strOfNums (fbs []) = out := by
      apply ByteArray.ext
      show (out ++ strOfNums []).data = _
      simp [strOfNums]
    simp only [F13_l11, c, e, e2]
  | k + 1, i, f, out, hf, hi, ho => by
    obtain ⟨f, rfl⟩ : ∃ f', f = f' + 1 := ⟨f - 1, by omega⟩
    have hlt : i < L.length := by omega
    obtain ⟨h1, h2, h3⟩ := hL _ (List.getElem_mem hlt)
    have ew : (((L[i]).2.toNat : Nat) : Int) = (L[i]).2 := Int.toNat_of_nonneg (by omega)
    have pu := put_ok out (by omega) (n := (L[i]).1) (L[i]).2.toNat (by omega) ⟨h2, h3⟩
    rw [ew] at pu
    have hsz : (out ++ strOfNums (beP (L[i]).2.toNat (L[i]).1)).size + 7 * k ≤ 800000 := by
      rw [ByteArray.size_append, strOf_size, beP_len]; omega
    have r1 := fld_loop L hL hl nm dt k (i + 1) f _ (by omega) (by omega) hsz
    have ed : L.drop i = L[i] :: L.drop (i + 1) := List.drop_eq_getElem_cons hlt
    have ea : out ++ strOfNums (beP (L[i]).2.toNat (L[i]).1) ++ strOfNums (fbs (L.drop (i + 1))) = out ++ strOfNums (fbs (L.drop i)) := by
      rw [ed, fbs_cons, strOf_app]
      exact ByteArray.append_assoc
    rw [ea] at r1
    have c1 : decide ((i : Int) < (L.length : Int)) = true := by rw [decide_eq_true_iff]; omega
    have c2 : (0 : Int) ≤ (i : Int) := by omega
    have c4 : i64 ((i : Int) + 1) = ((i + 1 : Nat) : Int) := by rw [i64_id (by omega)]; omega
    show (F13_l11 600).b _ _ ((F13_l11 600).L f) some = _
    obtain ⟨Lf, hL2⟩ : ∃ Lf, Lf = (F13_l11 600).L f := ⟨_, rfl⟩
    rw [← hL2] at r1 ⊢
    simp only [F13_l11, c1, c2, if_true, Int.toNat_natCast, rowsW_get L i hlt, List.getElem?_cons_zero, List.getElem?_cons_succ, pu, c4]
    exact r1
/-- What stands ahead of the checksum. -/
def bdy (a b c d : ByteArray) (run seq start num den clk err : Int) (X : List Int) : ByteArray :=
  ((⟨#[83, 78, 1]⟩ : ByteArray) ++ strOfNums (fbs (flds (joined [a, b, c, d]).size run seq start num den clk err X))) ++ joined [a, b, c, d] ++ dat X
def enc (a b c d : ByteArray) (run seq start num den clk err : Int) (X : List Int) : ByteArray := appended (bdy a b c d run seq start num den clk err X)
theorem flds_ok {nm : Nat} {run seq start num den clk err : Int} {X : List Int} (hn : nm ≤ 255) (h1 : 0 ≤ run ∧ run ≤ 65535) (h2 : 0 ≤ seq ∧ seq ≤ 1073741824) (h3 : 0 ≤ start ∧ start ≤ 9007199254740992) (h4 : 1 ≤ num ∧ num ≤ 4096) (h5 : 1 ≤ den ∧ den ≤ 4096) (h6 : 0 ≤ clk ∧ clk ≤ 2) (h7 : 0 ≤ err ∧ err ≤ 1099511627776) (h8 : X.length ≤ 430) (h9 : nf X ≤ 8) : ∀ q ∈ flds nm run seq start num den clk err X, FOk q := by
  have p1 : (2 : Int) ^ (8 * (1 : Int).toNat) = 256 := by decide
  have p2 : (2 : Int) ^ (8 * (2 : Int).toNat) = 65536 := by decide
  have p4 : (2 : Int) ^ (8 * (4 : Int).toNat) = 4294967296 := by decide
  have p6 : (2 : Int) ^ (8 * (6 : Int).toNat) = 281474976710656 := by decide
  have p7 : (2 : Int) ^ (8 * (7 : Int).toNat) = 72057594037927936 := by decide
  intro q hq
  simp only [flds, List.mem_cons, List.not_mem_nil, or_false] at hq
  rcases hq with rfl | rfl | rfl | rfl | rfl | rfl | rfl | rfl | rfl | rfl <;> refine ⟨by omega, ?_⟩ <;> simp only [p1, p2, p4, p6, p7] <;> omega
theorem fbs_len : ∀ (L : List (Int × Int)), (fbs L).length = (L.map fun q => q.2.toNat).sum
  | [] => rfl
  | q :: L => by rw [fbs_cons, List.length_append, beP_len, fbs_len L, List.map_cons, List.sum_cons]
theorem bdy_size (a b c d : ByteArray) (run seq start num den clk err : Int) (X : List Int) : (bdy a b c d run seq start num den clk err X).size = 31 + (joined [a, b, c, d]).size + 64 * nf X := by
  unfold bdy dat
  rw [ByteArray.size_append, ByteArray.size_append, ByteArray.size_append, strOf_size, fbs_len, FS_size]
  show 3 + 28 + _ + _ = _
  omega
theorem enc_size (a b c d : ByteArray) (run seq start num den clk err : Int) (X : List Int) : (enc a b c d run seq start num den clk err X).size = 31 + (joined [a, b, c, d]).size + 64 * nf X + 4 := by
  unfold enc
  rw [appended_size, bdy_size]
theorem format_ok {a b c d : ByteArray} (S : SrcOk a b c d) : F33_d 600 (a, b, c, d) = some (joined [a, b, c, d], 0) := by
  have h := S.n
  have e : (joined [(a, b, c, d).1, (a, b, c, d).2.1, (a, b, c, d).2.2.1, (a, b, c, d).2.2.2]).size ≤ 140737488355328 := by show (joined [a, b, c, d]).size ≤ _; omega
  simp only [F33_d, FSpec.d, F33_s, S.v]
  exact if_pos e
theorem enc_ok' {a b c d : ByteArray} {run seq start num den clk err : Int} {X : List Int} (P : PV a b c d run seq start num den clk err X) : F13_d 600 (a, b, c, d, run, seq, start, num, den, clk, err, rowsI X) = some (enc a b c d run seq start num den clk err X, 0) := by
  have hn := P.src.n
  have hl := P.len
  have hf := P.nf
  have bs := bdy_size a b c d run seq start num den clk err X
  obtain ⟨nm, hnm⟩ : ∃ nm, nm = joined [a, b, c, d] := ⟨_, rfl⟩
  obtain ⟨dt, hdt⟩ : ∃ dt, dt = dat X := ⟨_, rfl⟩
  have hds : dt.size = 64 * nf X := by rw [hdt]; exact FS_size _ _
  have v := valid_ok P
  have f := format_ok P.src
  have e := P.enc
  rw [← hnm] at f hn bs
  rw [← hdt] at e
  have ok := flds_ok (nm := nm.size) (run := run) (seq := seq) (start := start) (num := num) (den := den) (clk := clk) (err := err) (X := X) (by omega) P.run P.seq P.start P.rate.n P.rate.d P.clk P.err (by omega) hf.2
  have r := fld_loop _ ok (by show 10 ≤ 100; omega) nm dt 10 0 600 ⟨#[83, 78, 1]⟩ (by omega) rfl (by show 3 + 7 * 10 ≤ 800000; omega)
  have e64 : i64 ((dt.size : Int).tdiv 64) = (nf X : Int) := by
    rw [hds, show ((64 * nf X : Nat) : Int) = 64 * (nf X : Int) by omega, Int.mul_tdiv_cancel_left _ (by omega)]
    exact i64_id (by omega)
  have rl : (((rowsI X).length : Nat) : Int) = (X.length : Int) := by rw [rowsI_len]
  replace r : (F13_l11 600).L 600 ([[AV.v (.int .i64 clk), AV.v (.int .i64 1)], [AV.v (.int .i64 run), AV.v (.int .i64 2)], [AV.v (.int .i64 seq), AV.v (.int .i64 4)], [AV.v (.int .i64 start), AV.v (.int .i64 7)], [AV.v (.int .i64 num), AV.v (.int .i64 2)], [AV.v (.int .i64 den), AV.v (.int .i64 2)], [AV.v (.int .i64 err), AV.v (.int .i64 6)], [AV.v (.int .i64 (X.length : Int)), AV.v (.int .i64 2)], [AV.v (.int .i64 (nm.size : Int)), AV.v (.int .i64 1)], [AV.v (.int .i64 (nf X : Int)), AV.v (.int .i64 1)]], nm, dt, ⟨#[83, 78, 1]⟩, 10, 0) = some (nm, dt, ⟨#[83, 78, 1]⟩ ++ strOfNums (fbs (flds nm.size run seq start num den clk err X))) := r
  obtain ⟨hd, hhd⟩ : ∃ hd, hd = (⟨#[83, 78, 1]⟩ : ByteArray) ++ strOfNums (fbs (flds nm.size run seq start num den clk err X)) := ⟨_, rfl⟩
  rw [← hhd] at r
  have hb : bdy a b c d run seq start num den clk err X = hd ++ nm ++ dt := by rw [hhd, hnm, hdt]; rfl
  have hhs : hd.size = 31 := by
    rw [hhd, ByteArray.size_append, strOf_size, fbs_len]; rfl
  have b1 : hd.size + nm.size ≤ 9223372036854775807 := by omega
  have b2 : (hd ++ nm).size + dt.size ≤ 9223372036854775807 := by rw [ByteArray.size_append]; omega
  have l10 : (([[AV.v (.int .i64 clk), AV.v (.int .i64 1)], [AV.v (.int .i64 run), AV.v (.int .i64 2)], [AV.v (.int .i64 seq), AV.v (.int .i64 4)], [AV.v (.int .i64 start), AV.v (.int .i64 7)], [AV.v (.int .i64 num), AV.v (.int .i64 2)], [AV.v (.int .i64 den), AV.v (.int .i64 2)], [AV.v (.int .i64 err), AV.v (.int .i64 6)], [AV.v (.int .i64 (X.length : Int)), AV.v (.int .i64 2)], [AV.v (.int .i64 (nm.size : Int)), AV.v (.int .i64 1)], [AV.v (.int .i64 (nf X : Int)), AV.v (.int .i64 1)]].length : Nat) : Int) = 10 := rfl
  have cr : F36_d 600 (hd ++ nm ++ dt) = some (appended (hd ++ nm ++ dt)) := by
    have : (hd ++ nm ++ dt).size + 4 ≤ maxLen := by rw [ByteArray.size_append, ByteArray.size_append]; unfold maxLen; omega
    exact if_pos this
  simp only [F13_d, FSpec.d, F13_s, v, Bool.not_true, f, e, rl, e64, l10, F13_d11, r, b1, b2, if_true, cr]
  show some (appended (hd ++ nm ++ dt), (0 : Int)) = _
  unfold enc
  rw [hb]
end Go.Proofs.YtdmedeaknnldcaaGreatDoor
/- Packets: what is read of an encoding. -/
namespace Go.Proofs.YtdmedeaknnldcaaGreatDoor
open Go.RowKit
set_option linter.unusedVariables false
set_option linter.unusedSimpArgs false
set_option linter.unnecessarySimpa false
theorem number_ok (s : ByteArray) (m w : Nat) (hw : 1 ≤ w ∧ w ≤ 7) (h : m + w ≤ s.size) (hs : s.size ≤ 1000) : F72_d 600 ((w : Int), s, (m : Int)) = some (gw (nums s) m w, s, ((m + w : Nat) : Int)) := by
  have g := get_ok s m w (by omega) hw h (by omega)
  have e : i64 ((m : Int) + (w : Int)) = ((m + w : Nat) : Int) := by rw [i64_id (by omega)]; omega
  simp only [F72_d, FSpec.d, F72_s, g, e]
theorem text_ok (s : ByteArray) (m w : Nat) (h : m + w ≤ s.size) (hs : s.size ≤ 1000) : F74_d 600 ((w : Int), s, (m : Int)) = some (s.extract m (m + w), s, ((m + w : Nat) : Int)) := by
  have e : i64 ((m : Int) + (w : Int)) = ((m + w : Nat) : Int) := by rw [i64_id (by omega)]; omega
  have e2 : i64 (((m + w : Nat) : Int) - (w : Int)) = (m : Int) := by rw [i64_id (by omega)]; omega
  have c : (0 : Int) ≤ (m : Int) ∧ (m : Int) ≤ ((m + w : Nat) : Int) ∧ ((m + w : Nat) : Int) ≤ s.size := by omega
  simp only [F74_d, FSpec.d, F74_s, e, e2, c, and_self, if_true, Int.toNat_natCast]
/-- An encoding's bytes. -/
structure EncN (s : ByteArray) (a b c d : ByteArray) (run seq start num den clk err : Int) (X : List Int) : Prop where
  sz : s.size = 31 + (joined [a, b, c, d]).size + 64 * nf X + 4
  mag : s.extract 0 3 = ⟨#[83, 78, 1]⟩
  g1 : gw (nums s) 3 1 = clk
  g2 : gw (nums s) 4 2 = run
  g3 : gw (nums s) 6 4 = seq
  g4 : gw (nums s) 10 7 = start
  g5 : gw (nums s) 17 2 = num
  g6 : gw (nums s) 19 2 = den
  g7 : gw (nums s) 21 6 = err
  g8 : gw (nums s) 27 2 = (X.length : Int)
  g9 : gw (nums s) 29 1 = ((joined [a, b, c, d]).size : Int)
  g10 : gw (nums s) 30 1 = (nf X : Int)
  name : s.extract 31 (31 + (joined [a, b, c, d]).size) = joined [a, b, c, d]
  data : s.extract (31 + (joined [a, b, c, d]).size) (31 + (joined [a, b, c, d]).size + 64 * nf X) = dat X
theorem byteN {s : ByteArray} {m : Nat} {v : Nat} (h : gw (nums s) m 1 = (v : Int)) (hm : m < s.size) : ∃ u : UInt8, s[m]? = some u ∧ (u.toNat : Int) = (v : Int) := by
  obtain ⟨u, h1, h2⟩ := byte_get s m hm
  refine ⟨u, h1, ?_⟩
  rw [h2, ← h]
  show _ = 0 * 256 + (nums s).getD (m + 0) 0
  rw [Nat.add_zero]
  omega
end Go.Proofs.YtdmedeaknnldcaaGreatDoor
