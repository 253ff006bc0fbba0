/- Several texts as one (written by merge.py): StI PkB PkC PkD PkE PkF. -/
import Derived.Test.YtdmedeaknnldcaaDoorPyA
import Derived.Test.YtdmedeaknnldcaaDoorPkU
import Derived.Test.YtdmedeaknnldcaaDoorPkCrc
import Derived.Test.YtdmedeaknnldcaaDoorPkV
/- Steim, the plain law: the dice, samples, lists compared; the law SteimBack. -/
namespace Go.Proofs.YtdmedeaknnldcaaDoor
open Go.RowKit
set_option linter.unusedVariables false
set_option linter.unusedSimpArgs false
set_option linter.unnecessarySimpa false
structure Dice (xs : List Int) (p : Int) : Prop where
  b : ∀ x ∈ xs, -9223372036854775808 ≤ x ∧ x ≤ 9223372036854775807
  l : xs.length ≤ 500
  p0 : 0 ≤ p
  p1 : p ≤ 500
theorem next_ok (N : Nat) {n : Int} {xs : List Int} {p : Int} (hn : 1 ≤ n ∧ n ≤ 1000000) (D : Dice xs p) : ∃ v p', F15_d N (n, rowsI xs, p) = some (v, rowsI xs, p') ∧ (0 ≤ v ∧ v < n) ∧ Dice xs p' := by
  obtain ⟨b, l, p0, p1⟩ := D
  simp only [F15_d, FSpec.d, F15_s]
  by_cases h : p ≥ ((rowsI xs).length : Int)
  · simp only [h, decide_true]
    exact ⟨0, p, rfl, by omega, ⟨b, l, p0, p1⟩⟩
  · have h1 : ¬ n < 1 := by omega
    have h2 : p.toNat < xs.length := by rw [rowsI_len] at h; omega
    have h3 : ¬ n = 0 := by omega
    simp only [h, decide_false, h1, p0, if_true, rowsI_get xs _ h2, List.getElem?_cons_zero, h3, if_false]
    have hb := b _ (List.getElem_mem h2)
    have hp : i64 (p + 1) = p + 1 := i64_id (by omega)
    by_cases hneg : (xs[p.toNat]).tmod n < 0
    · simp only [hneg, decide_true, hp]
      have t1 : -n < (xs[p.toNat]).tmod n := by
        have := Int.tmod_lt_of_pos (-xs[p.toNat]) (show 0 < n by omega)
        rw [Int.neg_tmod] at this
        omega
      rw [i64_id (by omega)]
      exact ⟨_, _, rfl, by omega, ⟨b, l, by omega, by rw [rowsI_len] at h; omega⟩⟩
    · simp only [hneg, decide_false, hp]
      have t1 := Int.tmod_lt_of_pos xs[p.toNat] (show 0 < n by omega)
      exact ⟨_, _, rfl, by omega, ⟨b, l, by omega, by rw [rowsI_len] at h; omega⟩⟩
theorem pick_ok (N : Nat) (O : List Int) {xs : List Int} {p : Int} (hO : 1 ≤ O.length ∧ O.length ≤ 1000) (D : Dice xs p) : ∃ v p', F19_d N (rowsI O, rowsI xs, p) = some (v, rowsI xs, p') ∧ v ∈ O ∧ Dice xs p' := by
  simp only [F19_d, FSpec.d, F19_s]
  obtain ⟨v, p', h1, h2, h3⟩ := next_ok N (n := (O.length : Int)) (by omega) D
  rw [rowsI_len, h1]
  have h4 : v.toNat < O.length := by omega
  simp only [h2.1, if_true, rowsI_get O _ h4, List.getElem?_cons_zero]
  exact ⟨_, _, rfl, List.getElem_mem h4, h3⟩

theorem light_ok (N : Nat) (xs : List Int) : F6_d N (rowsI xs) = some (decide ((xs.length : Int) ≤ 500)) := by
  simp only [F6_d, FSpec.d, F6_s, rowsI_len]
def clm (x : Int) : Int := if 1073741823 < (if -1073741823 > x then -1073741823 else x) then 1073741823 else (if -1073741823 > x then -1073741823 else x)
theorem clm_smp (x : Int) : Smp (clm x) := by
  unfold clm Smp
  split <;> split <;> omega
theorem smp_loop {xs : List Int} : ∀ (k f : Nat) (p v : Int) (acc : List Int), k < f → acc.length + k ≤ 400 → Dice xs p → Smp v → (∀ x ∈ acc, Smp x) →
    ∃ (X : List Int) (p' : Int), (F21_l6 600).L f (rowsI acc, v, (k : Int), rowsI xs, p) = some (rowsI X, rowsI xs, p') ∧ X.length = acc.length + k ∧ (∀ x ∈ X, Smp x) ∧ Dice xs p'
  | 0, f, p, v, acc, hf, hl, D, hv, ha => by
    obtain ⟨f, rfl⟩ : ∃ f', f = f' + 1 := ⟨f - 1, by omega⟩
    refine ⟨acc, p, ?_, rfl, ha, D⟩
    show (F21_l6 600).b _ _ ((F21_l6 600).L f) some = _
    have c : decide (((0 : Nat) : Int) > 0) = false := rfl
    simp only [F21_l6, c]
  | k + 1, f, p, v, acc, hf, hl, D, hv, ha => by
    obtain ⟨f, rfl⟩ : ∃ f', f = f' + 1 := ⟨f - 1, by omega⟩
    have hk : decide (((k + 1 : Nat) : Int) > 0) = true := by rw [decide_eq_true_iff]; omega
    have hi : i64 (((k + 1 : Nat) : Int) - 1) = (k : Int) := by rw [i64_id (by omega)]; omega
    have hb : ((rowsI acc).length + 1) * 8 ≤ maxBytes := by rw [rowsI_len]; unfold maxBytes; omega
    obtain ⟨c, p1, g1, m1, D1⟩ := next_ok 600 (n := 10) (by omega) D
    have key : ∀ (p2 u : Int), Dice xs p2 → Smp u → ∃ (X : List Int) (p' : Int), (F21_l6 600).L f (rowsI (acc ++ [u]), u, (k : Int), rowsI xs, p2) = some (rowsI X, rowsI xs, p') ∧ X.length = acc.length + (k + 1) ∧ (∀ x ∈ X, Smp x) ∧ Dice xs p' := fun p2 u D2 hu => by
      obtain ⟨X, p', r1, r2, r3, r4⟩ := smp_loop k f p2 u (acc ++ [u]) (by omega) (by simp; omega) D2 hu (fun x hx => by
        rcases List.mem_append.1 hx with h | h
        · exact ha x h
        · rw [List.mem_singleton.1 h]; exact hu)
      exact ⟨X, p', r1, by rw [r2]; simp; omega, r3, r4⟩
    have fin : ∃ (X : List Int) (p' : Int), (F21_l6 600).b (rowsI acc, v, ((k + 1 : Nat) : Int), rowsI xs, p) _ ((F21_l6 600).L f) some = some (rowsI X, rowsI xs, p') ∧ X.length = acc.length + (k + 1) ∧ (∀ x ∈ X, Smp x) ∧ Dice xs p' := by
      obtain ⟨Lf, hL⟩ : ∃ Lf, Lf = (F21_l6 600).L f := ⟨_, rfl⟩
      rw [← hL] at key ⊢
      by_cases h0 : c = 0
      · subst h0
        obtain ⟨w, p2, g2, m2, D2⟩ := pick_ok 600 [127, 128, -128, -129, 300] (by simp) D1
        replace g2 : F19_d 600 ([[(AV.v (.int .i64 127))], [(AV.v (.int .i64 128))], [(AV.v (.int .i64 (-128)))], [(AV.v (.int .i64 (-129)))], [(AV.v (.int .i64 300))]], rowsI xs, p1) = some (w, rowsI xs, p2) := g2
        have hu := clm_smp (i64 (v + w))
        have q := key p2 _ D2 hu
        unfold clm at q
        simp only [F21_l6, hk, g1, beq_self_eq_true, g2, List.length_cons, List.length_nil, Nat.zero_add, hb, if_true, rowsI_snoc, hi]
        exact q
      · have b0 : (c == 0) = false := beq_eq_false_iff_ne.2 h0
        by_cases h1 : c = 1
        · subst h1
          obtain ⟨w, p2, g2, m2, D2⟩ := pick_ok 600 [32767, 32768, -32768, -32769] (by simp) D1
          replace g2 : F19_d 600 ([[(AV.v (.int .i64 32767))], [(AV.v (.int .i64 32768))], [(AV.v (.int .i64 (-32768)))], [(AV.v (.int .i64 (-32769)))]], rowsI xs, p1) = some (w, rowsI xs, p2) := g2
          have hu := clm_smp (i64 (v + w))
          have q := key p2 _ D2 hu
          unfold clm at q
          simp only [F21_l6, hk, g1, b0, beq_self_eq_true, g2, List.length_cons, List.length_nil, Nat.zero_add, hb, if_true, rowsI_snoc, hi]
          exact q
        · have b1 : (c == 1) = false := beq_eq_false_iff_ne.2 h1
          by_cases h2 : c = 2
          · subst h2
            obtain ⟨w, p2, g2, m2, D2⟩ := pick_ok 600 [0, 1073741823, -1073741823, 536870912] (by simp) D1
            replace g2 : F19_d 600 ([[(AV.v (.int .i64 0))], [(AV.v (.int .i64 1073741823))], [(AV.v (.int .i64 (-1073741823)))], [(AV.v (.int .i64 536870912))]], rowsI xs, p1) = some (w, rowsI xs, p2) := g2
            have hu := clm_smp w
            have q := key p2 _ D2 hu
            unfold clm at q
            simp only [F21_l6, hk, g1, b0, b1, beq_self_eq_true, g2, List.length_cons, List.length_nil, Nat.zero_add, hb, if_true, rowsI_snoc, hi]
            exact q
          · have b2 : (c == 2) = false := beq_eq_false_iff_ne.2 h2
            obtain ⟨w, p2, g2, m2, D2⟩ := next_ok 600 (n := 9) (by omega) D1
            have hu := clm_smp (i64 (v + i64 (w - 4)))
            have q := key p2 _ D2 hu
            unfold clm at q
            simp only [F21_l6, hk, g1, b0, b1, b2, g2, List.length_cons, List.length_nil, Nat.zero_add, hb, if_true, rowsI_snoc, hi]
            exact q
    exact fin
theorem samples_ok {n : Int} (hn : 1 ≤ n ∧ n ≤ 200) {xs : List Int} {p : Int} (D : Dice xs p) : ∃ (X : List Int) (p' : Int), F21_d 600 (n, rowsI xs, p) = some (rowsI X, rowsI xs, p') ∧ (1 ≤ X.length ∧ (X.length : Int) ≤ n) ∧ (∀ x ∈ X, Smp x) ∧ Dice xs p' := by
  obtain ⟨v, p1, g1, m1, D1⟩ := pick_ok 600 [0, 5, -100, 1000] (by simp) D
  replace g1 : F19_d 600 ([[(AV.v (.int .i64 0))], [(AV.v (.int .i64 5))], [(AV.v (.int .i64 (-100)))], [(AV.v (.int .i64 1000))]], rowsI xs, p) = some (v, rowsI xs, p1) := g1
  obtain ⟨c, p2, g2, m2, D2⟩ := next_ok 600 (n := n) (by omega) D1
  have e1 : i64 (1 + c) = ((1 + c.toNat : Nat) : Int) := by rw [i64_id (by omega)]; omega
  have hv : Smp v := by unfold Smp; simp at m1; omega
  obtain ⟨X, p', r1, r2, r3, r4⟩ := smp_loop (xs := xs) (1 + c.toNat) 600 p2 v [] (by omega) (by simp; omega) D2 hv (by simp)
  replace r1 : (F21_l6 600).L 600 (([] : List (List AV)), v, ((1 + c.toNat : Nat) : Int), rowsI xs, p2) = _ := r1
  simp only [List.length_nil, Nat.zero_add] at r2
  refine ⟨X, p', ?_, by omega, r3, r4⟩
  simp only [F21_d, FSpec.d, F21_s, g1, g2, e1, F21_d6, r1]
theorem same_loop (S : List Int) : ∀ (k i f : Nat), k < f → i + k = S.length → S.length ≤ 590 → (F29_l8 600).L f (rowsI S, rowsI S, (i : Int)) = some (.inr ())
  | 0, i, f, hf, hi, hl => by
    obtain ⟨f, rfl⟩ : ∃ f', f = f' + 1 := ⟨f - 1, by omega⟩
    show (F29_l8 600).b _ _ ((F29_l8 600).L f) some = _
    have : decide ((i : Int) < (S.length : Int)) = false := by rw [decide_eq_false_iff_not]; omega
    simp only [F29_l8, rowsI_len, this]
  | k + 1, i, f, hf, hi, hl => by
    obtain ⟨f, rfl⟩ : ∃ f', f = f' + 1 := ⟨f - 1, by omega⟩
    have hlt : i < S.length := by omega
    have c1 : decide ((i : Int) < (S.length : Int)) = true := by rw [decide_eq_true_iff]; omega
    have c2 : (0 : Int) ≤ (i : Int) := by omega
    have c4 : i64 ((i : Int) + 1) = ((i + 1 : Nat) : Int) := by rw [i64_id (by omega)]; omega
    have r1 := same_loop S k (i + 1) f (by omega) (by omega) hl
    show (F29_l8 600).b _ _ ((F29_l8 600).L f) some = _
    obtain ⟨Lf, hL⟩ : ∃ Lf, Lf = (F29_l8 600).L f := ⟨_, rfl⟩
    rw [← hL] at r1 ⊢
    simp only [F29_l8, rowsI_len, c1, c2, if_true, Int.toNat_natCast, rowsI_get S i hlt, List.getElem?_cons_zero, bne_self_eq_false, c4]
    exact r1
theorem same_ok (S : List Int) (hl : S.length ≤ 590) : F29_d 600 (rowsI S, rowsI S) = some true := by
  have r := same_loop S S.length 0 600 (by omega) (by omega) hl
  replace r : (F29_l8 600).L 600 (rowsI S, rowsI S, 0) = some (.inr ()) := r
  simp only [F29_d, FSpec.d, F29_s, bne_self_eq_false, F29_d8, r]
/-- Decoding the encoding of samples. -/
theorem nfr_rng (w : Nat) (h : w ≤ 104) : 1 ≤ nfr w ∧ nfr w ≤ 8 ∧ w + 2 ≤ 15 * nfr w := by
  unfold nfr
  omega
theorem back (X : List Int) (hX : ∀ x ∈ X, Smp x) (hl : 1 ≤ X.length ∧ X.length ≤ 104) (m : Nat) (hm : 1 ≤ m ∧ m ≤ X.length) : F23_d 600 (rowsI X) = some (FS (nfr (wX X).length) (lX X), 0) ∧ F45_d 600 (FS (nfr (wX X).length) (lX X), (m : Int)) = some (if X.getD (m - 1) 0 = X.getLastD 0 then (rowsI (X.take m), 0) else (rowsI [], 11)) := by
  have h0 : X ≠ [] := fun e => by rw [e] at hl; simp at hl
  have hw := (wX_len X).1
  have hn := nfr_rng (wX X).length (by omega)
  refine ⟨enc_ok X (by omega) h0 hX hn.2.1, ?_⟩
  have hlast : Fit32 (X.getLastD 0) := by
    have hl1 : X.length - 1 < X.length := by omega
    have el : X.getLastD 0 = X[X.length - 1] := by
      rw [List.getLastD_eq_getLast?, List.getLast?_eq_getElem?, List.getElem?_eq_getElem hl1]; rfl
    have := hX _ (List.getElem_mem hl1)
    rw [el]
    unfold Smp at this
    unfold Fit32
    omega
  have d := dec_frames X hX h0 (by omega) (nfr (wX X).length) ⟨hn.1, hn.2.1⟩ hn.2.2 (X.getLastD 0 % 4294967296) (by omega) m hm (by omega)
  rw [sgn32_mod hlast] at d
  rw [dec_any _ (by rw [FS_size]; omega)]
  have e : lX X = (0, X.headD 0 % 4294967296) :: (0, X.getLastD 0 % 4294967296) :: wX X := rfl
  rw [e, d]
  split <;> rfl
theorem getLast_at (X : List Int) (h : 1 ≤ X.length) : X.getD (X.length - 1) 0 = X.getLastD 0 := by
  have hl1 : X.length - 1 < X.length := by omega
  rw [List.getLastD_eq_getLast?, List.getLast?_eq_getElem?, List.getElem?_eq_getElem hl1, List.getD_eq_getElem?_getD, List.getElem?_eq_getElem hl1]
end Go.Proofs.YtdmedeaknnldcaaDoor
/- Packets: the dice's sources, rates, packets. -/
namespace Go.Proofs.YtdmedeaknnldcaaDoor
open Go.RowKit
set_option linter.unusedVariables false
set_option linter.unusedSimpArgs false
set_option linter.unnecessarySimpa false
/-- A source, its text, and back. -/
structure SrcOk (a b c d : ByteArray) : Prop where
  v : F31_d 600 (a, b, c, d) = some true
  n : 8 ≤ (joined [a, b, c, d]).size ∧ (joined [a, b, c, d]).size ≤ 15
  q : F43_d 600 (joined [a, b, c, d]) = some (a, b, c, d, 0)
def srcA : List ByteArray := [⟨#[71, 82]⟩, ⟨#[88]⟩, ⟨#[55, 65]⟩]
def srcB : List ByteArray := [⟨#[70, 85, 82]⟩, ⟨#[65]⟩, ⟨#[65, 66, 67, 68, 69]⟩, ⟨#[70, 85]⟩]
def srcC : List ByteArray := [⟨#[]⟩, ⟨#[48, 48]⟩, ⟨#[49, 48]⟩]
def srcD : List ByteArray := [⟨#[72, 72, 90]⟩, ⟨#[72, 72, 78]⟩, ⟨#[66, 72, 90]⟩]
set_option maxHeartbeats 4000000 in
theorem src_all (a b c d : ByteArray) (ha : a ∈ srcA) (hb : b ∈ srcB) (hc : c ∈ srcC) (hd : d ∈ srcD) : SrcOk a b c d := by
  simp only [srcA, srcB, srcC, srcD, List.mem_cons, List.not_mem_nil, or_false] at ha hb hc hd
  rcases ha with rfl | rfl | rfl <;> rcases hb with rfl | rfl | rfl | rfl <;> rcases hc with rfl | rfl | rfl <;> rcases hd with rfl | rfl | rfl <;> exact ⟨by kernel_rfl, of_decide_eq_true (by kernel_rfl), by kernel_rfl⟩
theorem pickS (O : List ByteArray) {v : Int} (h : 0 ≤ v ∧ v < (O.length : Int)) : ∃ s ∈ O, (O.map fun s => [AV.v (.string s)])[v.toNat]? = some [AV.v (.string s)] := by
  have h1 : v.toNat < O.length := by omega
  exact ⟨O[v.toNat], List.getElem_mem h1, by simp [h1]⟩
theorem source_ok {xs : List Int} {p : Int} (D : Dice xs p) : ∃ (a b c d : ByteArray) (p' : Int), F18_d 600 (rowsI xs, p) = some (a, b, c, d, rowsI xs, p') ∧ SrcOk a b c d ∧ Dice xs p' := by
  obtain ⟨v1, p1, g1, r1, D1⟩ := next_ok 600 (n := 3) (by omega) D
  obtain ⟨v2, p2, g2, r2, D2⟩ := next_ok 600 (n := 4) (by omega) D1
  obtain ⟨v3, p3, g3, r3, D3⟩ := next_ok 600 (n := 3) (by omega) D2
  obtain ⟨v4, p4, g4, r4, D4⟩ := next_ok 600 (n := 3) (by omega) D3
  obtain ⟨a, ha, ea⟩ := pickS srcA (v := v1) r1
  obtain ⟨b, hb, eb⟩ := pickS srcB (v := v2) r2
  obtain ⟨c, hc, ec⟩ := pickS srcC (v := v3) r3
  obtain ⟨d, hd, ed⟩ := pickS srcD (v := v4) r4
  simp only [srcA, srcB, srcC, srcD, List.map_cons, List.map_nil] at ea eb ec ed
  refine ⟨a, b, c, d, p4, ?_, src_all a b c d ha hb hc hd, D4⟩
  simp only [F18_d, FSpec.d, F18_s, g1, g2, g3, g4, r1.1, r2.1, r3.1, r4.1, if_true, ea, eb, ec, ed, List.getElem?_cons_zero]
/-- A rate in lowest terms. -/
structure RateOk (n d : Int) : Prop where
  v : F32_d 600 (n, d) = some true
  n : 1 ≤ n ∧ n ≤ 4096
  d : 1 ≤ d ∧ d ≤ 4096
def ratN : List Int := [1, 3, 20, 100, 40, 4096, 7]
def ratD : List Int := [1, 1, 1, 3, 7, 4096]
theorem rate_all (n d : Int) (hn : n ∈ ratN) (hd : d ∈ ratD) : F33_d 600 (n, d) = some (n / (Int.gcd n d : Int), d / (Int.gcd n d : Int), 0) ∧ RateOk (n / (Int.gcd n d : Int)) (d / (Int.gcd n d : Int)) := by
  simp only [ratN, ratD, List.mem_cons, List.not_mem_nil, or_false] at hn hd
  rcases hn with rfl | rfl | rfl | rfl | rfl | rfl | rfl <;> rcases hd with rfl | rfl | rfl | rfl | rfl | rfl <;> exact ⟨by kernel_rfl, by kernel_rfl, of_decide_eq_true (by kernel_rfl), of_decide_eq_true (by kernel_rfl)⟩
theorem rate_ok {xs : List Int} {p : Int} (D : Dice xs p) : ∃ (n d p' : Int), F20_d 600 (rowsI xs, p) = some (n, d, rowsI xs, p') ∧ RateOk n d ∧ Dice xs p' := by
  obtain ⟨v1, p1, g1, m1, D1⟩ := pick_ok 600 ratN (by simp [ratN]) D
  obtain ⟨v2, p2, g2, m2, D2⟩ := pick_ok 600 ratD (by simp [ratD]) D1
  obtain ⟨h1, h2⟩ := rate_all v1 v2 m1 m2
  simp only [ratN, ratD, rowsI, List.map_cons, List.map_nil] at g1 g2
  refine ⟨_, _, p2, ?_, h2, D2⟩
  simp only [F20_d, FSpec.d, F20_s, rowsI, g1, g2, h1]
/-- A valid packet. -/
structure PV (a b c d : ByteArray) (run seq start num den clk err : Int) (X : List Int) : Prop where
  src : SrcOk a b c d
  rate : RateOk num den
  run : 0 ≤ run ∧ run ≤ 65535
  seq : 0 ≤ seq ∧ seq ≤ 1073741824
  start : 0 ≤ start ∧ start ≤ 9007199254740992
  clk : 0 ≤ clk ∧ clk ≤ 2
  err : 0 ≤ err ∧ err ≤ 1099511627776
  len : 1 ≤ X.length ∧ X.length ≤ 104
  smp : ∀ x ∈ X, Smp x
theorem packet_ok {xs : List Int} {p : Int} (D : Dice xs p) : ∃ (a b c d : ByteArray) (run seq start num den clk err : Int) (X : List Int) (p' : Int), F9_d 600 (rowsI xs, p) = some (a, b, c, d, run, seq, start, num, den, clk, err, rowsI X, rowsI xs, p') ∧ PV a b c d run seq start num den clk err X ∧ Dice xs p' := by
  obtain ⟨a, b, c, d, p1, g1, S1, D1⟩ := source_ok D
  obtain ⟨v2, p2, g2, m2, D2⟩ := pick_ok 600 [0, 1, 65535] (by simp) D1
  obtain ⟨v3, p3, g3, m3, D3⟩ := pick_ok 600 [0, 7, 1073741824] (by simp) D2
  obtain ⟨v4, p4, g4, m4, D4⟩ := pick_ok 600 [0, 1000000000000, 9007199254740992] (by simp) D3
  obtain ⟨n5, d5, p5, g5, R5, D5⟩ := rate_ok D4
  obtain ⟨v6, p6, g6, r6, D6⟩ := next_ok 600 (n := 3) (by omega) D5
  obtain ⟨v7, p7, g7, m7, D7⟩ := pick_ok 600 [0, 50, 1099511627776] (by simp) D6
  obtain ⟨X, p8, g8, r8, s8, D8⟩ := samples_ok (n := 24) (by omega) D7
  replace g2 : F19_d 600 ([[(AV.v (.int .i64 0))], [(AV.v (.int .i64 1))], [(AV.v (.int .i64 65535))]], rowsI xs, p1) = _ := g2
  replace g3 : F19_d 600 ([[(AV.v (.int .i64 0))], [(AV.v (.int .i64 7))], [(AV.v (.int .i64 1073741824))]], rowsI xs, p2) = _ := g3
  replace g4 : F19_d 600 ([[(AV.v (.int .i64 0))], [(AV.v (.int .i64 1000000000000))], [(AV.v (.int .i64 9007199254740992))]], rowsI xs, p3) = _ := g4
  replace g7 : F19_d 600 ([[(AV.v (.int .i64 0))], [(AV.v (.int .i64 50))], [(AV.v (.int .i64 1099511627776))]], rowsI xs, p6) = _ := g7
  simp only [List.mem_cons, List.not_mem_nil, or_false] at m2 m3 m4 m7
  refine ⟨a, b, c, d, v2, v3, v4, n5, d5, v6, v7, X, p8, ?_, ⟨S1, R5, by omega, by omega, by omega, by omega, by omega, by omega, s8⟩, D8⟩
  simp only [F9_d, FSpec.d, F9_s, g1, g2, g3, g4, g5, g6, g7, g8]
theorem sane_ok : F7_d 600 () = some true := by kernel_rfl
end Go.Proofs.YtdmedeaknnldcaaDoor
/- Packets: Valid, Encode. -/
namespace Go.Proofs.YtdmedeaknnldcaaDoor
open Go.RowKit
set_option linter.unusedVariables false
set_option linter.unusedSimpArgs false
set_option linter.unnecessarySimpa false
theorem pin_any (N : Nat) (x lo hi : Int) : F28_d N (x, lo, hi) = some (decide (lo ≤ x ∧ x ≤ hi)) := in_any N x lo hi
theorem pin_yes {x lo hi : Int} (h : lo ≤ x ∧ x ≤ hi) : F28_d 600 (x, lo, hi) = some true := by rw [pin_any, decide_eq_true h]
theorem pin_no {x lo hi : Int} (h : ¬ (lo ≤ x ∧ x ≤ hi)) : F28_d 600 (x, lo, hi) = some false := by rw [pin_any, decide_eq_false h]
def nf (X : List Int) : Nat := nfr (wX X).length
def dat (X : List Int) : ByteArray := FS (nf X) (lX X)
theorem PV.nf {a b c d : ByteArray} {run seq start num den clk err : Int} {X : List Int} (P : PV a b c d run seq start num den clk err X) : 1 ≤ nf X ∧ nf X ≤ 8 := by
  have hw := (wX_len X).1
  have h := nfr_rng (wX X).length (by have := P.len; omega)
  exact ⟨h.1, h.2.1⟩
theorem PV.enc {a b c d : ByteArray} {run seq start num den clk err : Int} {X : List Int} (P : PV a b c d run seq start num den clk err X) : F23_d 600 (rowsI X) = some (dat X, 0) := (back X P.smp P.len 1 ⟨Nat.le_refl _, P.len.1⟩).1
theorem valid_ok {a b c d : ByteArray} {run seq start num den clk err : Int} {X : List Int} (P : PV a b c d run seq start num den clk err X) : F17_d 600 (a, b, c, d, run, seq, start, num, den, clk, err, rowsI X) = some true := by
  have h := P.len
  have c1 : decide (((rowsI X).length : Int) > 420) = false := by rw [rowsI_len, decide_eq_false_iff_not]; omega
  have z : ((0 : Int) == 0) = true := rfl
  simp only [F17_d, FSpec.d, F17_s, P.src.v, P.rate.v, pin_yes P.run, pin_yes P.seq, pin_yes P.start, pin_yes P.clk, pin_yes P.err, Bool.not_true, c1, P.enc, z]
/-- The fields of the header. -/
def flds (nm : Nat) (run seq start num den clk err : Int) (X : List Int) : List (Int × Int) :=
  [(clk, 1), (run, 2), (seq, 4), (start, 7), (num, 2), (den, 2), (err, 6), ((X.length : Int), 2), ((nm : Int), 1), ((nf X : Int), 1)]
def FOk (q : Int × Int) : Prop := (1 ≤ q.2 ∧ q.2 ≤ 7) ∧ 0 ≤ q.1 ∧ q.1 < 2 ^ (8 * q.2.toNat)
def fbs (L : List (Int × Int)) : List Int := L.flatMap fun q => beP q.2.toNat q.1
theorem fbs_cons (q : Int × Int) (L : List (Int × Int)) : fbs (q :: L) = beP q.2.toNat q.1 ++ fbs L := rfl
theorem fbs_rng : ∀ (L : List (Int × Int)), ∀ x ∈ fbs L, 0 ≤ x ∧ x ≤ 255
  | [], x, h => by cases h
  | q :: L, x, h => by
    rw [fbs_cons] at h
    rcases List.mem_append.1 h with h | h
    · exact beP_rng _ _ x h
    · exact fbs_rng L x h
theorem rowsW_get (L : List (Int × Int)) (i : Nat) (h : i < L.length) : (rowsW L)[i]? = some [AV.v (.int .i64 (L[i]).1), AV.v (.int .i64 (L[i]).2)] := by simp [rowsW, h]
theorem fld_loop (L : List (Int × Int)) (hL : ∀ q ∈ L, FOk q) (hl : L.length ≤ 100) (nm dt : ByteArray) : ∀ (k i f : Nat) (out : ByteArray), k < f → i + k = L.length → out.size + 7 * k ≤ 800000 →
    (F10_l11 600).L f (rowsW L, nm, dt, out, (L.length : Int), (i : Int)) = some (nm, dt, out ++ strOfNums (fbs (L.drop i)))
  | 0, i, f, out, hf, hi, ho => by
    obtain ⟨f, rfl⟩ : ∃ f', f = f' + 1 := ⟨f - 1, by omega⟩
    show (F10_l11 600).b _ _ ((F10_l11 600).L f) some = _
    have c : decide ((i : Int) < (L.length : Int)) = false := by rw [decide_eq_false_iff_not]; omega
    have e : L.drop i = [] := List.drop_eq_nil_of_le (by omega)
    have e2 : out ++ strOfNums (fbs []) = out := by
      apply ByteArray.ext
      show (out ++ strOfNums []).data = _
      simp [strOfNums]
    simp only [F10_l11, c, e, e2]
  | k + 1, i, f, out, hf, hi, ho => by
    obtain ⟨f, rfl⟩ : ∃ f', f = f' + 1 := ⟨f - 1, by omega⟩
    have hlt : i < L.length := by omega
    obtain ⟨h1, h2, h3⟩ := hL _ (List.getElem_mem hlt)
    have ew : (((L[i]).2.toNat : Nat) : Int) = (L[i]).2 := Int.toNat_of_nonneg (by omega)
    have pu := put_ok out (by omega) (n := (L[i]).1) (L[i]).2.toNat (by omega) ⟨h2, h3⟩
    rw [ew] at pu
    have hsz : (out ++ strOfNums (beP (L[i]).2.toNat (L[i]).1)).size + 7 * k ≤ 800000 := by
      rw [ByteArray.size_append, strOf_size, beP_len]; omega
    have r1 := fld_loop L hL hl nm dt k (i + 1) f _ (by omega) (by omega) hsz
    have ed : L.drop i = L[i] :: L.drop (i + 1) := List.drop_eq_getElem_cons hlt
    have ea : out ++ strOfNums (beP (L[i]).2.toNat (L[i]).1) ++ strOfNums (fbs (L.drop (i + 1))) = out ++ strOfNums (fbs (L.drop i)) := by
      rw [ed, fbs_cons, strOf_app]
      exact ByteArray.append_assoc
    rw [ea] at r1
    have c1 : decide ((i : Int) < (L.length : Int)) = true := by rw [decide_eq_true_iff]; omega
    have c2 : (0 : Int) ≤ (i : Int) := by omega
    have c4 : i64 ((i : Int) + 1) = ((i + 1 : Nat) : Int) := by rw [i64_id (by omega)]; omega
    show (F10_l11 600).b _ _ ((F10_l11 600).L f) some = _
    obtain ⟨Lf, hL2⟩ : ∃ Lf, Lf = (F10_l11 600).L f := ⟨_, rfl⟩
    rw [← hL2] at r1 ⊢
    simp only [F10_l11, c1, c2, if_true, Int.toNat_natCast, rowsW_get L i hlt, List.getElem?_cons_zero, List.getElem?_cons_succ, pu, c4]
    exact r1
/-- What stands ahead of the checksum. -/
def bdy (a b c d : ByteArray) (run seq start num den clk err : Int) (X : List Int) : ByteArray :=
  ((⟨#[83, 78, 1]⟩ : ByteArray) ++ strOfNums (fbs (flds (joined [a, b, c, d]).size run seq start num den clk err X))) ++ joined [a, b, c, d] ++ dat X
def enc (a b c d : ByteArray) (run seq start num den clk err : Int) (X : List Int) : ByteArray := appended (bdy a b c d run seq start num den clk err X)
theorem flds_ok {nm : Nat} {run seq start num den clk err : Int} {X : List Int} (hn : nm ≤ 255) (h1 : 0 ≤ run ∧ run ≤ 65535) (h2 : 0 ≤ seq ∧ seq ≤ 1073741824) (h3 : 0 ≤ start ∧ start ≤ 9007199254740992) (h4 : 1 ≤ num ∧ num ≤ 4096) (h5 : 1 ≤ den ∧ den ≤ 4096) (h6 : 0 ≤ clk ∧ clk ≤ 2) (h7 : 0 ≤ err ∧ err ≤ 1099511627776) (h8 : X.length ≤ 430) (h9 : nf X ≤ 8) : ∀ q ∈ flds nm run seq start num den clk err X, FOk q := by
  have p1 : (2 : Int) ^ (8 * (1 : Int).toNat) = 256 := by decide
  have p2 : (2 : Int) ^ (8 * (2 : Int).toNat) = 65536 := by decide
  have p4 : (2 : Int) ^ (8 * (4 : Int).toNat) = 4294967296 := by decide
  have p6 : (2 : Int) ^ (8 * (6 : Int).toNat) = 281474976710656 := by decide
  have p7 : (2 : Int) ^ (8 * (7 : Int).toNat) = 72057594037927936 := by decide
  intro q hq
  simp only [flds, List.mem_cons, List.not_mem_nil, or_false] at hq
  rcases hq with rfl | rfl | rfl | rfl | rfl | rfl | rfl | rfl | rfl | rfl <;> refine ⟨by omega, ?_⟩ <;> simp only [p1, p2, p4, p6, p7] <;> omega
theorem fbs_len : ∀ (L : List (Int × Int)), (fbs L).length = (L.map fun q => q.2.toNat).sum
  | [] => rfl
  | q :: L => by rw [fbs_cons, List.length_append, beP_len, fbs_len L, List.map_cons, List.sum_cons]
theorem bdy_size (a b c d : ByteArray) (run seq start num den clk err : Int) (X : List Int) : (bdy a b c d run seq start num den clk err X).size = 31 + (joined [a, b, c, d]).size + 64 * nf X := by
  unfold bdy dat
  rw [ByteArray.size_append, ByteArray.size_append, ByteArray.size_append, strOf_size, fbs_len, FS_size]
  show 3 + 28 + _ + _ = _
  omega
theorem enc_size (a b c d : ByteArray) (run seq start num den clk err : Int) (X : List Int) : (enc a b c d run seq start num den clk err X).size = 31 + (joined [a, b, c, d]).size + 64 * nf X + 4 := by
  unfold enc
  rw [appended_size, bdy_size]
theorem format_ok {a b c d : ByteArray} (S : SrcOk a b c d) : F22_d 600 (a, b, c, d) = some (joined [a, b, c, d], 0) := by
  have h := S.n
  have e : (joined [(a, b, c, d).1, (a, b, c, d).2.1, (a, b, c, d).2.2.1, (a, b, c, d).2.2.2]).size ≤ 140737488355328 := by show (joined [a, b, c, d]).size ≤ _; omega
  simp only [F22_d, FSpec.d, F22_s, S.v]
  exact if_pos e
theorem enc_ok' {a b c d : ByteArray} {run seq start num den clk err : Int} {X : List Int} (P : PV a b c d run seq start num den clk err X) : F10_d 600 (a, b, c, d, run, seq, start, num, den, clk, err, rowsI X) = some (enc a b c d run seq start num den clk err X, 0) := by
  have hn := P.src.n
  have hl := P.len
  have hf := P.nf
  have bs := bdy_size a b c d run seq start num den clk err X
  obtain ⟨nm, hnm⟩ : ∃ nm, nm = joined [a, b, c, d] := ⟨_, rfl⟩
  obtain ⟨dt, hdt⟩ : ∃ dt, dt = dat X := ⟨_, rfl⟩
  have hds : dt.size = 64 * nf X := by rw [hdt]; exact FS_size _ _
  have v := valid_ok P
  have f := format_ok P.src
  have e := P.enc
  rw [← hnm] at f hn bs
  rw [← hdt] at e
  have ok := flds_ok (nm := nm.size) (run := run) (seq := seq) (start := start) (num := num) (den := den) (clk := clk) (err := err) (X := X) (by omega) P.run P.seq P.start P.rate.n P.rate.d P.clk P.err (by omega) hf.2
  have r := fld_loop _ ok (by show 10 ≤ 100; omega) nm dt 10 0 600 ⟨#[83, 78, 1]⟩ (by omega) rfl (by show 3 + 7 * 10 ≤ 800000; omega)
  have e64 : i64 ((dt.size : Int).tdiv 64) = (nf X : Int) := by
    rw [hds, show ((64 * nf X : Nat) : Int) = 64 * (nf X : Int) by omega, Int.mul_tdiv_cancel_left _ (by omega)]
    exact i64_id (by omega)
  have rl : (((rowsI X).length : Nat) : Int) = (X.length : Int) := by rw [rowsI_len]
  replace r : (F10_l11 600).L 600 ([[AV.v (.int .i64 clk), AV.v (.int .i64 1)], [AV.v (.int .i64 run), AV.v (.int .i64 2)], [AV.v (.int .i64 seq), AV.v (.int .i64 4)], [AV.v (.int .i64 start), AV.v (.int .i64 7)], [AV.v (.int .i64 num), AV.v (.int .i64 2)], [AV.v (.int .i64 den), AV.v (.int .i64 2)], [AV.v (.int .i64 err), AV.v (.int .i64 6)], [AV.v (.int .i64 (X.length : Int)), AV.v (.int .i64 2)], [AV.v (.int .i64 (nm.size : Int)), AV.v (.int .i64 1)], [AV.v (.int .i64 (nf X : Int)), AV.v (.int .i64 1)]], nm, dt, ⟨#[83, 78, 1]⟩, 10, 0) = some (nm, dt, ⟨#[83, 78, 1]⟩ ++ strOfNums (fbs (flds nm.size run seq start num den clk err X))) := r
  obtain ⟨hd, hhd⟩ : ∃ hd, hd = (⟨#[83, 78, 1]⟩ : ByteArray) ++ strOfNums (fbs (flds nm.size run seq start num den clk err X)) := ⟨_, rfl⟩
  rw [← hhd] at r
  have hb : bdy a b c d run seq start num den clk err X = hd ++ nm ++ dt := by rw [hhd, hnm, hdt]; rfl
  have hhs : hd.size = 31 := by
    rw [hhd, ByteArray.size_append, strOf_size, fbs_len]; rfl
  have b1 : hd.size + nm.size ≤ 9223372036854775807 := by omega
  have b2 : (hd ++ nm).size + dt.size ≤ 9223372036854775807 := by rw [ByteArray.size_append]; omega
  have l10 : (([[AV.v (.int .i64 clk), AV.v (.int .i64 1)], [AV.v (.int .i64 run), AV.v (.int .i64 2)], [AV.v (.int .i64 seq), AV.v (.int .i64 4)], [AV.v (.int .i64 start), AV.v (.int .i64 7)], [AV.v (.int .i64 num), AV.v (.int .i64 2)], [AV.v (.int .i64 den), AV.v (.int .i64 2)], [AV.v (.int .i64 err), AV.v (.int .i64 6)], [AV.v (.int .i64 (X.length : Int)), AV.v (.int .i64 2)], [AV.v (.int .i64 (nm.size : Int)), AV.v (.int .i64 1)], [AV.v (.int .i64 (nf X : Int)), AV.v (.int .i64 1)]].length : Nat) : Int) = 10 := rfl
  have cr : F25_d 600 (hd ++ nm ++ dt) = some (appended (hd ++ nm ++ dt)) := by
    have : (hd ++ nm ++ dt).size + 4 ≤ maxLen := by rw [ByteArray.size_append, ByteArray.size_append]; unfold maxLen; omega
    exact if_pos this
  simp only [F10_d, FSpec.d, F10_s, v, Bool.not_true, f, e, rl, e64, l10, F10_d11, r, b1, b2, if_true, cr]
  show some (appended (hd ++ nm ++ dt), (0 : Int)) = _
  unfold enc
  rw [hb]
end Go.Proofs.YtdmedeaknnldcaaDoor
/- Packets: what is read of an encoding. -/
namespace Go.Proofs.YtdmedeaknnldcaaDoor
open Go.RowKit
set_option linter.unusedVariables false
set_option linter.unusedSimpArgs false
set_option linter.unnecessarySimpa false
theorem nums_app (a b : ByteArray) : nums (a ++ b) = nums a ++ nums b := by simp [nums]
theorem nums_inj {a b : ByteArray} (h : nums a = nums b) : a = b := by rw [← strOf_nums a, h, strOf_nums]
theorem fld_get (T : List Int) : ∀ (L : List (Int × Int)) (i : Nat) (h : i < L.length), (∀ q ∈ L, FOk q) → gw (fbs L ++ T) ((L.take i).map fun q => q.2.toNat).sum (L[i]).2.toNat = (L[i]).1
  | q :: L, 0, _, hL => by
    have h := hL q List.mem_cons_self
    rw [fbs_cons, List.append_assoc]
    exact gw_put _ _ h.2 _
  | q :: L, i + 1, h, hL => by
    have e : ((q :: L).take (i + 1)).map (fun q => q.2.toNat) = q.2.toNat :: (L.take i).map (fun q => q.2.toNat) := rfl
    rw [fbs_cons, List.append_assoc, e, List.sum_cons]
    have hl := beP_len q.2.toNat q.1
    have r := gw_skip (beP q.2.toNat q.1) (fbs L ++ T) ((L.take i).map fun q => q.2.toNat).sum ((q :: L)[i + 1]).2.toNat
    rw [hl] at r
    rw [r]
    exact fld_get T L i (by simpa using h) (fun q hq => hL q (List.mem_cons_of_mem _ hq))
theorem number_ok (s : ByteArray) (m w : Nat) (hw : 1 ≤ w ∧ w ≤ 7) (h : m + w ≤ s.size) (hs : s.size ≤ 1000) : F42_d 600 ((w : Int), s, (m : Int)) = some (gw (nums s) m w, s, ((m + w : Nat) : Int)) := by
  have g := get_ok s m w (by omega) hw h (by omega)
  have e : i64 ((m : Int) + (w : Int)) = ((m + w : Nat) : Int) := by rw [i64_id (by omega)]; omega
  simp only [F42_d, FSpec.d, F42_s, g, e]
theorem text_ok (s : ByteArray) (m w : Nat) (h : m + w ≤ s.size) (hs : s.size ≤ 1000) : F44_d 600 ((w : Int), s, (m : Int)) = some (s.extract m (m + w), s, ((m + w : Nat) : Int)) := by
  have e : i64 ((m : Int) + (w : Int)) = ((m + w : Nat) : Int) := by rw [i64_id (by omega)]; omega
  have e2 : i64 (((m + w : Nat) : Int) - (w : Int)) = (m : Int) := by rw [i64_id (by omega)]; omega
  have c : (0 : Int) ≤ (m : Int) ∧ (m : Int) ≤ ((m + w : Nat) : Int) ∧ ((m + w : Nat) : Int) ≤ s.size := by omega
  simp only [F44_d, FSpec.d, F44_s, e, e2, c, and_self, if_true, Int.toNat_natCast]
theorem cutL (H N R : List Int) : ((H ++ (N ++ R)).take (H.length + N.length)).drop H.length = N := by
  rw [← List.append_assoc, List.take_left' (by simp), List.drop_left]
theorem ext_of {s : ByteArray} {H R : List Int} {t : ByteArray} (h : nums s = H ++ (nums t ++ R)) (m w : Nat) (hm : H.length = m) (hw : t.size = w) : s.extract m (m + w) = t := by
  apply nums_inj
  subst hm
  subst hw
  rw [nums_ext, h, ← nums_len t]
  exact cutL _ _ _
/-- An encoding's bytes. -/
structure EncN (s : ByteArray) (a b c d : ByteArray) (run seq start num den clk err : Int) (X : List Int) : Prop where
  sz : s.size = 31 + (joined [a, b, c, d]).size + 64 * nf X + 4
  mag : s.extract 0 3 = ⟨#[83, 78, 1]⟩
  g1 : gw (nums s) 3 1 = clk
  g2 : gw (nums s) 4 2 = run
  g3 : gw (nums s) 6 4 = seq
  g4 : gw (nums s) 10 7 = start
  g5 : gw (nums s) 17 2 = num
  g6 : gw (nums s) 19 2 = den
  g7 : gw (nums s) 21 6 = err
  g8 : gw (nums s) 27 2 = (X.length : Int)
  g9 : gw (nums s) 29 1 = ((joined [a, b, c, d]).size : Int)
  g10 : gw (nums s) 30 1 = (nf X : Int)
  name : s.extract 31 (31 + (joined [a, b, c, d]).size) = joined [a, b, c, d]
  data : s.extract (31 + (joined [a, b, c, d]).size) (31 + (joined [a, b, c, d]).size + 64 * nf X) = dat X
theorem encN {a b c d : ByteArray} {run seq start num den clk err : Int} {X : List Int} (P : PV a b c d run seq start num den clk err X) (t4 : ByteArray) (h4 : t4.size = 4) : EncN (bdy a b c d run seq start num den clk err X ++ t4) a b c d run seq start num den clk err X := by
  have bs := bdy_size a b c d run seq start num den clk err X
  have hn := P.src.n
  have hl := P.len
  have hf := P.nf
  have ok := flds_ok (nm := (joined [a, b, c, d]).size) (run := run) (seq := seq) (start := start) (num := num) (den := den) (clk := clk) (err := err) (X := X) (by omega) P.run P.seq P.start P.rate.n P.rate.d P.clk P.err (by omega) hf.2
  have hL : (flds (joined [a, b, c, d]).size run seq start num den clk err X).length = 10 := rfl
  have hds : (dat X).size = 64 * nf X := FS_size _ _
  have hfl : (fbs (flds (joined [a, b, c, d]).size run seq start num den clk err X)).length = 28 := by rw [fbs_len]; rfl
  have hs : nums (bdy a b c d run seq start num den clk err X ++ t4) = [83, 78, 1] ++ (fbs (flds (joined [a, b, c, d]).size run seq start num den clk err X) ++ (nums (joined [a, b, c, d]) ++ (nums (dat X) ++ nums t4))) := by
    unfold bdy
    rw [nums_app, nums_app, nums_app, nums_app, nums_strOf (fbs_rng _)]
    simp only [List.append_assoc]
    rfl
  have hsz : (bdy a b c d run seq start num den clk err X ++ t4).size = 31 + (joined [a, b, c, d]).size + 64 * nf X + 4 := by rw [ByteArray.size_append, bs, h4]
  obtain ⟨s, hss⟩ : ∃ s, s = bdy a b c d run seq start num den clk err X ++ t4 := ⟨_, rfl⟩
  rw [← hss] at hs hsz ⊢
  have G := fld_get (nums (joined [a, b, c, d]) ++ (nums (dat X) ++ nums t4)) (flds (joined [a, b, c, d]).size run seq start num den clk err X)
  have sk := gw_skip [83, 78, 1] (fbs (flds (joined [a, b, c, d]).size run seq start num den clk err X) ++ (nums (joined [a, b, c, d]) ++ (nums (dat X) ++ nums t4)))
  rw [← hs] at sk
  refine ⟨hsz, ?_, ?_, ?_, ?_, ?_, ?_, ?_, ?_, ?_, ?_, ?_, ?_, ?_⟩
  · exact ext_of (H := []) (t := ⟨#[83, 78, 1]⟩) (by rw [hs]; rfl) 0 3 rfl rfl
  · exact (sk 0 1).trans (G 0 (by rw [hL]; omega) ok)
  · exact (sk 1 2).trans (G 1 (by rw [hL]; omega) ok)
  · exact (sk 3 4).trans (G 2 (by rw [hL]; omega) ok)
  · exact (sk 7 7).trans (G 3 (by rw [hL]; omega) ok)
  · exact (sk 14 2).trans (G 4 (by rw [hL]; omega) ok)
  · exact (sk 16 2).trans (G 5 (by rw [hL]; omega) ok)
  · exact (sk 18 6).trans (G 6 (by rw [hL]; omega) ok)
  · exact (sk 24 2).trans (G 7 (by rw [hL]; omega) ok)
  · exact (sk 26 1).trans (G 8 (by rw [hL]; omega) ok)
  · exact (sk 27 1).trans (G 9 (by rw [hL]; omega) ok)
  · exact ext_of (H := [83, 78, 1] ++ fbs (flds (joined [a, b, c, d]).size run seq start num den clk err X)) (R := nums (dat X) ++ nums t4) (by rw [hs]; simp only [List.append_assoc]) 31 _ (by rw [List.length_append, hfl]; rfl) rfl
  · exact ext_of (H := [83, 78, 1] ++ fbs (flds (joined [a, b, c, d]).size run seq start num den clk err X) ++ nums (joined [a, b, c, d])) (R := nums t4) (by rw [hs]; simp only [List.append_assoc]) _ _ (by rw [List.length_append, List.length_append, hfl, nums_len]; rfl) hds
theorem byteN {s : ByteArray} {m : Nat} {v : Nat} (h : gw (nums s) m 1 = (v : Int)) (hm : m < s.size) : ∃ u : UInt8, s[m]? = some u ∧ (u.toNat : Int) = (v : Int) := by
  obtain ⟨u, h1, h2⟩ := byte_get s m hm
  refine ⟨u, h1, ?_⟩
  rw [h2, ← h]
  show _ = 0 * 256 + (nums s).getD (m + 0) 0
  rw [Nat.add_zero]
  omega
theorem length_ok {s a b c d : ByteArray} {run seq start num den clk err : Int} {X : List Int} (N : EncN s a b c d run seq start num den clk err X) (hn : 8 ≤ (joined [a, b, c, d]).size ∧ (joined [a, b, c, d]).size ≤ 15) (hf : 1 ≤ nf X ∧ nf X ≤ 8) : F12_d 600 s = some ((s.size : Int), 0) := by
  have hz := N.sz
  obtain ⟨u1, x1, y1⟩ := byteN N.g9 (by omega)
  obtain ⟨u2, x2, y2⟩ := byteN N.g10 (by omega)
  have c0 : decide ((s.size : Int) < 31) = false := by rw [decide_eq_false_iff_not]; omega
  have z29 : (0 : Int) ≤ 29 := by omega
  have z30 : (0 : Int) ≤ 30 := by omega
  have z3 : (0 : Int) ≤ 3 ∧ (3 : Int) ≤ (s.size : Int) := by omega
  have t29 : (29 : Int).toNat = 29 := rfl
  have t30 : (30 : Int).toNat = 30 := rfl
  have t3 : (3 : Int).toNat = 3 := rfl
  have e1 : IntKind.i64.wrap ((joined [a, b, c, d]).size : Int) = ((joined [a, b, c, d]).size : Int) := i64_id (by omega)
  have e2 : IntKind.i64.wrap (nf X : Int) = (nf X : Int) := i64_id (by omega)
  have e3 : i64 (31 + ((joined [a, b, c, d]).size : Int)) = 31 + ((joined [a, b, c, d]).size : Int) := i64_id (by omega)
  have e4 : i64 (64 * (nf X : Int)) = 64 * (nf X : Int) := i64_id (by omega)
  have e5 : i64 (31 + ((joined [a, b, c, d]).size : Int) + 64 * (nf X : Int)) = 31 + ((joined [a, b, c, d]).size : Int) + 64 * (nf X : Int) := i64_id (by omega)
  have e6 : i64 (31 + ((joined [a, b, c, d]).size : Int) + 64 * (nf X : Int) + 4) = (s.size : Int) := by rw [i64_id (by omega)]; omega
  have p1 : F28_d 600 (((joined [a, b, c, d]).size : Int), 8, 15) = some true := pin_yes (by omega)
  have p2 : F28_d 600 ((nf X : Int), 1, 8) = some true := pin_yes (by omega)
  simp only [F12_d, FSpec.d, F12_s, c0, z29, z30, z3, t29, t30, t3, x1, x2, y1, y2, and_self, if_true, N.mag, beq_self_eq_true, Bool.not_true, e1, e2, e3, e4, e5, e6, p1, p2]
theorem read_ok {s a b c d : ByteArray} {run seq start num den clk err : Int} {X : List Int} (P : PV a b c d run seq start num den clk err X) (N : EncN s a b c d run seq start num den clk err X) : F27_d 600 s = some (a, b, c, d, run, seq, start, num, den, clk, err, rowsI X, true) := by
  have hn := P.src.n
  have hl := P.len
  have hf := P.nf
  have hz := N.sz
  have n1 : F42_d 600 (1, s, 3) = some (clk, s, 4) := by rw [← N.g1]; exact number_ok s 3 1 (by omega) (by omega) (by omega)
  have n2 : F42_d 600 (2, s, 4) = some (run, s, 6) := by rw [← N.g2]; exact number_ok s 4 2 (by omega) (by omega) (by omega)
  have n3 : F42_d 600 (4, s, 6) = some (seq, s, 10) := by rw [← N.g3]; exact number_ok s 6 4 (by omega) (by omega) (by omega)
  have n4 : F42_d 600 (7, s, 10) = some (start, s, 17) := by rw [← N.g4]; exact number_ok s 10 7 (by omega) (by omega) (by omega)
  have n5 : F42_d 600 (2, s, 17) = some (num, s, 19) := by rw [← N.g5]; exact number_ok s 17 2 (by omega) (by omega) (by omega)
  have n6 : F42_d 600 (2, s, 19) = some (den, s, 21) := by rw [← N.g6]; exact number_ok s 19 2 (by omega) (by omega) (by omega)
  have n7 : F42_d 600 (6, s, 21) = some (err, s, 27) := by rw [← N.g7]; exact number_ok s 21 6 (by omega) (by omega) (by omega)
  have n8 : F42_d 600 (2, s, 27) = some ((X.length : Int), s, 29) := by rw [← N.g8]; exact number_ok s 27 2 (by omega) (by omega) (by omega)
  have n9 : F42_d 600 (1, s, 29) = some (((joined [a, b, c, d]).size : Int), s, 30) := by rw [← N.g9]; exact number_ok s 29 1 (by omega) (by omega) (by omega)
  have n10 : F42_d 600 (1, s, 30) = some ((nf X : Int), s, 31) := by rw [← N.g10]; exact number_ok s 30 1 (by omega) (by omega) (by omega)
  have t1 : F44_d 600 (((joined [a, b, c, d]).size : Int), s, 31) = some (joined [a, b, c, d], s, ((31 + (joined [a, b, c, d]).size : Nat) : Int)) := by
    have h := text_ok s 31 (joined [a, b, c, d]).size (by omega) (by omega)
    rw [N.name] at h
    exact h
  have e64 : i64 (64 * (nf X : Int)) = ((64 * nf X : Nat) : Int) := by rw [i64_id (by omega)]; omega
  have t2 : F44_d 600 (((64 * nf X : Nat) : Int), s, ((31 + (joined [a, b, c, d]).size : Nat) : Int)) = some (dat X, s, ((31 + (joined [a, b, c, d]).size + 64 * nf X : Nat) : Int)) := by
    have h := text_ok s (31 + (joined [a, b, c, d]).size) (64 * nf X) (by omega) (by omega)
    rw [N.data] at h
    exact h
  have dc := (back X P.smp P.len X.length ⟨P.len.1, Nat.le_refl _⟩).2
  rw [if_pos (getLast_at X P.len.1), List.take_length] at dc
  replace dc : F45_d 600 (dat X, (X.length : Int)) = some (rowsI X, 0) := dc
  have z : ((0 : Int) == 0) = true := rfl
  simp only [F27_d, FSpec.d, F27_s, n1, n2, n3, n4, n5, n6, n7, n8, n9, n10, t1, P.src.q, e64, t2, dc, z]
theorem decode_ok {a b c d : ByteArray} {run seq start num den clk err : Int} {X : List Int} (P : PV a b c d run seq start num den clk err X) : F11_d 600 (enc a b c d run seq start num den clk err X) = some (a, b, c, d, run, seq, start, num, den, clk, err, rowsI X, 0) := by
  have hn := P.src.n
  have hf := P.nf
  have N : EncN (enc a b c d run seq start num den clk err X) a b c d run seq start num den clk err X := encN P _ rfl
  have hz := N.sz
  have l := length_ok N hn hf
  have r := read_ok P N
  have e := enc_ok' P
  have ck : F26_d 600 (enc a b c d run seq start num den clk err X) = some true := by
    have h : (enc a b c d run seq start num den clk err X).size ≤ maxLen := by unfold maxLen; omega
    have h2 : check (enc a b c d run seq start num den clk err X) = true := check_appended _
    exact (if_pos h).trans (by rw [h2]; rfl)
  obtain ⟨s, hs⟩ : ∃ s, s = enc a b c d run seq start num den clk err X := ⟨_, rfl⟩
  rw [← hs] at l r ck e hz ⊢
  have z : ((0 : Int) != 0) = false := rfl
  have c1 : decide ((s.size : Int) < (s.size : Int)) = false := by rw [decide_eq_false_iff_not]; omega
  have c2 : decide ((s.size : Int) > (s.size : Int)) = false := by rw [decide_eq_false_iff_not]; omega
  simp only [F11_d, FSpec.d, F11_s, l, z, c1, c2, ck, Bool.not_true, r, e, beq_self_eq_true]
end Go.Proofs.YtdmedeaknnldcaaDoor
/- Packets: PacketBack, PacketRecords. -/
namespace Go.Proofs.YtdmedeaknnldcaaDoor
open Go.RowKit
set_option linter.unusedVariables false
set_option linter.unusedSimpArgs false
set_option linter.unnecessarySimpa false
theorem bself (a : ByteArray) : (a == a) = true := by
  cases a with
  | mk d =>
    show (d == d) = true
    exact beq_self_eq_true d
theorem psame_ok {a b c d : ByteArray} {run seq start num den clk err : Int} {X : List Int} (hl : X.length ≤ 590) : F13_d 600 (a, b, c, d, run, seq, start, num, den, clk, err, rowsI X, a, b, c, d, run, seq, start, num, den, clk, err, rowsI X) = some true := by
  have s := same_ok X hl
  simp only [F13_d, FSpec.d, F13_s, bself, beq_self_eq_true, Bool.and_self, s]
theorem back_law (t : List Int) (ht : ∀ x ∈ t, -9223372036854775808 ≤ x ∧ x ≤ 9223372036854775807) : F3_d 600 (rowsI t) = some true := by
  by_cases hl : (t.length : Int) ≤ 500
  · have D : Dice t 0 := ⟨ht, by omega, by omega, by omega⟩
    have hroll : F8_d 600 (rowsI t) = some (rowsI t, 0) := rfl
    obtain ⟨a, b, c, d, run, seq, start, num, den, clk, err, X, p', g, P, D1⟩ := packet_ok D
    have hn := P.src.n
    have hf := P.nf
    have N : EncN (enc a b c d run seq start num den clk err X) a b c d run seq start num den clk err X := encN P _ rfl
    have l := length_ok N hn hf
    have e := enc_ok' P
    have de := decode_ok P
    have sm := psame_ok (a := a) (b := b) (c := c) (d := d) (run := run) (seq := seq) (start := start) (num := num) (den := den) (clk := clk) (err := err) (X := X) (by have := P.len; omega)
    have z : ((0 : Int) == 0) = true := rfl
    obtain ⟨s, hs⟩ : ∃ s, s = enc a b c d run seq start num den clk err X := ⟨_, rfl⟩
    rw [← hs] at l e de
    simp only [F3_d, FSpec.d, F3_s, light_ok, hl, decide_true, Bool.not_true, hroll, g, e, de, l, z, sm, beq_self_eq_true, sane_ok]
  · simp only [F3_d, FSpec.d, F3_s, light_ok, hl, decide_false, Bool.not_false, sane_ok]
theorem record_ok {a b c d : ByteArray} {run seq start num den clk err : Int} {X : List Int} (P : PV a b c d run seq start num den clk err X) : F16_d 600 (a, b, c, d, run, seq, start, num, den, clk, err, rowsI X) = some (a, b, c, d, start, 0, num, den, (if clk = 2 then 1099511627776 else err), run, seq, rowsI X, 0) := by
  have h := P.len
  have b : (rowsI X).length * 8 ≤ maxBytes := by rw [rowsI_len]; unfold maxBytes; omega
  have v := valid_ok P
  by_cases hc : clk = 2
  · have c1 : (clk == 2) = true := beq_iff_eq.2 hc
    simp only [F16_d, FSpec.d, F16_s, v, Bool.not_true, c1, b, if_true, if_pos hc]
  · have c1 : (clk == 2) = false := beq_eq_false_iff_ne.2 hc
    simp only [F16_d, FSpec.d, F16_s, v, Bool.not_true, c1, b, if_true, if_neg hc]
theorem rec_loop (X : List Int) (hl : X.length ≤ 590) (a b c d : ByteArray) (x7 x8 x9 x10 x11 x12 x13 : Int) (e f g h : ByteArray) (x19 x20 x21 x22 x23 x24 x25 : Int) : ∀ (k i n : Nat), k < n → i + k = X.length →
    (F5_l14 600).L n ((X.length : Int), (i : Int), a, b, c, d, x7, x8, x9, x10, x11, x12, x13, rowsI X, e, f, g, h, x19, x20, x21, x22, x23, x24, x25, rowsI X) = some (.inr (a, b, c, d, x7, x8, x9, x10, x11, x12, x13, rowsI X, e, f, g, h, x19, x20, x21, x22, x23, x24, x25, rowsI X))
  | 0, i, n, hf, hi => by
    obtain ⟨n, rfl⟩ : ∃ n', n = n' + 1 := ⟨n - 1, by omega⟩
    show (F5_l14 600).b _ _ ((F5_l14 600).L n) some = _
    have : decide ((i : Int) < (X.length : Int)) = false := by rw [decide_eq_false_iff_not]; omega
    simp only [F5_l14, this]
  | k + 1, i, n, hf, hi => by
    obtain ⟨n, rfl⟩ : ∃ n', n = n' + 1 := ⟨n - 1, by omega⟩
    have hlt : i < X.length := by omega
    have c1 : decide ((i : Int) < (X.length : Int)) = true := by rw [decide_eq_true_iff]; omega
    have c2 : (0 : Int) ≤ (i : Int) := by omega
    have c4 : i64 ((i : Int) + 1) = ((i + 1 : Nat) : Int) := by rw [i64_id (by omega)]; omega
    have r1 := rec_loop X hl a b c d x7 x8 x9 x10 x11 x12 x13 e f g h x19 x20 x21 x22 x23 x24 x25 k (i + 1) n (by omega) (by omega)
    show (F5_l14 600).b _ _ ((F5_l14 600).L n) some = _
    obtain ⟨Lf, hL⟩ : ∃ Lf, Lf = (F5_l14 600).L n := ⟨_, rfl⟩
    rw [← hL] at r1 ⊢
    simp only [F5_l14, c1, c2, if_true, Int.toNat_natCast, rowsI_get X i hlt, List.getElem?_cons_zero, bne_self_eq_false, c4]
    exact r1
theorem records_law (t : List Int) (ht : ∀ x ∈ t, -9223372036854775808 ≤ x ∧ x ≤ 9223372036854775807) : F5_d 600 (rowsI t) = some true := by
  by_cases hl : (t.length : Int) ≤ 500
  · have D : Dice t 0 := ⟨ht, by omega, by omega, by omega⟩
    have hroll : F8_d 600 (rowsI t) = some (rowsI t, 0) := rfl
    obtain ⟨a, b, c, d, run, seq, start, num, den, clk, err, X, p', g, P, D1⟩ := packet_ok D
    have h := P.len
    have rc := record_ok P
    obtain ⟨er, her⟩ : ∃ er, er = (if clk = 2 then 1099511627776 else err) := ⟨_, rfl⟩
    rw [← her] at rc
    have lp := rec_loop X (by omega) a b c d run seq start num den clk err a b c d start 0 num den er run seq X.length 0 600 (by omega) (by omega)
    replace lp : (F5_l14 600).L 600 ((X.length : Int), 0, a, b, c, d, run, seq, start, num, den, clk, err, rowsI X, a, b, c, d, start, 0, num, den, er, run, seq, rowsI X) = _ := lp
    by_cases hc : clk = 2
    · rw [if_pos hc] at her
      have c1 : (clk == 2) = true := beq_iff_eq.2 hc
      have c2 : (er == 1099511627776) = true := beq_iff_eq.2 her
      simp only [F5_d, FSpec.d, F5_s, light_ok, hl, decide_true, Bool.not_true, hroll, g, rc, bne_self_eq_false, bself, beq_self_eq_true, Bool.and_self, Bool.not_true, rowsI_len, F5_d14, lp, c1, c2, sane_ok]
    · rw [if_neg hc] at her
      have c1 : (clk == 2) = false := beq_eq_false_iff_ne.2 hc
      have c2 : (er == err) = true := beq_iff_eq.2 her
      simp only [F5_d, FSpec.d, F5_s, light_ok, hl, decide_true, Bool.not_true, hroll, g, rc, bne_self_eq_false, bself, beq_self_eq_true, Bool.and_self, Bool.not_true, rowsI_len, F5_d14, lp, c1, c2, sane_ok]
  · simp only [F5_d, FSpec.d, F5_s, light_ok, hl, decide_false, Bool.not_false, sane_ok]
/-- PacketBack returns true. -/
theorem packet_back (a : Option Addr) (len cap : Nat) (W : World) (w : IntsIn W (.slice a len cap)) (hgl : GlOk (memOf W) W [] (InT sig0 [])) : Calls Tryd.prog 3 #[.slice a len cap] W fun e w' => e = .returned (.bool true) ∧ Below W.heap.size W w' := by
  obtain ⟨xs, hb, hl, hr⟩ := w
  refine CallOk.calls ((F3_e 600).ok (rowsI xs) true (back_law xs hb)) W _ rfl (fun i h h' => ?_) hgl
  obtain rfl : i = 0 := by have : i < 1 := h'; omega
  exact hr _ _
/-- PacketRecords returns true. -/
theorem packet_records (a : Option Addr) (len cap : Nat) (W : World) (w : IntsIn W (.slice a len cap)) (hgl : GlOk (memOf W) W [] (InT sig0 [])) : Calls Tryd.prog 5 #[.slice a len cap] W fun e w' => e = .returned (.bool true) ∧ Below W.heap.size W w' := by
  obtain ⟨xs, hb, hl, hr⟩ := w
  refine CallOk.calls ((F5_e 600).ok (rowsI xs) true (records_law xs hb)) W _ rfl (fun i h h' => ?_) hgl
  obtain rfl : i = 0 := by have : i < 1 := h'; omega
  exact hr _ _
end Go.Proofs.YtdmedeaknnldcaaDoor
/- Packets: PacketDamage. -/
namespace Go.Proofs.YtdmedeaknnldcaaDoor
open Go.RowKit Crc
set_option linter.unusedVariables false
set_option linter.unusedSimpArgs false
set_option linter.unnecessarySimpa false
/-- A header's fixed parts. -/
structure Hd (s : ByteArray) (nm n : Nat) : Prop where
  sz : 31 ≤ s.size
  mag : s.extract 0 3 = ⟨#[83, 78, 1]⟩
  g9 : gw (nums s) 29 1 = (nm : Int)
  g10 : gw (nums s) 30 1 = (n : Int)
theorem gw1 (l : List Int) (m : Nat) : gw l m 1 = l.getD m 0 := by
  show 0 * 256 + l.getD (m + 0) 0 = _
  rw [Nat.add_zero]; omega
theorem getD_take (l : List Int) (m k : Nat) (h : m < k) : (l.take k).getD m 0 = l.getD m 0 := by
  rw [List.getD_eq_getElem?_getD, List.getD_eq_getElem?_getD, List.getElem?_take, if_pos h]
theorem Hd.of_take {s t : ByteArray} {nm n : Nat} (h : Hd s nm n) (ht : 31 ≤ t.size) (e : (nums t).take 31 = (nums s).take 31) : Hd t nm n := by
  refine ⟨ht, ?_, ?_, ?_⟩
  · apply nums_inj
    rw [← h.mag, nums_ext, nums_ext, List.drop_zero, List.drop_zero]
    have e2 : ((nums t).take 31).take 3 = ((nums s).take 31).take 3 := by rw [e]
    rwa [List.take_take, List.take_take] at e2
  · rw [← h.g9, gw1, gw1, ← getD_take (nums t) 29 31 (by omega), ← getD_take (nums s) 29 31 (by omega), e]
  · rw [← h.g10, gw1, gw1, ← getD_take (nums t) 30 31 (by omega), ← getD_take (nums s) 30 31 (by omega), e]
theorem hd_length {s : ByteArray} {nm n : Nat} (N : Hd s nm n) (hz : s.size ≤ 100000) (hn : 8 ≤ nm ∧ nm ≤ 15) (hf : 1 ≤ n ∧ n ≤ 8) : F12_d 600 s = some (31 + (nm : Int) + 64 * (n : Int) + 4, 0) := by
  have h31 := N.sz
  obtain ⟨u1, x1, y1⟩ := byteN N.g9 (by omega)
  obtain ⟨u2, x2, y2⟩ := byteN N.g10 (by omega)
  have c0 : decide ((s.size : Int) < 31) = false := by rw [decide_eq_false_iff_not]; omega
  have z29 : (0 : Int) ≤ 29 := by omega
  have z30 : (0 : Int) ≤ 30 := by omega
  have z3 : (0 : Int) ≤ 3 ∧ (3 : Int) ≤ (s.size : Int) := by omega
  have t29 : (29 : Int).toNat = 29 := rfl
  have t30 : (30 : Int).toNat = 30 := rfl
  have t3 : (3 : Int).toNat = 3 := rfl
  have e1 : IntKind.i64.wrap (nm : Int) = (nm : Int) := i64_id (by omega)
  have e2 : IntKind.i64.wrap (n : Int) = (n : Int) := i64_id (by omega)
  have e3 : i64 (31 + (nm : Int)) = 31 + (nm : Int) := i64_id (by omega)
  have e4 : i64 (64 * (n : Int)) = 64 * (n : Int) := i64_id (by omega)
  have e5 : i64 (31 + (nm : Int) + 64 * (n : Int)) = 31 + (nm : Int) + 64 * (n : Int) := i64_id (by omega)
  have e6 : i64 (31 + (nm : Int) + 64 * (n : Int) + 4) = 31 + (nm : Int) + 64 * (n : Int) + 4 := i64_id (by omega)
  have p1 : F28_d 600 ((nm : Int), 8, 15) = some true := pin_yes (by omega)
  have p2 : F28_d 600 ((n : Int), 1, 8) = some true := pin_yes (by omega)
  simp only [F12_d, FSpec.d, F12_s, c0, z29, z30, z3, t29, t30, t3, x1, x2, y1, y2, and_self, if_true, N.mag, beq_self_eq_true, Bool.not_true, e1, e2, e3, e4, e5, e6, p1, p2]
abbrev noP (e : Int) : ByteArray × ByteArray × ByteArray × ByteArray × Int × Int × Int × Int × Int × Int × Int × (List (List AV)) × Int := (⟨#[]⟩, ⟨#[]⟩, ⟨#[]⟩, ⟨#[]⟩, 0, 0, 0, 0, 0, 0, 0, [], e)
theorem dec_short (s : ByteArray) (h : s.size < 31) : F11_d 600 s = some (noP 4) := by
  have c0 : decide ((s.size : Int) < 31) = true := by rw [decide_eq_true_iff]; omega
  have l : F12_d 600 s = some (0, 4) := by simp only [F12_d, FSpec.d, F12_s, c0]
  have z : ((4 : Int) != 0) = true := rfl
  simp only [F11_d, FSpec.d, F11_s, l, z]
theorem dec_cut {s : ByteArray} {nm n : Nat} (N : Hd s nm n) (hz : s.size < 31 + nm + 64 * n + 4) (hn : 8 ≤ nm ∧ nm ≤ 15) (hf : 1 ≤ n ∧ n ≤ 8) : F11_d 600 s = some (noP 4) := by
  have l := hd_length N (by omega) hn hf
  have z : ((0 : Int) != 0) = false := rfl
  have c1 : decide ((s.size : Int) < 31 + (nm : Int) + 64 * (n : Int) + 4) = true := by rw [decide_eq_true_iff]; omega
  simp only [F11_d, FSpec.d, F11_s, l, z, c1]
theorem dec_sum {s : ByteArray} {nm n : Nat} (N : Hd s nm n) (hz : s.size = 31 + nm + 64 * n + 4) (hn : 8 ≤ nm ∧ nm ≤ 15) (hf : 1 ≤ n ∧ n ≤ 8) (hc : check s = false) : F11_d 600 s = some (noP 5) := by
  have l := hd_length N (by omega) hn hf
  have z : ((0 : Int) != 0) = false := rfl
  have c1 : decide ((s.size : Int) < 31 + (nm : Int) + 64 * (n : Int) + 4) = false := by rw [decide_eq_false_iff_not]; omega
  have c2 : decide ((s.size : Int) > 31 + (nm : Int) + 64 * (n : Int) + 4) = false := by rw [decide_eq_false_iff_not]; omega
  have ck : F26_d 600 s = some false := by
    have h : s.size ≤ maxLen := by unfold maxLen; omega
    exact (if_pos h).trans (by rw [hc]; rfl)
  simp only [F11_d, FSpec.d, F11_s, l, z, c1, c2, ck, Bool.not_false]
theorem flipTo_take (l : List UInt8) (k m j : Nat) (h : j ≤ k / 8) : ∀ i : Nat, (flipTo l k m i).take j = l.take j
  | 0 => rfl
  | i + 1 => by
    show ((flipTo l k m i).set ((k + i) / 8) _).take j = _
    rw [List.take_set, List.set_eq_of_length_le (by rw [List.length_take]; omega), flipTo_take l k m j h i]
theorem nums_mk (l : List UInt8) : nums ⟨l.toArray⟩ = l.map fun x => (x.toNat : Int) := by simp [nums]
theorem damage_law (t : List Int) (ht : ∀ x ∈ t, -9223372036854775808 ≤ x ∧ x ≤ 9223372036854775807) (at_ mask : Int) (hat : 0 ≤ at_ ∧ at_ ≤ 65535) (hm : 0 ≤ mask ∧ mask ≤ 4294967295) : F4_d 600 (rowsI t, at_, mask) = some true := by
  by_cases hl : (t.length : Int) ≤ 500
  · have D : Dice t 0 := ⟨ht, by omega, by omega, by omega⟩
    have hroll : F8_d 600 (rowsI t) = some (rowsI t, 0) := rfl
    obtain ⟨a, b, c, d, run, seq, start, num, den, clk, err, X, p', g, P, D1⟩ := packet_ok D
    have hn := P.src.n
    have hf := P.nf
    have N : EncN (enc a b c d run seq start num den clk err X) a b c d run seq start num den clk err X := encN P _ rfl
    have e := enc_ok' P
    have de := decode_ok P
    have hz := N.sz
    have H : Hd (enc a b c d run seq start num den clk err X) (joined [a, b, c, d]).size (nf X) := ⟨by omega, N.mag, N.g9, N.g10⟩
    have z : ((0 : Int) == 0) = true := rfl
    have z1 : ((0 : Int) != 0) = false := rfl
    have z4 : ((4 : Int) == 4) = true := rfl
    have z5 : ((5 : Int) == 5) = true := rfl
    have z50 : ((5 : Int) == 0) = false := rfl
    obtain ⟨B, hB⟩ : ∃ B, B = bdy a b c d run seq start num den clk err X := ⟨_, rfl⟩
    have hBs : B.size + 4 = 31 + (joined [a, b, c, d]).size + 64 * nf X + 4 := by rw [hB, bdy_size]
    have hsB : enc a b c d run seq start num den clk err X = appended B := by rw [hB]; rfl
    obtain ⟨s, hs⟩ : ∃ s, s = enc a b c d run seq start num den clk err X := ⟨_, rfl⟩
    rw [← hs] at hsB
    obtain ⟨S, hS⟩ : ∃ S : Nat, S = s.size := ⟨_, rfl⟩
    rw [← hs] at e de hz H
    have hS2 : 107 ≤ S ∧ S ≤ 562 := by omega
    have sI : (s.size : Int) = (S : Int) := by rw [hS]
    have c100 : decide ((S : Int) < 100) = false := by rw [decide_eq_false_iff_not]; omega
    have e1 : i64 (8 * (S : Int)) = 8 * (S : Int) := i64_id (by omega)
    have e2 : i64 (8 * (S : Int) - 248) = 8 * (S : Int) - 248 := i64_id (by omega)
    have e3 : i64 (8 * (S : Int) - 248 - 31) = 8 * (S : Int) - 248 - 31 := i64_id (by omega)
    have c3 : ¬ (8 * (S : Int) - 248 - 31 = 0) := by omega
    have w1 : IntKind.i64.wrap at_ = at_ := i64_id (by omega)
    have w2 : IntKind.i64.wrap mask = mask := i64_id (by omega)
    obtain ⟨r, hr⟩ : ∃ r, r = at_.tmod (8 * (S : Int) - 248 - 31) := ⟨_, rfl⟩
    have hr1 : 0 ≤ r ∧ r < 8 * (S : Int) - 248 - 31 := by
      rw [hr]
      exact ⟨Int.tmod_nonneg _ hat.1, Int.tmod_lt_of_pos _ (by omega)⟩
    have e4 : i64 (248 + r) = 248 + r := i64_id (by omega)
    obtain ⟨k, hk⟩ : ∃ k : Nat, 248 + r = (k : Int) := ⟨(248 + r).toNat, by omega⟩
    have ek : i64 (k : Int) = (k : Int) := i64_id (by omega)
    have kk : 248 ≤ k ∧ k + 32 ≤ 8 * S := by omega
    obtain ⟨m, hm2⟩ : ∃ m : Nat, mask = (m : Int) := ⟨mask.toNat, by omega⟩
    have hm3 : m < 2 ^ 32 := by have : (2 : Nat) ^ 32 = 4294967296 := by decide
                                omega
    obtain ⟨y, hy⟩ : ∃ y : ByteArray, y = ⟨(flipTo s.data.toList k m 32).toArray⟩ := ⟨_, rfl⟩
    have fl : F14_d 600 (s, (k : Int), 32, mask) = some (y, 0) := by
      have hc : s.size ≤ 1048576 ∧ (0 : Int) ≤ (k : Int) ∧ (1 : Int) ≤ 32 ∧ (32 : Int) ≤ 32 ∧ (0 : Int) ≤ mask ∧ mask.toNat < 2 ^ (32 : Int).toNat ∧ (k : Int).toNat + (32 : Int).toNat ≤ 8 * s.size := by
        refine ⟨by omega, by omega, by omega, by omega, hm.1, ?_, by omega⟩
        rw [hm2]
        exact hm3
      refine (if_pos hc).trans ?_
      rw [hy, hm2]
      rfl
    have hys : y.size = S := by
      rw [hy, hS]
      show (flipTo s.data.toList k m 32).toArray.size = _
      rw [List.size_toArray, flipTo_length, size_data]
    have hyd : F11_d 600 y = some (if mask = 0 then (a, b, c, d, run, seq, start, num, den, clk, err, rowsI X, 0) else noP 5) := by
      have ckf := check_flipped B k 32 m (by omega) hm3 (by omega)
      rw [← hsB, ← hy] at ckf
      by_cases h0 : mask = 0
      · rw [if_pos h0]
        have hm0 : m = 0 := by omega
        have hid : ∀ i : Nat, flipTo s.data.toList k 0 i = s.data.toList := by
          intro i
          induction i with
          | zero => rfl
          | succ i ih =>
            show (flipTo s.data.toList k 0 i).set ((k + i) / 8) ((flipTo s.data.toList k 0 i).getD ((k + i) / 8) 0 ^^^ UInt8.ofNat (0 / 2 ^ i % 2 * 2 ^ ((k + i) % 8))) = _
            rw [ih, Nat.zero_div, Nat.zero_mod, Nat.zero_mul]
            apply List.ext_getElem
            · simp
            · intro j h1 h2
              rw [List.getElem_set]
              split
              · rename_i hj
                subst hj
                rw [List.getD_eq_getElem?_getD, List.getElem?_eq_getElem h2]
                show s.data.toList[(k + i) / 8] ^^^ 0 = _
                exact UInt8.xor_zero
              · rfl
        have : y = s := by
          rw [hy, hm0, hid]
        rw [this]
        exact de
      · rw [if_neg h0]
        have hm0 : (m == 0) = false := beq_eq_false_iff_ne.2 (by omega)
        rw [hm0] at ckf
        refine dec_sum (H.of_take (by omega) ?_) (by omega) hn hf ckf
        rw [hy, nums_mk, ← List.map_take, flipTo_take _ _ _ _ (by omega)]
        show _ = (s.data.toList.map _).take 31
        rw [List.map_take]
    have e5 : i64 ((S : Int) - 31) = (S : Int) - 31 := i64_id (by omega)
    obtain ⟨v1, p1, g1, r1, D2⟩ := next_ok 600 (n := (S : Int) - 31) (by omega) D1
    obtain ⟨v2, p2, g2, r2, D3⟩ := next_ok 600 (n := 31) (by omega) D2
    have e6 : i64 (31 + v1) = ((31 + v1.toNat : Nat) : Int) := by rw [i64_id (by omega)]; omega
    have c4 : (0 : Int) ≤ ((31 + v1.toNat : Nat) : Int) ∧ ((31 + v1.toNat : Nat) : Int) ≤ (S : Int) := by omega
    have c5 : (0 : Int) ≤ v2 ∧ v2 ≤ (S : Int) := by omega
    have d1 : F11_d 600 (s.extract 0 (31 + v1.toNat)) = some (noP 4) := by
      have hsz : (s.extract 0 (31 + v1.toNat)).size = 31 + v1.toNat := ext_size s 0 _ (by omega)
      refine dec_cut (H.of_take (by omega) ?_) (by omega) hn hf
      rw [nums_ext, List.drop_zero, List.take_take, Nat.min_eq_left (by omega)]
    have d2 : F11_d 600 (s.extract 0 v2.toNat) = some (noP 4) := dec_short _ (by rw [ext_size s 0 _ (by omega)]; omega)
    by_cases h0 : mask = 0
    · rw [if_pos h0] at hyd
      have b1 : (mask == 0) = true := beq_iff_eq.2 h0
      simp only [F4_d, FSpec.d, F4_s, light_ok, hl, decide_true, Bool.not_true, hroll, g, e, z1, sI, c100, e1, e2, e3, c3, if_false, w1, w2, ← hr, hk, ek, fl, hyd, e5, g1, e6, c4, c5, and_self, if_true, Int.toNat_natCast, d1, g2, d2, z, b1, beq_self_eq_true, z4, sane_ok]
    · rw [if_neg h0] at hyd
      have b1 : (mask == 0) = false := beq_eq_false_iff_ne.2 h0
      simp only [F4_d, FSpec.d, F4_s, light_ok, hl, decide_true, Bool.not_true, hroll, g, e, z1, sI, c100, e1, e2, e3, c3, if_false, w1, w2, ← hr, hk, ek, fl, hyd, e5, g1, e6, c4, c5, and_self, if_true, Int.toNat_natCast, d1, g2, d2, z, b1, z50, beq_self_eq_true, z4, z5, sane_ok]
  · simp only [F4_d, FSpec.d, F4_s, light_ok, hl, decide_false, Bool.not_false, sane_ok]
/-- PacketDamage returns true. -/
theorem packet_damage (a : Option Addr) (len cap : Nat) (x y : Int) (W : World) (w : IntsIn W (.slice a len cap)) (hx : 0 ≤ x ∧ x ≤ 65535) (hy : 0 ≤ y ∧ y ≤ 4294967295) (hgl : GlOk (memOf W) W [] (InT sig0 [])) : Calls Tryd.prog 4 #[.slice a len cap, .int .u16 x, .int .u32 y] W fun e w' => e = .returned (.bool true) ∧ Below W.heap.size W w' := by
  obtain ⟨xs, hb, hl, hr⟩ := w
  refine CallOk.calls ((F4_e 600).ok (rowsI xs, x, y) true (damage_law xs hb x y hx hy)) W _ rfl (fun i h h' => ?_) hgl
  rcases (show i = 0 ∨ i = 1 ∨ i = 2 by have : i < 3 := h'; omega) with rfl | rfl | rfl
  · exact hr _ _
  · exact .v
  · exact .v
end Go.Proofs.YtdmedeaknnldcaaDoor
