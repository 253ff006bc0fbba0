/- Steim, the plain law: the document's Codes, Decode, Canonical of any string. -/
import Derived.Test.YteplhedodcaljaaStN
namespace Go.Proofs.Yteplhedodcaljaa
open Go.RowKit
set_option linter.unusedVariables false
set_option linter.unusedSimpArgs false
set_option linter.unnecessarySimpa false
theorem rpair_ok {x : Int} {i : Nat} (hx : 0 ≤ x ∧ x ≤ 4294967295) (hi : i ≤ 15) : F52_d 600 (x, (i : Int)) = some (x / 2 ^ (30 - 2 * i) % 4, 0) := by
  have c : ¬ (30 - 2 * (i : Int) < 0) := by omega
  have e0 : i64 (2 * (i : Int)) = 2 * (i : Int) := i64_id (by omega)
  have e00 : i64 (30 - 2 * (i : Int)) = 30 - 2 * (i : Int) := i64_id (by omega)
  have e3 : IntKind.u64.wrap (30 - 2 * (i : Int)) = 30 - 2 * (i : Int) := u64_id (by omega)
  have e1 : shR .i64 x (30 - 2 * (i : Int)) = x / 2 ^ (30 - 2 * i) := by
    rw [shR_ok (by omega)]
    have : (30 - 2 * (i : Int)).toNat = 30 - 2 * i := by omega
    rw [this]
  have e2 : bAnd .i64 (x / 2 ^ (30 - 2 * i)) 3 = x / 2 ^ (30 - 2 * i) % 4 := bAnd_ok (w := 2) (by omega)
  simp only [F52_d, FSpec.d, F52_s, rin_yes hx, rin_yes (show 0 ≤ (i : Int) ∧ (i : Int) ≤ 15 by omega), Bool.not_true, e0, e00, e3, c, if_false, e1, e2]
theorem rcod_loop (w : Int) (hw : 0 ≤ w ∧ w ≤ 4294967295) : ∀ (k i f : Nat), k < f → i + k = 16 → (F29_l10 600).L f (rowsI ((List.range i).map fun j => w / 2 ^ (30 - 2 * j) % 4), w, (i : Int)) = some (rowsI ((List.range 16).map fun j => w / 2 ^ (30 - 2 * j) % 4))
  | 0, i, f, hf, hi => by
    obtain ⟨f, rfl⟩ : ∃ f', f = f' + 1 := ⟨f - 1, by omega⟩
    obtain rfl : i = 16 := by omega
    show (F29_l10 600).b _ _ ((F29_l10 600).L f) some = _
    have c : decide (((16 : Nat) : Int) < 16) = false := rfl
    simp only [F29_l10, c]
  | k + 1, i, f, hf, hi => by
    obtain ⟨f, rfl⟩ : ∃ f', f = f' + 1 := ⟨f - 1, by omega⟩
    have r1 := rcod_loop w hw k (i + 1) f (by omega) (by omega)
    show (F29_l10 600).b _ _ ((F29_l10 600).L f) some = _
    obtain ⟨Lf, hL⟩ : ∃ Lf, Lf = (F29_l10 600).L f := ⟨_, rfl⟩
    rw [← hL] at r1 ⊢
    have c1 : decide ((i : Int) < 16) = true := by rw [decide_eq_true_iff]; omega
    have c4 : i64 ((i : Int) + 1) = ((i + 1 : Nat) : Int) := by rw [i64_id (by omega)]; omega
    have hb : ((rowsI ((List.range i).map fun j => w / 2 ^ (30 - 2 * j) % 4)).length + 1) * 8 ≤ maxBytes := by
      rw [rowsI_len]; simp; unfold maxBytes; omega
    have e : (List.range (i + 1)).map (fun j => w / 2 ^ (30 - 2 * j) % 4) = (List.range i).map (fun j => w / 2 ^ (30 - 2 * j) % 4) ++ [w / 2 ^ (30 - 2 * i) % 4] := by
      rw [List.range_succ, List.map_append]; rfl
    rw [e] at r1
    simp only [F29_l10, c1, rpair_ok hw (show i ≤ 15 by omega), len1, hb, if_true, rowsI_snoc, c4]
    exact r1
theorem rcodes_ok (f : ByteArray) (h : f.size = 64) : F29_d 600 f = some (rowsI ((List.range 16).map fun j => get4 f 0 / 2 ^ (30 - 2 * j) % 4), 0) := by
  have c : ((f.size : Int) != 64) = false := by rw [h]; rfl
  have g := rget4_ok f 0 (by omega) (by omega) (by omega)
  have r := rcod_loop (get4 f 0) (get4_rng f 0) 16 0 600 (by omega) rfl
  replace r : (F29_l10 600).L 600 (([] : List (List AV)), get4 f 0, 0) = _ := r
  replace g : F19_d 600 (f, 0, 4) = some (get4 f 0, 0) := g
  simp only [F29_d, FSpec.d, F29_s, c, g, F29_d10, r]
theorem rcodes_no (f : ByteArray) (h : f.size ≠ 64) : F29_d 600 f = some ([], 3) := by
  have c : ((f.size : Int) != 64) = true := by rw [bne_iff_ne]; omega
  simp only [F29_d, FSpec.d, F29_s, c]
theorem codes_same (f : ByteArray) : ∃ (l : List Int) (e : Int), F28_d 600 f = some (rowsI l, e) ∧ F29_d 600 f = some (rowsI l, e) ∧ l.length ≤ 16 := by
  by_cases h : f.size = 64
  · exact ⟨_, 0, codes_ok f h, rcodes_ok f h, by simp⟩
  · exact ⟨[], 3, codes_no f h, rcodes_no f h, by simp⟩
/-! A word's differences. -/
theorem runp_step (n W : Nat) (hW2 : 1 ≤ W ∧ W ≤ 32) (hnW : n * W = 32) (sg : Int → Int) (hs : ∀ u, 0 ≤ u → u < 2 ^ W → F49_d 600 (u, (W : Int)) = some (sg u, 0)) (acc : List Int) (ha : acc.length ≤ 10000) (x2 : List (List AV)) (x3 : ByteArray) (x4 : Int) (x5 : ByteArray) (x6 v : Int) (i f : Nat) (hi : i < n) :
    (F48_l33 600).L (f + 1) (rowsI acc, x2, x3, x4, x5, x6, v, (n : Int), (W : Int), (i : Int)) = (F48_l33 600).L f (rowsI (acc ++ [sg (v / 2 ^ (32 - W * (i + 1)) % 2 ^ W)]), x2, x3, x4, x5, x6, v, (n : Int), (W : Int), ((i + 1 : Nat) : Int)) := by
  show (F48_l33 600).b _ _ ((F48_l33 600).L f) some = _
  obtain ⟨Lf, hL⟩ : ∃ Lf, Lf = (F48_l33 600).L f := ⟨_, rfl⟩
  rw [← hL]
  have hm : W * (i + 1) ≤ 32 := by
    have : W * (i + 1) ≤ W * n := Nat.mul_le_mul_left _ (by omega)
    rw [Nat.mul_comm W n, hnW] at this
    exact this
  have c1 : decide ((i : Int) < (n : Int)) = true := by rw [decide_eq_true_iff]; omega
  have e1 : i64 ((i : Int) + 1) = ((i + 1 : Nat) : Int) := by
    have : i + 1 ≤ W * (i + 1) := Nat.le_mul_of_pos_left _ (by omega)
    rw [i64_id (by omega)]; omega
  have e2 : i64 ((W : Int) * ((i + 1 : Nat) : Int)) = ((W * (i + 1) : Nat) : Int) := by
    rw [← Int.natCast_mul, i64_id (by omega)]
  have e3 : i64 (32 - ((W * (i + 1) : Nat) : Int)) = ((32 - W * (i + 1) : Nat) : Int) := by rw [i64_id (by omega)]; omega
  have e4 : IntKind.u64.wrap ((32 - W * (i + 1) : Nat) : Int) = ((32 - W * (i + 1) : Nat) : Int) := u64_id (by omega)
  have e5 : IntKind.u64.wrap (W : Int) = (W : Int) := u64_id (by omega)
  have c3 : ¬ (((32 - W * (i + 1) : Nat) : Int) < 0) := by omega
  have c4 : ¬ ((W : Int) < 0) := by omega
  have e6 : shR .i64 v ((32 - W * (i + 1) : Nat) : Int) = v / 2 ^ (32 - W * (i + 1)) := by
    rw [shR_ok (by omega), Int.toNat_natCast]
  have hp : (1 : Int) ≤ 2 ^ W := Int.pow_pos (by omega)
  have hp2 : (2 : Int) ^ W ≤ 2 ^ 32 := two_le hW2.2
  have e7 : i64 (shL .i64 1 (W : Int) - 1) = 2 ^ W - 1 := by
    have := shL_ok (x := 1) (y := (W : Int)) (by omega) (by rw [Int.toNat_natCast]; omega)
    rw [this, Int.toNat_natCast, i64_id (by omega)]
    omega
  have e8 : bAnd .i64 (v / 2 ^ (32 - W * (i + 1))) (2 ^ W - 1) = v / 2 ^ (32 - W * (i + 1)) % 2 ^ W := bAnd_ok (by omega)
  have e9 := hs (v / 2 ^ (32 - W * (i + 1)) % 2 ^ W) (Int.emod_nonneg _ (by omega)) (Int.emod_lt_of_pos _ (by omega))
  have hb : ((rowsI acc).length + 1) * 8 ≤ maxBytes := by rw [rowsI_len]; unfold maxBytes; omega
  simp only [F48_l33, c1, e1, e2, e3, e4, e5, c3, c4, if_false, e6, e7, e8, e9, len1, hb, if_true, rowsI_snoc]
  first | exact if_pos trivial | exact if_neg (fun h => h) | rfl
theorem runp_end (acc : List Int) (x2 : List (List AV)) (x3 : ByteArray) (x4 : Int) (x5 : ByteArray) (x6 v n W : Int) (f : Nat) : (F48_l33 600).L (f + 1) (rowsI acc, x2, x3, x4, x5, x6, v, n, W, n) = some (rowsI acc, x2, x3, x4, x5, x6) := by
  show (F48_l33 600).b _ _ ((F48_l33 600).L f) some = _
  have c : decide (n < n) = false := by rw [decide_eq_false_iff_not]; omega
  simp only [F48_l33, c]
theorem runp_ok (acc : List Int) (ha : acc.length ≤ 9000) (x2 : List (List AV)) (x3 : ByteArray) (x4 : Int) (x5 : ByteArray) (x6 : Int) {c v : Int} (hc : c = 1 ∨ c = 2 ∨ c = 3) (hv : 0 ≤ v ∧ v ≤ 4294967295) :
    ∃ n W : Int, [[AV.v (.int .i64 0)], [AV.v (.int .i64 4)], [AV.v (.int .i64 2)], [AV.v (.int .i64 1)]][c.toNat]? = some [AV.v (.int .i64 n)] ∧ n ≠ 0 ∧ i64 ((32 : Int).tdiv n) = W ∧ F48_d33 600 (rowsI acc, x2, x3, x4, x5, x6, v, n, W, 0) = some (rowsI (acc ++ unp c v), x2, x3, x4, x5, x6) := by
  rcases hc with rfl | rfl | rfl
  · refine ⟨4, 8, rfl, by omega, by kernel_rfl, ?_⟩
    have hs : ∀ u, 0 ≤ u → u < 2 ^ 8 → F49_d 600 (u, ((8 : Nat) : Int)) = some (sgn8 u, 0) := fun u h1 h2 => rsign8 ⟨h1, by omega⟩
    have s1 := runp_step 4 8 (by omega) (by omega) sgn8 hs acc (by omega) x2 x3 x4 x5 x6 v 0 599 (by omega)
    have s2 := runp_step 4 8 (by omega) (by omega) sgn8 hs (acc ++ [sgn8 (v / 2 ^ (32 - 8 * (0 + 1)) % 2 ^ 8)]) (by simp; omega) x2 x3 x4 x5 x6 v 1 598 (by omega)
    have s3 := runp_step 4 8 (by omega) (by omega) sgn8 hs (acc ++ [sgn8 (v / 2 ^ (32 - 8 * (0 + 1)) % 2 ^ 8)] ++ [sgn8 (v / 2 ^ (32 - 8 * (1 + 1)) % 2 ^ 8)]) (by simp; omega) x2 x3 x4 x5 x6 v 2 597 (by omega)
    have s4 := runp_step 4 8 (by omega) (by omega) sgn8 hs (acc ++ [sgn8 (v / 2 ^ (32 - 8 * (0 + 1)) % 2 ^ 8)] ++ [sgn8 (v / 2 ^ (32 - 8 * (1 + 1)) % 2 ^ 8)] ++ [sgn8 (v / 2 ^ (32 - 8 * (2 + 1)) % 2 ^ 8)]) (by simp; omega) x2 x3 x4 x5 x6 v 3 596 (by omega)
    have s5 := runp_end (acc ++ [sgn8 (v / 2 ^ (32 - 8 * (0 + 1)) % 2 ^ 8)] ++ [sgn8 (v / 2 ^ (32 - 8 * (1 + 1)) % 2 ^ 8)] ++ [sgn8 (v / 2 ^ (32 - 8 * (2 + 1)) % 2 ^ 8)] ++ [sgn8 (v / 2 ^ (32 - 8 * (3 + 1)) % 2 ^ 8)]) x2 x3 x4 x5 x6 v 4 8 595
    have u : acc ++ unp 1 v = acc ++ [sgn8 (v / 2 ^ (32 - 8 * (0 + 1)) % 2 ^ 8)] ++ [sgn8 (v / 2 ^ (32 - 8 * (1 + 1)) % 2 ^ 8)] ++ [sgn8 (v / 2 ^ (32 - 8 * (2 + 1)) % 2 ^ 8)] ++ [sgn8 (v / 2 ^ (32 - 8 * (3 + 1)) % 2 ^ 8)] := by
      have : unp 1 v = [sgn8 (v / 2 ^ (32 - 8 * (0 + 1)) % 2 ^ 8), sgn8 (v / 2 ^ (32 - 8 * (1 + 1)) % 2 ^ 8), sgn8 (v / 2 ^ (32 - 8 * (2 + 1)) % 2 ^ 8), sgn8 (v / 2 ^ (32 - 8 * (3 + 1)) % 2 ^ 8)] := by
        show [_, _, _, sgn8 (v % 256)] = [_, _, _, sgn8 (v / 1 % 256)]
        rw [Int.ediv_one]
        rfl
      rw [this]
      simp only [List.append_assoc, List.cons_append, List.nil_append]
    rw [u]
    exact s1.trans (s2.trans (s3.trans (s4.trans s5)))
  · refine ⟨2, 16, rfl, by omega, by kernel_rfl, ?_⟩
    have hs : ∀ u, 0 ≤ u → u < 2 ^ 16 → F49_d 600 (u, ((16 : Nat) : Int)) = some (sgn16 u, 0) := fun u h1 h2 => rsign16 ⟨h1, by omega⟩
    have s1 := runp_step 2 16 (by omega) (by omega) sgn16 hs acc (by omega) x2 x3 x4 x5 x6 v 0 599 (by omega)
    have s2 := runp_step 2 16 (by omega) (by omega) sgn16 hs (acc ++ [sgn16 (v / 2 ^ (32 - 16 * (0 + 1)) % 2 ^ 16)]) (by simp; omega) x2 x3 x4 x5 x6 v 1 598 (by omega)
    have s5 := runp_end (acc ++ [sgn16 (v / 2 ^ (32 - 16 * (0 + 1)) % 2 ^ 16)] ++ [sgn16 (v / 2 ^ (32 - 16 * (1 + 1)) % 2 ^ 16)]) x2 x3 x4 x5 x6 v 2 16 597
    have u : acc ++ unp 2 v = acc ++ [sgn16 (v / 2 ^ (32 - 16 * (0 + 1)) % 2 ^ 16)] ++ [sgn16 (v / 2 ^ (32 - 16 * (1 + 1)) % 2 ^ 16)] := by
      have : unp 2 v = [sgn16 (v / 2 ^ (32 - 16 * (0 + 1)) % 2 ^ 16), sgn16 (v / 2 ^ (32 - 16 * (1 + 1)) % 2 ^ 16)] := by
        show [_, sgn16 (v % 65536)] = [_, sgn16 (v / 1 % 65536)]
        rw [Int.ediv_one]
        rfl
      rw [this]
      simp only [List.append_assoc, List.cons_append, List.nil_append]
    rw [u]
    exact s1.trans (s2.trans s5)
  · refine ⟨1, 32, rfl, by omega, by kernel_rfl, ?_⟩
    have hs : ∀ u, 0 ≤ u → u < 2 ^ 32 → F49_d 600 (u, ((32 : Nat) : Int)) = some (sgn32 u, 0) := fun u h1 h2 => rsign32 ⟨h1, by omega⟩
    have s1 := runp_step 1 32 (by omega) (by omega) sgn32 hs acc (by omega) x2 x3 x4 x5 x6 v 0 599 (by omega)
    have s5 := runp_end (acc ++ [sgn32 (v / 2 ^ (32 - 32 * (0 + 1)) % 2 ^ 32)]) x2 x3 x4 x5 x6 v 1 32 598
    have u : acc ++ unp 3 v = acc ++ [sgn32 (v / 2 ^ (32 - 32 * (0 + 1)) % 2 ^ 32)] := by
      have : unp 3 v = [sgn32 (v / 2 ^ (32 - 32 * (0 + 1)) % 2 ^ 32)] := by
        show [sgn32 (v % 4294967296)] = [sgn32 (v / 1 % 4294967296)]
        rw [Int.ediv_one]
      rw [this]
    rw [u]
    exact s1.trans s5
theorem unp_zero (v : Int) : unp 0 v = [] := rfl
theorem rfrm_loop (s : ByteArray) (hs : s.size ≤ 900000) (k : Nat) (hk : 64 * k + 64 ≤ s.size) (h12 : k = 0 → codA s 0 1 = 0 ∧ codA s 0 2 = 0) (acc : List Int) (ha : acc.length ≤ 1000) : ∀ (m n f : Nat), m < f → n + m = 15 →
    (F48_l19 600).L f (rowsI (acc ++ frm s k n), rowsI ((List.range 16).map fun j => get4 s (64 * k) / 2 ^ (30 - 2 * j) % 4), s, (k : Int), s.extract (64 * k) (64 * k + 64), ((n + 1 : Nat) : Int)) = some (rowsI (acc ++ frm s k 15), s, (k : Int))
  | 0, n, f, hf, hi => by
    obtain ⟨f, rfl⟩ : ∃ f', f = f' + 1 := ⟨f - 1, by omega⟩
    obtain rfl : n = 15 := by omega
    show (F48_l19 600).b _ _ ((F48_l19 600).L f) some = _
    have c : decide (((15 + 1 : Nat) : Int) < 16) = false := rfl
    simp only [F48_l19, c]
  | m + 1, n, f, hf, hi => by
    obtain ⟨f, rfl⟩ : ∃ f', f = f' + 1 := ⟨f - 1, by omega⟩
    have r1 := rfrm_loop s hs k hk h12 acc ha m (n + 1) f (by omega) (by omega)
    have c1 : decide (((n + 1 : Nat) : Int) < 16) = true := by rw [decide_eq_true_iff]; omega
    have c2 : (0 : Int) ≤ ((n + 1 : Nat) : Int) := by omega
    have e1 : i64 (4 * ((n + 1 : Nat) : Int)) = ((4 * (n + 1) : Nat) : Int) := by rw [i64_id (by omega)]; omega
    have hsz := ext_size s (64 * k) (64 * k + 64) hk
    have g := rget4_ok (s.extract (64 * k) (64 * k + 64)) (4 * (n + 1)) (by omega) (by omega) (by omega)
    rw [get4_ext s (64 * k) (64 * k + 64) (4 * (n + 1)) (by omega)] at g
    have e2 := cod_at s k (n + 1) (by omega)
    have l2 := frm_len s k n
    have hr := codA_rng s k (n + 1)
    have c4 : i64 (((n + 1 : Nat) : Int) + 1) = ((n + 1 + 1 : Nat) : Int) := by rw [i64_id (by omega)]; omega
    rw [frm_succ, ← List.append_assoc] at r1
    by_cases h0 : codA s k (n + 1) = 0
    · rw [h0, unp_zero, List.append_nil] at r1
      show (F48_l19 600).b _ _ ((F48_l19 600).L f) some = _
      obtain ⟨Lf, hL⟩ : ∃ Lf, Lf = (F48_l19 600).L f := ⟨_, rfl⟩
      rw [← hL] at r1 ⊢
      have b0 : (codA s k (n + 1) == 0) = true := by rw [h0]; rfl
      by_cases k0 : k = 0
      · have m0 : ((k : Int) == 0) = true := by rw [k0]; rfl
        by_cases n3 : ((n + 1 : Nat) : Int) < 3
        · have c5 : decide (((n + 1 : Nat) : Int) < 3) = true := decide_eq_true n3
          simp only [F48_l19, c1, m0, c5, c4]
          exact r1
        · have c5 : decide (((n + 1 : Nat) : Int) < 3) = false := decide_eq_false n3
          simp only [F48_l19, c1, m0, c5, c2, if_true, Int.toNat_natCast, e2, List.getElem?_cons_zero, b0, c4]
          exact r1
      · have m0 : ((k : Int) == 0) = false := by rw [beq_eq_false_iff_ne]; omega
        simp only [F48_l19, c1, m0, c2, if_true, Int.toNat_natCast, e2, List.getElem?_cons_zero, b0, c4]
        exact r1
    · have hc : codA s k (n + 1) = 1 ∨ codA s k (n + 1) = 2 ∨ codA s k (n + 1) = 3 := by omega
      have b0 : (codA s k (n + 1) == 0) = false := beq_eq_false_iff_ne.2 h0
      obtain ⟨N, W, u1, u2, u3, u4⟩ := runp_ok (acc ++ frm s k n) (by rw [List.length_append]; omega) (rowsI ((List.range 16).map fun j => get4 s (64 * k) / 2 ^ (30 - 2 * j) % 4)) s (k : Int) (s.extract (64 * k) (64 * k + 64)) ((n + 1 : Nat) : Int) hc (get4_rng s (64 * k + 4 * (n + 1)))
      have c6 : (0 : Int) ≤ codA s k (n + 1) := hr.1
      show (F48_l19 600).b _ _ ((F48_l19 600).L f) some = _
      obtain ⟨Lf, hL⟩ : ∃ Lf, Lf = (F48_l19 600).L f := ⟨_, rfl⟩
      rw [← hL] at r1 ⊢
      by_cases k0 : k = 0
      · have m0 : ((k : Int) == 0) = true := by rw [k0]; rfl
        have n3 : ¬ ((n + 1 : Nat) : Int) < 3 := fun h => by
          subst k0
          have hh := h12 rfl
          have : n = 0 ∨ n = 1 := by omega
          rcases this with rfl | rfl
          · exact h0 hh.1
          · exact h0 hh.2
        have c5 : decide (((n + 1 : Nat) : Int) < 3) = false := decide_eq_false n3
        simp only [F48_l19, c1, m0, c5, c2, if_true, Int.toNat_natCast, e2, List.getElem?_cons_zero, b0, e1, g, c6, u1, u2, if_false, u3, u4, c4]
        exact r1
      · have m0 : ((k : Int) == 0) = false := by rw [beq_eq_false_iff_ne]; omega
        simp only [F48_l19, c1, m0, c2, if_true, Int.toNat_natCast, e2, List.getElem?_cons_zero, b0, e1, g, c6, u1, u2, if_false, u3, u4, c4]
        exact r1
theorem rdcm_loop (s : ByteArray) (hs : s.size ≤ 900000) (n : Nat) (hn : n ≤ 8) (hns : s.size / 64 = n) : ∀ (j k f : Nat) (acc : List Int), j < f → k + j = n → acc.length ≤ 60 * k →
    ((bads s k j = false ∧ (F48_l5 600).L f (rowsI acc, s, (k : Int)) = some (.inr (rowsI (acc ++ frms s k j)))) ∨ (bads s k j = true ∧ ∃ z, (F48_l5 600).L f (rowsI acc, s, (k : Int)) = some (.inl (z, [], false))))
  | 0, k, f, acc, hf, hk, ha => by
    obtain ⟨f, rfl⟩ : ∃ f', f = f' + 1 := ⟨f - 1, by omega⟩
    have t2 : i64 ((s.size : Int).tdiv 64) = (n : Int) := by rw [Int.tdiv_eq_ediv_of_nonneg (by omega), i64_id (by omega)]; omega
    refine .inl ⟨rfl, ?_⟩
    show (F48_l5 600).b _ _ ((F48_l5 600).L f) some = _
    have c : decide ((k : Int) < (n : Int)) = false := by rw [decide_eq_false_iff_not]; omega
    simp only [F48_l5, t2, c, frms, List.append_nil]
  | j + 1, k, f, acc, hf, hk, ha => by
    obtain ⟨f, rfl⟩ : ∃ f', f = f' + 1 := ⟨f - 1, by omega⟩
    have t2 : i64 ((s.size : Int).tdiv 64) = (n : Int) := by rw [Int.tdiv_eq_ediv_of_nonneg (by omega), i64_id (by omega)]; omega
    have hks : 64 * k + 64 ≤ s.size := by omega
    have c1 : decide ((k : Int) < (n : Int)) = true := by rw [decide_eq_true_iff]; omega
    have e1 : i64 (64 * (k : Int)) = ((64 * k : Nat) : Int) := by rw [i64_id (by omega)]; omega
    have e2 : i64 ((k : Int) + 1) = ((k + 1 : Nat) : Int) := by rw [i64_id (by omega)]; omega
    have e3 : i64 (((64 * k : Nat) : Int) + 64) = ((64 * k + 64 : Nat) : Int) := by rw [i64_id (by omega)]; omega
    have c2 : (0 : Int) ≤ ((64 * k : Nat) : Int) ∧ ((64 * k : Nat) : Int) ≤ ((64 * k + 64 : Nat) : Int) ∧ ((64 * k + 64 : Nat) : Int) ≤ (s.size : Int) := by omega
    have hsz := ext_size s (64 * k) (64 * k + 64) hks
    have g := rcodes_ok (s.extract (64 * k) (64 * k + 64)) (by omega)
    rw [get4_ext s (64 * k) (64 * k + 64) 0 (by omega)] at g
    simp only [Nat.add_zero] at g
    have z0 : (0 : Int) ≤ 0 := by omega
    have z1 : (0 : Int) ≤ 1 := by omega
    have z2 : (0 : Int) ≤ 2 := by omega
    have t0 : (0 : Int).toNat = 0 := rfl
    have t1 : (1 : Int).toNat = 1 := rfl
    have t22 : (2 : Int).toNat = 2 := rfl
    have a0 := cod_at s k 0 (by omega)
    have a1 := cod_at s k 1 (by omega)
    have a2 := cod_at s k 2 (by omega)
    have l2 := frm_len s k 15
    by_cases b0 : codA s k 0 = 0
    · have n0 : (codA s k 0 != 0) = false := by simp [b0]
      have hfr : (k = 0 → codA s 0 1 = 0 ∧ codA s 0 2 = 0) → (F48_l19 600).L 600 (rowsI acc, rowsI ((List.range 16).map fun j => get4 s (64 * k) / 2 ^ (30 - 2 * j) % 4), s, (k : Int), s.extract (64 * k) (64 * k + 64), 1) = some (rowsI (acc ++ frm s k 15), s, (k : Int)) := fun h12 => by
        have := rfrm_loop s hs k hks h12 acc (by omega) 15 0 600 (by omega) rfl
        have e4 : frm s k 0 = [] := rfl
        rw [e4, List.append_nil] at this
        exact this
      have go : (bads s (k + 1) j = false ∧ (F48_l5 600).L f (rowsI (acc ++ frm s k 15), s, ((k + 1 : Nat) : Int)) = some (.inr (rowsI (acc ++ frm s k 15 ++ frms s (k + 1) j)))) ∨ (bads s (k + 1) j = true ∧ ∃ z, (F48_l5 600).L f (rowsI (acc ++ frm s k 15), s, ((k + 1 : Nat) : Int)) = some (.inl (z, [], false))) :=
        rdcm_loop s hs n hn hns j (k + 1) f (acc ++ frm s k 15) (by omega) (by omega) (by rw [List.length_append]; omega)
      have fin : badf s k = false → (F48_l5 600).L (f + 1) (rowsI acc, s, (k : Int)) = (F48_l5 600).L f (rowsI (acc ++ frm s k 15), s, ((k + 1 : Nat) : Int)) → ((bads s k (j + 1) = false ∧ (F48_l5 600).L (f + 1) (rowsI acc, s, (k : Int)) = some (.inr (rowsI (acc ++ frms s k (j + 1))))) ∨ (bads s k (j + 1) = true ∧ ∃ z, (F48_l5 600).L (f + 1) (rowsI acc, s, (k : Int)) = some (.inl (z, [], false)))) := fun hb hst => by
        rw [hst]
        have e5 : bads s k (j + 1) = bads s (k + 1) j := by show (badf s k || bads s (k + 1) j) = _; rw [hb]; rfl
        have e6 : acc ++ frms s k (j + 1) = acc ++ frm s k 15 ++ frms s (k + 1) j := by rw [List.append_assoc]; rfl
        rw [e5, e6]
        exact go
      by_cases k0 : k = 0
      · subst k0
        have m0 : (((0 : Nat) : Int) == 0) = true := rfl
        by_cases b1 : codA s 0 1 = 0
        · have n1 : (codA s 0 1 != 0) = false := by simp [b1]
          by_cases b2 : codA s 0 2 = 0
          · have n2 : (codA s 0 2 != 0) = false := by simp [b2]
            have hfr' := hfr (fun _ => ⟨b1, b2⟩)
            refine fin (by simp [badf, b0, b1, b2]) ?_
            show (F48_l5 600).b _ _ ((F48_l5 600).L f) some = _
            obtain ⟨Lf, hL⟩ : ∃ Lf, Lf = (F48_l5 600).L f := ⟨_, rfl⟩
            rw [← hL]
            simp only [F48_l5, t2, c1, e1, e2, e3, c2, and_self, if_true, Int.toNat_natCast, g, z0, z1, z2, t0, t1, t22, a0, a1, a2, List.getElem?_cons_zero, n0, n1, n2, m0, F48_d19, hfr']
            first | exact if_pos trivial | rfl
          · have n2 : (codA s 0 2 != 0) = true := by simp [b2]
            refine .inr ⟨by simp [bads, badf, b2], rowsI acc, ?_⟩
            show (F48_l5 600).b _ _ ((F48_l5 600).L f) some = _
            simp only [F48_l5, t2, c1, e1, e2, e3, c2, and_self, if_true, Int.toNat_natCast, g, z0, z1, z2, t0, t1, t22, a0, a1, a2, List.getElem?_cons_zero, n0, n1, n2, m0]
        · have n1 : (codA s 0 1 != 0) = true := by simp [b1]
          refine .inr ⟨by simp [bads, badf, b1], rowsI acc, ?_⟩
          show (F48_l5 600).b _ _ ((F48_l5 600).L f) some = _
          simp only [F48_l5, t2, c1, e1, e2, e3, c2, and_self, if_true, Int.toNat_natCast, g, z0, z1, z2, t0, t1, t22, a0, a1, a2, List.getElem?_cons_zero, n0, n1, m0]
      · have m0 : ((k : Int) == 0) = false := by rw [beq_eq_false_iff_ne]; omega
        have hfr' := hfr (fun h => absurd h k0)
        refine fin (by simp [badf, b0, k0]) ?_
        show (F48_l5 600).b _ _ ((F48_l5 600).L f) some = _
        obtain ⟨Lf, hL⟩ : ∃ Lf, Lf = (F48_l5 600).L f := ⟨_, rfl⟩
        rw [← hL]
        simp only [F48_l5, t2, c1, e1, e2, e3, c2, and_self, if_true, Int.toNat_natCast, g, z0, t0, a0, List.getElem?_cons_zero, n0, m0, F48_d19, hfr']
        first | exact if_pos trivial | rfl
    · have n0 : (codA s k 0 != 0) = true := by simp [b0]
      refine .inr ⟨by simp [bads, badf, b0], rowsI acc, ?_⟩
      show (F48_l5 600).b _ _ ((F48_l5 600).L f) some = _
      simp only [F48_l5, t2, c1, e1, e2, e3, c2, and_self, if_true, Int.toNat_natCast, g, z0, t0, a0, List.getElem?_cons_zero, n0]
end Go.Proofs.Yteplhedodcaljaa
