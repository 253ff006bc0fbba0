/- Steim, the plain law: Codes, decompress, Decode of any string. -/
import Derived.Test.YtdmedeaknnldcaaDoorStD
namespace Go.Proofs.YtdmedeaknnldcaaDoor
open Go.RowKit
set_option linter.unusedVariables false
set_option linter.unusedSimpArgs false
set_option linter.unnecessarySimpa false
theorem nums_ext (s : ByteArray) (a b : Nat) : nums (s.extract a b) = ((nums s).take b).drop a := by
  simp [nums, List.map_take, List.map_drop, List.drop_take]
theorem ext_size (s : ByteArray) (a b : Nat) (h : b ≤ s.size) : (s.extract a b).size = b - a := by
  rw [← nums_len, nums_ext]
  simp [nums_len]
  omega
theorem num_ext (s : ByteArray) (a b m : Nat) (h : a + m < b) : (nums (s.extract a b)).getD m 0 = (nums s).getD (a + m) 0 := by
  rw [nums_ext]
  simp only [List.getD_eq_getElem?_getD, List.getElem?_drop, List.getElem?_take]
  rw [if_pos h]
theorem get4_ext (s : ByteArray) (a b m : Nat) (h : a + m + 4 ≤ b) : get4 (s.extract a b) m = get4 s (a + m) := by
  unfold get4
  rw [num_ext s a b m (by omega), num_ext s a b (m + 1) (by omega), num_ext s a b (m + 2) (by omega), num_ext s a b (m + 3) (by omega)]
  rfl
def codA (s : ByteArray) (k i : Nat) : Int := get4 s (64 * k) / 2 ^ (30 - 2 * i) % 4
def wdA (s : ByteArray) (k i : Nat) : Int := get4 s (64 * k + 4 * i)
theorem codA_rng (s : ByteArray) (k i : Nat) : 0 ≤ codA s k i ∧ codA s k i ≤ 3 := by
  unfold codA
  omega
/-! Codes. -/
theorem cod_loop (w : Int) (hw : 0 ≤ w ∧ w ≤ 4294967295) : ∀ (k i f : Nat), k < f → i + k = 16 → (F78_l10 600).L f (rowsI ((List.range i).map fun j => w / 2 ^ (30 - 2 * j) % 4), w, (i : Int)) = some (rowsI ((List.range 16).map fun j => w / 2 ^ (30 - 2 * j) % 4))
  | 0, i, f, hf, hi => by
    obtain ⟨f, rfl⟩ : ∃ f', f = f' + 1 := ⟨f - 1, by omega⟩
    obtain rfl : i = 16 := by omega
    show (F78_l10 600).b _ _ ((F78_l10 600).L f) some = _
    have c : decide (((16 : Nat) : Int) < 16) = false := rfl
    simp only [F78_l10, c]
  | k + 1, i, f, hf, hi => by
    obtain ⟨f, rfl⟩ : ∃ f', f = f' + 1 := ⟨f - 1, by omega⟩
    have r1 := cod_loop w hw k (i + 1) f (by omega) (by omega)
    show (F78_l10 600).b _ _ ((F78_l10 600).L f) some = _
    obtain ⟨Lf, hL⟩ : ∃ Lf, Lf = (F78_l10 600).L f := ⟨_, rfl⟩
    rw [← hL] at r1 ⊢
    have c1 : decide ((i : Int) < 16) = true := by rw [decide_eq_true_iff]; omega
    have c4 : i64 ((i : Int) + 1) = ((i + 1 : Nat) : Int) := by rw [i64_id (by omega)]; omega
    have hb : ((rowsI ((List.range i).map fun j => w / 2 ^ (30 - 2 * j) % 4)).length + 1) * 8 ≤ maxBytes := by
      rw [rowsI_len]; simp; unfold maxBytes; omega
    have e : (List.range (i + 1)).map (fun j => w / 2 ^ (30 - 2 * j) % 4) = (List.range i).map (fun j => w / 2 ^ (30 - 2 * j) % 4) ++ [w / 2 ^ (30 - 2 * i) % 4] := by
      rw [List.range_succ, List.map_append]; rfl
    rw [e] at r1
    simp only [F78_l10, c1, pair_ok hw (show i ≤ 15 by omega), List.length_cons, List.length_nil, Nat.zero_add, hb, if_true, rowsI_snoc, c4]
    exact r1
theorem codes_ok (f : ByteArray) (h : f.size = 64) : F78_d 600 f = some (rowsI ((List.range 16).map fun j => get4 f 0 / 2 ^ (30 - 2 * j) % 4), 0) := by
  have c : ((f.size : Int) != 64) = false := by rw [h]; rfl
  have g := get4_ok f 0 (by omega) (by omega) (by omega)
  have r := cod_loop (get4 f 0) (get4_rng f 0) 16 0 600 (by omega) rfl
  replace r : (F78_l10 600).L 600 (([] : List (List AV)), get4 f 0, 0) = _ := r
  replace g : F64_d 600 (f, 0, 4) = some (get4 f 0, 0) := g
  simp only [F78_d, FSpec.d, F78_s, c, g, F78_d10, r]
theorem codes_no (f : ByteArray) (h : f.size ≠ 64) : F78_d 600 f = some ([], 3) := by
  have c : ((f.size : Int) != 64) = true := by rw [bne_iff_ne]; omega
  simp only [F78_d, FSpec.d, F78_s, c]
/-! A frame's differences. -/
def frm (s : ByteArray) (k n : Nat) : List Int := (List.range n).flatMap fun j => unp (codA s k (j + 1)) (wdA s k (j + 1))
theorem unp_len (c v : Int) : (unp c v).length ≤ 4 := by
  unfold unp
  split
  · simp
  · split
    · simp
    · split <;> simp
theorem frm_succ (s : ByteArray) (k n : Nat) : frm s k (n + 1) = frm s k n ++ unp (codA s k (n + 1)) (wdA s k (n + 1)) := by
  unfold frm
  rw [List.range_succ, List.flatMap_append]
  simp
theorem frm_len (s : ByteArray) (k : Nat) : ∀ n, (frm s k n).length ≤ 4 * n
  | 0 => by simp [frm]
  | n + 1 => by
    have h1 := frm_len s k n
    have h2 := unp_len (codA s k (n + 1)) (wdA s k (n + 1))
    rw [frm_succ, List.length_append]
    omega
theorem frm_loop (s : ByteArray) (hs : s.size ≤ 900000) (k : Nat) (hk : 64 * k + 64 ≤ s.size) (acc : List Int) (ha : acc.length ≤ 100000) (x6 : Int) : ∀ (m n f : Nat), m < f → n + m = 15 →
    (F67_l25 600).L f (rowsI (acc ++ frm s k n), rowsI ((List.range 16).map fun j => get4 s (64 * k) / 2 ^ (30 - 2 * j) % 4), s, s.extract (64 * k) (64 * k + 64), ((n + 1 : Nat) : Int), x6, (k : Int)) = some (rowsI (acc ++ frm s k 15), s, x6, (k : Int))
  | 0, n, f, hf, hi => by
    obtain ⟨f, rfl⟩ : ∃ f', f = f' + 1 := ⟨f - 1, by omega⟩
    obtain rfl : n = 15 := by omega
    show (F67_l25 600).b _ _ ((F67_l25 600).L f) some = _
    have c : decide (((15 + 1 : Nat) : Int) < 16) = false := rfl
    simp only [F67_l25, c]
  | m + 1, n, f, hf, hi => by
    obtain ⟨f, rfl⟩ : ∃ f', f = f' + 1 := ⟨f - 1, by omega⟩
    have r1 := frm_loop s hs k hk acc ha x6 m (n + 1) f (by omega) (by omega)
    show (F67_l25 600).b _ _ ((F67_l25 600).L f) some = _
    obtain ⟨Lf, hL⟩ : ∃ Lf, Lf = (F67_l25 600).L f := ⟨_, rfl⟩
    rw [← hL] at r1 ⊢
    have c1 : decide (((n + 1 : Nat) : Int) < 16) = true := by rw [decide_eq_true_iff]; omega
    have c2 : (0 : Int) ≤ ((n + 1 : Nat) : Int) := by omega
    have e1 : i64 (((n + 1 : Nat) : Int) * 4) = ((4 * (n + 1) : Nat) : Int) := by rw [i64_id (by omega)]; omega
    have hsz := ext_size s (64 * k) (64 * k + 64) hk
    have g := get4_ok (s.extract (64 * k) (64 * k + 64)) (4 * (n + 1)) (by omega) (by omega) (by omega)
    rw [get4_ext s (64 * k) (64 * k + 64) (4 * (n + 1)) (by omega)] at g
    have e2 : (rowsI ((List.range 16).map fun j => get4 s (64 * k) / 2 ^ (30 - 2 * j) % 4))[n + 1]? = some [I (codA s k (n + 1))] := by
      rw [rowsI_get _ _ (by simp; omega)]
      simp [codA]
    unfold I at e2
    have e3 := unp_ok (codA_rng s k (n + 1)) (get4_rng s (64 * k + 4 * (n + 1)))
    have l1 := unp_len (codA s k (n + 1)) (wdA s k (n + 1))
    have l2 := frm_len s k n
    have hb : ((rowsI (acc ++ frm s k n)).length + (rowsI (unp (codA s k (n + 1)) (get4 s (64 * k + 4 * (n + 1))))).length) * 8 ≤ maxBytes := by
      rw [rowsI_len, rowsI_len, List.length_append]
      unfold wdA at l1
      unfold maxBytes
      omega
    have c4 : i64 (((n + 1 : Nat) : Int) + 1) = ((n + 1 + 1 : Nat) : Int) := by rw [i64_id (by omega)]; omega
    rw [frm_succ, ← List.append_assoc, ← rowsI_app] at r1
    simp only [F67_l25, c1, e1, g, c2, if_true, Int.toNat_natCast, e2, List.getElem?_cons_zero, e3, hb, c4]
    exact r1
def badf (s : ByteArray) (k : Nat) : Bool := codA s k 0 != 0 || (decide (k = 0) && (codA s k 1 != 0 || codA s k 2 != 0))
def frms (s : ByteArray) : Nat → Nat → List Int
  | _, 0 => []
  | k, j + 1 => frm s k 15 ++ frms s (k + 1) j
def bads (s : ByteArray) : Nat → Nat → Bool
  | _, 0 => false
  | k, j + 1 => badf s k || bads s (k + 1) j
theorem cod_at (s : ByteArray) (k i : Nat) (hi : i < 16) : (rowsI ((List.range 16).map fun j => get4 s (64 * k) / 2 ^ (30 - 2 * j) % 4))[i]? = some [AV.v (.int .i64 (codA s k i))] := by
  rw [rowsI_get _ _ (by simp; omega)]
  simp [codA]
theorem dcm_loop (s : ByteArray) (hs : s.size ≤ 900000) (n : Nat) (hn : n ≤ 8) (hns : 64 * n ≤ s.size) : ∀ (j k f : Nat) (acc : List Int), j < f → k + j = n → acc.length ≤ 60 * k →
    ((bads s k j = false ∧ (F67_l10 600).L f (rowsI acc, s, (n : Int), (k : Int)) = some (.inr (rowsI (acc ++ frms s k j)))) ∨ (bads s k j = true ∧ ∃ z, (F67_l10 600).L f (rowsI acc, s, (n : Int), (k : Int)) = some (.inl (z, [], false))))
  | 0, k, f, acc, hf, hk, ha => by
    obtain ⟨f, rfl⟩ : ∃ f', f = f' + 1 := ⟨f - 1, by omega⟩
    refine .inl ⟨rfl, ?_⟩
    show (F67_l10 600).b _ _ ((F67_l10 600).L f) some = _
    have c : decide ((k : Int) < (n : Int)) = false := by rw [decide_eq_false_iff_not]; omega
    simp only [F67_l10, c, frms, List.append_nil]
  | j + 1, k, f, acc, hf, hk, ha => by
    obtain ⟨f, rfl⟩ : ∃ f', f = f' + 1 := ⟨f - 1, by omega⟩
    have hks : 64 * k + 64 ≤ s.size := by omega
    have c1 : decide ((k : Int) < (n : Int)) = true := by rw [decide_eq_true_iff]; omega
    have e1 : i64 ((k : Int) * 64) = ((64 * k : Nat) : Int) := by rw [i64_id (by omega)]; omega
    have e2 : i64 ((k : Int) + 1) = ((k + 1 : Nat) : Int) := by rw [i64_id (by omega)]; omega
    have e3 : i64 (((k + 1 : Nat) : Int) * 64) = ((64 * k + 64 : Nat) : Int) := by rw [i64_id (by omega)]; omega
    have c2 : (0 : Int) ≤ ((64 * k : Nat) : Int) ∧ ((64 * k : Nat) : Int) ≤ ((64 * k + 64 : Nat) : Int) ∧ ((64 * k + 64 : Nat) : Int) ≤ (s.size : Int) := by omega
    have hsz := ext_size s (64 * k) (64 * k + 64) hks
    have g := codes_ok (s.extract (64 * k) (64 * k + 64)) (by omega)
    rw [get4_ext s (64 * k) (64 * k + 64) 0 (by omega)] at g
    simp only [Nat.add_zero] at g
    have z0 : (0 : Int) ≤ 0 := by omega
    have z1 : (0 : Int) ≤ 1 := by omega
    have z2 : (0 : Int) ≤ 2 := by omega
    have t0 : (0 : Int).toNat = 0 := rfl
    have t1 : (1 : Int).toNat = 1 := rfl
    have t2 : (2 : Int).toNat = 2 := rfl
    have a0 := cod_at s k 0 (by omega)
    have a1 := cod_at s k 1 (by omega)
    have a2 := cod_at s k 2 (by omega)
    have hfr := frm_loop s hs k hks acc (by omega) (n : Int) 15 0 600 (by omega) rfl
    have e4 : frm s k 0 = [] := rfl
    rw [e4, List.append_nil] at hfr
    replace hfr : (F67_l25 600).L 600 (rowsI acc, rowsI ((List.range 16).map fun j => get4 s (64 * k) / 2 ^ (30 - 2 * j) % 4), s, s.extract (64 * k) (64 * k + 64), 1, (n : Int), (k : Int)) = _ := hfr
    have l2 := frm_len s k 15
    by_cases b0 : codA s k 0 = 0
    · have n0 : (codA s k 0 != 0) = false := by simp [b0]
      have go : (bads s (k + 1) j = false ∧ (F67_l10 600).L f (rowsI (acc ++ frm s k 15), s, (n : Int), ((k + 1 : Nat) : Int)) = some (.inr (rowsI (acc ++ frm s k 15 ++ frms s (k + 1) j)))) ∨ (bads s (k + 1) j = true ∧ ∃ z, (F67_l10 600).L f (rowsI (acc ++ frm s k 15), s, (n : Int), ((k + 1 : Nat) : Int)) = some (.inl (z, [], false))) :=
        dcm_loop s hs n hn hns j (k + 1) f (acc ++ frm s k 15) (by omega) (by omega) (by rw [List.length_append]; omega)
      have fin : badf s k = false → (F67_l10 600).L (f + 1) (rowsI acc, s, (n : Int), (k : Int)) = (F67_l10 600).L f (rowsI (acc ++ frm s k 15), s, (n : Int), ((k + 1 : Nat) : Int)) → ((bads s k (j + 1) = false ∧ (F67_l10 600).L (f + 1) (rowsI acc, s, (n : Int), (k : Int)) = some (.inr (rowsI (acc ++ frms s k (j + 1))))) ∨ (bads s k (j + 1) = true ∧ ∃ z, (F67_l10 600).L (f + 1) (rowsI acc, s, (n : Int), (k : Int)) = some (.inl (z, [], false)))) := fun hb hst => by
        rw [hst]
        have e5 : bads s k (j + 1) = bads s (k + 1) j := by show (badf s k || bads s (k + 1) j) = _; rw [hb]; rfl
        have e6 : acc ++ frms s k (j + 1) = acc ++ frm s k 15 ++ frms s (k + 1) j := by rw [List.append_assoc]; rfl
        rw [e5, e6]
        exact go
      by_cases k0 : k = 0
      · subst k0
        have m0 : (((0 : Nat) : Int) == 0) = true := rfl
        by_cases b1 : codA s 0 1 = 0
        · have n1 : (codA s 0 1 != 0) = false := by simp [b1]
          by_cases b2 : codA s 0 2 = 0
          · have n2 : (codA s 0 2 != 0) = false := by simp [b2]
            refine fin (by simp [badf, b0, b1, b2]) ?_
            show (F67_l10 600).b _ _ ((F67_l10 600).L f) some = _
            obtain ⟨Lf, hL⟩ : ∃ Lf, Lf = (F67_l10 600).L f := ⟨_, rfl⟩
            rw [← hL]
            simp only [F67_l10, c1, e1, e2, e3, c2, and_self, if_true, Int.toNat_natCast, g, z0, z1, z2, t0, t1, t2, a0, a1, a2, List.getElem?_cons_zero, n0, n1, n2, m0, F67_d25, hfr]
            first | exact if_pos trivial | rfl
          · have n2 : (codA s 0 2 != 0) = true := by simp [b2]
            refine .inr ⟨by simp [bads, badf, b2], rowsI acc, ?_⟩
            show (F67_l10 600).b _ _ ((F67_l10 600).L f) some = _
            simp only [F67_l10, c1, e1, e2, e3, c2, and_self, if_true, Int.toNat_natCast, g, z0, z1, z2, t0, t1, t2, a0, a1, a2, List.getElem?_cons_zero, n0, n1, n2, m0]
        · have n1 : (codA s 0 1 != 0) = true := by simp [b1]
          refine .inr ⟨by simp [bads, badf, b1], rowsI acc, ?_⟩
          show (F67_l10 600).b _ _ ((F67_l10 600).L f) some = _
          simp only [F67_l10, c1, e1, e2, e3, c2, and_self, if_true, Int.toNat_natCast, g, z0, z1, z2, t0, t1, t2, a0, a1, a2, List.getElem?_cons_zero, n0, n1, m0]
      · have m0 : ((k : Int) == 0) = false := by rw [beq_eq_false_iff_ne]; omega
        refine fin (by simp [badf, b0, k0]) ?_
        show (F67_l10 600).b _ _ ((F67_l10 600).L f) some = _
        obtain ⟨Lf, hL⟩ : ∃ Lf, Lf = (F67_l10 600).L f := ⟨_, rfl⟩
        rw [← hL]
        simp only [F67_l10, c1, e1, e2, e3, c2, and_self, if_true, Int.toNat_natCast, g, z0, t0, a0, List.getElem?_cons_zero, n0, m0, F67_d25, hfr]
        first | exact if_pos trivial | rfl
    · have n0 : (codA s k 0 != 0) = true := by simp [b0]
      refine .inr ⟨by simp [bads, badf, b0], rowsI acc, ?_⟩
      show (F67_l10 600).b _ _ ((F67_l10 600).L f) some = _
      simp only [F67_l10, c1, e1, e2, e3, c2, and_self, if_true, Int.toNat_natCast, g, z0, t0, a0, List.getElem?_cons_zero, n0]
def dcm (s : ByteArray) : Option (List Int) := if s.size % 64 = 0 ∧ 1 ≤ s.size / 64 ∧ s.size / 64 ≤ 8 ∧ bads s 0 (s.size / 64) = false then some (frms s 0 (s.size / 64)) else none
theorem dcm_ok (s : ByteArray) (hs : s.size ≤ 900000) : F67_d 600 s = some (match dcm s with | some D => (rowsI D, true) | none => ([], false)) := by
  have t1 : (s.size : Int).tmod 64 = ((s.size % 64 : Nat) : Int) := by rw [Int.tmod_eq_emod_of_nonneg (by omega)]; omega
  have t2 : i64 ((s.size : Int).tdiv 64) = ((s.size / 64 : Nat) : Int) := by rw [Int.tdiv_eq_ediv_of_nonneg (by omega), i64_id (by omega)]; omega
  simp only [F67_d, FSpec.d, F67_s, t1, t2]
  by_cases h1 : s.size % 64 = 0
  · have c1 : (((s.size % 64 : Nat) : Int) != 0) = false := by simp [h1]
    simp only [c1]
    by_cases h2 : 1 ≤ s.size / 64 ∧ s.size / 64 ≤ 8
    · have c2 : F66_d 600 (((s.size / 64 : Nat) : Int), 1, 8) = some true := sin_yes (by omega)
      simp only [c2, Bool.not_true, F67_d10]
      rcases dcm_loop s hs (s.size / 64) h2.2 (by omega) (s.size / 64) 0 600 [] (by omega) (by omega) (by simp) with ⟨q1, q2⟩ | ⟨q1, z, q2⟩
      · replace q2 : (F67_l10 600).L 600 (([] : List (List AV)), s, ((s.size / 64 : Nat) : Int), 0) = some (.inr (rowsI (frms s 0 (s.size / 64)))) := q2
        have e : dcm s = some (frms s 0 (s.size / 64)) := if_pos ⟨h1, h2.1, h2.2, q1⟩
        simp only [q2, e]
      · replace q2 : (F67_l10 600).L 600 (([] : List (List AV)), s, ((s.size / 64 : Nat) : Int), 0) = some (.inl (z, [], false)) := q2
        have e : dcm s = none := if_neg (fun h => by rw [q1] at h; exact absurd h.2.2.2 (by simp))
        simp only [q2, e]
    · have c2 : F66_d 600 (((s.size / 64 : Nat) : Int), 1, 8) = some false := sin_no (by omega)
      have e : dcm s = none := if_neg (fun h => h2 ⟨h.2.1, h.2.2.1⟩)
      simp only [c2, Bool.not_false, e]
  · have c1 : (((s.size % 64 : Nat) : Int) != 0) = true := by rw [bne_iff_ne]; omega
    have e : dcm s = none := if_neg (fun h => h1 h.1)
    simp only [c1, e]
end Go.Proofs.YtdmedeaknnldcaaDoor
