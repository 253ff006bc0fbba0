/- Steim, the plain law: SteimDamage. -/
import Derived.Test.YteplhedodcaljaaStI
namespace Go.Proofs.Yteplhedodcaljaa
open Go.RowKit
set_option linter.unusedVariables false
set_option linter.unusedSimpArgs false
set_option linter.unnecessarySimpa false
/-! The document's Get and Put. -/
theorem rin_any (N : Nat) (x lo hi : Int) : F42_d N (x, lo, hi) = some (decide (lo ≤ x ∧ x ≤ hi)) := in_any N x lo hi
theorem rin_yes {x lo hi : Int} (h : lo ≤ x ∧ x ≤ hi) : F42_d 600 (x, lo, hi) = some true := by rw [rin_any, decide_eq_true h]
theorem rget_step (s : ByteArray) (m i f : Nat) (acc : Int) (hm : m ≤ 1000000) (hi : i < 4) (hs : m + i < s.size) (ha : 0 ≤ acc ∧ acc < 16777216) : (F19_l13 600).L (f + 1) (s, (m : Int), 4, acc, (i : Int)) = (F19_l13 600).L f (s, (m : Int), 4, acc * 256 + (nums s).getD (m + i) 0, ((i + 1 : Nat) : Int)) := by
  show (F19_l13 600).b _ _ ((F19_l13 600).L f) some = _
  obtain ⟨Lf, hL⟩ : ∃ Lf, Lf = (F19_l13 600).L f := ⟨_, rfl⟩
  rw [← hL]
  have c1 : decide ((i : Int) < 4) = true := by rw [decide_eq_true_iff]; omega
  have e1 : i64 ((m : Int) + (i : Int)) = ((m + i : Nat) : Int) := by rw [i64_id (by omega)]; omega
  have c2 : (0 : Int) ≤ ((m + i : Nat) : Int) := by omega
  have e3 : i64 ((i : Int) + 1) = ((i + 1 : Nat) : Int) := by rw [i64_id (by omega)]; omega
  obtain ⟨u, hu, hv⟩ := byte_get s (m + i) hs
  have hr := num_rng s (m + i)
  have e4 : shL .i64 acc 8 = acc * 2 ^ 8 := shL_ok (by omega) (by
    have : ((8 : Int)).toNat = 8 := rfl
    rw [this]
    omega)
  have e5 : IntKind.i64.wrap ((nums s).getD (m + i) 0) = (nums s).getD (m + i) 0 := i64_id (by omega)
  have e6 : bOr .i64 (acc * 2 ^ 8) ((nums s).getD (m + i) 0) = acc * 2 ^ 8 + (nums s).getD (m + i) 0 := bOr_ok (by omega) ha.1 (by omega) (by omega)
  simp only [F19_l13, c1, e1, c2, if_true, Int.toNat_natCast, hu, hv, e4, e5, e6, e3]
  exact if_pos trivial
theorem rget4_ok (s : ByteArray) (m : Nat) (hm : m ≤ 1000000) (h : m + 4 ≤ s.size) (hs : s.size ≤ 1000000) : F19_d 600 (s, (m : Int), 4) = some (get4 s m, 0) := by
  have i1 : F42_d 600 (4, 1, 7) = some true := rin_yes (by omega)
  have c1 : decide ((m : Int) < 0) = false := by rw [decide_eq_false_iff_not]; omega
  have e1 : i64 ((s.size : Int) - 4) = (s.size : Int) - 4 := i64_id (by omega)
  have c2 : decide ((m : Int) > (s.size : Int) - 4) = false := by rw [decide_eq_false_iff_not]; omega
  have h1 := num_rng s m
  have h2 := num_rng s (m + 1)
  have h3 := num_rng s (m + 2)
  have h4 := num_rng s (m + 3)
  have r : (F19_l13 600).L 600 (s, (m : Int), 4, 0, 0) = some (get4 s m) := by
    have s1 := rget_step s m 0 599 0 hm (by omega) (by omega) (by omega)
    have s2 := rget_step s m 1 598 (0 * 256 + (nums s).getD (m + 0) 0) hm (by omega) (by omega) (by simp only [Nat.add_zero]; omega)
    have s3 := rget_step s m 2 597 ((0 * 256 + (nums s).getD (m + 0) 0) * 256 + (nums s).getD (m + 1) 0) hm (by omega) (by omega) (by simp only [Nat.add_zero]; omega)
    have s4 := rget_step s m 3 596 (((0 * 256 + (nums s).getD (m + 0) 0) * 256 + (nums s).getD (m + 1) 0) * 256 + (nums s).getD (m + 2) 0) hm (by omega) (by omega) (by simp only [Nat.add_zero]; omega)
    have s5 : ∀ x : Int, (F19_l13 600).L 596 (s, (m : Int), 4, x, ((3 + 1 : Nat) : Int)) = some x := fun x => by
      show (F19_l13 600).b _ _ ((F19_l13 600).L 595) some = _
      have c0 : decide (((3 + 1 : Nat) : Int) < 4) = false := by rw [decide_eq_false_iff_not]; omega
      simp only [F19_l13, c0]
    refine s1.trans (s2.trans (s3.trans (s4.trans ((s5 _).trans ?_))))
    congr 1
    unfold get4
    simp only [Nat.add_zero]
    omega
  simp only [F19_d, FSpec.d, F19_s, i1, Bool.not_true, c1, e1, c2, F19_d13, r]
theorem u64_id {x : Int} (h : 0 ≤ x ∧ x ≤ 1000000) : IntKind.u64.wrap x = x := by
  show x % 18446744073709551616 = x
  omega
theorem rput_step (l : List Int) (hl : l.length ≤ 1000000) (n : Int) (i f : Nat) (hi : i ≤ 7) : (F20_l9 600).L (f + 1) (rows8 l, n, (i : Int)) = (F20_l9 600).L f (rows8 (l ++ [n / 2 ^ (8 * i) % 256]), n, (i : Int) - 1) := by
  show (F20_l9 600).b _ _ ((F20_l9 600).L f) some = _
  obtain ⟨Lf, hL⟩ : ∃ Lf, Lf = (F20_l9 600).L f := ⟨_, rfl⟩
  rw [← hL]
  have c1 : decide ((i : Int) ≥ 0) = true := by rw [decide_eq_true_iff]; omega
  have e1 : i64 (8 * (i : Int)) = 8 * (i : Int) := i64_id (by omega)
  have e0 : IntKind.u64.wrap (8 * (i : Int)) = 8 * (i : Int) := u64_id (by omega)
  have c2 : ¬ (8 * (i : Int) < 0) := by omega
  have e2 : shR .i64 n (8 * (i : Int)) = n / 2 ^ (8 * i) := by
    rw [shR_ok (by omega)]
    have : (8 * (i : Int)).toNat = 8 * i := by omega
    rw [this]
  have e3 : i64 ((i : Int) - 1) = (i : Int) - 1 := i64_id (by omega)
  have b : ((rows8 l).length + 1) * 1 ≤ maxBytes := by rw [rows8_len]; unfold maxBytes; omega
  simp only [F20_l9, c1, e1, e0, c2, if_false, e2, e3, u8_wrap, List.length_cons, List.length_nil, Nat.zero_add, b, if_true, rows8_snoc]
  exact if_pos trivial
theorem rput4 (s : ByteArray) (hs : s.size ≤ 900000) {n : Int} (hn : 0 ≤ n ∧ n ≤ 4294967295) : F20_d 600 (s, n, 4) = some (s ++ strOfNums (be4 n), 0) := by
  have e1 : i64 (8 * 4) = 32 := by kernel_rfl
  have e0 : IntKind.u64.wrap 32 = 32 := by kernel_rfl
  have e2 : shL .i64 1 32 = 4294967296 := by kernel_rfl
  have e3 : i64 (4 - 1) = 3 := by kernel_rfl
  have c : ¬ ((32 : Int) < 0) := by omega
  have i1 : F42_d 600 (4, 1, 7) = some true := rin_yes (by omega)
  have i2 : decide (n < 0) = false := by rw [decide_eq_false_iff_not]; omega
  have i3 : decide (n ≥ 4294967296) = false := by rw [decide_eq_false_iff_not]; omega
  have hl := nums_len s
  have r : (F20_l9 600).L 600 (rows8 (nums s), n, 3) = some (rows8 (nums s ++ be4 n)) := by
    have s1 := rput_step (nums s) (by omega) n 3 599 (by omega)
    have s2 := rput_step (nums s ++ [n / 2 ^ (8 * 3) % 256]) (by simp; omega) n 2 598 (by omega)
    have s3 := rput_step (nums s ++ [n / 2 ^ (8 * 3) % 256] ++ [n / 2 ^ (8 * 2) % 256]) (by simp; omega) n 1 597 (by omega)
    have s4 := rput_step (nums s ++ [n / 2 ^ (8 * 3) % 256] ++ [n / 2 ^ (8 * 2) % 256] ++ [n / 2 ^ (8 * 1) % 256]) (by simp; omega) n 0 596 (by omega)
    have s5 : ∀ l : List Int, (F20_l9 600).L 596 (rows8 l, n, ((0 : Nat) : Int) - 1) = some (rows8 l) := fun l => by
      show (F20_l9 600).b _ _ ((F20_l9 600).L 595) some = _
      have c0 : decide ((((0 : Nat) : Int) - 1) ≥ 0) = false := by rw [decide_eq_false_iff_not]; omega
      simp only [F20_l9, c0]
    have t1 : (((3 : Nat) : Int) - 1) = ((2 : Nat) : Int) := by omega
    have t2 : (((2 : Nat) : Int) - 1) = ((1 : Nat) : Int) := by omega
    have t3 : (((1 : Nat) : Int) - 1) = ((0 : Nat) : Int) := by omega
    rw [t1] at s1
    rw [t2] at s2
    rw [t3] at s3
    refine s1.trans (s2.trans (s3.trans (s4.trans ((s5 _).trans ?_))))
    congr 2
    simp only [be4, List.append_assoc, List.cons_append, List.nil_append]
    simp
  simp only [F20_d, FSpec.d, F20_s, i1, Bool.not_true, e1, e0, c, if_false, i2, e2, i3, e3, bytesL_eq, F20_d9, r, numsOf_rows8, strOf_app, strOf_nums]
/-! Another number. -/
theorem other_ok {a b : Int} (ha : 0 ≤ a ∧ a ≤ 4294967295) (hb : 0 ≤ b ∧ b ≤ 4294967295) : (0 ≤ bXor .i64 a (bOr .i64 (i64 b) 1) ∧ bXor .i64 a (bOr .i64 (i64 b) 1) ≤ 4294967295) ∧ bXor .i64 a (bOr .i64 (i64 b) 1) ≠ a := by
  obtain ⟨A, rfl⟩ : ∃ A : Nat, a = (A : Int) := ⟨a.toNat, by omega⟩
  obtain ⟨B, rfl⟩ : ∃ B : Nat, b = (B : Int) := ⟨b.toNat, by omega⟩
  rw [i64_id (by omega)]
  have eN : ∀ X : Nat, X < 2 ^ 32 → (BitVec.ofInt 64 (X : Int)).toNat = X := fun X hX => by
    have e := ofInt_nat (X : Int)
    rw [Int.emod_eq_of_lt (by omega) (by omega)] at e
    omega
  have e1 : bOr .i64 (B : Int) 1 = ((B ||| 1 : Nat) : Int) := by
    unfold bOr
    show IntKind.i64.wrap (((BitVec.ofInt 64 (B : Int) ||| BitVec.ofInt 64 ((1 : Nat) : Int)).toNat : Nat) : Int) = _
    rw [BitVec.toNat_or, eN B (by omega), eN 1 (by omega)]
    have : B ||| 1 < 2 ^ 32 := Nat.or_lt_two_pow (by omega) (by omega)
    exact i64_id (by omega)
  have hB : B ||| 1 < 2 ^ 32 := Nat.or_lt_two_pow (by omega) (by omega)
  have e2 : bXor .i64 (A : Int) ((B ||| 1 : Nat) : Int) = ((A ^^^ (B ||| 1) : Nat) : Int) := by
    unfold bXor
    show IntKind.i64.wrap (((BitVec.ofInt 64 (A : Int) ^^^ BitVec.ofInt 64 ((B ||| 1 : Nat) : Int)).toNat : Nat) : Int) = _
    rw [BitVec.toNat_xor, eN A (by omega), eN _ hB]
    have : A ^^^ (B ||| 1) < 2 ^ 32 := Nat.xor_lt_two_pow (by omega) hB
    exact i64_id (by omega)
  rw [e1, e2]
  have h3 : A ^^^ (B ||| 1) < 2 ^ 32 := Nat.xor_lt_two_pow (by omega) hB
  refine ⟨by omega, fun h => ?_⟩
  have h4 : A ^^^ (B ||| 1) = A := by omega
  have h5 : (A ^^^ (B ||| 1)).testBit 0 = A.testBit 0 := by rw [h4]
  rw [Nat.testBit_xor, Nat.testBit_or] at h5
  have h6 : (1 : Nat).testBit 0 = true := rfl
  rw [h6] at h5
  cases A.testBit 0 <;> simp at h5
theorem sgn32_inj {a b : Int} (ha : 0 ≤ a ∧ a ≤ 4294967295) (hb : 0 ≤ b ∧ b ≤ 4294967295) (h : sgn32 a = sgn32 b) : a = b := by
  unfold sgn32 at h
  split at h <;> split at h <;> omega
/-! The last sample in the encoding. -/
theorem allw_three (n : Nat) (a b : Int) (ws : List Wo) : ∃ (h : Int) (R : List Int), (∀ a b : Int, allw (n + 1) ((0, a) :: (0, b) :: ws) = h :: a :: b :: R) := by
  refine ⟨hor 0 (pad 15 ((0, 0) :: (0, 0) :: ws)), (pad 13 ws).map (·.2) ++ allw n (((0, 0) :: (0, 0) :: ws : List Wo).drop 15), fun a b => ?_⟩
  rfl
theorem ext_str (l : List Int) (hl : ∀ x ∈ l, 0 ≤ x ∧ x ≤ 255) (a b : Nat) : (strOfNums l).extract a b = strOfNums ((l.take b).drop a) := by
  rw [← strOf_nums ((strOfNums l).extract a b), nums_ext, nums_strOf hl]
theorem change_last (n : Nat) (hn : 1 ≤ n) (f l o : Int) (ws : List Wo) : ((FS n ((0, f) :: (0, l) :: ws)).extract 0 8 ++ strOfNums (be4 o)) ++ (FS n ((0, f) :: (0, l) :: ws)).extract 12 (FS n ((0, f) :: (0, l) :: ws)).size = FS n ((0, f) :: (0, o) :: ws) := by
  obtain ⟨n, rfl⟩ : ∃ n', n = n' + 1 := ⟨n - 1, by omega⟩
  obtain ⟨h, R, hR⟩ := allw_three n f l ws
  have hsz := FS_size (n + 1) ((0, f) :: (0, l) :: ws)
  rw [hsz]
  unfold FS
  rw [hR f l, hR f o, ext_str _ (be4_all _), ext_str _ (be4_all _), ← strOf_app, ← strOf_app]
  have e : ∀ b : Int, (h :: f :: b :: R).flatMap be4 = be4 h ++ be4 f ++ be4 b ++ R.flatMap be4 := fun b => by
    simp only [List.flatMap_cons, List.append_assoc]
  have e4 : ∀ x, (be4 x).length = 4 := fun x => rfl
  have hlen : (be4 h ++ be4 f ++ be4 l ++ R.flatMap be4).length = 64 * (n + 1) := by
    rw [← e l, fm4_len, ← hR f l, allw_len]
    omega
  rw [e l, e o]
  congr 1
  have t1 : (be4 h ++ be4 f ++ be4 l ++ R.flatMap be4).take 8 = be4 h ++ be4 f := by
    rw [List.append_assoc, List.take_left' (by rw [List.length_append, e4, e4])]
  have t2 : (be4 h ++ be4 f ++ be4 l ++ R.flatMap be4).drop 12 = R.flatMap be4 := by
    rw [List.drop_left' (by rw [List.length_append, List.length_append, e4, e4, e4])]
  rw [t1, List.drop_zero, List.take_of_length_le (by rw [hlen]; omega), t2]
theorem dX_snoc_len (X : List Int) (a : Int) : (wX (X ++ [a])).length ≤ X.length + 1 := by
  have := (wX_len (X ++ [a])).1
  simpa using this
theorem damage_law (t : List Int) (ht : ∀ x ∈ t, -9223372036854775808 ≤ x ∧ x ≤ 9223372036854775807) (by_ : Int) (hby : 0 ≤ by_ ∧ by_ ≤ 4294967295) : F5_d 600 (rowsI t, by_) = some true := by
  by_cases hl : (t.length : Int) ≤ 500
  · have D : Dice t 0 := ⟨ht, by omega, by omega, by omega⟩
    have hroll : F10_d 600 (rowsI t) = some (rowsI t, 0) := rfl
    obtain ⟨X, p1, g1, ⟨l1, l2⟩, hX, D1⟩ := samples_ok (n := 60) (by omega) D
    have h0 : X ≠ [] := fun e => by rw [e] at l1; simp at l1
    have hw := (wX_len X).1
    obtain ⟨n1, n2, n3⟩ := nfr_rng (wX X).length (by omega)
    obtain ⟨b1, -⟩ := back X hX (by omega) X.length (by omega)
    obtain ⟨n, hn⟩ : ∃ n, n = nfr (wX X).length := ⟨_, rfl⟩
    rw [← hn] at n1 n2 n3 b1
    have hsz := FS_size n (lX X)
    have hla : 0 ≤ X.getLastD 0 % 4294967296 ∧ X.getLastD 0 % 4294967296 ≤ 4294967295 := by omega
    have e8 := (fs_first n1 (lX_ok hX)).2
    have e8' : get4 (FS n (lX X)) 8 = X.getLastD 0 % 4294967296 := e8
    have g2 := rget4_ok (FS n (lX X)) 8 (by omega) (by omega) (by omega)
    rw [e8'] at g2
    replace g2 : F19_d 600 (FS n (lX X), 8, 4) = some (X.getLastD 0 % 4294967296, 0) := g2
    obtain ⟨o, ho⟩ : ∃ o, o = bXor .i64 (X.getLastD 0 % 4294967296) (bOr .i64 (i64 by_) 1) := ⟨_, rfl⟩
    obtain ⟨o1, o2⟩ := other_ok hla hby
    rw [← ho] at o1 o2
    have g3 := rput4 ⟨#[]⟩ (by decide) (n := o) o1
    have e0 : (⟨#[]⟩ : ByteArray) ++ strOfNums (be4 o) = strOfNums (be4 o) := by
      apply ByteArray.ext
      simp [ByteArray.data_append]
    rw [e0] at g3
    have hlast : Fit32 (X.getLastD 0) := by
      have hl1 : X.length - 1 < X.length := by omega
      have := hX _ (List.getElem_mem hl1)
      have el : X[X.length - 1] = X.getLastD 0 := by
        rw [← getLast_at X l1, List.getD_eq_getElem?_getD, List.getElem?_eq_getElem hl1]; rfl
      rw [← el]
      unfold Smp at this
      unfold Fit32
      omega
    have chg := change_last n n1 (X.headD 0 % 4294967296) (X.getLastD 0 % 4294967296) o (wX X)
    have eL : lX X = (0, X.headD 0 % 4294967296) :: (0, X.getLastD 0 % 4294967296) :: wX X := rfl
    rw [← eL] at chg
    have d1 := dec_frames X hX h0 (by omega) n ⟨n1, n2⟩ n3 o o1 X.length (by omega) (by omega)
    have ne : ¬ X.getD (X.length - 1) 0 = sgn32 o := by
      rw [getLast_at X l1, ← sgn32_mod hlast]
      exact fun h => o2 (sgn32_inj o1 hla h.symm)
    rw [if_neg ne] at d1
    have d2 := dec_any (FS n ((0, X.headD 0 % 4294967296) :: (0, o) :: wX X)) (by rw [FS_size]; omega) (X.length : Int)
    rw [d1] at d2
    -- one sample more
    have hl1 : X.length - 1 < X.length := by omega
    have el : X[X.length - 1] = X.getLastD 0 := by
      rw [← getLast_at X l1, List.getD_eq_getElem?_getD, List.getElem?_eq_getElem hl1]; rfl
    have hX2 : ∀ x ∈ X ++ [X.getLastD 0], Smp x := fun x hx => by
      rcases List.mem_append.1 hx with h | h
      · exact hX x h
      · rw [List.mem_singleton.1 h, ← el]; exact hX _ (List.getElem_mem hl1)
    obtain ⟨c1, c2⟩ := back (X ++ [X.getLastD 0]) hX2 (by simp; omega) X.length (by simp; omega)
    have eq1 : (X ++ [X.getLastD 0]).getD (X.length - 1) 0 = (X ++ [X.getLastD 0]).getLastD 0 := by
      rw [List.getD_eq_getElem?_getD, List.getElem?_append_left hl1, List.getElem?_eq_getElem hl1, List.getLastD_eq_getLast?, List.getLast?_concat]
      exact el
    rw [if_pos eq1, List.take_left' rfl] at c2
    have s1 := same_ok X (by omega)
    have z1 : decide (((FS n (lX X)).size : Int) < 64) = false := by rw [decide_eq_false_iff_not, hsz]; omega
    have z2 : (0 : Int) ≤ 8 ∧ (8 : Int) ≤ ((FS n (lX X)).size : Int) := by rw [hsz]; omega
    have z3 : (0 : Int) ≤ 12 ∧ (12 : Int) ≤ ((FS n (lX X)).size : Int) := by rw [hsz]; omega
    have t8 : (8 : Int).toNat = 8 := rfl
    have t12 : (12 : Int).toNat = 12 := rfl
    have so : (strOfNums (be4 o)).size = 4 := by rw [strOf_size]; rfl
    have x8 : ((FS n (lX X)).extract 0 8).size = 8 := ext_size _ _ _ (by omega)
    have z4 : ((FS n (lX X)).extract 0 8).size + (strOfNums (be4 o)).size ≤ 9223372036854775807 := by rw [x8, so]; omega
    have x12 : ((FS n (lX X)).extract 12 (FS n (lX X)).size).size ≤ 512 := by rw [ext_size _ _ _ (Nat.le_refl _)]; omega
    have x84 : ((FS n (lX X)).extract 0 8 ++ strOfNums (be4 o)).size = 12 := by rw [ByteArray.size_append, x8, so]
    have z5 : ((FS n (lX X)).extract 0 8 ++ strOfNums (be4 o)).size + ((FS n (lX X)).extract 12 (FS n (lX X)).size).size ≤ 9223372036854775807 := by rw [x84]; omega
    have b6 : X.length * 8 ≤ maxBytes := by unfold maxBytes; omega
    have b7 : (X.length + 1) * 8 ≤ maxBytes := by unfold maxBytes; omega
    have e3 : i64 ((X.length : Int) - 1) = ((X.length - 1 : Nat) : Int) := by rw [i64_id (by omega)]; omega
    have z6 : (0 : Int) ≤ ((X.length - 1 : Nat) : Int) := by omega
    have q2 := rowsI_get X (X.length - 1) hl1
    rw [el] at q2
    simp only [F5_d, FSpec.d, F5_s, light_ok, hl, decide_true, Bool.not_true, hroll, g1, b1, bne_self_eq_false, z1, g2, ← ho, g3, z2, z3, and_self, if_true, t8, t12, z4, z5, chg, rowsI_len, d2, b6, e3, z6, Int.toNat_natCast, q2, List.getElem?_cons_zero, List.length_cons, List.length_nil, Nat.zero_add, b7, rowsI_snoc, c1, c2, beq_self_eq_true, s1, sane_ok]
  · simp only [F5_d, FSpec.d, F5_s, light_ok, hl, decide_false, Bool.not_false, sane_ok]
theorem steim_damage (a : Option Addr) (len cap : Nat) (n : Int) (W : World) (hr : IntsIn W (.slice a len cap)) (hn : 0 ≤ n ∧ n ≤ 4294967295) :
    Calls Try.prog 5 #[.slice a len cap, .int .u32 n] W fun e w' => e = .returned (.bool true) ∧ Below W.heap.size W w' := by
  obtain ⟨xs, h1, h2, h3⟩ := hr
  have ok := (F5_e 600).ok (rowsI xs, n) true (damage_law xs h1 n hn)
  refine CallOk.calls (args := [.list 1 (rowsI xs) none, .v (.int .u32 n)]) ok W _ rfl (fun i h h' => ?_)
  have : i = 0 ∨ i = 1 := by simp at h; omega
  rcases this with rfl | rfl
  · exact h3 _ _
  · exact .v
end Go.Proofs.Yteplhedodcaljaa
