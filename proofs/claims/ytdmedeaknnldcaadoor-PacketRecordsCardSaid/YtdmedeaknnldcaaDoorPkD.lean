/- Packets: what is read of an encoding. -/
import Derived.Test.YtdmedeaknnldcaaDoorPkC
namespace Go.Proofs.YtdmedeaknnldcaaDoor
open Go.RowKit
set_option linter.unusedVariables false
set_option linter.unusedSimpArgs false
set_option linter.unnecessarySimpa false
theorem nums_app (a b : ByteArray) : nums (a ++ b) = nums a ++ nums b := by simp [nums]
theorem nums_inj {a b : ByteArray} (h : nums a = nums b) : a = b := by rw [← strOf_nums a, h, strOf_nums]
theorem fld_get (T : List Int) : ∀ (L : List (Int × Int)) (i : Nat) (h : i < L.length), (∀ q ∈ L, FOk q) → gw (fbs L ++ T) ((L.take i).map fun q => q.2.toNat).sum (L[i]).2.toNat = (L[i]).1
  | q :: L, 0, _, hL => by
    have h := hL q List.mem_cons_self
    rw [fbs_cons, List.append_assoc]
    exact gw_put _ _ h.2 _
  | q :: L, i + 1, h, hL => by
    have e : ((q :: L).take (i + 1)).map (fun q => q.2.toNat) = q.2.toNat :: (L.take i).map (fun q => q.2.toNat) := rfl
    rw [fbs_cons, List.append_assoc, e, List.sum_cons]
    have hl := beP_len q.2.toNat q.1
    have r := gw_skip (beP q.2.toNat q.1) (fbs L ++ T) ((L.take i).map fun q => q.2.toNat).sum ((q :: L)[i + 1]).2.toNat
    rw [hl] at r
    rw [r]
    exact fld_get T L i (by simpa using h) (fun q hq => hL q (List.mem_cons_of_mem _ hq))
theorem number_ok (s : ByteArray) (m w : Nat) (hw : 1 ≤ w ∧ w ≤ 7) (h : m + w ≤ s.size) (hs : s.size ≤ 1000) : F42_d 600 ((w : Int), s, (m : Int)) = some (gw (nums s) m w, s, ((m + w : Nat) : Int)) := by
  have g := get_ok s m w (by omega) hw h (by omega)
  have e : i64 ((m : Int) + (w : Int)) = ((m + w : Nat) : Int) := by rw [i64_id (by omega)]; omega
  simp only [F42_d, FSpec.d, F42_s, g, e]
theorem text_ok (s : ByteArray) (m w : Nat) (h : m + w ≤ s.size) (hs : s.size ≤ 1000) : F44_d 600 ((w : Int), s, (m : Int)) = some (s.extract m (m + w), s, ((m + w : Nat) : Int)) := by
  have e : i64 ((m : Int) + (w : Int)) = ((m + w : Nat) : Int) := by rw [i64_id (by omega)]; omega
  have e2 : i64 (((m + w : Nat) : Int) - (w : Int)) = (m : Int) := by rw [i64_id (by omega)]; omega
  have c : (0 : Int) ≤ (m : Int) ∧ (m : Int) ≤ ((m + w : Nat) : Int) ∧ ((m + w : Nat) : Int) ≤ s.size := by omega
  simp only [F44_d, FSpec.d, F44_s, e, e2, c, and_self, if_true, Int.toNat_natCast]
theorem cutL (H N R : List Int) : ((H ++ (N ++ R)).take (H.length + N.length)).drop H.length = N := by
  rw [← List.append_assoc, List.take_left' (by simp), List.drop_left]
theorem ext_of {s : ByteArray} {H R : List Int} {t : ByteArray} (h : nums s = H ++ (nums t ++ R)) (m w : Nat) (hm : H.length = m) (hw : t.size = w) : s.extract m (m + w) = t := by
  apply nums_inj
  subst hm
  subst hw
  rw [nums_ext, h, ← nums_len t]
  exact cutL _ _ _
/-- An encoding's bytes. -/
structure EncN (s : ByteArray) (a b c d : ByteArray) (run seq start num den clk err : Int) (X : List Int) : Prop where
  sz : s.size = 31 + (joined [a, b, c, d]).size + 64 * nf X + 4
  mag : s.extract 0 3 = ⟨#[83, 78, 1]⟩
  g1 : gw (nums s) 3 1 = clk
  g2 : gw (nums s) 4 2 = run
  g3 : gw (nums s) 6 4 = seq
  g4 : gw (nums s) 10 7 = start
  g5 : gw (nums s) 17 2 = num
  g6 : gw (nums s) 19 2 = den
  g7 : gw (nums s) 21 6 = err
  g8 : gw (nums s) 27 2 = (X.length : Int)
  g9 : gw (nums s) 29 1 = ((joined [a, b, c, d]).size : Int)
  g10 : gw (nums s) 30 1 = (nf X : Int)
  name : s.extract 31 (31 + (joined [a, b, c, d]).size) = joined [a, b, c, d]
  data : s.extract (31 + (joined [a, b, c, d]).size) (31 + (joined [a, b, c, d]).size + 64 * nf X) = dat X
theorem encN {a b c d : ByteArray} {run seq start num den clk err : Int} {X : List Int} (P : PV a b c d run seq start num den clk err X) (t4 : ByteArray) (h4 : t4.size = 4) : EncN (bdy a b c d run seq start num den clk err X ++ t4) a b c d run seq start num den clk err X := by
  have bs := bdy_size a b c d run seq start num den clk err X
  have hn := P.src.n
  have hl := P.len
  have hf := P.nf
  have ok := flds_ok (nm := (joined [a, b, c, d]).size) (run := run) (seq := seq) (start := start) (num := num) (den := den) (clk := clk) (err := err) (X := X) (by omega) P.run P.seq P.start P.rate.n P.rate.d P.clk P.err (by omega) hf.2
  have hL : (flds (joined [a, b, c, d]).size run seq start num den clk err X).length = 10 := rfl
  have hds : (dat X).size = 64 * nf X := FS_size _ _
  have hfl : (fbs (flds (joined [a, b, c, d]).size run seq start num den clk err X)).length = 28 := by rw [fbs_len]; rfl
  have hs : nums (bdy a b c d run seq start num den clk err X ++ t4) = [83, 78, 1] ++ (fbs (flds (joined [a, b, c, d]).size run seq start num den clk err X) ++ (nums (joined [a, b, c, d]) ++ (nums (dat X) ++ nums t4))) := by
    unfold bdy
    rw [nums_app, nums_app, nums_app, nums_app, nums_strOf (fbs_rng _)]
    simp only [List.append_assoc]
    rfl
  have hsz : (bdy a b c d run seq start num den clk err X ++ t4).size = 31 + (joined [a, b, c, d]).size + 64 * nf X + 4 := by rw [ByteArray.size_append, bs, h4]
  obtain ⟨s, hss⟩ : ∃ s, s = bdy a b c d run seq start num den clk err X ++ t4 := ⟨_, rfl⟩
  rw [← hss] at hs hsz ⊢
  have G := fld_get (nums (joined [a, b, c, d]) ++ (nums (dat X) ++ nums t4)) (flds (joined [a, b, c, d]).size run seq start num den clk err X)
  have sk := gw_skip [83, 78, 1] (fbs (flds (joined [a, b, c, d]).size run seq start num den clk err X) ++ (nums (joined [a, b, c, d]) ++ (nums (dat X) ++ nums t4)))
  rw [← hs] at sk
  refine ⟨hsz, ?_, ?_, ?_, ?_, ?_, ?_, ?_, ?_, ?_, ?_, ?_, ?_, ?_⟩
  · exact ext_of (H := []) (t := ⟨#[83, 78, 1]⟩) (by rw [hs]; rfl) 0 3 rfl rfl
  · exact (sk 0 1).trans (G 0 (by rw [hL]; omega) ok)
  · exact (sk 1 2).trans (G 1 (by rw [hL]; omega) ok)
  · exact (sk 3 4).trans (G 2 (by rw [hL]; omega) ok)
  · exact (sk 7 7).trans (G 3 (by rw [hL]; omega) ok)
  · exact (sk 14 2).trans (G 4 (by rw [hL]; omega) ok)
  · exact (sk 16 2).trans (G 5 (by rw [hL]; omega) ok)
  · exact (sk 18 6).trans (G 6 (by rw [hL]; omega) ok)
  · exact (sk 24 2).trans (G 7 (by rw [hL]; omega) ok)
  · exact (sk 26 1).trans (G 8 (by rw [hL]; omega) ok)
  · exact (sk 27 1).trans (G 9 (by rw [hL]; omega) ok)
  · exact ext_of (H := [83, 78, 1] ++ fbs (flds (joined [a, b, c, d]).size run seq start num den clk err X)) (R := nums (dat X) ++ nums t4) (by rw [hs]; simp only [List.append_assoc]) 31 _ (by rw [List.length_append, hfl]; rfl) rfl
  · exact ext_of (H := [83, 78, 1] ++ fbs (flds (joined [a, b, c, d]).size run seq start num den clk err X) ++ nums (joined [a, b, c, d])) (R := nums t4) (by rw [hs]; simp only [List.append_assoc]) _ _ (by rw [List.length_append, List.length_append, hfl, nums_len]; rfl) hds
theorem byteN {s : ByteArray} {m : Nat} {v : Nat} (h : gw (nums s) m 1 = (v : Int)) (hm : m < s.size) : ∃ u : UInt8, s[m]? = some u ∧ (u.toNat : Int) = (v : Int) := by
  obtain ⟨u, h1, h2⟩ := byte_get s m hm
  refine ⟨u, h1, ?_⟩
  rw [h2, ← h]
  show _ = 0 * 256 + (nums s).getD (m + 0) 0
  rw [Nat.add_zero]
  omega
theorem length_ok {s a b c d : ByteArray} {run seq start num den clk err : Int} {X : List Int} (N : EncN s a b c d run seq start num den clk err X) (hn : 8 ≤ (joined [a, b, c, d]).size ∧ (joined [a, b, c, d]).size ≤ 15) (hf : 1 ≤ nf X ∧ nf X ≤ 8) : F12_d 600 s = some ((s.size : Int), 0) := by
  have hz := N.sz
  obtain ⟨u1, x1, y1⟩ := byteN N.g9 (by omega)
  obtain ⟨u2, x2, y2⟩ := byteN N.g10 (by omega)
  have c0 : decide ((s.size : Int) < 31) = false := by rw [decide_eq_false_iff_not]; omega
  have z29 : (0 : Int) ≤ 29 := by omega
  have z30 : (0 : Int) ≤ 30 := by omega
  have z3 : (0 : Int) ≤ 3 ∧ (3 : Int) ≤ (s.size : Int) := by omega
  have t29 : (29 : Int).toNat = 29 := rfl
  have t30 : (30 : Int).toNat = 30 := rfl
  have t3 : (3 : Int).toNat = 3 := rfl
  have e1 : IntKind.i64.wrap ((joined [a, b, c, d]).size : Int) = ((joined [a, b, c, d]).size : Int) := i64_id (by omega)
  have e2 : IntKind.i64.wrap (nf X : Int) = (nf X : Int) := i64_id (by omega)
  have e3 : i64 (31 + ((joined [a, b, c, d]).size : Int)) = 31 + ((joined [a, b, c, d]).size : Int) := i64_id (by omega)
  have e4 : i64 (64 * (nf X : Int)) = 64 * (nf X : Int) := i64_id (by omega)
  have e5 : i64 (31 + ((joined [a, b, c, d]).size : Int) + 64 * (nf X : Int)) = 31 + ((joined [a, b, c, d]).size : Int) + 64 * (nf X : Int) := i64_id (by omega)
  have e6 : i64 (31 + ((joined [a, b, c, d]).size : Int) + 64 * (nf X : Int) + 4) = (s.size : Int) := by rw [i64_id (by omega)]; omega
  have p1 : F28_d 600 (((joined [a, b, c, d]).size : Int), 8, 15) = some true := pin_yes (by omega)
  have p2 : F28_d 600 ((nf X : Int), 1, 8) = some true := pin_yes (by omega)
  simp only [F12_d, FSpec.d, F12_s, c0, z29, z30, z3, t29, t30, t3, x1, x2, y1, y2, and_self, if_true, N.mag, beq_self_eq_true, Bool.not_true, e1, e2, e3, e4, e5, e6, p1, p2]
theorem read_ok {s a b c d : ByteArray} {run seq start num den clk err : Int} {X : List Int} (P : PV a b c d run seq start num den clk err X) (N : EncN s a b c d run seq start num den clk err X) : F27_d 600 s = some (a, b, c, d, run, seq, start, num, den, clk, err, rowsI X, true) := by
  have hn := P.src.n
  have hl := P.len
  have hf := P.nf
  have hz := N.sz
  have n1 : F42_d 600 (1, s, 3) = some (clk, s, 4) := by rw [← N.g1]; exact number_ok s 3 1 (by omega) (by omega) (by omega)
  have n2 : F42_d 600 (2, s, 4) = some (run, s, 6) := by rw [← N.g2]; exact number_ok s 4 2 (by omega) (by omega) (by omega)
  have n3 : F42_d 600 (4, s, 6) = some (seq, s, 10) := by rw [← N.g3]; exact number_ok s 6 4 (by omega) (by omega) (by omega)
  have n4 : F42_d 600 (7, s, 10) = some (start, s, 17) := by rw [← N.g4]; exact number_ok s 10 7 (by omega) (by omega) (by omega)
  have n5 : F42_d 600 (2, s, 17) = some (num, s, 19) := by rw [← N.g5]; exact number_ok s 17 2 (by omega) (by omega) (by omega)
  have n6 : F42_d 600 (2, s, 19) = some (den, s, 21) := by rw [← N.g6]; exact number_ok s 19 2 (by omega) (by omega) (by omega)
  have n7 : F42_d 600 (6, s, 21) = some (err, s, 27) := by rw [← N.g7]; exact number_ok s 21 6 (by omega) (by omega) (by omega)
  have n8 : F42_d 600 (2, s, 27) = some ((X.length : Int), s, 29) := by rw [← N.g8]; exact number_ok s 27 2 (by omega) (by omega) (by omega)
  have n9 : F42_d 600 (1, s, 29) = some (((joined [a, b, c, d]).size : Int), s, 30) := by rw [← N.g9]; exact number_ok s 29 1 (by omega) (by omega) (by omega)
  have n10 : F42_d 600 (1, s, 30) = some ((nf X : Int), s, 31) := by rw [← N.g10]; exact number_ok s 30 1 (by omega) (by omega) (by omega)
  have t1 : F44_d 600 (((joined [a, b, c, d]).size : Int), s, 31) = some (joined [a, b, c, d], s, ((31 + (joined [a, b, c, d]).size : Nat) : Int)) := by
    have h := text_ok s 31 (joined [a, b, c, d]).size (by omega) (by omega)
    rw [N.name] at h
    exact h
  have e64 : i64 (64 * (nf X : Int)) = ((64 * nf X : Nat) : Int) := by rw [i64_id (by omega)]; omega
  have t2 : F44_d 600 (((64 * nf X : Nat) : Int), s, ((31 + (joined [a, b, c, d]).size : Nat) : Int)) = some (dat X, s, ((31 + (joined [a, b, c, d]).size + 64 * nf X : Nat) : Int)) := by
    have h := text_ok s (31 + (joined [a, b, c, d]).size) (64 * nf X) (by omega) (by omega)
    rw [N.data] at h
    exact h
  have dc := (back X P.smp P.len X.length ⟨P.len.1, Nat.le_refl _⟩).2
  rw [if_pos (getLast_at X P.len.1), List.take_length] at dc
  replace dc : F45_d 600 (dat X, (X.length : Int)) = some (rowsI X, 0) := dc
  have z : ((0 : Int) == 0) = true := rfl
  simp only [F27_d, FSpec.d, F27_s, n1, n2, n3, n4, n5, n6, n7, n8, n9, n10, t1, P.src.q, e64, t2, dc, z]
theorem decode_ok {a b c d : ByteArray} {run seq start num den clk err : Int} {X : List Int} (P : PV a b c d run seq start num den clk err X) : F11_d 600 (enc a b c d run seq start num den clk err X) = some (a, b, c, d, run, seq, start, num, den, clk, err, rowsI X, 0) := by
  have hn := P.src.n
  have hf := P.nf
  have N : EncN (enc a b c d run seq start num den clk err X) a b c d run seq start num den clk err X := encN P _ rfl
  have hz := N.sz
  have l := length_ok N hn hf
  have r := read_ok P N
  have e := enc_ok' P
  have ck : F26_d 600 (enc a b c d run seq start num den clk err X) = some true := by
    have h : (enc a b c d run seq start num den clk err X).size ≤ maxLen := by unfold maxLen; omega
    have h2 : check (enc a b c d run seq start num den clk err X) = true := check_appended _
    exact (if_pos h).trans (by rw [h2]; rfl)
  obtain ⟨s, hs⟩ : ∃ s, s = enc a b c d run seq start num den clk err X := ⟨_, rfl⟩
  rw [← hs] at l r ck e hz ⊢
  have z : ((0 : Int) != 0) = false := rfl
  have c1 : decide ((s.size : Int) < (s.size : Int)) = false := by rw [decide_eq_false_iff_not]; omega
  have c2 : decide ((s.size : Int) > (s.size : Int)) = false := by rw [decide_eq_false_iff_not]; omega
  simp only [F11_d, FSpec.d, F11_s, l, z, c1, c2, ck, Bool.not_true, r, e, beq_self_eq_true]
end Go.Proofs.YtdmedeaknnldcaaDoor
