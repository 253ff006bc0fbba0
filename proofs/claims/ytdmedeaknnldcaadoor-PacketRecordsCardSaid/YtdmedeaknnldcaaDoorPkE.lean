/- Packets: PacketBack, PacketRecords. -/
import Derived.Test.YtdmedeaknnldcaaDoorPkD
namespace Go.Proofs.YtdmedeaknnldcaaDoor
open Go.RowKit
set_option linter.unusedVariables false
set_option linter.unusedSimpArgs false
set_option linter.unnecessarySimpa false
theorem bself (a : ByteArray) : (a == a) = true := by
  cases a with
  | mk d =>
    show (d == d) = true
    exact beq_self_eq_true d
theorem psame_ok {a b c d : ByteArray} {run seq start num den clk err : Int} {X : List Int} (hl : X.length ≤ 590) : F13_d 600 (a, b, c, d, run, seq, start, num, den, clk, err, rowsI X, a, b, c, d, run, seq, start, num, den, clk, err, rowsI X) = some true := by
  have s := same_ok X hl
  simp only [F13_d, FSpec.d, F13_s, bself, beq_self_eq_true, Bool.and_self, s]
theorem back_law (t : List Int) (ht : ∀ x ∈ t, -9223372036854775808 ≤ x ∧ x ≤ 9223372036854775807) : F3_d 600 (rowsI t) = some true := by
  by_cases hl : (t.length : Int) ≤ 500
  · have D : Dice t 0 := ⟨ht, by omega, by omega, by omega⟩
    have hroll : F8_d 600 (rowsI t) = some (rowsI t, 0) := rfl
    obtain ⟨a, b, c, d, run, seq, start, num, den, clk, err, X, p', g, P, D1⟩ := packet_ok D
    have hn := P.src.n
    have hf := P.nf
    have N : EncN (enc a b c d run seq start num den clk err X) a b c d run seq start num den clk err X := encN P _ rfl
    have l := length_ok N hn hf
    have e := enc_ok' P
    have de := decode_ok P
    have sm := psame_ok (a := a) (b := b) (c := c) (d := d) (run := run) (seq := seq) (start := start) (num := num) (den := den) (clk := clk) (err := err) (X := X) (by have := P.len; omega)
    have z : ((0 : Int) == 0) = true := rfl
    obtain ⟨s, hs⟩ : ∃ s, s = enc a b c d run seq start num den clk err X := ⟨_, rfl⟩
    rw [← hs] at l e de
    simp only [F3_d, FSpec.d, F3_s, light_ok, hl, decide_true, Bool.not_true, hroll, g, e, de, l, z, sm, beq_self_eq_true, sane_ok]
  · simp only [F3_d, FSpec.d, F3_s, light_ok, hl, decide_false, Bool.not_false, sane_ok]
theorem record_ok {a b c d : ByteArray} {run seq start num den clk err : Int} {X : List Int} (P : PV a b c d run seq start num den clk err X) : F16_d 600 (a, b, c, d, run, seq, start, num, den, clk, err, rowsI X) = some (a, b, c, d, start, 0, num, den, (if clk = 2 then 1099511627776 else err), run, seq, rowsI X, 0) := by
  have h := P.len
  have b : (rowsI X).length * 8 ≤ maxBytes := by rw [rowsI_len]; unfold maxBytes; omega
  have v := valid_ok P
  by_cases hc : clk = 2
  · have c1 : (clk == 2) = true := beq_iff_eq.2 hc
    simp only [F16_d, FSpec.d, F16_s, v, Bool.not_true, c1, b, if_true, if_pos hc]
  · have c1 : (clk == 2) = false := beq_eq_false_iff_ne.2 hc
    simp only [F16_d, FSpec.d, F16_s, v, Bool.not_true, c1, b, if_true, if_neg hc]
theorem rec_loop (X : List Int) (hl : X.length ≤ 590) (a b c d : ByteArray) (x7 x8 x9 x10 x11 x12 x13 : Int) (e f g h : ByteArray) (x19 x20 x21 x22 x23 x24 x25 : Int) : ∀ (k i n : Nat), k < n → i + k = X.length →
    (F5_l14 600).L n ((X.length : Int), (i : Int), a, b, c, d, x7, x8, x9, x10, x11, x12, x13, rowsI X, e, f, g, h, x19, x20, x21, x22, x23, x24, x25, rowsI X) = some (.inr (a, b, c, d, x7, x8, x9, x10, x11, x12, x13, rowsI X, e, f, g, h, x19, x20, x21, x22, x23, x24, x25, rowsI X))
  | 0, i, n, hf, hi => by
    obtain ⟨n, rfl⟩ : ∃ n', n = n' + 1 := ⟨n - 1, by omega⟩
    show (F5_l14 600).b _ _ ((F5_l14 600).L n) some = _
    have : decide ((i : Int) < (X.length : Int)) = false := by rw [decide_eq_false_iff_not]; omega
    simp only [F5_l14, this]
  | k + 1, i, n, hf, hi => by
    obtain ⟨n, rfl⟩ : ∃ n', n = n' + 1 := ⟨n - 1, by omega⟩
    have hlt : i < X.length := by omega
    have c1 : decide ((i : Int) < (X.length : Int)) = true := by rw [decide_eq_true_iff]; omega
    have c2 : (0 : Int) ≤ (i : Int) := by omega
    have c4 : i64 ((i : Int) + 1) = ((i + 1 : Nat) : Int) := by rw [i64_id (by omega)]; omega
    have r1 := rec_loop X hl a b c d x7 x8 x9 x10 x11 x12 x13 e f g h x19 x20 x21 x22 x23 x24 x25 k (i + 1) n (by omega) (by omega)
    show (F5_l14 600).b _ _ ((F5_l14 600).L n) some = _
    obtain ⟨Lf, hL⟩ : ∃ Lf, Lf = (F5_l14 600).L n := ⟨_, rfl⟩
    rw [← hL] at r1 ⊢
    simp only [F5_l14, c1, c2, if_true, Int.toNat_natCast, rowsI_get X i hlt, List.getElem?_cons_zero, bne_self_eq_false, c4]
    exact r1
theorem records_law (t : List Int) (ht : ∀ x ∈ t, -9223372036854775808 ≤ x ∧ x ≤ 9223372036854775807) : F5_d 600 (rowsI t) = some true := by
  by_cases hl : (t.length : Int) ≤ 500
  · have D : Dice t 0 := ⟨ht, by omega, by omega, by omega⟩
    have hroll : F8_d 600 (rowsI t) = some (rowsI t, 0) := rfl
    obtain ⟨a, b, c, d, run, seq, start, num, den, clk, err, X, p', g, P, D1⟩ := packet_ok D
    have h := P.len
    have rc := record_ok P
    obtain ⟨er, her⟩ : ∃ er, er = (if clk = 2 then 1099511627776 else err) := ⟨_, rfl⟩
    rw [← her] at rc
    have lp := rec_loop X (by omega) a b c d run seq start num den clk err a b c d start 0 num den er run seq X.length 0 600 (by omega) (by omega)
    replace lp : (F5_l14 600).L 600 ((X.length : Int), 0, a, b, c, d, run, seq, start, num, den, clk, err, rowsI X, a, b, c, d, start, 0, num, den, er, run, seq, rowsI X) = _ := lp
    by_cases hc : clk = 2
    · rw [if_pos hc] at her
      have c1 : (clk == 2) = true := beq_iff_eq.2 hc
      have c2 : (er == 1099511627776) = true := beq_iff_eq.2 her
      simp only [F5_d, FSpec.d, F5_s, light_ok, hl, decide_true, Bool.not_true, hroll, g, rc, bne_self_eq_false, bself, beq_self_eq_true, Bool.and_self, Bool.not_true, rowsI_len, F5_d14, lp, c1, c2, sane_ok]
    · rw [if_neg hc] at her
      have c1 : (clk == 2) = false := beq_eq_false_iff_ne.2 hc
      have c2 : (er == err) = true := beq_iff_eq.2 her
      simp only [F5_d, FSpec.d, F5_s, light_ok, hl, decide_true, Bool.not_true, hroll, g, rc, bne_self_eq_false, bself, beq_self_eq_true, Bool.and_self, Bool.not_true, rowsI_len, F5_d14, lp, c1, c2, sane_ok]
  · simp only [F5_d, FSpec.d, F5_s, light_ok, hl, decide_false, Bool.not_false, sane_ok]
/-- PacketBack returns true. -/
theorem packet_back (a : Option Addr) (len cap : Nat) (W : World) (w : IntsIn W (.slice a len cap)) (hgl : GlOk (memOf W) W [] (InT sig0 [])) : Calls Tryd.prog 3 #[.slice a len cap] W fun e w' => e = .returned (.bool true) ∧ Below W.heap.size W w' := by
  obtain ⟨xs, hb, hl, hr⟩ := w
  refine CallOk.calls ((F3_e 600).ok (rowsI xs) true (back_law xs hb)) W _ rfl (fun i h h' => ?_) hgl
  obtain rfl : i = 0 := by have : i < 1 := h'; omega
  exact hr _ _
/-- PacketRecords returns true. -/
theorem packet_records (a : Option Addr) (len cap : Nat) (W : World) (w : IntsIn W (.slice a len cap)) (hgl : GlOk (memOf W) W [] (InT sig0 [])) : Calls Tryd.prog 5 #[.slice a len cap] W fun e w' => e = .returned (.bool true) ∧ Below W.heap.size W w' := by
  obtain ⟨xs, hb, hl, hr⟩ := w
  refine CallOk.calls ((F5_e 600).ok (rowsI xs) true (records_law xs hb)) W _ rfl (fun i h h' => ?_) hgl
  obtain rfl : i = 0 := by have : i < 1 := h'; omega
  exact hr _ _
end Go.Proofs.YtdmedeaknnldcaaDoor
