/- Packets: Valid, Encode. -/
import Derived.Test.YtdmedeaknnldcaaDoorPkB
import Derived.Test.YtdmedeaknnldcaaDoorPkCrc
namespace Go.Proofs.YtdmedeaknnldcaaDoor
open Go.RowKit
set_option linter.unusedVariables false
set_option linter.unusedSimpArgs false
set_option linter.unnecessarySimpa false
theorem pin_any (N : Nat) (x lo hi : Int) : F28_d N (x, lo, hi) = some (decide (lo ≤ x ∧ x ≤ hi)) := in_any N x lo hi
theorem pin_yes {x lo hi : Int} (h : lo ≤ x ∧ x ≤ hi) : F28_d 600 (x, lo, hi) = some true := by rw [pin_any, decide_eq_true h]
theorem pin_no {x lo hi : Int} (h : ¬ (lo ≤ x ∧ x ≤ hi)) : F28_d 600 (x, lo, hi) = some false := by rw [pin_any, decide_eq_false h]
def nf (X : List Int) : Nat := nfr (wX X).length
def dat (X : List Int) : ByteArray := FS (nf X) (lX X)
theorem PV.nf {a b c d : ByteArray} {run seq start num den clk err : Int} {X : List Int} (P : PV a b c d run seq start num den clk err X) : 1 ≤ nf X ∧ nf X ≤ 8 := by
  have hw := (wX_len X).1
  have h := nfr_rng (wX X).length (by have := P.len; omega)
  exact ⟨h.1, h.2.1⟩
theorem PV.enc {a b c d : ByteArray} {run seq start num den clk err : Int} {X : List Int} (P : PV a b c d run seq start num den clk err X) : F23_d 600 (rowsI X) = some (dat X, 0) := (back X P.smp P.len 1 ⟨Nat.le_refl _, P.len.1⟩).1
theorem valid_ok {a b c d : ByteArray} {run seq start num den clk err : Int} {X : List Int} (P : PV a b c d run seq start num den clk err X) : F17_d 600 (a, b, c, d, run, seq, start, num, den, clk, err, rowsI X) = some true := by
  have h := P.len
  have c1 : decide (((rowsI X).length : Int) > 420) = false := by rw [rowsI_len, decide_eq_false_iff_not]; omega
  have z : ((0 : Int) == 0) = true := rfl
  simp only [F17_d, FSpec.d, F17_s, P.src.v, P.rate.v, pin_yes P.run, pin_yes P.seq, pin_yes P.start, pin_yes P.clk, pin_yes P.err, Bool.not_true, c1, P.enc, z]
/-- The fields of the header. -/
def flds (nm : Nat) (run seq start num den clk err : Int) (X : List Int) : List (Int × Int) :=
  [(clk, 1), (run, 2), (seq, 4), (start, 7), (num, 2), (den, 2), (err, 6), ((X.length : Int), 2), ((nm : Int), 1), ((nf X : Int), 1)]
def FOk (q : Int × Int) : Prop := (1 ≤ q.2 ∧ q.2 ≤ 7) ∧ 0 ≤ q.1 ∧ q.1 < 2 ^ (8 * q.2.toNat)
def fbs (L : List (Int × Int)) : List Int := L.flatMap fun q => beP q.2.toNat q.1
theorem fbs_cons (q : Int × Int) (L : List (Int × Int)) : fbs (q :: L) = beP q.2.toNat q.1 ++ fbs L := rfl
theorem fbs_rng : ∀ (L : List (Int × Int)), ∀ x ∈ fbs L, 0 ≤ x ∧ x ≤ 255
  | [], x, h => by cases h
  | q :: L, x, h => by
    rw [fbs_cons] at h
    rcases List.mem_append.1 h with h | h
    · exact beP_rng _ _ x h
    · exact fbs_rng L x h
theorem rowsW_get (L : List (Int × Int)) (i : Nat) (h : i < L.length) : (rowsW L)[i]? = some [AV.v (.int .i64 (L[i]).1), AV.v (.int .i64 (L[i]).2)] := by simp [rowsW, h]
theorem fld_loop (L : List (Int × Int)) (hL : ∀ q ∈ L, FOk q) (hl : L.length ≤ 100) (nm dt : ByteArray) : ∀ (k i f : Nat) (out : ByteArray), k < f → i + k = L.length → out.size + 7 * k ≤ 800000 →
    (F10_l11 600).L f (rowsW L, nm, dt, out, (L.length : Int), (i : Int)) = some (nm, dt, out ++ strOfNums (fbs (L.drop i)))
  | 0, i, f, out, hf, hi, ho => by
    obtain ⟨f, rfl⟩ : ∃ f', f = f' + 1 := ⟨f - 1, by omega⟩
    show (F10_l11 600).b _ _ ((F10_l11 600).L f) some = _
    have c : decide ((i : Int) < (L.length : Int)) = false := by rw [decide_eq_false_iff_not]; omega
    have e : L.drop i = [] := List.drop_eq_nil_of_le (by omega)
    have e2 : out ++ strOfNums (fbs []) = out := by
      apply ByteArray.ext
      show (out ++ strOfNums []).data = _
      simp [strOfNums]
    simp only [F10_l11, c, e, e2]
  | k + 1, i, f, out, hf, hi, ho => by
    obtain ⟨f, rfl⟩ : ∃ f', f = f' + 1 := ⟨f - 1, by omega⟩
    have hlt : i < L.length := by omega
    obtain ⟨h1, h2, h3⟩ := hL _ (List.getElem_mem hlt)
    have ew : (((L[i]).2.toNat : Nat) : Int) = (L[i]).2 := Int.toNat_of_nonneg (by omega)
    have pu := put_ok out (by omega) (n := (L[i]).1) (L[i]).2.toNat (by omega) ⟨h2, h3⟩
    rw [ew] at pu
    have hsz : (out ++ strOfNums (beP (L[i]).2.toNat (L[i]).1)).size + 7 * k ≤ 800000 := by
      rw [ByteArray.size_append, strOf_size, beP_len]; omega
    have r1 := fld_loop L hL hl nm dt k (i + 1) f _ (by omega) (by omega) hsz
    have ed : L.drop i = L[i] :: L.drop (i + 1) := List.drop_eq_getElem_cons hlt
    have ea : out ++ strOfNums (beP (L[i]).2.toNat (L[i]).1) ++ strOfNums (fbs (L.drop (i + 1))) = out ++ strOfNums (fbs (L.drop i)) := by
      rw [ed, fbs_cons, strOf_app]
      exact ByteArray.append_assoc
    rw [ea] at r1
    have c1 : decide ((i : Int) < (L.length : Int)) = true := by rw [decide_eq_true_iff]; omega
    have c2 : (0 : Int) ≤ (i : Int) := by omega
    have c4 : i64 ((i : Int) + 1) = ((i + 1 : Nat) : Int) := by rw [i64_id (by omega)]; omega
    show (F10_l11 600).b _ _ ((F10_l11 600).L f) some = _
    obtain ⟨Lf, hL2⟩ : ∃ Lf, Lf = (F10_l11 600).L f := ⟨_, rfl⟩
    rw [← hL2] at r1 ⊢
    simp only [F10_l11, c1, c2, if_true, Int.toNat_natCast, rowsW_get L i hlt, List.getElem?_cons_zero, List.getElem?_cons_succ, pu, c4]
    exact r1
/-- What stands ahead of the checksum. -/
def bdy (a b c d : ByteArray) (run seq start num den clk err : Int) (X : List Int) : ByteArray :=
  ((⟨#[83, 78, 1]⟩ : ByteArray) ++ strOfNums (fbs (flds (joined [a, b, c, d]).size run seq start num den clk err X))) ++ joined [a, b, c, d] ++ dat X
def enc (a b c d : ByteArray) (run seq start num den clk err : Int) (X : List Int) : ByteArray := appended (bdy a b c d run seq start num den clk err X)
theorem flds_ok {nm : Nat} {run seq start num den clk err : Int} {X : List Int} (hn : nm ≤ 255) (h1 : 0 ≤ run ∧ run ≤ 65535) (h2 : 0 ≤ seq ∧ seq ≤ 1073741824) (h3 : 0 ≤ start ∧ start ≤ 9007199254740992) (h4 : 1 ≤ num ∧ num ≤ 4096) (h5 : 1 ≤ den ∧ den ≤ 4096) (h6 : 0 ≤ clk ∧ clk ≤ 2) (h7 : 0 ≤ err ∧ err ≤ 1099511627776) (h8 : X.length ≤ 430) (h9 : nf X ≤ 8) : ∀ q ∈ flds nm run seq start num den clk err X, FOk q := by
  have p1 : (2 : Int) ^ (8 * (1 : Int).toNat) = 256 := by decide
  have p2 : (2 : Int) ^ (8 * (2 : Int).toNat) = 65536 := by decide
  have p4 : (2 : Int) ^ (8 * (4 : Int).toNat) = 4294967296 := by decide
  have p6 : (2 : Int) ^ (8 * (6 : Int).toNat) = 281474976710656 := by decide
  have p7 : (2 : Int) ^ (8 * (7 : Int).toNat) = 72057594037927936 := by decide
  intro q hq
  simp only [flds, List.mem_cons, List.not_mem_nil, or_false] at hq
  rcases hq with rfl | rfl | rfl | rfl | rfl | rfl | rfl | rfl | rfl | rfl <;> refine ⟨by omega, ?_⟩ <;> simp only [p1, p2, p4, p6, p7] <;> omega
theorem fbs_len : ∀ (L : List (Int × Int)), (fbs L).length = (L.map fun q => q.2.toNat).sum
  | [] => rfl
  | q :: L => by rw [fbs_cons, List.length_append, beP_len, fbs_len L, List.map_cons, List.sum_cons]
theorem bdy_size (a b c d : ByteArray) (run seq start num den clk err : Int) (X : List Int) : (bdy a b c d run seq start num den clk err X).size = 31 + (joined [a, b, c, d]).size + 64 * nf X := by
  unfold bdy dat
  rw [ByteArray.size_append, ByteArray.size_append, ByteArray.size_append, strOf_size, fbs_len, FS_size]
  show 3 + 28 + _ + _ = _
  omega
theorem enc_size (a b c d : ByteArray) (run seq start num den clk err : Int) (X : List Int) : (enc a b c d run seq start num den clk err X).size = 31 + (joined [a, b, c, d]).size + 64 * nf X + 4 := by
  unfold enc
  rw [appended_size, bdy_size]
theorem format_ok {a b c d : ByteArray} (S : SrcOk a b c d) : F22_d 600 (a, b, c, d) = some (joined [a, b, c, d], 0) := by
  have h := S.n
  have e : (joined [(a, b, c, d).1, (a, b, c, d).2.1, (a, b, c, d).2.2.1, (a, b, c, d).2.2.2]).size ≤ 140737488355328 := by show (joined [a, b, c, d]).size ≤ _; omega
  simp only [F22_d, FSpec.d, F22_s, S.v]
  exact if_pos e
theorem enc_ok' {a b c d : ByteArray} {run seq start num den clk err : Int} {X : List Int} (P : PV a b c d run seq start num den clk err X) : F10_d 600 (a, b, c, d, run, seq, start, num, den, clk, err, rowsI X) = some (enc a b c d run seq start num den clk err X, 0) := by
  have hn := P.src.n
  have hl := P.len
  have hf := P.nf
  have bs := bdy_size a b c d run seq start num den clk err X
  obtain ⟨nm, hnm⟩ : ∃ nm, nm = joined [a, b, c, d] := ⟨_, rfl⟩
  obtain ⟨dt, hdt⟩ : ∃ dt, dt = dat X := ⟨_, rfl⟩
  have hds : dt.size = 64 * nf X := by rw [hdt]; exact FS_size _ _
  have v := valid_ok P
  have f := format_ok P.src
  have e := P.enc
  rw [← hnm] at f hn bs
  rw [← hdt] at e
  have ok := flds_ok (nm := nm.size) (run := run) (seq := seq) (start := start) (num := num) (den := den) (clk := clk) (err := err) (X := X) (by omega) P.run P.seq P.start P.rate.n P.rate.d P.clk P.err (by omega) hf.2
  have r := fld_loop _ ok (by show 10 ≤ 100; omega) nm dt 10 0 600 ⟨#[83, 78, 1]⟩ (by omega) rfl (by show 3 + 7 * 10 ≤ 800000; omega)
  have e64 : i64 ((dt.size : Int).tdiv 64) = (nf X : Int) := by
    rw [hds, show ((64 * nf X : Nat) : Int) = 64 * (nf X : Int) by omega, Int.mul_tdiv_cancel_left _ (by omega)]
    exact i64_id (by omega)
  have rl : (((rowsI X).length : Nat) : Int) = (X.length : Int) := by rw [rowsI_len]
  replace r : (F10_l11 600).L 600 ([[AV.v (.int .i64 clk), AV.v (.int .i64 1)], [AV.v (.int .i64 run), AV.v (.int .i64 2)], [AV.v (.int .i64 seq), AV.v (.int .i64 4)], [AV.v (.int .i64 start), AV.v (.int .i64 7)], [AV.v (.int .i64 num), AV.v (.int .i64 2)], [AV.v (.int .i64 den), AV.v (.int .i64 2)], [AV.v (.int .i64 err), AV.v (.int .i64 6)], [AV.v (.int .i64 (X.length : Int)), AV.v (.int .i64 2)], [AV.v (.int .i64 (nm.size : Int)), AV.v (.int .i64 1)], [AV.v (.int .i64 (nf X : Int)), AV.v (.int .i64 1)]], nm, dt, ⟨#[83, 78, 1]⟩, 10, 0) = some (nm, dt, ⟨#[83, 78, 1]⟩ ++ strOfNums (fbs (flds nm.size run seq start num den clk err X))) := r
  obtain ⟨hd, hhd⟩ : ∃ hd, hd = (⟨#[83, 78, 1]⟩ : ByteArray) ++ strOfNums (fbs (flds nm.size run seq start num den clk err X)) := ⟨_, rfl⟩
  rw [← hhd] at r
  have hb : bdy a b c d run seq start num den clk err X = hd ++ nm ++ dt := by rw [hhd, hnm, hdt]; rfl
  have hhs : hd.size = 31 := by
    rw [hhd, ByteArray.size_append, strOf_size, fbs_len]; rfl
  have b1 : hd.size + nm.size ≤ 9223372036854775807 := by omega
  have b2 : (hd ++ nm).size + dt.size ≤ 9223372036854775807 := by rw [ByteArray.size_append]; omega
  have l10 : (([[AV.v (.int .i64 clk), AV.v (.int .i64 1)], [AV.v (.int .i64 run), AV.v (.int .i64 2)], [AV.v (.int .i64 seq), AV.v (.int .i64 4)], [AV.v (.int .i64 start), AV.v (.int .i64 7)], [AV.v (.int .i64 num), AV.v (.int .i64 2)], [AV.v (.int .i64 den), AV.v (.int .i64 2)], [AV.v (.int .i64 err), AV.v (.int .i64 6)], [AV.v (.int .i64 (X.length : Int)), AV.v (.int .i64 2)], [AV.v (.int .i64 (nm.size : Int)), AV.v (.int .i64 1)], [AV.v (.int .i64 (nf X : Int)), AV.v (.int .i64 1)]].length : Nat) : Int) = 10 := rfl
  have cr : F25_d 600 (hd ++ nm ++ dt) = some (appended (hd ++ nm ++ dt)) := by
    have : (hd ++ nm ++ dt).size + 4 ≤ maxLen := by rw [ByteArray.size_append, ByteArray.size_append]; unfold maxLen; omega
    exact if_pos this
  simp only [F10_d, FSpec.d, F10_s, v, Bool.not_true, f, e, rl, e64, l10, F10_d11, r, b1, b2, if_true, cr]
  show some (appended (hd ++ nm ++ dt), (0 : Int)) = _
  unfold enc
  rw [hb]
end Go.Proofs.YtdmedeaknnldcaaDoor
