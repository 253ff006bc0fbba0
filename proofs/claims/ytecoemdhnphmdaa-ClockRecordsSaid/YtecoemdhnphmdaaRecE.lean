/- ClockRecords, the plain law, and its call. -/
import Derived.Test.YtecoemdhnphmdaaRecD
namespace Go.Proofs.Ytecoemdhnphmdaa
open Go.RowKit
set_option linter.unusedVariables false
set_option linter.unusedSimpArgs false
set_option linter.unnecessarySimpa false
theorem same_loop (N : Nat) (S : List Int) : ∀ (k i f : Nat), k < f → i + k = S.length → S.length ≤ 5 → (F43_l0 N).L f (rowsI S, rowsI S, (i : Int)) = some (.inr ())
  | 0, i, f, hf, hi, hl => by
    obtain ⟨f, rfl⟩ : ∃ f', f = f' + 1 := ⟨f - 1, by omega⟩
    show (F43_l0 N).b _ _ ((F43_l0 N).L f) some = _
    have : decide ((i : Int) < (S.length : Int)) = false := by simp; omega
    simp only [F43_l0, rowsI_len, this]
  | k + 1, i, f, hf, hi, hl => by
    obtain ⟨f, rfl⟩ : ∃ f', f = f' + 1 := ⟨f - 1, by omega⟩
    have hlt : i < S.length := by omega
    have c1 : decide ((i : Int) < (S.length : Int)) = true := by simp; omega
    have c2 : (0 : Int) ≤ (i : Int) := by omega
    have c4 : i64 ((i : Int) + 1) = ((i + 1 : Nat) : Int) := by rw [i64_id (by omega)]; omega
    have r1 := same_loop N S k (i + 1) f (by omega) (by omega) hl
    show (F43_l0 N).b _ _ ((F43_l0 N).L f) some = _
    obtain ⟨Lf, hL⟩ : ∃ Lf, Lf = (F43_l0 N).L f := ⟨_, rfl⟩
    rw [← hL] at r1 ⊢
    simp only [F43_l0, rowsI_len, c1, c2, if_true, Int.toNat_natCast, rowsI_get S i hlt, List.getElem?_cons_zero, bne_self_eq_false, c4]
    exact r1
theorem bytes_eq (b : ByteArray) : (b == b) = true := by rw [beq_toListBytes]; simp
theorem same_ok (s1 s2 s3 s4 : ByteArray) (st fi a b er ru se : Int) (S : List Int) (hl : S.length ≤ 5) : F22_d 600 (s1, s2, s3, s4, st, fi, a, b, er, ru, se, rowsI S, s1, s2, s3, s4, st, fi, a, b, er, ru, se, rowsI S) = some true := by
  have r := same_loop 600 S S.length 0 600 (by omega) (by omega) hl
  replace r : (F43_l0 600).L 600 (rowsI S, rowsI S, 0) = some (.inr ()) := r
  simp only [F22_d, FSpec.d, F22_s, bytes_eq, beq_self_eq_true, Bool.and_self, F43_d, F43_s, F43_d0, bne_self_eq_false, r]
theorem clone_ok (S : List Int) (h : 1 ≤ S.length ∧ S.length ≤ 5) : F42_d 600 (rowsI S) = some (rowsI S) := by
  obtain ⟨x, r, rfl⟩ : ∃ x r, S = x :: r := by
    cases S with
    | nil => simp at h
    | cons x r => exact ⟨x, r, rfl⟩
  simp only [F42_d, FSpec.d, F42_s]
  have e : rowsI (x :: r) = [I x] :: rowsI r := rfl
  rw [e]
  have hb : (([] : List (List AV)).length + ([I x] :: rowsI r).length) * 8 ≤ maxBytes := by
    simp [rowsI_len, maxBytes] at h ⊢
    omega
  simp only [hb, if_true, List.nil_append]
theorem time0_ok {n a b : Int} (hn : 0 ≤ n ∧ n ≤ 65535) (hv : F54_d 600 (a, b) = some true) (ha : 0 < a ∧ a ≤ 3) (hb : 0 < b ∧ b ≤ 3) : F41_d 600 (n, a, b, 0) = some (n, 0) := by
  have y : ∀ {x lo hi : Int}, (lo ≤ x ∧ x ≤ hi) → F55_d 600 (x, lo, hi) = some true := fun {x lo hi} h => by
    simp only [F55_d, FSpec.d, F55_s]
    simp [h.1, h.2]
  have z0 : i64 0 = 0 := i64_id (by omega)
  simp only [F41_d, FSpec.d, F41_s]
  rw [hv]
  simp only [Bool.not_true, y (x := n) (lo := 0) (hi := 9007199254740992) (by omega), y (x := 0) (lo := 0) (hi := 16777216) (by omega), F56_d, FSpec.d, F56_s, F60_d, F60_s, Int.zero_mul, z0, Int.zero_tdiv, show ¬ (a = 0) by omega, if_false, Int.add_zero, i64_id (x := n) (by omega)]
theorem law_ok (xs : List Int) (hx : ∀ x ∈ xs, -9223372036854775808 ≤ x ∧ x ≤ 9223372036854775807) (n : Int) (hn : 0 ≤ n ∧ n ≤ 65535) : F8_d 600 (rowsI xs, n) = some true := by
  have hlight : F10_d 600 (rowsI xs) = some (decide ((xs.length : Int) ≤ 500)) := by
    simp only [F10_d, FSpec.d, F10_s, rowsI_len]
  simp only [F8_d, FSpec.d, F8_s, hlight]
  by_cases hl : (xs.length : Int) ≤ 500
  · have D : Dice xs 0 := ⟨hx, by omega, by omega, by omega⟩
    have hroll : F12_d 600 (rowsI xs) = some (rowsI xs, 0) := rfl
    obtain ⟨A, drift, p1, a1, HA, hd, D1⟩ := anc_ok D
    obtain ⟨s1, s2, s3, s4, p2, b1, D2⟩ := source_ok D1
    obtain ⟨st, fi, a, b, er, ru, se, S, p3, c1, c2, ca, cb, ce, cS, D3⟩ := rec_ok s1 s2 s3 s4 D2
    have hw : IntKind.i64.wrap n = n := i64_id (by omega)
    obtain ⟨t, off, e, k1, k2⟩ := cor_ok HA hd (t := n) (by omega)
    have happ : F21_d 600 (rowsA A, drift, s1, s2, s3, s4, n, 0, a, b, er, ru, se, rowsI S) = some (if e = 0 then (s1, s2, s3, s4, t, 0, a, b, er + off, ru, se, rowsI S, 0) else (⟨#[]⟩, ⟨#[]⟩, ⟨#[]⟩, ⟨#[]⟩, 0, 0, 0, 0, 0, 0, 0, [], e)) := by
      simp only [F21_d, FSpec.d, F21_s, time0_ok hn c2 ca cb, bne_self_eq_false, valid_ok HA hd, Bool.not_true, time_yes 600 (x := n) (by omega), k1]
      by_cases he : e = 0
      · have hoff := k2 he
        subst he
        have e1 : i64 (er + off) = er + off := i64_id (by omega)
        have e2 : ¬ ((1099511627776 : Int) < er + off) := by omega
        simp only [bne_self_eq_false, in_yes 600 (x := er) (lo := 0) (hi := 1099511627776) (by omega), Bool.not_true, clone_ok S cS, e1, e2, if_false, if_true]
      · have : (e != 0) = true := by simp [he]
        simp only [this, he, if_false]
    simp only [hl, decide_true, Bool.not_true, hroll, a1, b1, c1, hw, happ, k1, sane_ok]
    by_cases he : e = 0
    · subst he
      have hoff := k2 rfl
      have e1 : i64 (er + off) = er + off := i64_id (by omega)
      simp only [if_true, bne_self_eq_false, beq_self_eq_true, e1, same_ok s1 s2 s3 s4 n 0 a b er ru se S cS.2]
    · have : (e != 0) = true := by simp [he]
      simp only [this, he, if_false, beq_self_eq_true]
  · simp only [hl, decide_false, Bool.not_false, sane_ok]
theorem clock_records (a : Option Addr) (len cap : Nat) (n : Int) (W : World) (hr : IntsIn W (.slice a len cap)) (hn : 0 ≤ n ∧ n ≤ 65535) :
    Calls Try.prog 8 #[.slice a len cap, .int .u16 n] W fun e w' => e = .returned (.bool true) ∧ Below W.heap.size W w' := by
  obtain ⟨xs, h1, h2, h3⟩ := hr
  have ok := (F8_e 600).ok (rowsI xs, n) true (law_ok xs h1 n hn)
  refine CallOk.calls (args := [.list 1 (rowsI xs) none, .v (.int .u16 n)]) ok W _ rfl (fun i h h' => ?_)
  have : i = 0 ∨ i = 1 := by simp at h; omega
  rcases this with rfl | rfl
  · exact h3 _ _
  · exact .v
end Go.Proofs.Ytecoemdhnphmdaa
