/- ClockExact, the plain law: the dice's record, Apply of both packages, the loops of the law. -/
import Derived.Test.YtecoemdhnphmdaaCkXB
namespace Go.Proofs.Ytecoemdhnphmdaa
open Go.RowKit
set_option linter.unusedVariables false
set_option linter.unusedSimpArgs false
set_option linter.unnecessarySimpa false

theorem recx_ok (s1 s2 s3 s4 : ByteArray) {xs : List Int} {p : Int} (D : Dice xs p) : ∃ (start first a b error run seq : Int) (smp : List Int) (p' : Int), F19_d 600 (s1, s2, s3, s4, 3, rowsI xs, p) = some (s1, s2, s3, s4, start, first, a, b, error, run, seq, rowsI smp, rowsI xs, p') ∧ F54_d 600 (a, b) = some true ∧ (0 < a ∧ a ≤ 3) ∧ (0 < b ∧ b ≤ 3) ∧ (0 ≤ error ∧ error ≤ 500) ∧ (1 ≤ smp.length ∧ smp.length ≤ 5) ∧ Dice xs p' := by
  obtain ⟨n1, p1, h1, m1, D1⟩ := pick_ok 600 [1, 2, 2, 3] (by simp) D
  replace h1 : F23_d 600 ([[AV.v (.int .i64 1)], [AV.v (.int .i64 2)], [AV.v (.int .i64 2)], [AV.v (.int .i64 3)]], rowsI xs, p) = some (n1, rowsI xs, p1) := h1
  obtain ⟨n2, p2, h2, m2, D2⟩ := pick_ok 600 [1, 1, 1, 3] (by simp) D1
  replace h2 : F23_d 600 ([[AV.v (.int .i64 1)], [AV.v (.int .i64 1)], [AV.v (.int .i64 1)], [AV.v (.int .i64 3)]], rowsI xs, p1) = some (n2, rowsI xs, p2) := h2
  obtain ⟨a, b, h3, h3b, a0, a1, b0, b1⟩ := new_ok n1 n2 (by simp at m1; omega) (by simp at m2; omega)
  obtain ⟨n4, p4, h4, m4, D4⟩ := next_ok 600 (n := 40) (by omega) D2
  obtain ⟨n5, p5, h5, m5, D5⟩ := pick_ok 600 [0, 0, 3] (by simp) D4
  replace h5 : F23_d 600 ([[AV.v (.int .i64 0)], [AV.v (.int .i64 0)], [AV.v (.int .i64 3)]], rowsI xs, p4) = some (n5, rowsI xs, p5) := h5
  obtain ⟨n6, p6, h6, m6, D6⟩ := pick_ok 600 [0, 0, 10, 500] (by simp) D5
  replace h6 : F23_d 600 ([[AV.v (.int .i64 0)], [AV.v (.int .i64 0)], [AV.v (.int .i64 10)], [AV.v (.int .i64 500)]], rowsI xs, p5) = some (n6, rowsI xs, p6) := h6
  obtain ⟨n7, p7, h7, m7, D7⟩ := next_ok 600 (n := 2) (by omega) D6
  obtain ⟨n8, p8, h8, m8, D8⟩ := next_ok 600 (n := 6) (by omega) D7
  obtain ⟨n9, p9, h9, m9, D9⟩ := next_ok 600 (n := 3) (by omega) D8
  have e9 : i64 (1 + n9) = ((1 + n9.toNat : Nat) : Int) := by rw [i64_id (by omega)]; omega
  obtain ⟨zs, p', l1, l2, l3⟩ := rec_loop 600 ⟨#[]⟩ ⟨#[]⟩ ⟨#[]⟩ ⟨#[]⟩ 0 0 0 0 0 0 0 [] s1 s2 s3 s4 (i64 (1000000000000 + (i64 (250000 * n4)))) n5 a b n6 n7 n8 (1 + n9.toNat) 600 p9 [] (by omega) (by simp; omega) D9
  refine ⟨i64 (1000000000000 + (i64 (250000 * n4))), n5, a, b, n6, n7, n8, zs, p', ?_, h3b, ⟨a0, a1⟩, ⟨b0, b1⟩, by simp at m6; omega, by omega, l3⟩
  simp only [F19_d, FSpec.d, F19_s, h1, h2, h3, h4, h5, h6, h7, h8, h9, e9, F19_d6]
  replace l1 : (F19_l6 600).L 600 (((1 + n9.toNat : Nat) : Int), rowsI xs, p9, ⟨#[]⟩, ⟨#[]⟩, ⟨#[]⟩, ⟨#[]⟩, 0, 0, 0, 0, 0, 0, 0, [], s1, s2, s3, s4, (i64 (1000000000000 + (i64 (250000 * n4)))), n5, a, b, n6, n7, n8, ([] : List (List AV))) = _ := l1
  simp only [l1]
  rfl

theorem same_loop (N : Nat) (S : List Int) : ∀ (k i f : Nat), k < f → i + k = S.length → S.length ≤ 5 → (F43_l8 N).L f (rowsI S, rowsI S, (i : Int)) = some (.inr ())
  | 0, i, f, hf, hi, hl => by
    obtain ⟨f, rfl⟩ : ∃ f', f = f' + 1 := ⟨f - 1, by omega⟩
    show (F43_l8 N).b _ _ ((F43_l8 N).L f) some = _
    have : decide ((i : Int) < (S.length : Int)) = false := by simp; omega
    simp only [F43_l8, rowsI_len, this]
  | k + 1, i, f, hf, hi, hl => by
    obtain ⟨f, rfl⟩ : ∃ f', f = f' + 1 := ⟨f - 1, by omega⟩
    have hlt : i < S.length := by omega
    have c1 : decide ((i : Int) < (S.length : Int)) = true := by simp; omega
    have c2 : (0 : Int) ≤ (i : Int) := by omega
    have c4 : i64 ((i : Int) + 1) = ((i + 1 : Nat) : Int) := by rw [i64_id (by omega)]; omega
    have r1 := same_loop N S k (i + 1) f (by omega) (by omega) hl
    show (F43_l8 N).b _ _ ((F43_l8 N).L f) some = _
    obtain ⟨Lf, hL⟩ : ∃ Lf, Lf = (F43_l8 N).L f := ⟨_, rfl⟩
    rw [← hL] at r1 ⊢
    simp only [F43_l8, rowsI_len, c1, c2, if_true, Int.toNat_natCast, rowsI_get S i hlt, List.getElem?_cons_zero, bne_self_eq_false, c4]
    exact r1
theorem bytes_eq (b : ByteArray) : (b == b) = true := by rw [beq_toListBytes]; simp
theorem same_ok (s1 s2 s3 s4 : ByteArray) (st fi a b er ru se : Int) (S : List Int) (hl : S.length ≤ 5) : F22_d 600 (s1, s2, s3, s4, st, fi, a, b, er, ru, se, rowsI S, s1, s2, s3, s4, st, fi, a, b, er, ru, se, rowsI S) = some true := by
  have r := same_loop 600 S S.length 0 600 (by omega) (by omega) hl
  replace r : (F43_l8 600).L 600 (rowsI S, rowsI S, 0) = some (.inr ()) := r
  simp only [F22_d, FSpec.d, F22_s, bytes_eq, beq_self_eq_true, Bool.and_self, F43_d, F43_s, F43_d8, bne_self_eq_false, r]
theorem clone_ok (S : List Int) (h : 1 ≤ S.length ∧ S.length ≤ 5) : F42_d 600 (rowsI S) = some (rowsI S) := by
  obtain ⟨x, r, rfl⟩ : ∃ x r, S = x :: r := by
    cases S with
    | nil => simp at h
    | cons x r => exact ⟨x, r, rfl⟩
  simp only [F42_d, FSpec.d, F42_s]
  have e : rowsI (x :: r) = [I x] :: rowsI r := rfl
  rw [e]
  have hb : (([] : List (List AV)).length + ([I x] :: rowsI r).length) * 8 ≤ maxBytes := by
    simp [rowsI_len, maxBytes] at h ⊢
    omega
  simp only [hb, if_true, List.nil_append]


/-! Apply. -/
theorem rv11 : F57_d 600 (1, 1) = F54_d 600 (1, 1) := by kernel_rfl
theorem rv12 : F57_d 600 (1, 2) = F54_d 600 (1, 2) := by kernel_rfl
theorem rv13 : F57_d 600 (1, 3) = F54_d 600 (1, 3) := by kernel_rfl
theorem rv21 : F57_d 600 (2, 1) = F54_d 600 (2, 1) := by kernel_rfl
theorem rv22 : F57_d 600 (2, 2) = F54_d 600 (2, 2) := by kernel_rfl
theorem rv23 : F57_d 600 (2, 3) = F54_d 600 (2, 3) := by kernel_rfl
theorem rv31 : F57_d 600 (3, 1) = F54_d 600 (3, 1) := by kernel_rfl
theorem rv32 : F57_d 600 (3, 2) = F54_d 600 (3, 2) := by kernel_rfl
theorem rv33 : F57_d 600 (3, 3) = F54_d 600 (3, 3) := by kernel_rfl
theorem rv_same {a b : Int} (h : F54_d 600 (a, b) = some true) (ha : 0 < a ∧ a ≤ 3) (hb : 0 < b ∧ b ≤ 3) : F57_d 600 (a, b) = some true := by
  have e : F57_d 600 (a, b) = F54_d 600 (a, b) := by
    have c1 : a = 1 ∨ a = 2 ∨ a = 3 := by omega
    have c2 : b = 1 ∨ b = 2 ∨ b = 3 := by omega
    rcases c1 with rfl | rfl | rfl <;> rcases c2 with rfl | rfl | rfl <;> first | exact rv11 | exact rv12 | exact rv13 | exact rv21 | exact rv22 | exact rv23 | exact rv31 | exact rv32 | exact rv33
  rw [e]; exact h
def fOk (t : Int) : Prop := 0 ≤ t ∧ t ≤ 16777216
instance (t : Int) : Decidable (fOk t) := inferInstanceAs (Decidable (_ ∧ _))
theorem fst_any (x : Int) : F55_d 600 (x, 0, 16777216) = some (decide (fOk x)) := in_any 600 x _ _
theorem rfst_any (x : Int) : F45_d 600 (x, 0, 16777216) = some (decide (fOk x)) := rin_any 600 x _ _
theorem tm_any (x : Int) : F55_d 600 (x, 0, 9007199254740992) = some (decide (tOk x)) := in_any 600 x _ _
theorem rt_any {st fi a b : Int} (h : F54_d 600 (a, b) = some true) (ha : 0 < a ∧ a ≤ 3) (hb : 0 < b ∧ b ≤ 3) (hs : st ≤ 1000000) : ∃ t e, F41_d 600 (st, a, b, fi) = some (t, e) ∧ F49_d 600 (st, a, b, fi) = some (t, e) ∧ (e = 0 → 0 ≤ t ∧ t ≤ 1000000000000000) := by
  have h2 := rv_same h ha hb
  by_cases h3 : tOk st
  · by_cases h4 : fOk fi
    · have q3 := h3
      have q4 := h4
      unfold tOk at q3
      unfold fOk at q4
      have na : ¬ a = 0 := by omega
      have e1 : i64 (b * 1000000) = b * 1000000 := i64_id (by omega)
      have m1 : fi * b ≤ 16777216 * 3 := Int.le_trans (Int.mul_le_mul_of_nonneg_right q4.2 (by omega)) (Int.mul_le_mul_of_nonneg_left hb.2 (by omega))
      have m0 : 0 ≤ fi * b := Int.mul_nonneg q4.1 (by omega)
      have e2 : i64 (fi * b) = fi * b := i64_id (by omega)
      have ea : fi * (b * 1000000) = fi * b * 1000000 := by rw [Int.mul_assoc]
      obtain ⟨m, hm⟩ : ∃ m, m = fi * b := ⟨_, rfl⟩
      rw [← hm] at m0 m1 e2 ea
      have e3 : i64 (m * 1000000) = m * 1000000 := i64_id (by omega)
      have d0 : 0 ≤ (m * 1000000).tdiv a := Int.tdiv_nonneg (by omega) (by omega)
      have d1 : (m * 1000000).tdiv a ≤ m * 1000000 := by
        rw [Int.tdiv_eq_ediv_of_nonneg (by omega)]
        exact Int.ediv_le_self _ (by omega)
      refine ⟨i64 (st + (m * 1000000).tdiv a), 0, ?_, ?_, fun _ => ?_⟩
      · simp only [F41_d, FSpec.d, F41_s, h, Bool.not_true, tm_any, h3, decide_true, fst_any, h4, F56_d, F56_s, F60_d, F60_s, na, if_false, e1, ea, e3]
        rw [i64_id (x := (m * 1000000).tdiv a) (by omega)]
      · simp only [F49_d, FSpec.d, F49_s, h2, Bool.not_true, rtime_any, h3, decide_true, rfst_any, h4, na, if_false, ← hm, e2, e3]
        rw [i64_id (x := (m * 1000000).tdiv a) (by omega)]
      · rw [i64_id (by omega)]; omega
    · have h5 := decide_eq_false h4
      refine ⟨0, 2, ?_, ?_, fun h => (by omega)⟩
      · simp only [F41_d, FSpec.d, F41_s, h, Bool.not_true, tm_any, h3, decide_true, fst_any, h5, Bool.not_false]
      · simp only [F49_d, FSpec.d, F49_s, h2, Bool.not_true, rtime_any, h3, decide_true, rfst_any, h5, Bool.not_false]
  · have h5 := decide_eq_false h3
    refine ⟨0, 2, ?_, ?_, fun h => (by omega)⟩
    · simp only [F41_d, FSpec.d, F41_s, h, Bool.not_true, tm_any, h5, Bool.not_false]
    · simp only [F49_d, FSpec.d, F49_s, h2, Bool.not_true, rtime_any, h5, Bool.not_false]
def eOk (t : Int) : Prop := 0 ≤ t ∧ t ≤ 1099511627776
instance (t : Int) : Decidable (eOk t) := inferInstanceAs (Decidable (_ ∧ _))
theorem er_any (x : Int) : F39_d 600 (x, 0, 1099511627776) = some (decide (eOk x)) := in_any 600 x _ _
theorem rer_any (x : Int) : F45_d 600 (x, 0, 1099511627776) = some (decide (eOk x)) := rin_any 600 x _ _
/-- A record that both packages return. -/
structure Rc where
  s1 : ByteArray
  s2 : ByteArray
  s3 : ByteArray
  s4 : ByteArray
  st : Int
  fi : Int
  a : Int
  b : Int
  er : Int
  ru : Int
  se : Int
  S : List Int
theorem app_any {A : List An} (hl : A.length ≤ 300) (drift : Int) (s1 s2 s3 s4 : ByteArray) {st fi a b : Int} (er ru se : Int) {S : List Int} (hS : 1 ≤ S.length ∧ S.length ≤ 5) (h : F54_d 600 (a, b) = some true) (ha : 0 < a ∧ a ≤ 3) (hb : 0 < b ∧ b ≤ 3) (hs : st ≤ 1000000) :
    ∃ (r : Rc) (e : Int), F21_d 600 (rowsA A, drift, s1, s2, s3, s4, st, fi, a, b, er, ru, se, rowsI S) = some (r.s1, r.s2, r.s3, r.s4, r.st, r.fi, r.a, r.b, r.er, r.ru, r.se, rowsI r.S, e) ∧ F33_d 600 (rowsA A, drift, s1, s2, s3, s4, st, fi, a, b, er, ru, se, rowsI S) = some (r.s1, r.s2, r.s3, r.s4, r.st, r.fi, r.a, r.b, r.er, r.ru, r.se, rowsI r.S, e) ∧ r.S.length ≤ 5 := by
  obtain ⟨t, e, t1, t2, t3⟩ := rt_any (fi := fi) h ha hb hs
  have N0 : ∀ e : Int, ∃ r : Rc, ((⟨#[]⟩ : ByteArray), (⟨#[]⟩ : ByteArray), (⟨#[]⟩ : ByteArray), (⟨#[]⟩ : ByteArray), (0 : Int), (0 : Int), (0 : Int), (0 : Int), (0 : Int), (0 : Int), (0 : Int), ([] : List (List AV)), e) = (r.s1, r.s2, r.s3, r.s4, r.st, r.fi, r.a, r.b, r.er, r.ru, r.se, rowsI r.S, e) ∧ r.S.length ≤ 5 := fun e => ⟨⟨⟨#[]⟩, ⟨#[]⟩, ⟨#[]⟩, ⟨#[]⟩, 0, 0, 0, 0, 0, 0, 0, []⟩, rfl, by simp⟩
  have fin : ∀ e : Int, F21_d 600 (rowsA A, drift, s1, s2, s3, s4, st, fi, a, b, er, ru, se, rowsI S) = some ((⟨#[]⟩ : ByteArray), (⟨#[]⟩ : ByteArray), (⟨#[]⟩ : ByteArray), (⟨#[]⟩ : ByteArray), (0 : Int), (0 : Int), (0 : Int), (0 : Int), (0 : Int), (0 : Int), (0 : Int), ([] : List (List AV)), e) → F33_d 600 (rowsA A, drift, s1, s2, s3, s4, st, fi, a, b, er, ru, se, rowsI S) = some ((⟨#[]⟩ : ByteArray), (⟨#[]⟩ : ByteArray), (⟨#[]⟩ : ByteArray), (⟨#[]⟩ : ByteArray), (0 : Int), (0 : Int), (0 : Int), (0 : Int), (0 : Int), (0 : Int), (0 : Int), ([] : List (List AV)), e) →
      ∃ (r : Rc) (e : Int), F21_d 600 (rowsA A, drift, s1, s2, s3, s4, st, fi, a, b, er, ru, se, rowsI S) = some (r.s1, r.s2, r.s3, r.s4, r.st, r.fi, r.a, r.b, r.er, r.ru, r.se, rowsI r.S, e) ∧ F33_d 600 (rowsA A, drift, s1, s2, s3, s4, st, fi, a, b, er, ru, se, rowsI S) = some (r.s1, r.s2, r.s3, r.s4, r.st, r.fi, r.a, r.b, r.er, r.ru, r.se, rowsI r.S, e) ∧ r.S.length ≤ 5 := fun e q1 q2 => by
    obtain ⟨r, hr, hl⟩ := N0 e
    rw [hr] at q1 q2
    exact ⟨r, e, q1, q2, hl⟩
  by_cases V : Vld A drift
  · by_cases he : e = 0
    · have htt := t3 he
      have hok : tOk t := ⟨htt.1, by omega⟩
      have hgt : ¬ t > 9007199254740992 := by omega
      obtain ⟨v, c1, c2⟩ := cor_any hl drift t
      subst he
      by_cases hv : v.2.2 = 0
      · have b1 : (v.2.2 != 0) = false := by simp [hv]
        by_cases h5 : eOk er
        · refine ⟨⟨s1, s2, s3, s4, v.1, 0, a, b, (if 1099511627776 < (i64 (er + v.2.1)) then 1099511627776 else (i64 (er + v.2.1))), ru, se, S⟩, 0, ?_, ?_, hS.2⟩
          · simp only [F21_d, FSpec.d, F21_s, t1, bne_self_eq_false, valid_any hl, V, decide_true, Bool.not_true, time_any, hok, c1, b1, er_any, h5, clone_ok S hS]
          · have hb2 : S.length * 8 ≤ maxBytes := by unfold maxBytes; omega
            simp only [F33_d, FSpec.d, F33_s, t2, bne_self_eq_false, rvalid_any hl, V, decide_true, Bool.not_true, hgt, decide_false, c2, b1, rer_any, h5, rowsI_len, hb2, if_true]
        · have h6 := decide_eq_false h5
          refine fin 2 ?_ ?_
          · simp only [F21_d, FSpec.d, F21_s, t1, bne_self_eq_false, valid_any hl, V, decide_true, Bool.not_true, time_any, hok, c1, b1, er_any, h6, Bool.not_false]
          · simp only [F33_d, FSpec.d, F33_s, t2, bne_self_eq_false, rvalid_any hl, V, decide_true, Bool.not_true, hgt, decide_false, c2, b1, rer_any, h6, Bool.not_false]
      · have b1 : (v.2.2 != 0) = true := by simp [hv]
        refine fin v.2.2 ?_ ?_
        · simp only [F21_d, FSpec.d, F21_s, t1, bne_self_eq_false, valid_any hl, V, decide_true, Bool.not_true, time_any, hok, c1, b1]
        · simp only [F33_d, FSpec.d, F33_s, t2, bne_self_eq_false, rvalid_any hl, V, decide_true, Bool.not_true, hgt, decide_false, c2, b1]
    · have b0 : (e != 0) = true := by simp [he]
      refine fin 1 ?_ ?_
      · simp only [F21_d, FSpec.d, F21_s, t1, b0]
      · simp only [F33_d, FSpec.d, F33_s, t2, rvalid_any hl, V, decide_true, Bool.not_true, b0]
  · have hV := decide_eq_false V
    refine fin 1 ?_ ?_
    · by_cases he : e = 0
      · have b0 : (e != 0) = false := by simp [he]
        simp only [F21_d, FSpec.d, F21_s, t1, b0, valid_any hl, hV, Bool.not_false]
      · have b0 : (e != 0) = true := by simp [he]
        simp only [F21_d, FSpec.d, F21_s, t1, b0]
    · simp only [F33_d, FSpec.d, F33_s, t2, rvalid_any hl, hV, Bool.not_false]
end Go.Proofs.Ytecoemdhnphmdaa
