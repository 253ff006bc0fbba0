/- ClockExact, the plain law: the odd anchors, the outer loop, the law; anchors that came in; the call. -/
import Derived.Test.YtecoemdhnphmdaaCkXD
import Derived.Test.YtecoemdhnphmdaaLeaf
import Derived.Test.YtecoemdhnphmdaaSymY
namespace Go.Proofs.Ytecoemdhnphmdaa
open Go.ChangeShapes Go.WideShapes Go.ChangeAt Go.RowKit Go.Deep
set_option linter.unusedVariables false
set_option linter.unusedSimpArgs false
set_option linter.unnecessarySimpa false
theorem LSpec.one (l : LSpec) (x : l.X) : l.L 600 x = l.b x l.Y (l.L 599) some := rfl
theorem flat_cons (a : An) (r : List An) : (rowsA (a :: r)).flatten = I a.1 :: I a.2.1 :: I a.2.2 :: (rowsA r).flatten := rfl
theorem flat_len : ∀ l : List An, (rowsA l).flatten.length = l.length * 3
  | [] => rfl
  | a :: r => by rw [flat_cons]; simp only [List.length_cons, flat_len r]; omega
theorem flat_dat : ∀ l : List An, ((rowsA l).flatten).map dat0 = (rowsA l).flatten
  | [] => rfl
  | a :: r => by rw [flat_cons]; simp only [List.map_cons, flat_dat r]; rfl
theorem flat_get : ∀ (l : List An) (j : Nat) (h : j < l.length), (rowsA l).flatten[(0 + j) * 3 + 2]? = some (I l[j].2.2)
  | a :: r, 0, h => rfl
  | a :: r, j + 1, h => by
    have e : (0 + (j + 1)) * 3 + 2 = ((0 + j) * 3 + 2) + 1 + 1 + 1 := by omega
    rw [flat_cons, e]
    simp only [List.getElem?_cons_succ]
    exact flat_get r j (by simpa using h)
theorem flat_set0 : ∀ (l : List An) (j : Nat) (h : j < l.length) (v : Int), (rowsA l).flatten.set ((0 + j) * 3 + 0) (I v) = (rowsA (l.set j (v, l[j].2.1, l[j].2.2))).flatten
  | a :: r, 0, h, v => rfl
  | a :: r, j + 1, h, v => by
    have e : (0 + (j + 1)) * 3 + 0 = ((0 + j) * 3 + 0) + 1 + 1 + 1 := by omega
    have q := flat_set0 r j (by simpa using h) v
    rw [flat_cons, e]
    simp only [List.set_cons_succ, Nat.add_zero] at q ⊢
    rw [q]
    rfl
theorem flat_set1 : ∀ (l : List An) (j : Nat) (h : j < l.length) (v : Int), (rowsA l).flatten.set ((0 + j) * 3 + 1) (I v) = (rowsA (l.set j (l[j].1, v, l[j].2.2))).flatten
  | a :: r, 0, h, v => rfl
  | a :: r, j + 1, h, v => by
    have e : (0 + (j + 1)) * 3 + 1 = ((0 + j) * 3 + 1) + 1 + 1 + 1 := by omega
    have q := flat_set1 r j (by simpa using h) v
    rw [flat_cons, e]
    simp only [List.set_cons_succ, q]
    rfl
theorem flat_set2 : ∀ (l : List An) (j : Nat) (h : j < l.length) (v : Int), (rowsA l).flatten.set ((0 + j) * 3 + 2) (I v) = (rowsA (l.set j (l[j].1, l[j].2.1, v))).flatten
  | a :: r, 0, h, v => rfl
  | a :: r, j + 1, h, v => by
    have e : (0 + (j + 1)) * 3 + 2 = ((0 + j) * 3 + 2) + 1 + 1 + 1 := by omega
    have q := flat_set2 r j (by simpa using h) v
    rw [flat_cons, e]
    simp only [List.set_cons_succ, q]
    rfl
theorem chunk_back : ∀ l : List An, chunks (rowsA l).flatten 3 l.length = rowsA l
  | [] => rfl
  | a :: r => by
    have q := chunk_back r
    show _ :: chunks (rowsA r).flatten 3 r.length = _
    rw [q]; rfl
theorem chunk_all (l : List An) (n : Nat) (h : l.length = n) : chunks ((rowsA l).flatten.take (n * 3)) 3 n = rowsA l := by
  subst h
  rw [List.take_of_length_le (by rw [flat_len]; omega), chunk_back]
theorem odd_ok {l : List An} (hl : l.length ≤ 9) (raw : List (List AV)) (x3 x4 x5 x6 : Int) {xs : List Int} {p : Int} (D : Dice xs p) :
    ∃ (m : List An) (p' : Int), m.length = l.length ∧ F9_d11 600 (rowsA l, raw, x3, x4, x5, x6, l.length, ((l.length : Nat) : Int), (decide (((l.length : Nat) : Int) > 0)), rowsI xs, p, ((rowsA l).flatten).map dat0) = some (rowsA l, raw, x3, x4, x5, x6, l.length, rowsI xs, p', (rowsA m).flatten) ∧ Dice xs p' := by
  rw [flat_dat]
  by_cases h0 : ((l.length : Nat) : Int) > 0
  · obtain ⟨q, p1, g1, ⟨q0, q1⟩, D1⟩ := next_ok 600 (n := ((l.length : Nat) : Int)) (by omega) D
    obtain ⟨j, hj⟩ : ∃ j : Nat, q = (j : Int) := ⟨q.toNat, by omega⟩
    subst hj
    have hjl : j < l.length := by omega
    have cq : (0 : Int) ≤ (j : Int) ∧ (j : Int) < ((l.length : Nat) : Int) := by omega
    obtain ⟨s, p2, g2, ⟨s0, s1⟩, D2⟩ := next_ok 600 (n := 3) (by omega) D1
    have hs : s = 0 ∨ s = 1 ∨ s = 2 := by omega
    rcases hs with rfl | rfl | rfl
    · obtain ⟨v, p3, g3, -, D3⟩ := pick_ok 600 [0, -1, 9007199254740992, 9007199254740993] (by simp) D2
      replace g3 : F23_d 600 ([[(AV.v (.int .i64 0))], [(AV.v (.int .i64 (-1)))], [(AV.v (.int .i64 9007199254740992))], [(AV.v (.int .i64 9007199254740993))]], rowsI xs, p2) = some (v, rowsI xs, p3) := g3
      refine ⟨l.set j (v, l[j].2.1, l[j].2.2), p3, by simp, ?_, D3⟩
      have b1 : (0 + j) * 3 + 0 + 1 ≤ (rowsA l).flatten.length := by rw [flat_len]; omega
      have hq := flat_set0 l j hjl v
      unfold I at hq
      simp only [F9_d11, LSpec.one, F9_l11, h0, decide_true, g1, g2, g3, cq, and_self, if_true, Int.toNat_natCast, beq_self_eq_true, b1, hq, flat_dat]
    · obtain ⟨v, p3, g3, -, D3⟩ := pick_ok 600 [-1, i64 (l[j].2.2 + 1), 0] (by simp) D2
      replace g3 : F23_d 600 ([[(AV.v (.int .i64 (-1)))], [(AV.v (.int .i64 (i64 (l[j].2.2 + 1))))], [(AV.v (.int .i64 0))]], rowsI xs, p2) = some (v, rowsI xs, p3) := g3
      refine ⟨l.set j (l[j].1, v, l[j].2.2), p3, by simp, ?_, D3⟩
      have b1 : (0 + j) * 3 + 1 + 1 ≤ (rowsA l).flatten.length := by rw [flat_len]; omega
      have hq := flat_set1 l j hjl v
      unfold I at hq
      have hg := flat_get l j hjl
      unfold I at hg
      have n1 : ((1 : Int) == 0) = false := rfl
      simp only [F9_d11, LSpec.one, F9_l11, h0, decide_true, g1, g2, g3, cq, and_self, if_true, Int.toNat_natCast, n1, beq_self_eq_true, hg, b1, hq, flat_dat]
    · obtain ⟨v, p3, g3, -, D3⟩ := pick_ok 600 [9007199254740992, 9007199254740993] (by simp) D2
      replace g3 : F23_d 600 ([[(AV.v (.int .i64 9007199254740992))], [(AV.v (.int .i64 9007199254740993))]], rowsI xs, p2) = some (v, rowsI xs, p3) := g3
      refine ⟨l.set j (l[j].1, l[j].2.1, v), p3, by simp, ?_, D3⟩
      have b1 : (0 + j) * 3 + 2 + 1 ≤ (rowsA l).flatten.length := by rw [flat_len]; omega
      have hq := flat_set2 l j hjl v
      unfold I at hq
      have n1 : ((2 : Int) == 0) = false := rfl
      have n2 : ((2 : Int) == 1) = false := rfl
      simp only [F9_d11, LSpec.one, F9_l11, h0, decide_true, g1, g2, g3, cq, and_self, if_true, Int.toNat_natCast, n1, n2, beq_self_eq_true, b1, hq, flat_dat]
  · refine ⟨l, p, rfl, ?_, D⟩
    simp only [F9_d11, LSpec.one, F9_l11, h0, decide_false, flat_dat]
/-! The outer loop. -/
def out3 (O : List (List An)) : List (List AV) := O.map fun A => [AV.list 3 (rowsA A) none]
theorem out3_get (O : List (List An)) (k : Nat) (h : k < O.length) : (out3 O)[k]? = some [AV.list 3 (rowsA O[k]) none] := by simp [out3, h]
theorem lst3 (xs : List (List AV)) (t : Option Nat) : lstOf 3 (AV.list 3 xs t) = some xs := rfl
theorem l26_loop {O : List (List An)} (hO : ∀ A ∈ O, A.length ≤ 300) (hOl : O.length ≤ 10) (x2 x3 x4 x5 : Int) (s1 s2 s3 s4 : ByteArray) {st fi a b : Int} (er ru se : Int) {S : List Int} (hS : 1 ≤ S.length ∧ S.length ≤ 5) (h : F54_d 600 (a, b) = some true) (ha : 0 < a ∧ a ≤ 3) (hb : 0 < b ∧ b ≤ 3) (hs : st ≤ 1000000) {xs : List Int} : ∀ (k i f : Nat) (p : Int), k < f → i + k = O.length → Dice xs p →
    (F9_l26 600).L f (out3 O, x2, x3, x4, x5, (O.length : Int), (i : Int), s1, s2, s3, s4, st, fi, a, b, er, ru, se, rowsI S, rowsI xs, p) = some (.inr ())
  | 0, i, f, p, hf, hi, D => by
    obtain ⟨f, rfl⟩ : ∃ f', f = f' + 1 := ⟨f - 1, by omega⟩
    show (F9_l26 600).b _ _ ((F9_l26 600).L f) some = _
    have c : decide ((i : Int) < (O.length : Int)) = false := by rw [decide_eq_false_iff_not]; omega
    simp only [F9_l26, c]
  | k + 1, i, f, p, hf, hi, D => by
    obtain ⟨f, rfl⟩ : ∃ f', f = f' + 1 := ⟨f - 1, by omega⟩
    have hlt : i < O.length := by omega
    have c1 : decide ((i : Int) < (O.length : Int)) = true := by rw [decide_eq_true_iff]; omega
    have c2 : (0 : Int) ≤ (i : Int) := by omega
    have c4 : i64 ((i : Int) + 1) = ((i + 1 : Nat) : Int) := by rw [i64_id (by omega)]; omega
    obtain ⟨v, p1, g1, -, D1⟩ := pick_ok 600 [0, 500000, 500001, -1] (by simp) D
    replace g1 : F23_d 600 ([[(AV.v (.int .i64 0))], [(AV.v (.int .i64 500000))], [(AV.v (.int .i64 500001))], [(AV.v (.int .i64 (-1)))]], rowsI xs, p) = some (v, rowsI xs, p1) := g1
    obtain ⟨p', q, D'⟩ := l35_loop (hO O[i] (List.getElem_mem hlt)) (out3 O) x2 x3 x4 x5 (O.length : Int) (i : Int) s1 s2 s3 s4 (fi := fi) er ru se hS h ha hb hs [x5, x2, v] (by simp) 3 0 600 p1 (by omega) rfl D1
    replace q : F9_d35 600 (rowsA O[i], out3 O, [[(AV.v (.int .i64 x5))], [(AV.v (.int .i64 x2))], [(AV.v (.int .i64 v))]], x2, x3, x4, x5, (O.length : Int), (i : Int), (([[(AV.v (.int .i64 x5))], [(AV.v (.int .i64 x2))], [(AV.v (.int .i64 v))]].length : Nat) : Int), 0, s1, s2, s3, s4, st, fi, a, b, er, ru, se, rowsI S, rowsI xs, p1) = _ := q
    have r1 := l26_loop hO hOl x2 x3 x4 x5 s1 s2 s3 s4 (fi := fi) er ru se hS h ha hb hs k (i + 1) f p' (by omega) (by omega) D'
    show (F9_l26 600).b _ _ ((F9_l26 600).L f) some = _
    obtain ⟨Lf, hL⟩ : ∃ Lf, Lf = (F9_l26 600).L f := ⟨_, rfl⟩
    rw [← hL] at r1 ⊢
    simp only [F9_l26, c1, c2, if_true, Int.toNat_natCast, out3_get O i hlt, List.getElem?_cons_zero, lst3, g1, q, c4]
    exact r1
theorem exact_ok (t : List Int) (ht : ∀ x ∈ t, -9223372036854775808 ≤ x ∧ x ≤ 9223372036854775807) (raw : List An) (x3 x4 x5 : Int) : F9_d 600 (rowsI t, rowsA raw, x3, x4, x5) = some true := by
  have hlight : F10_d 600 (rowsI t) = some (decide ((t.length : Int) ≤ 500)) := by
    simp only [F10_d, FSpec.d, F10_s, rowsI_len]
  by_cases hl : (t.length : Int) ≤ 500
  · by_cases g1 : (raw.length : Int) > 40
    · simp only [F9_d, FSpec.d, F9_s, hlight, hl, decide_true, Bool.not_true, rowsA_len, g1, sane_ok]
    have D : Dice t 0 := ⟨ht, by omega, by omega, by omega⟩
    have hroll : F12_d 600 (rowsI t) = some (rowsI t, 0) := rfl
    obtain ⟨q, p1, k1, -, D1⟩ := next_ok 600 (n := 2) (by omega) D
    have k2 : F14_d 600 (2, rowsI t, 0) = some ((q == i64 (2 - 1)), rowsI t, p1) := by
      simp only [F14_d, FSpec.d, F14_s, k1]
    obtain ⟨A, n, p2, k3, k4, D2⟩ := ancx_ok (q == i64 (2 - 1)) D1
    have b1 : (rowsA A).length * 24 ≤ maxBytes := by rw [rowsA_len]; unfold maxBytes; omega
    obtain ⟨m, p3, k5, k6, D3⟩ := odd_ok k4 (rowsA raw) x3 x4 x5 n D2
    obtain ⟨s1, s2, s3, s4, p4, k7, D4⟩ := source_ok D3
    obtain ⟨st, fi, a, b, er, ru, se, S, p5, c1, c2, ca, cb, ce, cS, D5⟩ := recx_ok s1 s2 s3 s4 D4
    obtain ⟨v, p6, k8, k9, D6⟩ := pick_ok 600 [0, 1000, 20000, 60000, -1] (by simp) D5
    replace k8 : F23_d 600 ([[(AV.v (.int .i64 0))], [(AV.v (.int .i64 1000))], [(AV.v (.int .i64 20000))], [(AV.v (.int .i64 60000))], [(AV.v (.int .i64 (-1)))]], rowsI t, p5) = some (v, rowsI t, p6) := k8
    have hv : v ≤ 1000000 := by simp at k9; omega
    have b2 : A.length * 3 ≤ (rowsA m).flatten.length := by rw [flat_len]; omega
    have r := l26_loop (O := [A, m, raw]) (fun B hB => by
      simp at hB
      rcases hB with rfl | rfl | rfl <;> omega) (by simp) x3 x4 x5 n s1 s2 s3 s4 (fi := fi) er ru se cS c2 ca cb hv 3 0 600 p6 (by omega) rfl D6
    replace r : F9_d26 600 ([[(AV.list 3 (rowsA A) none)], [(AV.list 3 (rowsA m) none)], [(AV.list 3 (rowsA raw) none)]], x3, x4, x5, n, (([[(AV.list 3 (rowsA A) none)], [(AV.list 3 (rowsA m) none)], [(AV.list 3 (rowsA raw) none)]].length : Nat) : Int), 0, s1, s2, s3, s4, v, fi, a, b, er, ru, se, rowsI S, rowsI t, p6) = some (.inr ()) := r
    rw [← rowsA_len A] at k6
    rw [← rowsA_len A] at b2
    have hm := chunk_all m (rowsA A).length (by rw [rowsA_len]; exact k5)
    simp only [F9_d, FSpec.d, F9_s, hlight, hl, decide_true, Bool.not_true, rowsA_len, g1, decide_false, hroll, k2, k3]
    simp only [rowsA_len] at b1 k6 b2 hm
    simp only [b1, if_true, k6, k7, c1, k8, b2, hm, r, sane_ok]
  · simp only [F9_d, FSpec.d, F9_s, hlight, hl, decide_false, Bool.not_false, sane_ok]
/-! Anchors that came in. -/
def AncsIn (W : World) (v : Value) : Prop := ∃ A : List An, ∀ ρ σ, Rd (memOf W) ρ σ v (.list 3 (rowsA A) none)
def intAt (W : World) (b o : Nat) : Int := match W.cell? ⟨b, o, none⟩ with
  | some (.int _ n) => n
  | _ => 0
section
variable {H : Type} {enc : TypeId × Value → H} {w : World}
theorem ancs_in {b0 : Nat} {a : Option Addr} {l c : Nat} {d : DataW H} {p : List MemPlace} (hv : Value.okWide Try.prog w .any b0 29 (.slice a l c)) (h : DataW.Trod enc Try.prog w 0 (fun _ => true) true 29 (.slice a l c) d p) : AncsIn w (.slice a l c) := by
  obtain ⟨fuel, hf⟩ := h
  obtain ⟨a', l', c', hcs, hlc, -, hn, hz⟩ := slice_in (n := 3) (ls := [.int .i64, .int .i64, .int .i64]) Try.underlying29 (by kernel_rfl) (by kernel_rfl) (by simp) hf
  simp [Value.cells] at hcs
  obtain ⟨rfl, rfl, rfl⟩ := hcs
  rcases hz with h0 | ⟨b, off, ha, hi⟩
  · subst h0
    refine ⟨[], fun ρ σ => ?_⟩
    cases a with
    | none => obtain ⟨-, rfl⟩ := hn rfl; exact .nil
    | some x =>
      obtain ⟨b, o, sp⟩ := x
      have hsp : sp = none := slice_spot Try.underlying29 hv
      subst hsp
      exact .list (fun _ _ => .int .i64 0) rfl hlc (fun i h => by cases h) (fun i j h => by cases h) (fun i j => rfl) (fun i j h => by cases h) .none
  · subst ha
    have key : ∀ i j, i < l → j < 3 → w.cell? ⟨b, off + i * 3 + j, none⟩ = some (.int .i64 (intAt w b (off + i * 3 + j))) := fun i j hil hj => by
      obtain ⟨vs, h1, h2⟩ := hi i hil
      obtain ⟨v0, q0, rfl, ⟨x0, rfl, -⟩, h3⟩ := AllOk.cons h2
      obtain ⟨v1, q1, rfl, ⟨x1, rfl, -⟩, h4⟩ := AllOk.cons h3
      obtain ⟨v2, q2, rfl, ⟨x2, rfl, -⟩, h5⟩ := AllOk.cons h4
      have e : ∃ x : Int, w.cell? ⟨b, off + i * 3 + j, none⟩ = some (.int .i64 x) := by
        have : j = 0 ∨ j = 1 ∨ j = 2 := by omega
        rcases this with rfl | rfl | rfl
        · exact ⟨x0, h1 0 _ rfl⟩
        · exact ⟨x1, h1 1 _ rfl⟩
        · exact ⟨x2, h1 2 _ rfl⟩
      obtain ⟨x, hx⟩ := e
      unfold intAt
      rw [hx]
    refine ⟨(List.range l).map fun i => (intAt w b (off + i * 3 + 0), intAt w b (off + i * 3 + 1), intAt w b (off + i * 3 + 2)), fun ρ σ => ?_⟩
    refine .list (fun i j => .int .i64 (intAt w b (off + i * 3 + j))) (by simp [rowsA]) hlc (fun i h => by simp [rowsA]) (fun i j hi' hj => ?_) (fun i j => rfl) (fun i j h h' => ?_) .none
    · exact key i j (by simpa [rowsA] using hi') hj
    · have hj : j < 3 := by simpa [rowsA] using h'
      have : j = 0 ∨ j = 1 ∨ j = 2 := by omega
      rcases this with rfl | rfl | rfl
      · simp [rowsA]; exact .v
      · simp [rowsA]; exact .v
      · simp [rowsA]; exact .v
end
theorem clock_exact (a : Option Addr) (len cap : Nat) (a2 : Option Addr) (len2 cap2 : Nat) (x3 x4 x5 : Int) (W : World) (hr : IntsIn W (.slice a len cap)) (hr2 : AncsIn W (.slice a2 len2 cap2)) (h3 : -9223372036854775808 ≤ x3 ∧ x3 ≤ 9223372036854775807) (h4 : -9223372036854775808 ≤ x4 ∧ x4 ≤ 9223372036854775807) (h5 : -9223372036854775808 ≤ x5 ∧ x5 ≤ 9223372036854775807) :
    Calls Try.prog 9 #[.slice a len cap, .slice a2 len2 cap2, .int .i64 x3, .int .i64 x4, .int .i64 x5] W fun e w' => e = .returned (.bool true) ∧ Below W.heap.size W w' := by
  obtain ⟨xs, h1, h2, h6⟩ := hr
  obtain ⟨A, h7⟩ := hr2
  have ok := (F9_e 600).ok (rowsI xs, rowsA A, x3, x4, x5) true (exact_ok xs h1 A x3 x4 x5)
  refine CallOk.calls (args := [.list 1 (rowsI xs) none, .list 3 (rowsA A) none, I x3, I x4, I x5]) ok W _ rfl (fun n h h' => ?_)
  have hn : n = 0 ∨ n = 1 ∨ n = 2 ∨ n = 3 ∨ n = 4 := by simp at h; omega
  rcases hn with rfl | rfl | rfl | rfl | rfl
  · exact h6 _ _
  · exact h7 _ _
  · exact .v
  · exact .v
  · exact .v
end Go.Proofs.Ytecoemdhnphmdaa
