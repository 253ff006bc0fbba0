/- DetectorExact, the plain law, and its call. (written by gen_dtxf.py) -/
import Derived.Test.YtaiadjadgpgnmaaDtXE
import Derived.Test.YtaiadjadgpgnmaaDtIn
namespace Go.Proofs.Ytaiadjadgpgnmaa
open Go.RowKit
set_option linter.unusedVariables false
set_option linter.unusedSimpArgs false
set_option linter.unnecessarySimpa false
theorem f1 : ((1 : Int) == 0) = false := rfl
theorem f2 : ((2 : Int) == 0) = false := rfl
theorem f3 : ((3 : Int) == 0) = false := rfl
theorem f4 : ((2 : Int) == 1) = false := rfl
theorem f5 : ((3 : Int) == 1) = false := rfl
theorem f6 : ((3 : Int) == 2) = false := rfl
theorem odd_ok {x1 x2 x14 : List (List AV)} {x3 x6 x7 x8 x9 x10 x11 x12 x13 x15 x16 x17 x18 x19 x20 x21 x22 : Int} {S L a b : Int} {v : Int} (hv : 0 ≤ v ∧ v < 4) {xs : List Int} {p : Int} (D : Dice xs p) : ∃ S' L' a' b' p', Dice xs p' ∧ F7_d12 600 (x1, x2, x3, v, (v == 0), x6, x7, x8, x9, x10, x11, x12, x13, x14, x15, x16, x17, x18, x19, x20, x21, x22, S, L, a, b, rowsI xs, p) = some (x1, x2, x3, x6, x7, x8, x9, x10, x11, x12, x13, x14, x15, x16, x17, x18, x19, x20, x21, x22, S', L', a', b', rowsI xs, p') := by
  have hc : v = 0 ∨ v = 1 ∨ v = 2 ∨ v = 3 := by omega
  rcases hc with rfl | rfl | rfl | rfl
  · obtain ⟨r, p1, n1, n2, D1⟩ := pick_ok 600 [0, L, i64 (L - 1)] (by simp) D
    replace n1 : F23_d 600 ([[AV.v (.int .i64 0)], [AV.v (.int .i64 L)], [AV.v (.int .i64 (i64 (L - 1)))]], rowsI xs, p) = some (r, rowsI xs, p1) := n1
    refine ⟨r, L, a, b, p1, D1, ?_⟩
    simp only [F7_d12, LSpec.one, F7_l12, beq_self_eq_true, n1]
  · obtain ⟨r, p1, n1, n2, D1⟩ := pick_ok 600 [512, 513, S] (by simp) D
    replace n1 : F23_d 600 ([[AV.v (.int .i64 512)], [AV.v (.int .i64 513)], [AV.v (.int .i64 S)]], rowsI xs, p) = some (r, rowsI xs, p1) := n1
    refine ⟨S, r, a, b, p1, D1, ?_⟩
    simp only [F7_d12, LSpec.one, F7_l12, F7_d14, F7_l14, f1, beq_self_eq_true, n1]
  · obtain ⟨r, p1, n1, n2, D1⟩ := pick_ok 600 [i64 (b - 1), 10000, 10001] (by simp) D
    replace n1 : F23_d 600 ([[AV.v (.int .i64 (i64 (b - 1)))], [AV.v (.int .i64 10000)], [AV.v (.int .i64 10001)]], rowsI xs, p) = some (r, rowsI xs, p1) := n1
    refine ⟨S, L, r, b, p1, D1, ?_⟩
    simp only [F7_d12, LSpec.one, F7_l12, F7_d14, F7_l14, F7_d16, F7_l16, f2, f4, beq_self_eq_true, n1]
  · obtain ⟨r, p1, n1, n2, D1⟩ := pick_ok 600 [0, 1, i64 (a + 1)] (by simp) D
    replace n1 : F23_d 600 ([[AV.v (.int .i64 0)], [AV.v (.int .i64 1)], [AV.v (.int .i64 (i64 (a + 1)))]], rowsI xs, p) = some (r, rowsI xs, p1) := n1
    refine ⟨S, L, a, r, p1, D1, ?_⟩
    simp only [F7_d12, LSpec.one, F7_l12, F7_d14, F7_l14, F7_d16, F7_l16, f3, f5, f6, beq_self_eq_true, n1]
theorem bad_ok {x1 x2 x9 x18 : List (List AV)} {x5 x6 x7 x8 x10 x11 x12 x13 x14 x15 x16 x17 x19 x20 x21 x22 : Int} {S L a b c o f q : Int} {pa : List Int} (hl : pa.length ≤ 200) {v : Int} (hv : 0 ≤ v ∧ v < 4) {xs : List Int} {p : Int} (D : Dice xs p) : ∃ S' L' a' b' c' o' f' q', ∃ pa' : List Int, pa'.length ≤ 201 ∧ F7_d71 600 (x1, x2, v, (v == 0), x5, x6, x7, x8, x9, x10, x11, x12, x13, x14, x15, x16, x17, x18, x19, x20, x21, x22, S, L, a, b, rowsI pa, c, o, f, q, rowsI xs, p) = some (x1, x2, x5, x6, x7, x8, x9, x10, x11, x12, x13, x14, x15, x16, x17, x18, x19, x20, x21, x22, S', L', a', b', rowsI pa', c', o', f', q') := by
  have hc : v = 0 ∨ v = 1 ∨ v = 2 ∨ v = 3 := by omega
  rcases hc with rfl | rfl | rfl | rfl
  · obtain ⟨r, p1, n1, n2, D1⟩ := pick_ok 600 [0, -1, 16777216, 16777217] (by simp) D
    replace n1 : F23_d 600 ([[AV.v (.int .i64 0)], [AV.v (.int .i64 (-1))], [AV.v (.int .i64 16777216)], [AV.v (.int .i64 16777217)]], rowsI xs, p) = some (r, rowsI xs, p1) := n1
    refine ⟨S, L, a, b, r, o, f, q, pa, by omega, ?_⟩
    simp only [F7_d71, LSpec.one, F7_l71, beq_self_eq_true, n1]
  · obtain ⟨r1, p1, n1, m1, D1⟩ := next_ok 600 (n := 5) (by omega) D
    obtain ⟨r2, p2, n2, m2, D2⟩ := next_ok 600 (n := 3) (by omega) D1
    obtain ⟨r3, p3, n3, m3, D3⟩ := next_ok 600 (n := 3) (by omega) D2
    refine ⟨S, L, a, b, c, i64 (r1 - 2), i64 (r2 - 1), i64 (r3 - 1), pa, by omega, ?_⟩
    simp only [F7_d71, LSpec.one, F7_l71, F7_d73, F7_l73, f1, beq_self_eq_true, n1, n2, n3]
  · obtain ⟨r, p1, n1, n2, D1⟩ := pick_ok 600 [0, -1, 1073741824] (by simp) D
    replace n1 : F23_d 600 ([[AV.v (.int .i64 0)], [AV.v (.int .i64 (-1))], [AV.v (.int .i64 1073741824)]], rowsI xs, p) = some (r, rowsI xs, p1) := n1
    have b1 : pa.length * 8 ≤ maxBytes := by unfold maxBytes; omega
    have b2 : (pa.length + [[(AV.v (.int .i64 r))]].length) * 8 ≤ maxBytes := by unfold maxBytes; simp; omega
    refine ⟨S, L, a, b, c, o, f, q, pa ++ [r], by simp; omega, ?_⟩
    simp only [F7_d71, LSpec.one, F7_l71, F7_d73, F7_l73, F7_d75, F7_l75, f2, f4, beq_self_eq_true, rowsI_len, b1, n1, b2, if_true, rowsI_snoc]
    first | done | rfl | exact if_pos trivial | exact (if_pos trivial).trans (if_pos trivial)
  · refine ⟨S, L, a, b, c, o, f, q, pa, by omega, ?_⟩
    simp only [F7_d71, LSpec.one, F7_l71, F7_d73, F7_l73, F7_d75, F7_l75, f3, f5, f6]
theorem exact_ok (t : List Int) (ht : ∀ x ∈ t, -9223372036854775808 ≤ x ∧ x ≤ 9223372036854775807) (S0 L0 a0 b0 : Int) (samples : List Int) (i : Int) (wS wL wa wb : Int) (wpa : List Int) (wc wo wf wp : Int) : F7_d 600 (rowsI t, S0, L0, a0, b0, rowsI samples, i, wS, wL, wa, wb, rowsI wpa, wc, wo, wf, wp) = some true := by
  by_cases hl : (t.length : Int) ≤ 500
  · by_cases g1 : (samples.length : Int) > 100
    · simp only [F7_d, FSpec.d, F7_s, light_ok, hl, decide_true, Bool.not_true, rowsI_len, g1, sane_ok]
    by_cases g2 : (wpa.length : Int) > 100
    · simp only [F7_d, FSpec.d, F7_s, light_ok, hl, decide_true, Bool.not_true, rowsI_len, g1, decide_false, g2, sane_ok]
    have roll : F10_d 600 (rowsI t) = some (rowsI t, 0) := rfl
    have D0 : Dice t 0 := ⟨ht, by omega, by omega, by omega⟩
    obtain ⟨S, L, a, b, p1, e1, hd, -, D1⟩ := det_ok D0
    obtain ⟨w, p2, e2, hw, -, D2⟩ := wave_ok (n := 50) (by omega) D1
    obtain ⟨v, p3, e3, hv, D3⟩ := next_ok 600 (n := 4) (by omega) D2
    obtain ⟨S1, L1, a1, b1, p4, D4, e4⟩ := odd_ok (x1 := rowsI w) (x2 := rowsI samples) (x3 := i) (x6 := S0) (x7 := L0) (x8 := a0) (x9 := b0) (x10 := wS) (x11 := wL) (x12 := wa) (x13 := wb) (x14 := rowsI wpa) (x15 := wc) (x16 := wo) (x17 := wf) (x18 := wp) (x19 := S) (x20 := L) (x21 := a) (x22 := b) (S := S) (L := L) (a := a) (b := b) hv D3
    have hTD : TabD [[I S, I L, I a, I b], [I S1, I L1, I a1, I b1], [I S0, I L0, I a0, I b0]] := fun k hk => by
      have : k = 0 ∨ k = 1 ∨ k = 2 := by omega
      rcases this with rfl | rfl | rfl
      · exact ⟨S, L, a, b, rfl⟩
      · exact ⟨S1, L1, a1, b1, rfl⟩
      · exact ⟨S0, L0, a0, b0, rfl⟩
    obtain ⟨p5, D5, e5⟩ := l22_loop (za := samples) (zb := w) (x4 := i) (x7 := wS) (x8 := wL) (x9 := wa) (x10 := wb) (x11 := rowsI wpa) (x12 := wc) (x13 := wo) (x14 := wf) (x15 := wp) (x16 := S) (x17 := L) (x18 := a) (x19 := b) (by omega) (by omega) hTD 3 0 600 p4 (by omega) (by omega) D4
    replace e5 : F7_d22 600 (rowsI samples, rowsI w, [[I S, I L, I a, I b], [I S1, I L1, I a1, I b1], [I S0, I L0, I a0, I b0]], i, (([[I S, I L, I a, I b], [I S1, I L1, I a1, I b1], [I S0, I L0, I a0, I b0]].length : Nat) : Int), 0, wS, wL, wa, wb, rowsI wpa, wc, wo, wf, wp, S, L, a, b, rowsI t, p4) = _ := e5
    obtain ⟨u, p6, e6, hu, -, D6⟩ := wave_ok (n := 20) (by omega) D5
    have e7 := rstart_any S L a b
    rw [if_pos hd] at e7
    have e8 := rpush_any S L a b (pa := []) 0 (-1) 0 0 (xs := u) (by simp; omega)
    have bl := pushV_len S L a b (pa := []) 0 (-1) 0 0 (xs := u)
    obtain ⟨⟨S2, L2, a2, b2, pa2, c2, o2, f2, q2, E2, er2⟩, hP⟩ : ∃ w, w = pushV S L a b [] 0 (-1) 0 0 u := ⟨_, rfl⟩
    rw [← hP] at e8 bl
    simp only [outW] at e8
    replace e8 : F30_d 600 (S, L, a, b, ([] : List (List AV)), 0, -1, 0, 0, rowsI u) = _ := e8
    obtain ⟨v9, p9, e9, hv9, D9⟩ := next_ok 600 (n := 4) (by omega) D6
    have bl1 : pa2.length ≤ 200 := by have := bl.1; simp only [List.length_nil] at this; omega
    obtain ⟨S3, L3, a3, b3, c3, o3, f3, q3, pa3, bl3, e10⟩ := bad_ok (x1 := rowsI samples) (x2 := rowsI w) (x5 := wS) (x6 := wL) (x7 := wa) (x8 := wb) (x9 := rowsI wpa) (x10 := wc) (x11 := wo) (x12 := wf) (x13 := wp) (x14 := S2) (x15 := L2) (x16 := a2) (x17 := b2) (x18 := rowsI pa2) (x19 := c2) (x20 := o2) (x21 := f2) (x22 := q2) (S := S2) (L := L2) (a := a2) (b := b2) (c := c2) (o := o2) (f := f2) (q := q2) bl1 hv9 D9
    have hTW : TabW [[I S2, I L2, I a2, I b2, AV.list 1 (rowsI pa2) none, I c2, I o2, I f2, I q2], [I S3, I L3, I a3, I b3, AV.list 1 (rowsI pa3) none, I c3, I o3, I f3, I q3], [I wS, I wL, I wa, I wb, AV.list 1 (rowsI wpa) none, I wc, I wo, I wf, I wp]] := fun k hk => by
      have : k = 0 ∨ k = 1 ∨ k = 2 := by omega
      rcases this with rfl | rfl | rfl
      · exact ⟨S2, L2, a2, b2, _, c2, o2, f2, q2, pa2, rfl, rfl, by omega⟩
      · exact ⟨S3, L3, a3, b3, _, c3, o3, f3, q3, pa3, rfl, rfl, by omega⟩
      · exact ⟨wS, wL, wa, wb, _, wc, wo, wf, wp, wpa, rfl, rfl, by omega⟩
    have e11 := l79_loop (za := samples) (zb := w) (by omega) (by omega) hTW 3 0 600 (by omega) (by omega)
    replace e11 : F7_d79 600 (rowsI samples, rowsI w, [[I S2, I L2, I a2, I b2, AV.list 1 (rowsI pa2) none, I c2, I o2, I f2, I q2], [I S3, I L3, I a3, I b3, AV.list 1 (rowsI pa3) none, I c3, I o3, I f3, I q3], [I wS, I wL, I wa, I wb, AV.list 1 (rowsI wpa) none, I wc, I wo, I wf, I wp]], (([[I S2, I L2, I a2, I b2, AV.list 1 (rowsI pa2) none, I c2, I o2, I f2, I q2], [I S3, I L3, I a3, I b3, AV.list 1 (rowsI pa3) none, I c3, I o3, I f3, I q3], [I wS, I wL, I wa, I wb, AV.list 1 (rowsI wpa) none, I wc, I wo, I wf, I wp]].length : Nat) : Int), 0) = _ := e11
    simp only [F7_d, FSpec.d, F7_s, light_ok, hl, decide_true, Bool.not_true, rowsI_len, g1, g2, decide_false, roll, e1, e2, e3, e4, e5, e6, e7, e8, e9, e10, e11, sane_ok]
  · have hb : decide ((t.length : Int) ≤ 500) = false := decide_eq_false hl
    simp only [F7_d, FSpec.d, F7_s, light_ok, hb, Bool.not_false, sane_ok]
theorem detector_exact (a : Option Addr) (len cap : Nat) (r : Dt4) (a2 : Option Addr) (len2 cap2 : Nat) (i : Int) (u : Wt9) (W : World) (hr : IntsIn W (.slice a len cap)) (hr2 : IntsIn W (.slice a2 len2 cap2)) (hi : -9223372036854775808 ≤ i ∧ i ≤ 9223372036854775807) (hu : IntsIn W u.past) (ho : u.past.oneCell' = true) :
    Calls Try.prog 7 #[.slice a len cap, .agg #[.int .i64 r.s, .int .i64 r.l, .int .i64 r.a, .int .i64 r.b], .slice a2 len2 cap2, .int .i64 i, .agg #[.int .i64 u.d.s, .int .i64 u.d.l, .int .i64 u.d.a, .int .i64 u.d.b, u.past, .int .i64 u.c, .int .i64 u.o, .int .i64 u.f, .int .i64 u.p]] W fun e w' => e = .returned (.bool true) ∧ Below W.heap.size W w' := by
  obtain ⟨xs, h1, h2, h3⟩ := hr
  obtain ⟨ys, j1, j2, j3⟩ := hr2
  obtain ⟨zs, k1, k2, k3⟩ := hu
  have ok := (F7_e 600).ok (rowsI xs, r.s, r.l, r.a, r.b, rowsI ys, i, u.d.s, u.d.l, u.d.a, u.d.b, rowsI zs, u.c, u.o, u.f, u.p) true (exact_ok xs h1 r.s r.l r.a r.b ys i u.d.s u.d.l u.d.a u.d.b zs u.c u.o u.f u.p)
  refine CallOk.calls (args := [.list 1 (rowsI xs) none, .agg [I r.s, I r.l, I r.a, I r.b], .list 1 (rowsI ys) none, I i, .agg [I u.d.s, I u.d.l, I u.d.a, I u.d.b, .list 1 (rowsI zs) none, I u.c, I u.o, I u.f, I u.p]]) ok W _ rfl (fun n h h' => ?_)
  have hn : n = 0 ∨ n = 1 ∨ n = 2 ∨ n = 3 ∨ n = 4 := by simp at h; omega
  rcases hn with rfl | rfl | rfl | rfl | rfl
  · exact h3 _ _
  · refine .agg rfl (fun m hm => ?_) (fun m hm hm' => ?_)
    · have q : m = 0 ∨ m = 1 ∨ m = 2 ∨ m = 3 := by simp at hm; omega
      rcases q with rfl | rfl | rfl | rfl <;> rfl
    · have q : m = 0 ∨ m = 1 ∨ m = 2 ∨ m = 3 := by simp at hm; omega
      rcases q with rfl | rfl | rfl | rfl <;> exact .v
  · exact j3 _ _
  · exact .v
  · refine .agg rfl (fun m hm => ?_) (fun m hm hm' => ?_)
    · have q : m = 0 ∨ m = 1 ∨ m = 2 ∨ m = 3 ∨ m = 4 ∨ m = 5 ∨ m = 6 ∨ m = 7 ∨ m = 8 := by simp at hm; omega
      rcases q with rfl | rfl | rfl | rfl | rfl | rfl | rfl | rfl | rfl <;> first | exact ho | rfl
    · have q : m = 0 ∨ m = 1 ∨ m = 2 ∨ m = 3 ∨ m = 4 ∨ m = 5 ∨ m = 6 ∨ m = 7 ∨ m = 8 := by simp at hm; omega
      rcases q with rfl | rfl | rfl | rfl | rfl | rfl | rfl | rfl | rfl <;> first | exact k3 _ _ | exact .v
end Go.Proofs.Ytaiadjadgpgnmaa
