/- Square, Timely, Moved. (written by gen_movedb.py) -/
import Derived.Test.YtlhphhiodckaaaaMoved
import Derived.Test.YtlhphhiodckaaaaLevel
import Derived.Deep.QuietTactic
namespace Go.Proofs.Ytlhphhiodckaaaa
open Go.RowKit
set_option linter.unusedVariables false
set_option linter.unusedSimpArgs false
theorem sq_bd (d : Int) (h1 : -2097152 ≤ d) (h2 : d ≤ 2097152) : 0 ≤ d * d ∧ d * d ≤ 4398046511104 := by
  have h3 : d * d = (d.natAbs * d.natAbs : Nat) := by rw [← Int.natAbs_mul_self]
  have h4 : d.natAbs ≤ 2097152 := by omega
  have h5 : d.natAbs * d.natAbs ≤ 2097152 * 2097152 := Nat.mul_le_mul h4 h4
  rw [h3]
  omega
def sqU (x y z a b c : Int) (k : Int) : Int := (if 1 ≤ k then (x - a) * (x - a) else 0) + (if 2 ≤ k then (y - b) * (y - b) else 0) + (if 3 ≤ k then (z - c) * (z - c) else 0)
theorem posB_of {x y z : Int} (h : posB x y z = true) : (-1048576 ≤ x ∧ x ≤ 1048576) ∧ (-1048576 ≤ y ∧ y ≤ 1048576) ∧ (-16384 ≤ z ∧ z ≤ 1048576) := by unfold posB at h; exact of_decide_eq_true h

set_option maxHeartbeats 4000000 in
set_option maxRecDepth 100000 in
theorem geo_square (x y z a b c : Int) (w : World) :
    Calls Try.prog 33 #[.agg #[.int .i64 x, .int .i64 y, .int .i64 z], .agg #[.int .i64 a, .int .i64 b, .int .i64 c]] w fun e w' => e = .returned (.int .i64 (sqV x y z a b c)) ∧ Below w.heap.size w w' := by
  have HZ := hide (fun (h : ¬ (posB x y z = true ∧ posB a b c = true)) => (show Ending.returned (.int .i64 0) = .returned (.int .i64 (sqV x y z a b c)) from by unfold sqV; rw [if_neg h]))
  have HY := hide (fun (h : posB x y z = true ∧ posB a b c = true) => (show sqV x y z a b c = sqU x y z a b c 3 from by unfold sqV; rw [if_pos h]; simp [sqU]))
  have HB := hide (below2 (w := w) (.cells #[.int .i64 x, .int .i64 y, .int .i64 z] 33) (.cells #[.int .i64 a, .int .i64 b, .int .i64 c] 33))
  have G0 := hide (pair_alloc (heap_alloc_new w (.cells #[.int .i64 x, .int .i64 y, .int .i64 z] 33)) (.cells #[.int .i64 a, .int .i64 b, .int .i64 c] 33))
  have G1 := hide (new_at (w := w.alloc (.cells #[.int .i64 x, .int .i64 y, .int .i64 z] 33)) (.cells #[.int .i64 a, .int .i64 b, .int .i64 c] 33) (g := w.heap.size + 1) (by simp))
  have Q1 := hide (fun W => geo_valid x y z W)
  have Q2 := hide (fun W => geo_valid a b c W)
  have QO := hide (fun W => geo_of a b c W)
  have QP := hide (fun W => geo_of x y z W)
  go_enter Try.func33, Try.ntmps33
  go_upto_region 1 with fail
  generalize (w.alloc (.cells #[.int .i64 x, .int .i64 y, .int .i64 z] 33)).alloc (.cells #[.int .i64 a, .int .i64 b, .int .i64 c] 33) = V at HB G0 G1 ⊢
  obtain ⟨c0, c1, c2, -, -, -⟩ := tri_cells G0.out
  cases h1 : posB x y z
  · rw [h1] at Q1
    have H1 := hide h1
    clear h1
    go_wp2_with (first
      | (go_at_call 39; (with_reducible refine (Q1.out _).mono ?_); rintro e w1 ⟨rfl, hb⟩))
    go_ret
    exact ⟨HZ.out (fun h => by have := h.1; rw [H1.out] at this; cases this), HB.out.trans (hb.mono HB.out.size)⟩
  · rw [h1] at Q1
    have H1 := hide h1
    have hp := posB_of h1
    clear h1
    cases h2 : posB a b c
    · rw [h2] at Q2
      have H2 := hide h2
      clear h2 hp
      go_wp2_with (first
        | (go_at_call 39; (with_reducible refine (Q1.out _).mono ?_); rintro e w1 ⟨rfl, hb⟩; (have G1 := hide ((hb.block _ (Array.getElem?_eq_some_iff.1 G1.out).1).trans G1.out)); (obtain ⟨e0, e1, e2, -, -, -⟩ := tri_cells G1.out); (have HL := hide (HB.out.trans (hb.mono HB.out.size))); clear hb)
        | (go_at_call 39; (with_reducible refine (Q2.out _).mono ?_); rintro e w2 ⟨rfl, hb⟩; (have HL2 := hide (HL.out.trans (hb.mono HL.out.size))); clear hb))
      go_ret
      exact ⟨HZ.out (fun h => by have := h.2; rw [H2.out] at this; cases this), HL2.out⟩
    · rw [h2] at Q2
      have H2 := hide h2
      have hq := posB_of h2
      clear h2
      obtain ⟨⟨x0, x1⟩, ⟨y0, y1⟩, ⟨z0, z1⟩⟩ := hp
      obtain ⟨⟨a0, a1⟩, ⟨b0, b1⟩, ⟨p0, p1⟩⟩ := hq
      go_upto_region 3 with (first
        | (go_at_call 39; (with_reducible refine (Q1.out _).mono ?_); rintro e w1 ⟨rfl, hb⟩; (have G0 := hide ((hb.block _ (Array.getElem?_eq_some_iff.1 G0.out).1).trans G0.out)); (have G1 := hide ((hb.block _ (Array.getElem?_eq_some_iff.1 G1.out).1).trans G1.out)); (obtain ⟨e0, e1, e2, -, -, -⟩ := tri_cells G1.out); (have HL := hide (HB.out.trans (hb.mono HB.out.size))); clear hb)
        | (go_at_call 39; (with_reducible refine (Q2.out _).mono ?_); rintro e w2 ⟨rfl, hb⟩; (have G0 := hide ((hb.block _ (Array.getElem?_eq_some_iff.1 G0.out).1).trans G0.out)); (have G1 := hide ((hb.block _ (Array.getElem?_eq_some_iff.1 G1.out).1).trans G1.out)); (have HL2 := hide (HL.out.trans (hb.mono HL.out.size))); clear hb))
      clear c0 c1 c2 e0 e1 e2
      obtain ⟨e0, e1, e2, -, -, -⟩ := tri_cells G1.out
      go_upto_region 4 with (first
        | (go_at_call 40; (with_reducible refine (QO.out _).mono ?_); rintro e w3 ⟨rfl, hb⟩; (have G0 := hide ((hb.block _ (Array.getElem?_eq_some_iff.1 G0.out).1).trans G0.out)); (have HL3 := hide (HL2.out.trans (hb.mono HL2.out.size))); clear hb))
      clear e0 e1 e2
      have G6 := hide (heap_alloc_new w3 (.cells #[.int .i64 a, .int .i64 b, .int .i64 c] 86))
      have G0 := hide (pair_alloc G0.out (.cells #[.int .i64 a, .int .i64 b, .int .i64 c] 86))
      have HL := hide (HL3.out.alloc HL3.out.size (.cells #[.int .i64 a, .int .i64 b, .int .i64 c] 86))
      have hgs := HL3.out.size
      obtain ⟨g6, hg6⟩ : ∃ g6, w3.heap.size = g6 := ⟨_, rfl⟩
      rw [hg6] at G6 hgs ⊢
      have HG6 := hide hg6
      clear hg6
      generalize w3.alloc (.cells #[.int .i64 a, .int .i64 b, .int .i64 c] 86) = V3 at G6 G0 HL ⊢
      obtain ⟨c0, c1, c2, -, -, -⟩ := tri_cells G0.out
      go_wp2_with (first
        | (go_at_call 40; (with_reducible refine (QP.out _).mono ?_); rintro e w4 ⟨rfl, hb⟩; (have G1 := hide ((hb.block _ (Array.getElem?_eq_some_iff.1 G6.out).1).trans G6.out)); (have HL := hide (HL.out.trans (hb.mono HL.out.size))); clear hb))
      clear c0 c1 c2
      go_loopw [21, 5] (fun i sm wr => ∃ k S : Int, (k = 0 ∨ k = 1 ∨ k = 2 ∨ k = 3) ∧ i = .int .i64 k ∧ sm = .int .i64 S ∧ Hid (S = sqU x y z a b c k) ∧ 0 ≤ S ∧ S ≤ 4398046511104 * k ∧ Hid (Below w.heap.size w wr) ∧ Hid (wr.heap[g6]? = some (.cells #[.int .i64 a, .int .i64 b, .int .i64 c] 86))) (fun i _ _ => 3 - (intOf i).toNat)
      case atStart => exact ⟨0, 0, .inl rfl, rfl, rfl, hide (by simp [sqU]), by omega, by omega, HL, G1⟩
      case round =>
        obtain ⟨k, S, hk, rfl, rfl, HSU, S0, S1, HL, G1⟩ := hrel
        obtain ⟨m0, m1, m2, -, -, -⟩ := tri_cells G1.out
        rcases hk with rfl | rfl | rfl | rfl
        · have ix : ∀ w, (Instr.index 86 (.agg #[.int .i64 x, .int .i64 y, .int .i64 z]) (.int .i64 0)).run Try.prog w = .ok (.int .i64 x) w := fun _ => by kernel_rfl
          have hw1 : IntKind.i64.wrap (x - a) = x - a := by rw [IntKind.wrap_i64]; omega
          obtain ⟨s, hs⟩ : ∃ s, (x - a) * (x - a) = s := ⟨_, rfl⟩
          have hsb := sq_bd (x - a) (by omega) (by omega)
          rw [hs] at hsb
          obtain ⟨hs0, hs1⟩ := hsb
          have hw2 : IntKind.i64.wrap ((x - a) * (x - a)) = s := by rw [hs, IntKind.wrap_i64]; omega
          have hw3 : IntKind.i64.wrap (S + s) = S + s := by rw [IntKind.wrap_i64]; omega
          have HS := hide hs
          clear hs
          go_upto_region 7 with fail
          go_quiet (fail)
          go_wp2_with fail
          go_roundw
          case rel => exact ⟨1, S + s, by omega, rfl, rfl, hide (by rw [HSU.out, ← HS.out]; simp [sqU]), by omega, by omega, hide (show Below _ _ _ from ⟨HL.out.os, HL.out.tape, HL.out.output, HL.out.size, HL.out.block⟩), G1⟩
          case measure => simp [intOf]
        · have ix : ∀ w, (Instr.index 86 (.agg #[.int .i64 x, .int .i64 y, .int .i64 z]) (.int .i64 1)).run Try.prog w = .ok (.int .i64 y) w := fun _ => by kernel_rfl
          have hw1 : IntKind.i64.wrap (y - b) = y - b := by rw [IntKind.wrap_i64]; omega
          obtain ⟨s, hs⟩ : ∃ s, (y - b) * (y - b) = s := ⟨_, rfl⟩
          have hsb := sq_bd (y - b) (by omega) (by omega)
          rw [hs] at hsb
          obtain ⟨hs0, hs1⟩ := hsb
          have hw2 : IntKind.i64.wrap ((y - b) * (y - b)) = s := by rw [hs, IntKind.wrap_i64]; omega
          have hw3 : IntKind.i64.wrap (S + s) = S + s := by rw [IntKind.wrap_i64]; omega
          have HS := hide hs
          clear hs
          go_upto_region 7 with fail
          go_quiet (fail)
          go_wp2_with fail
          go_roundw
          case rel => exact ⟨2, S + s, by omega, rfl, rfl, hide (by rw [HSU.out, ← HS.out]; simp [sqU]), by omega, by omega, hide (show Below _ _ _ from ⟨HL.out.os, HL.out.tape, HL.out.output, HL.out.size, HL.out.block⟩), G1⟩
          case measure => simp [intOf]
        · have ix : ∀ w, (Instr.index 86 (.agg #[.int .i64 x, .int .i64 y, .int .i64 z]) (.int .i64 2)).run Try.prog w = .ok (.int .i64 z) w := fun _ => by kernel_rfl
          have hw1 : IntKind.i64.wrap (z - c) = z - c := by rw [IntKind.wrap_i64]; omega
          obtain ⟨s, hs⟩ : ∃ s, (z - c) * (z - c) = s := ⟨_, rfl⟩
          have hsb := sq_bd (z - c) (by omega) (by omega)
          rw [hs] at hsb
          obtain ⟨hs0, hs1⟩ := hsb
          have hw2 : IntKind.i64.wrap ((z - c) * (z - c)) = s := by rw [hs, IntKind.wrap_i64]; omega
          have hw3 : IntKind.i64.wrap (S + s) = S + s := by rw [IntKind.wrap_i64]; omega
          have HS := hide hs
          clear hs
          go_upto_region 7 with fail
          go_quiet (fail)
          go_wp2_with fail
          go_roundw
          case rel => exact ⟨3, S + s, by omega, rfl, rfl, hide (by rw [HSU.out, ← HS.out]; simp [sqU]), by omega, by omega, hide (show Below _ _ _ from ⟨HL.out.os, HL.out.tape, HL.out.output, HL.out.size, HL.out.block⟩), G1⟩
          case measure => simp [intOf]
        · clear m0 m1 m2
          go_wp2_with fail
          go_ret
          exact ⟨ret_int (by rw [HY.out ⟨H1.out, H2.out⟩]; exact HSU.out), HL.out⟩

def timB (L : List Rl) (di ev : Int) (e : Ev) (now : Int) : Bool := decide (levF L di ev e ≠ 0 ∧ 0 ≤ wrap64 (now - e.tm) ∧ wrap64 (now - e.tm) ≤ (L[levF L di ev e - 1]?.getD rl0).d)
theorem levF_le (L : List Rl) (di ev : Int) (e : Ev) : levF L di ev e ≤ L.length := by
  unfold levF
  split
  · exact levN_le L e L.length
  · omega
set_option maxHeartbeats 4000000 in
set_option maxRecDepth 100000 in
theorem rule_timely (L : List Rl) (di ev : Int) (p : Option Addr) (n c : Nat) (hn : n ≤ 1000000) (e : Ev) (now : Int) (w : World) (hr : RlRow w p n L) :
    Calls Try.prog 21 #[.agg #[.slice p n c, .int .i64 di, .int .i64 ev], .agg #[.string e.a1, .string e.a2, .string e.a3, .string e.a4, .int .i64 e.t1, .int .i64 e.t2, .int .i64 e.t3, .int .i64 e.am, .int .i64 e.po, .slice e.p e.n e.c, .int .i64 e.x, .int .i64 e.y, .int .i64 e.z, .int .i64 e.tm, .int .i64 e.mf, .int .i64 e.lw, .int .i64 e.b1, .int .i64 e.b2, .int .i64 e.b3, .int .i64 e.b4, .int .i64 e.b5, .int .i64 e.b6, .int .i64 e.lo, .int .i64 e.hi, .int .i64 e.ct], .int .i64 now] w fun en w' => en = .returned (.bool (timB L di ev e now)) ∧ Below w.heap.size w w' := by
  have HB := hide (below2 (w := w) (.cells #[.slice p n c, .int .i64 di, .int .i64 ev] 24) (.cells #[.string e.a1, .string e.a2, .string e.a3, .string e.a4, .int .i64 e.t1, .int .i64 e.t2, .int .i64 e.t3, .int .i64 e.am, .int .i64 e.po, .slice e.p e.n e.c, .int .i64 e.x, .int .i64 e.y, .int .i64 e.z, .int .i64 e.tm, .int .i64 e.mf, .int .i64 e.lw, .int .i64 e.b1, .int .i64 e.b2, .int .i64 e.b3, .int .i64 e.b4, .int .i64 e.b5, .int .i64 e.b6, .int .i64 e.lo, .int .i64 e.hi, .int .i64 e.ct] 43))
  have G0 := hide (pair_alloc (heap_alloc_new w (.cells #[.slice p n c, .int .i64 di, .int .i64 ev] 24)) (.cells #[.string e.a1, .string e.a2, .string e.a3, .string e.a4, .int .i64 e.t1, .int .i64 e.t2, .int .i64 e.t3, .int .i64 e.am, .int .i64 e.po, .slice e.p e.n e.c, .int .i64 e.x, .int .i64 e.y, .int .i64 e.z, .int .i64 e.tm, .int .i64 e.mf, .int .i64 e.lw, .int .i64 e.b1, .int .i64 e.b2, .int .i64 e.b3, .int .i64 e.b4, .int .i64 e.b5, .int .i64 e.b6, .int .i64 e.lo, .int .i64 e.hi, .int .i64 e.ct] 43))
  have G1 := hide (new_at (w := w.alloc (.cells #[.slice p n c, .int .i64 di, .int .i64 ev] 24)) (.cells #[.string e.a1, .string e.a2, .string e.a3, .string e.a4, .int .i64 e.t1, .int .i64 e.t2, .int .i64 e.t3, .int .i64 e.am, .int .i64 e.po, .slice e.p e.n e.c, .int .i64 e.x, .int .i64 e.y, .int .i64 e.z, .int .i64 e.tm, .int .i64 e.mf, .int .i64 e.lw, .int .i64 e.b1, .int .i64 e.b2, .int .i64 e.b3, .int .i64 e.b4, .int .i64 e.b5, .int .i64 e.b6, .int .i64 e.lo, .int .i64 e.hi, .int .i64 e.ct] 43) (g := w.heap.size + 1) (by simp))
  have HR := hide (hr.keep HB.out)
  have HN := hide hr.1
  have Q := hide (fun (V : World) (hV : RlRow V p n L) => rule_level L di ev p n c hn e V hV)
  have hle := levF_le L di ev e
  have HT := hide (fun (h : ¬ (levF L di ev e ≠ 0 ∧ 0 ≤ wrap64 (now - e.tm) ∧ wrap64 (now - e.tm) ≤ (L[levF L di ev e - 1]?.getD rl0).d)) => (show Ending.returned (.bool false) = .returned (.bool (timB L di ev e now)) from by unfold timB; rw [decide_eq_false h]))
  have HY := hide (fun (h : levF L di ev e ≠ 0 ∧ 0 ≤ wrap64 (now - e.tm) ∧ wrap64 (now - e.tm) ≤ (L[levF L di ev e - 1]?.getD rl0).d) => (show Ending.returned (.bool true) = .returned (.bool (timB L di ev e now)) from by unfold timB; rw [decide_eq_true h]))
  obtain ⟨lv, hlv⟩ : ∃ lv, levF L di ev e = lv := ⟨_, rfl⟩
  rw [hlv] at Q HT HY hle
  clear hlv
  clear hr
  go_enter Try.func21, Try.ntmps21
  go_upto_region 1 with fail
  generalize (w.alloc (.cells #[.slice p n c, .int .i64 di, .int .i64 ev] 24)).alloc (.cells #[.string e.a1, .string e.a2, .string e.a3, .string e.a4, .int .i64 e.t1, .int .i64 e.t2, .int .i64 e.t3, .int .i64 e.am, .int .i64 e.po, .slice e.p e.n e.c, .int .i64 e.x, .int .i64 e.y, .int .i64 e.z, .int .i64 e.tm, .int .i64 e.mf, .int .i64 e.lw, .int .i64 e.b1, .int .i64 e.b2, .int .i64 e.b3, .int .i64 e.b4, .int .i64 e.b5, .int .i64 e.b6, .int .i64 e.lo, .int .i64 e.hi, .int .i64 e.ct] 43) = V at HB G0 G1 HR ⊢
  obtain ⟨c0, c1, c2, -, -, -⟩ := tri_cells G0.out
  obtain ⟨q, hq⟩ : ∃ q, wrap64 (now - e.tm) = q := ⟨_, rfl⟩
  rw [hq] at HT HY
  have hq' : wrap64 (now - e.tm) = q := hq
  clear hq
  rcases Nat.eq_zero_or_pos lv with h0 | h0
  · subst h0
    clear hq'
    go_wp2_with (first
      | (refine wpList_load_row (by rfl) 43 (.tmp 4) (by rfl) (w.heap.size + 1) (by rfl) 43 #[.string e.a1, .string e.a2, .string e.a3, .string e.a4, .int .i64 e.t1, .int .i64 e.t2, .int .i64 e.t3, .int .i64 e.am, .int .i64 e.po, .slice e.p e.n e.c, .int .i64 e.x, .int .i64 e.y, .int .i64 e.z, .int .i64 e.tm, .int .i64 e.mf, .int .i64 e.lw, .int .i64 e.b1, .int .i64 e.b2, .int .i64 e.b3, .int .i64 e.b4, .int .i64 e.b5, .int .i64 e.b6, .int .i64 e.lo, .int .i64 e.hi, .int .i64 e.ct] (0, 0) _ G1.out Try.underlying43 rfl (by kernel_rfl) ?_)
      | (go_at_call 15; (with_reducible refine (Q.out _ HR.out).mono ?_); rintro en w1 ⟨rfl, hb⟩; (have HL := hide (HB.out.trans (hb.mono HB.out.size))); clear hb))
    go_ret
    exact ⟨HT.out (by omega), HL.out⟩
  · obtain ⟨m, rfl⟩ : ∃ m, lv = m + 1 := ⟨lv - 1, by omega⟩
    have HT := hide (fun (h : ¬ (0 ≤ q ∧ q ≤ (L[m]?.getD rl0).d)) => HT.out (fun h' => h ⟨h'.2.1, h'.2.2⟩))
    have HY := hide (fun (h : 0 ≤ q ∧ q ≤ (L[m]?.getD rl0).d) => HY.out ⟨by omega, h.1, h.2⟩)
    have hml : m < L.length := by omega
    have hmn : m < n := by have := HN.out; omega
    have hmI : (m : Int) < (n : Int) := by omega
    have e0 : (((m + 1 : Nat) : Int)) = (m : Int) + 1 := by omega
    rw [e0] at Q
    have dm : ((m : Int) + 1 == 0) = false := by simp; omega
    obtain ⟨r, hrr⟩ : ∃ r, L[m] = r := ⟨_, rfl⟩
    have hr0 : L[m]?.getD rl0 = r := by rw [List.getElem?_eq_getElem hml]; exact hrr
    rw [hr0] at HT HY
    obtain ⟨-, h0 | ⟨b, off, rfl, hc⟩⟩ := HR.out
    · omega
    obtain ⟨-, -, -, x3⟩ := hc m hml
    rw [hrr] at x3
    have X3 := hide x3
    clear x3 hc h0 hle e0 hr0 hrr hml
    have m13 := boxed_at G1.out (i := 13) rfl
    clear m13
    have ARM := True.intro
    cases hq0 : decide (0 ≤ q) <;> cases hq1 : decide (q ≤ r.d) <;> simp only [decide_eq_true_eq, decide_eq_false_iff_not] at hq0 hq1
    all_goals
      first
        | have d1 : decide (0 ≤ q) = true := by simpa using hq0
        | have d1 : decide (0 ≤ q) = false := by simpa using hq0
      first
        | have d2 : decide (q ≤ r.d) = true := by simpa using hq1
        | have d2 : decide (q ≤ r.d) = false := by simpa using hq1
      have HT := hide (fun h => HT.out h)
      have HQ0 := hide hq0
      have HQ1 := hide hq1
      clear hq0 hq1
      go_wp2_with (first
        | (refine wpList_load_row (by rfl) 43 (.tmp 4) (by rfl) (w.heap.size + 1) (by rfl) 43 #[.string e.a1, .string e.a2, .string e.a3, .string e.a4, .int .i64 e.t1, .int .i64 e.t2, .int .i64 e.t3, .int .i64 e.am, .int .i64 e.po, .slice e.p e.n e.c, .int .i64 e.x, .int .i64 e.y, .int .i64 e.z, .int .i64 e.tm, .int .i64 e.mf, .int .i64 e.lw, .int .i64 e.b1, .int .i64 e.b2, .int .i64 e.b3, .int .i64 e.b4, .int .i64 e.b5, .int .i64 e.b6, .int .i64 e.lo, .int .i64 e.hi, .int .i64 e.ct] (0, 0) _ G1.out Try.underlying43 rfl (by kernel_rfl) ?_)
        | (go_at_call 15; (with_reducible refine (Q.out _ HR.out).mono ?_); rintro en w1 ⟨rfl, hb⟩; (have G0 := hide ((hb.block _ (Array.getElem?_eq_some_iff.1 G0.out).1).trans G0.out)); (have G1 := hide ((hb.block _ (Array.getElem?_eq_some_iff.1 G1.out).1).trans G1.out)); (have HL := hide (HB.out.trans (hb.mono HB.out.size))); (have x3 : w1.cell? ⟨b, off + m * 4 + 3, none⟩ = some (.int .i64 r.d) := (by rw [hb.cell (block_lt_of_cell X3.out)]; exact X3.out)); (have m0 := boxed_at G0.out (i := 0) rfl); (have m13 := boxed_at G1.out (i := 13) rfl); clear hb))
      go_ret
      first
        | exact ⟨HT.out (by have h1 := HQ0.out; have h2 := HQ1.out; omega), HL.out⟩
        | exact ⟨HY.out (by have h1 := HQ0.out; have h2 := HQ1.out; exact ⟨h1, h2⟩), HL.out⟩

end Go.Proofs.Ytlhphhiodckaaaa
