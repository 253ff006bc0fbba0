/- Events and rules: Meets of both packages, valid and Validate of package rule. (written by gen_rule.py) -/
import Derived.Test.YtlhphhiodckaaaaKeepPol
namespace Go.Proofs.Ytlhphhiodckaaaa
open Go.RowKit
set_option linter.unusedVariables false
set_option linter.unusedSimpArgs false
/-- An event, by its cells. -/
structure Ev where
  a1 : ByteArray
  a2 : ByteArray
  a3 : ByteArray
  a4 : ByteArray
  t1 : Int
  t2 : Int
  t3 : Int
  am : Int
  po : Int
  p : Option Addr
  n : Nat
  c : Nat
  x : Int
  y : Int
  z : Int
  tm : Int
  mf : Int
  lw : Int
  b1 : Int
  b2 : Int
  b3 : Int
  b4 : Int
  b5 : Int
  b6 : Int
  lo : Int
  hi : Int
  ct : Int
def meetsB (r : Rl) (e : Ev) : Bool := decide (1 ≤ e.ct ∧ r.m ≤ e.lo ∧ r.p ≤ (e.n : Int) ∧ e.mf ≤ r.f)
theorem new_at {w : World} {g : Nat} (o : Obj) (hg : w.heap.size = g) : (w.alloc o).heap[g]? = some o := by subst hg; exact heap_alloc_new w o
theorem below3a {w : World} (a b c : Obj) : Below w.heap.size w (((w.alloc a).alloc b).alloc c) := ((Below.refl _ _).alloc (Nat.le_refl _) _ |>.alloc (by simp) _).alloc (by simp; omega) _
theorem boxed_at {w : World} {g i : Nat} {cs : Array Value} {t : TypeId} {v : Value} (h : w.heap[g]? = some (.cells cs t (0, 0))) (hv : cs[i]? = some v) : w.cell? ⟨g, i, none⟩ = some v := by rw [cell_of_row _ _ _ _ _ _ h]; exact hv

set_option maxHeartbeats 4000000 in
set_option maxRecDepth 100000 in
theorem rule_meets (r : Rl) (e : Ev) (w : World) :
    Calls Try.prog 17 #[.agg #[.int .i64 r.m, .int .i64 r.p, .int .i64 r.f, .int .i64 r.d], .agg #[.string e.a1, .string e.a2, .string e.a3, .string e.a4, .int .i64 e.t1, .int .i64 e.t2, .int .i64 e.t3, .int .i64 e.am, .int .i64 e.po, .slice e.p e.n e.c, .int .i64 e.x, .int .i64 e.y, .int .i64 e.z, .int .i64 e.tm, .int .i64 e.mf, .int .i64 e.lw, .int .i64 e.b1, .int .i64 e.b2, .int .i64 e.b3, .int .i64 e.b4, .int .i64 e.b5, .int .i64 e.b6, .int .i64 e.lo, .int .i64 e.hi, .int .i64 e.ct]] w fun en w' => en = .returned (.bool (meetsB r e)) ∧ Below w.heap.size w w' := by
  have hcs : (e.ct < 1 ∧ meetsB r e = false) ∨ (1 ≤ e.ct ∧ e.lo < r.m ∧ meetsB r e = false) ∨ (1 ≤ e.ct ∧ r.m ≤ e.lo ∧ (e.n : Int) < r.p ∧ meetsB r e = false) ∨ (1 ≤ e.ct ∧ r.m ≤ e.lo ∧ r.p ≤ (e.n : Int) ∧ r.f < e.mf ∧ meetsB r e = false) ∨ (1 ≤ e.ct ∧ r.m ≤ e.lo ∧ r.p ≤ (e.n : Int) ∧ e.mf ≤ r.f ∧ meetsB r e = true) := by
    unfold meetsB
    by_cases h1 : 1 ≤ e.ct
    · by_cases h2 : r.m ≤ e.lo
      · by_cases h3 : r.p ≤ (e.n : Int)
        · by_cases h4 : e.mf ≤ r.f
          · exact .inr (.inr (.inr (.inr ⟨h1, h2, h3, h4, decide_eq_true ⟨h1, h2, h3, h4⟩⟩)))
          · exact .inr (.inr (.inr (.inl ⟨h1, h2, h3, by omega, decide_eq_false fun h => h4 h.2.2.2⟩)))
        · exact .inr (.inr (.inl ⟨h1, h2, by omega, decide_eq_false fun h => h3 h.2.2.1⟩))
      · exact .inr (.inl ⟨h1, by omega, decide_eq_false fun h => h2 h.2.1⟩)
    · exact .inl ⟨by omega, decide_eq_false fun h => h1 h.1⟩
  have HB := hide (below3a (w := w) (.cells #[.int .i64 r.m, .int .i64 r.p, .int .i64 r.f, .int .i64 r.d] 26) (.cells #[.string e.a1, .string e.a2, .string e.a3, .string e.a4, .int .i64 e.t1, .int .i64 e.t2, .int .i64 e.t3, .int .i64 e.am, .int .i64 e.po, .slice e.p e.n e.c, .int .i64 e.x, .int .i64 e.y, .int .i64 e.z, .int .i64 e.tm, .int .i64 e.mf, .int .i64 e.lw, .int .i64 e.b1, .int .i64 e.b2, .int .i64 e.b3, .int .i64 e.b4, .int .i64 e.b5, .int .i64 e.b6, .int .i64 e.lo, .int .i64 e.hi, .int .i64 e.ct] 43) (.cells #[.slice e.p e.n e.c, .int .i64 e.x, .int .i64 e.y, .int .i64 e.z, .int .i64 e.tm, .int .i64 e.mf, .int .i64 e.lw, .int .i64 e.b1, .int .i64 e.b2, .int .i64 e.b3, .int .i64 e.b4, .int .i64 e.b5, .int .i64 e.b6, .int .i64 e.lo, .int .i64 e.hi, .int .i64 e.ct] 41))
  have G2 := pair_alloc (pair_alloc (heap_alloc_new w (.cells #[.int .i64 r.m, .int .i64 r.p, .int .i64 r.f, .int .i64 r.d] 26)) (.cells #[.string e.a1, .string e.a2, .string e.a3, .string e.a4, .int .i64 e.t1, .int .i64 e.t2, .int .i64 e.t3, .int .i64 e.am, .int .i64 e.po, .slice e.p e.n e.c, .int .i64 e.x, .int .i64 e.y, .int .i64 e.z, .int .i64 e.tm, .int .i64 e.mf, .int .i64 e.lw, .int .i64 e.b1, .int .i64 e.b2, .int .i64 e.b3, .int .i64 e.b4, .int .i64 e.b5, .int .i64 e.b6, .int .i64 e.lo, .int .i64 e.hi, .int .i64 e.ct] 43)) (.cells #[.slice e.p e.n e.c, .int .i64 e.x, .int .i64 e.y, .int .i64 e.z, .int .i64 e.tm, .int .i64 e.mf, .int .i64 e.lw, .int .i64 e.b1, .int .i64 e.b2, .int .i64 e.b3, .int .i64 e.b4, .int .i64 e.b5, .int .i64 e.b6, .int .i64 e.lo, .int .i64 e.hi, .int .i64 e.ct] 41)
  have G5 := new_at (w := (w.alloc (.cells #[.int .i64 r.m, .int .i64 r.p, .int .i64 r.f, .int .i64 r.d] 26)).alloc (.cells #[.string e.a1, .string e.a2, .string e.a3, .string e.a4, .int .i64 e.t1, .int .i64 e.t2, .int .i64 e.t3, .int .i64 e.am, .int .i64 e.po, .slice e.p e.n e.c, .int .i64 e.x, .int .i64 e.y, .int .i64 e.z, .int .i64 e.tm, .int .i64 e.mf, .int .i64 e.lw, .int .i64 e.b1, .int .i64 e.b2, .int .i64 e.b3, .int .i64 e.b4, .int .i64 e.b5, .int .i64 e.b6, .int .i64 e.lo, .int .i64 e.hi, .int .i64 e.ct] 43)) (.cells #[.slice e.p e.n e.c, .int .i64 e.x, .int .i64 e.y, .int .i64 e.z, .int .i64 e.tm, .int .i64 e.mf, .int .i64 e.lw, .int .i64 e.b1, .int .i64 e.b2, .int .i64 e.b3, .int .i64 e.b4, .int .i64 e.b5, .int .i64 e.b6, .int .i64 e.lo, .int .i64 e.hi, .int .i64 e.ct] 41) (g := w.heap.size + 1 + 1) (by simp)
  have HG2 := hide G2
  have HG5 := hide G5
  have HCS := hide hcs
  clear G2 G5 hcs
  go_enter Try.func17, Try.ntmps17
  go_upto_region 2 with fail
  have q0 := boxed_at HG2.out (i := 0) rfl
  have q1 := boxed_at HG2.out (i := 1) rfl
  have q2 := boxed_at HG2.out (i := 2) rfl
  have s0 := boxed_at HG5.out (i := 0) rfl
  have s5 := boxed_at HG5.out (i := 5) rfl
  have s13 := boxed_at HG5.out (i := 13) rfl
  have s15 := boxed_at HG5.out (i := 15) rfl
  clear HG2 HG5
  generalize ((w.alloc (.cells #[.int .i64 r.m, .int .i64 r.p, .int .i64 r.f, .int .i64 r.d] 26)).alloc (.cells #[.string e.a1, .string e.a2, .string e.a3, .string e.a4, .int .i64 e.t1, .int .i64 e.t2, .int .i64 e.t3, .int .i64 e.am, .int .i64 e.po, .slice e.p e.n e.c, .int .i64 e.x, .int .i64 e.y, .int .i64 e.z, .int .i64 e.tm, .int .i64 e.mf, .int .i64 e.lw, .int .i64 e.b1, .int .i64 e.b2, .int .i64 e.b3, .int .i64 e.b4, .int .i64 e.b5, .int .i64 e.b6, .int .i64 e.lo, .int .i64 e.hi, .int .i64 e.ct] 43)).alloc (.cells #[.slice e.p e.n e.c, .int .i64 e.x, .int .i64 e.y, .int .i64 e.z, .int .i64 e.tm, .int .i64 e.mf, .int .i64 e.lw, .int .i64 e.b1, .int .i64 e.b2, .int .i64 e.b3, .int .i64 e.b4, .int .i64 e.b5, .int .i64 e.b6, .int .i64 e.lo, .int .i64 e.hi, .int .i64 e.ct] 41) = V at *
  rcases HCS.out with ⟨h1, hb⟩ | ⟨h1, h2, hb⟩ | ⟨h1, h2, h3, hb⟩ | ⟨h1, h2, h3, h4, hb⟩ | ⟨h1, h2, h3, h4, hb⟩ <;> (have HM := hide hb; clear hb HCS)
  · have d1 : decide (1 ≤ e.ct) = false := by simp; omega
    go_wp2
    go_ret
    exact ⟨by rw [HM.out]; rfl, HB.out⟩
  · have d1 : decide (1 ≤ e.ct) = true := by simp; omega
    have d2 : decide (r.m ≤ e.lo) = false := by simp; omega
    go_wp2
    go_ret
    exact ⟨by rw [HM.out]; rfl, HB.out⟩
  · have d1 : decide (1 ≤ e.ct) = true := by simp; omega
    have d2 : decide (r.m ≤ e.lo) = true := by simp; omega
    have d3 : decide (r.p ≤ (e.n : Int)) = false := by simp; omega
    go_wp2
    go_ret
    exact ⟨by rw [HM.out]; rfl, HB.out⟩
  · have d1 : decide (1 ≤ e.ct) = true := by simp; omega
    have d2 : decide (r.m ≤ e.lo) = true := by simp; omega
    have d3 : decide (r.p ≤ (e.n : Int)) = true := by simp; omega
    have d4 : decide (e.mf ≤ r.f) = false := by simp; omega
    go_wp2
    go_ret
    exact ⟨by rw [HM.out]; rfl, HB.out⟩
  · have d1 : decide (1 ≤ e.ct) = true := by simp; omega
    have d2 : decide (r.m ≤ e.lo) = true := by simp; omega
    have d3 : decide (r.p ≤ (e.n : Int)) = true := by simp; omega
    have d4 : decide (e.mf ≤ r.f) = true := by simp; omega
    go_wp2
    go_ret
    exact ⟨by rw [HM.out]; rfl, HB.out⟩

set_option maxHeartbeats 4000000 in
set_option maxRecDepth 100000 in
theorem rref_meets (r : Rl) (e : Ev) (w : World) :
    Calls Try.prog 18 #[.agg #[.int .i64 r.m, .int .i64 r.p, .int .i64 r.f, .int .i64 r.d], .agg #[.string e.a1, .string e.a2, .string e.a3, .string e.a4, .int .i64 e.t1, .int .i64 e.t2, .int .i64 e.t3, .int .i64 e.am, .int .i64 e.po, .slice e.p e.n e.c, .int .i64 e.x, .int .i64 e.y, .int .i64 e.z, .int .i64 e.tm, .int .i64 e.mf, .int .i64 e.lw, .int .i64 e.b1, .int .i64 e.b2, .int .i64 e.b3, .int .i64 e.b4, .int .i64 e.b5, .int .i64 e.b6, .int .i64 e.lo, .int .i64 e.hi, .int .i64 e.ct]] w fun en w' => en = .returned (.bool (meetsB r e)) ∧ Below w.heap.size w w' := by
  have hcs : (e.ct < 1 ∧ meetsB r e = false) ∨ (1 ≤ e.ct ∧ e.lo < r.m ∧ meetsB r e = false) ∨ (1 ≤ e.ct ∧ r.m ≤ e.lo ∧ (e.n : Int) < r.p ∧ meetsB r e = false) ∨ (1 ≤ e.ct ∧ r.m ≤ e.lo ∧ r.p ≤ (e.n : Int) ∧ r.f < e.mf ∧ meetsB r e = false) ∨ (1 ≤ e.ct ∧ r.m ≤ e.lo ∧ r.p ≤ (e.n : Int) ∧ e.mf ≤ r.f ∧ meetsB r e = true) := by
    unfold meetsB
    by_cases h1 : 1 ≤ e.ct
    · by_cases h2 : r.m ≤ e.lo
      · by_cases h3 : r.p ≤ (e.n : Int)
        · by_cases h4 : e.mf ≤ r.f
          · exact .inr (.inr (.inr (.inr ⟨h1, h2, h3, h4, decide_eq_true ⟨h1, h2, h3, h4⟩⟩)))
          · exact .inr (.inr (.inr (.inl ⟨h1, h2, h3, by omega, decide_eq_false fun h => h4 h.2.2.2⟩)))
        · exact .inr (.inr (.inl ⟨h1, h2, by omega, decide_eq_false fun h => h3 h.2.2.1⟩))
      · exact .inr (.inl ⟨h1, by omega, decide_eq_false fun h => h2 h.2.1⟩)
    · exact .inl ⟨by omega, decide_eq_false fun h => h1 h.1⟩
  have HB := hide (below3a (w := w) (.cells #[.int .i64 r.m, .int .i64 r.p, .int .i64 r.f, .int .i64 r.d] 26) (.cells #[.string e.a1, .string e.a2, .string e.a3, .string e.a4, .int .i64 e.t1, .int .i64 e.t2, .int .i64 e.t3, .int .i64 e.am, .int .i64 e.po, .slice e.p e.n e.c, .int .i64 e.x, .int .i64 e.y, .int .i64 e.z, .int .i64 e.tm, .int .i64 e.mf, .int .i64 e.lw, .int .i64 e.b1, .int .i64 e.b2, .int .i64 e.b3, .int .i64 e.b4, .int .i64 e.b5, .int .i64 e.b6, .int .i64 e.lo, .int .i64 e.hi, .int .i64 e.ct] 43) (.cells #[.slice e.p e.n e.c, .int .i64 e.x, .int .i64 e.y, .int .i64 e.z, .int .i64 e.tm, .int .i64 e.mf, .int .i64 e.lw, .int .i64 e.b1, .int .i64 e.b2, .int .i64 e.b3, .int .i64 e.b4, .int .i64 e.b5, .int .i64 e.b6, .int .i64 e.lo, .int .i64 e.hi, .int .i64 e.ct] 41))
  have G2 := pair_alloc (pair_alloc (heap_alloc_new w (.cells #[.int .i64 r.m, .int .i64 r.p, .int .i64 r.f, .int .i64 r.d] 26)) (.cells #[.string e.a1, .string e.a2, .string e.a3, .string e.a4, .int .i64 e.t1, .int .i64 e.t2, .int .i64 e.t3, .int .i64 e.am, .int .i64 e.po, .slice e.p e.n e.c, .int .i64 e.x, .int .i64 e.y, .int .i64 e.z, .int .i64 e.tm, .int .i64 e.mf, .int .i64 e.lw, .int .i64 e.b1, .int .i64 e.b2, .int .i64 e.b3, .int .i64 e.b4, .int .i64 e.b5, .int .i64 e.b6, .int .i64 e.lo, .int .i64 e.hi, .int .i64 e.ct] 43)) (.cells #[.slice e.p e.n e.c, .int .i64 e.x, .int .i64 e.y, .int .i64 e.z, .int .i64 e.tm, .int .i64 e.mf, .int .i64 e.lw, .int .i64 e.b1, .int .i64 e.b2, .int .i64 e.b3, .int .i64 e.b4, .int .i64 e.b5, .int .i64 e.b6, .int .i64 e.lo, .int .i64 e.hi, .int .i64 e.ct] 41)
  have G5 := new_at (w := (w.alloc (.cells #[.int .i64 r.m, .int .i64 r.p, .int .i64 r.f, .int .i64 r.d] 26)).alloc (.cells #[.string e.a1, .string e.a2, .string e.a3, .string e.a4, .int .i64 e.t1, .int .i64 e.t2, .int .i64 e.t3, .int .i64 e.am, .int .i64 e.po, .slice e.p e.n e.c, .int .i64 e.x, .int .i64 e.y, .int .i64 e.z, .int .i64 e.tm, .int .i64 e.mf, .int .i64 e.lw, .int .i64 e.b1, .int .i64 e.b2, .int .i64 e.b3, .int .i64 e.b4, .int .i64 e.b5, .int .i64 e.b6, .int .i64 e.lo, .int .i64 e.hi, .int .i64 e.ct] 43)) (.cells #[.slice e.p e.n e.c, .int .i64 e.x, .int .i64 e.y, .int .i64 e.z, .int .i64 e.tm, .int .i64 e.mf, .int .i64 e.lw, .int .i64 e.b1, .int .i64 e.b2, .int .i64 e.b3, .int .i64 e.b4, .int .i64 e.b5, .int .i64 e.b6, .int .i64 e.lo, .int .i64 e.hi, .int .i64 e.ct] 41) (g := w.heap.size + 1 + 1) (by simp)
  have HG2 := hide G2
  have HG5 := hide G5
  have HCS := hide hcs
  clear G2 G5 hcs
  go_enter Try.func18, Try.ntmps18
  go_upto_region 2 with fail
  have q0 := boxed_at HG2.out (i := 0) rfl
  have q1 := boxed_at HG2.out (i := 1) rfl
  have q2 := boxed_at HG2.out (i := 2) rfl
  have s0 := boxed_at HG5.out (i := 0) rfl
  have s5 := boxed_at HG5.out (i := 5) rfl
  have s13 := boxed_at HG5.out (i := 13) rfl
  have s15 := boxed_at HG5.out (i := 15) rfl
  clear HG2 HG5
  generalize ((w.alloc (.cells #[.int .i64 r.m, .int .i64 r.p, .int .i64 r.f, .int .i64 r.d] 26)).alloc (.cells #[.string e.a1, .string e.a2, .string e.a3, .string e.a4, .int .i64 e.t1, .int .i64 e.t2, .int .i64 e.t3, .int .i64 e.am, .int .i64 e.po, .slice e.p e.n e.c, .int .i64 e.x, .int .i64 e.y, .int .i64 e.z, .int .i64 e.tm, .int .i64 e.mf, .int .i64 e.lw, .int .i64 e.b1, .int .i64 e.b2, .int .i64 e.b3, .int .i64 e.b4, .int .i64 e.b5, .int .i64 e.b6, .int .i64 e.lo, .int .i64 e.hi, .int .i64 e.ct] 43)).alloc (.cells #[.slice e.p e.n e.c, .int .i64 e.x, .int .i64 e.y, .int .i64 e.z, .int .i64 e.tm, .int .i64 e.mf, .int .i64 e.lw, .int .i64 e.b1, .int .i64 e.b2, .int .i64 e.b3, .int .i64 e.b4, .int .i64 e.b5, .int .i64 e.b6, .int .i64 e.lo, .int .i64 e.hi, .int .i64 e.ct] 41) = V at *
  rcases HCS.out with ⟨h1, hb⟩ | ⟨h1, h2, hb⟩ | ⟨h1, h2, h3, hb⟩ | ⟨h1, h2, h3, h4, hb⟩ | ⟨h1, h2, h3, h4, hb⟩ <;> (have HM := hide hb; clear hb HCS)
  · have d1 : decide (1 ≤ e.ct) = false := by simp; omega
    go_wp2
    go_ret
    exact ⟨by rw [HM.out]; rfl, HB.out⟩
  · have d1 : decide (1 ≤ e.ct) = true := by simp; omega
    have d2 : decide (r.m ≤ e.lo) = false := by simp; omega
    go_wp2
    go_ret
    exact ⟨by rw [HM.out]; rfl, HB.out⟩
  · have d1 : decide (1 ≤ e.ct) = true := by simp; omega
    have d2 : decide (r.m ≤ e.lo) = true := by simp; omega
    have d3 : decide (r.p ≤ (e.n : Int)) = false := by simp; omega
    go_wp2
    go_ret
    exact ⟨by rw [HM.out]; rfl, HB.out⟩
  · have d1 : decide (1 ≤ e.ct) = true := by simp; omega
    have d2 : decide (r.m ≤ e.lo) = true := by simp; omega
    have d3 : decide (r.p ≤ (e.n : Int)) = true := by simp; omega
    have d4 : decide (e.mf ≤ r.f) = false := by simp; omega
    go_wp2
    go_ret
    exact ⟨by rw [HM.out]; rfl, HB.out⟩
  · have d1 : decide (1 ≤ e.ct) = true := by simp; omega
    have d2 : decide (r.m ≤ e.lo) = true := by simp; omega
    have d3 : decide (r.p ≤ (e.n : Int)) = true := by simp; omega
    have d4 : decide (e.mf ≤ r.f) = true := by simp; omega
    go_wp2
    go_ret
    exact ⟨by rw [HM.out]; rfl, HB.out⟩

end Go.Proofs.Ytlhphhiodckaaaa
