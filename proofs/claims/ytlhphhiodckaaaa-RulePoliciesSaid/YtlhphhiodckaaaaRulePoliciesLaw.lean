/- The walk of the statement RulePolicies. (written by gen_rulepol.py) -/
import Derived.Test.YtlhphhiodckaaaaRulePolA
import Derived.Deep.LoopGhost
import Derived.Deep.RegionHeld3
import Derived.Deep.CutRange
import Derived.Deep.CutBlock
namespace Go.Proofs.Ytlhphhiodckaaaa
open Go.RowKit
set_option linter.unusedVariables false
set_option linter.unusedSimpArgs false
structure PolA (W : World) (a : Option Addr) (m cap g : Nat) (V : World) (W0 : World) (q1 : Nat) (P : Po) (RL : List Rl) (di ev : Int) (bb off c : Nat) (L : Nat → Bool) (u : Nat → Value) (x : World) : Prop where
  st : St W a m cap g V x
  h6 : x.heap[W0.heap.size]? = some (.cells #[.slice P.p P.L.length P.c, .int .i64 P.di, .int .i64 P.ev] 24 (0, 0))
  hq : x.heap[q1]? = some (.cells #[.slice (some ⟨bb, off, none⟩) RL.length c, .int .i64 di, .int .i64 ev] 24 (0, 0))
  row : RlRow x (some ⟨bb, off, none⟩) RL.length RL
  f0 : L 0 = true → u 48 = .agg #[.slice P.p P.L.length P.c, .int .i64 P.di, .int .i64 P.ev]
  f1 : L 1 = true → u 49 = .agg #[.slice (some ⟨bb, off, none⟩) RL.length c, .int .i64 di, .int .i64 ev]
  f2 : L 2 = true → u 50 = (.pointer (some ⟨g, 0, none⟩))
  f3 : L 3 = true → u 51 = .agg #[.slice (some ⟨bb, off, none⟩) RL.length c, .int .i64 di, .int .i64 ev]
  f4 : L 4 = true → ∃ po : Po, u 52 = .agg #[.slice po.p po.L.length po.c, .int .i64 po.di, .int .i64 po.ev] ∧ RlRow x po.p po.L.length po.L ∧ po.L.length ≤ 3
  f5 : L 5 = true → ∃ (po : Po) (B : Nat) (cells : Array Value), u 53 = .slice (some ⟨B, 0, none⟩) 3 3 ∧ V.heap.size ≤ B ∧ x.heap[B]? = some (.cells cells 24 (0, 0)) ∧ Parts 3 [.agg #[.slice P.p P.L.length P.c, .int .i64 P.di, .int .i64 P.ev], .agg #[.slice (some ⟨bb, off, none⟩) RL.length c, .int .i64 di, .int .i64 ev], .agg #[.slice po.p po.L.length po.c, .int .i64 po.di, .int .i64 po.ev]] cells ∧ RlRow x po.p po.L.length po.L ∧ po.L.length ≤ 3
  f6 : L 6 = true → u 54 = .int .i64 3
  f7 : L 7 = true → u 55 = .int .i64 0
theorem PolA.rolls {W : World} {a : Option Addr} {m cap g : Nat} {V : World} {W0 : World} {q1 : Nat} {P : Po} {RL : List Rl} {di ev : Int} {bb off c : Nat} {L : Nat → Bool} {u : Nat → Value} {x y : World} (h : PolA W a m cap g V W0 q1 P RL di ev bb off c L u x) (hg : g < V.heap.size) (h6 : W0.heap.size ≠ g) (hq : q1 ≠ g) (hd : Src W a m cap g y) (hr : Rolls g x y) : PolA W a m cap g V W0 q1 P RL di ev bb off c L u y :=
  { h with
    st := h.st.rolls hd hr
    h6 := hr.blk h.h6 h6
    hq := hr.blk h.hq hq
    row := (St.mk hd hr).row h.st.src h.row
    f4 := fun e => by
      obtain ⟨po, h1, h2, h3⟩ := h.f4 e
      exact ⟨po, h1, (St.mk hd hr).row h.st.src h2, h3⟩
    f5 := fun e => by
      obtain ⟨po, B, cells, h1, h2, h3, h4, h5, h6⟩ := h.f5 e
      exact ⟨po, B, cells, h1, h2, hr.blk h3 (by omega), h4, (St.mk hd hr).row h.st.src h5, h6⟩ }
structure PolB (W : World) (a : Option Addr) (m cap g : Nat) (V : World) (q20 : Nat) (now : Int) (e : Ev) (L : Nat → Bool) (u : Nat → Value) (x : World) : Prop where
  st : St W a m cap g V x
  blk : x.heap[q20]? = some (.cells #[.string e.a1, .string e.a2, .string e.a3, .string e.a4, .int .i64 e.t1, .int .i64 e.t2, .int .i64 e.t3, .int .i64 e.am, .int .i64 e.po, .slice e.p e.n e.c, .int .i64 e.x, .int .i64 e.y, .int .i64 e.z, .int .i64 e.tm, .int .i64 e.mf, .int .i64 e.lw, .int .i64 e.b1, .int .i64 e.b2, .int .i64 e.b3, .int .i64 e.b4, .int .i64 e.b5, .int .i64 e.b6, .int .i64 e.lo, .int .i64 e.hi, .int .i64 e.ct] 43 (0, 0))
  f0 : L 0 = true → u 104 = .int .i64 now
  f1 : L 1 = true → ∃ z : Int, u 105 = .int .i64 z
  f2 : L 2 = true → u 106 = (.pointer (some ⟨g, 0, none⟩))
  f3 : L 3 = true → ∃ z : Int, u 107 = .int .i64 z ∧ 0 ≤ z ∧ z < 2000
  f4 : L 4 = true → ∃ z : Int, u 108 = .int .i64 z
  f5 : L 5 = true → u 109 = .pointer (some ⟨q20, 9, none⟩)
  f6 : L 6 = true → u 110 = .pointer (some ⟨q20, 10, none⟩)
  f7 : L 7 = true → u 111 = .pointer (some ⟨q20, 13, none⟩)
  f8 : L 8 = true → u 112 = .int .i64 e.tm
  f9 : L 9 = true → ∃ (B3 : Nat) (n0 n1 n2 : Int), u 113 = .slice (some ⟨B3, 0, none⟩) 3 3 ∧ V.heap.size ≤ B3 ∧ x.heap[B3]? = some (.cells #[.int .i64 n0, .int .i64 n1, .int .i64 n2] 3 (0, 0))
  f10 : L 10 = true → u 114 = .int .i64 3
  f11 : L 11 = true → u 115 = .int .i64 0
theorem PolB.rolls {W : World} {a : Option Addr} {m cap g : Nat} {V : World} {q20 : Nat} {now : Int} {e : Ev} {L : Nat → Bool} {u : Nat → Value} {x y : World} (h : PolB W a m cap g V q20 now e L u x) (hg : g < V.heap.size) (hq : q20 ≠ g) (hd : Src W a m cap g y) (hr : Rolls g x y) : PolB W a m cap g V q20 now e L u y :=
  { h with
    st := h.st.rolls hd hr
    blk := hr.blk h.blk hq
    f9 := fun e => by
      obtain ⟨B, n0, n1, n2, h1, h2, h3⟩ := h.f9 e
      exact ⟨B, n0, n1, n2, h1, h2, hr.blk h3 (by omega)⟩ }

set_option maxHeartbeats 16000000 in
set_option maxRecDepth 100000 in
theorem rule_policies (P : Po) (r : Rl) (A C9 : Ev) (now : Int) (a : Option Addr) (len cap : Nat) (W0 : World) (hP : RlRow W0 P.p P.L.length P.L) (hnow : -9223372036854775808 ≤ now ∧ now ≤ 9223372036854775807) (hcap : len ≤ cap ∧ cap ≤ 9223372036854775807) (hr : IntRow W0 a len) :
    Calls Try.prog 3 #[.agg #[.slice P.p P.L.length P.c, .int .i64 P.di, .int .i64 P.ev], .agg #[.int .i64 r.m, .int .i64 r.p, .int .i64 r.f, .int .i64 r.d], .agg #[.string A.a1, .string A.a2, .string A.a3, .string A.a4, .int .i64 A.t1, .int .i64 A.t2, .int .i64 A.t3, .int .i64 A.am, .int .i64 A.po, .slice A.p A.n A.c, .int .i64 A.x, .int .i64 A.y, .int .i64 A.z, .int .i64 A.tm, .int .i64 A.mf, .int .i64 A.lw, .int .i64 A.b1, .int .i64 A.b2, .int .i64 A.b3, .int .i64 A.b4, .int .i64 A.b5, .int .i64 A.b6, .int .i64 A.lo, .int .i64 A.hi, .int .i64 A.ct], .agg #[.string C9.a1, .string C9.a2, .string C9.a3, .string C9.a4, .int .i64 C9.t1, .int .i64 C9.t2, .int .i64 C9.t3, .int .i64 C9.am, .int .i64 C9.po, .slice C9.p C9.n C9.c, .int .i64 C9.x, .int .i64 C9.y, .int .i64 C9.z, .int .i64 C9.tm, .int .i64 C9.mf, .int .i64 C9.lw, .int .i64 C9.b1, .int .i64 C9.b2, .int .i64 C9.b3, .int .i64 C9.b4, .int .i64 C9.b5, .int .i64 C9.b6, .int .i64 C9.lo, .int .i64 C9.hi, .int .i64 C9.ct], .int .i64 now, .slice a len cap] W0 fun e w' => e = .returned (.bool true) ∧ Below W0.heap.size W0 w' := by
  have QAW := hide (fun V => rule_awake V)
  have HB0 := hide (((below3a (w := W0) (.cells #[.slice P.p P.L.length P.c, .int .i64 P.di, .int .i64 P.ev] 24) (.cells #[.int .i64 r.m, .int .i64 r.p, .int .i64 r.f, .int .i64 r.d] 26) (.cells #[.string A.a1, .string A.a2, .string A.a3, .string A.a4, .int .i64 A.t1, .int .i64 A.t2, .int .i64 A.t3, .int .i64 A.am, .int .i64 A.po, .slice A.p A.n A.c, .int .i64 A.x, .int .i64 A.y, .int .i64 A.z, .int .i64 A.tm, .int .i64 A.mf, .int .i64 A.lw, .int .i64 A.b1, .int .i64 A.b2, .int .i64 A.b3, .int .i64 A.b4, .int .i64 A.b5, .int .i64 A.b6, .int .i64 A.lo, .int .i64 A.hi, .int .i64 A.ct] 43)).alloc (by simp; omega) (.cells #[.string C9.a1, .string C9.a2, .string C9.a3, .string C9.a4, .int .i64 C9.t1, .int .i64 C9.t2, .int .i64 C9.t3, .int .i64 C9.am, .int .i64 C9.po, .slice C9.p C9.n C9.c, .int .i64 C9.x, .int .i64 C9.y, .int .i64 C9.z, .int .i64 C9.tm, .int .i64 C9.mf, .int .i64 C9.lw, .int .i64 C9.b1, .int .i64 C9.b2, .int .i64 C9.b3, .int .i64 C9.b4, .int .i64 C9.b5, .int .i64 C9.b6, .int .i64 C9.lo, .int .i64 C9.hi, .int .i64 C9.ct] 43)))
  have G6 := hide (pair_alloc (pair_alloc (pair_alloc (heap_alloc_new W0 (.cells #[.slice P.p P.L.length P.c, .int .i64 P.di, .int .i64 P.ev] 24)) (.cells #[.int .i64 r.m, .int .i64 r.p, .int .i64 r.f, .int .i64 r.d] 26)) (.cells #[.string A.a1, .string A.a2, .string A.a3, .string A.a4, .int .i64 A.t1, .int .i64 A.t2, .int .i64 A.t3, .int .i64 A.am, .int .i64 A.po, .slice A.p A.n A.c, .int .i64 A.x, .int .i64 A.y, .int .i64 A.z, .int .i64 A.tm, .int .i64 A.mf, .int .i64 A.lw, .int .i64 A.b1, .int .i64 A.b2, .int .i64 A.b3, .int .i64 A.b4, .int .i64 A.b5, .int .i64 A.b6, .int .i64 A.lo, .int .i64 A.hi, .int .i64 A.ct] 43)) (.cells #[.string C9.a1, .string C9.a2, .string C9.a3, .string C9.a4, .int .i64 C9.t1, .int .i64 C9.t2, .int .i64 C9.t3, .int .i64 C9.am, .int .i64 C9.po, .slice C9.p C9.n C9.c, .int .i64 C9.x, .int .i64 C9.y, .int .i64 C9.z, .int .i64 C9.tm, .int .i64 C9.mf, .int .i64 C9.lw, .int .i64 C9.b1, .int .i64 C9.b2, .int .i64 C9.b3, .int .i64 C9.b4, .int .i64 C9.b5, .int .i64 C9.b6, .int .i64 C9.lo, .int .i64 C9.hi, .int .i64 C9.ct] 43))
  have G7 := hide (pair_alloc (pair_alloc (new_at (w := W0.alloc (.cells #[.slice P.p P.L.length P.c, .int .i64 P.di, .int .i64 P.ev] 24)) (.cells #[.int .i64 r.m, .int .i64 r.p, .int .i64 r.f, .int .i64 r.d] 26) (g := W0.heap.size + 1) (by simp)) (.cells #[.string A.a1, .string A.a2, .string A.a3, .string A.a4, .int .i64 A.t1, .int .i64 A.t2, .int .i64 A.t3, .int .i64 A.am, .int .i64 A.po, .slice A.p A.n A.c, .int .i64 A.x, .int .i64 A.y, .int .i64 A.z, .int .i64 A.tm, .int .i64 A.mf, .int .i64 A.lw, .int .i64 A.b1, .int .i64 A.b2, .int .i64 A.b3, .int .i64 A.b4, .int .i64 A.b5, .int .i64 A.b6, .int .i64 A.lo, .int .i64 A.hi, .int .i64 A.ct] 43)) (.cells #[.string C9.a1, .string C9.a2, .string C9.a3, .string C9.a4, .int .i64 C9.t1, .int .i64 C9.t2, .int .i64 C9.t3, .int .i64 C9.am, .int .i64 C9.po, .slice C9.p C9.n C9.c, .int .i64 C9.x, .int .i64 C9.y, .int .i64 C9.z, .int .i64 C9.tm, .int .i64 C9.mf, .int .i64 C9.lw, .int .i64 C9.b1, .int .i64 C9.b2, .int .i64 C9.b3, .int .i64 C9.b4, .int .i64 C9.b5, .int .i64 C9.b6, .int .i64 C9.lo, .int .i64 C9.hi, .int .i64 C9.ct] 43))
  have G8 := hide (pair_alloc (new_at (w := (W0.alloc (.cells #[.slice P.p P.L.length P.c, .int .i64 P.di, .int .i64 P.ev] 24)).alloc (.cells #[.int .i64 r.m, .int .i64 r.p, .int .i64 r.f, .int .i64 r.d] 26)) (.cells #[.string A.a1, .string A.a2, .string A.a3, .string A.a4, .int .i64 A.t1, .int .i64 A.t2, .int .i64 A.t3, .int .i64 A.am, .int .i64 A.po, .slice A.p A.n A.c, .int .i64 A.x, .int .i64 A.y, .int .i64 A.z, .int .i64 A.tm, .int .i64 A.mf, .int .i64 A.lw, .int .i64 A.b1, .int .i64 A.b2, .int .i64 A.b3, .int .i64 A.b4, .int .i64 A.b5, .int .i64 A.b6, .int .i64 A.lo, .int .i64 A.hi, .int .i64 A.ct] 43) (g := W0.heap.size + 1 + 1) (by simp)) (.cells #[.string C9.a1, .string C9.a2, .string C9.a3, .string C9.a4, .int .i64 C9.t1, .int .i64 C9.t2, .int .i64 C9.t3, .int .i64 C9.am, .int .i64 C9.po, .slice C9.p C9.n C9.c, .int .i64 C9.x, .int .i64 C9.y, .int .i64 C9.z, .int .i64 C9.tm, .int .i64 C9.mf, .int .i64 C9.lw, .int .i64 C9.b1, .int .i64 C9.b2, .int .i64 C9.b3, .int .i64 C9.b4, .int .i64 C9.b5, .int .i64 C9.b6, .int .i64 C9.lo, .int .i64 C9.hi, .int .i64 C9.ct] 43))
  have G9 := hide (new_at (w := ((W0.alloc (.cells #[.slice P.p P.L.length P.c, .int .i64 P.di, .int .i64 P.ev] 24)).alloc (.cells #[.int .i64 r.m, .int .i64 r.p, .int .i64 r.f, .int .i64 r.d] 26)).alloc (.cells #[.string A.a1, .string A.a2, .string A.a3, .string A.a4, .int .i64 A.t1, .int .i64 A.t2, .int .i64 A.t3, .int .i64 A.am, .int .i64 A.po, .slice A.p A.n A.c, .int .i64 A.x, .int .i64 A.y, .int .i64 A.z, .int .i64 A.tm, .int .i64 A.mf, .int .i64 A.lw, .int .i64 A.b1, .int .i64 A.b2, .int .i64 A.b3, .int .i64 A.b4, .int .i64 A.b5, .int .i64 A.b6, .int .i64 A.lo, .int .i64 A.hi, .int .i64 A.ct] 43)) (.cells #[.string C9.a1, .string C9.a2, .string C9.a3, .string C9.a4, .int .i64 C9.t1, .int .i64 C9.t2, .int .i64 C9.t3, .int .i64 C9.am, .int .i64 C9.po, .slice C9.p C9.n C9.c, .int .i64 C9.x, .int .i64 C9.y, .int .i64 C9.z, .int .i64 C9.tm, .int .i64 C9.mf, .int .i64 C9.lw, .int .i64 C9.b1, .int .i64 C9.b2, .int .i64 C9.b3, .int .i64 C9.b4, .int .i64 C9.b5, .int .i64 C9.b6, .int .i64 C9.lo, .int .i64 C9.hi, .int .i64 C9.ct] 43) (g := W0.heap.size + 1 + 1 + 1) (by simp))
  have HP := hide (hP.keep HB0.out)
  have HR := hide (hr.keep HB0.out)
  clear hP hr
  go_enter Try.func3, Try.ntmps3
  go_upto_region 1 with fail
  generalize (((W0.alloc (.cells #[.slice P.p P.L.length P.c, .int .i64 P.di, .int .i64 P.ev] 24)).alloc (.cells #[.int .i64 r.m, .int .i64 r.p, .int .i64 r.f, .int .i64 r.d] 26)).alloc (.cells #[.string A.a1, .string A.a2, .string A.a3, .string A.a4, .int .i64 A.t1, .int .i64 A.t2, .int .i64 A.t3, .int .i64 A.am, .int .i64 A.po, .slice A.p A.n A.c, .int .i64 A.x, .int .i64 A.y, .int .i64 A.z, .int .i64 A.tm, .int .i64 A.mf, .int .i64 A.lw, .int .i64 A.b1, .int .i64 A.b2, .int .i64 A.b3, .int .i64 A.b4, .int .i64 A.b5, .int .i64 A.b6, .int .i64 A.lo, .int .i64 A.hi, .int .i64 A.ct] 43)).alloc (.cells #[.string C9.a1, .string C9.a2, .string C9.a3, .string C9.a4, .int .i64 C9.t1, .int .i64 C9.t2, .int .i64 C9.t3, .int .i64 C9.am, .int .i64 C9.po, .slice C9.p C9.n C9.c, .int .i64 C9.x, .int .i64 C9.y, .int .i64 C9.z, .int .i64 C9.tm, .int .i64 C9.mf, .int .i64 C9.lw, .int .i64 C9.b1, .int .i64 C9.b2, .int .i64 C9.b3, .int .i64 C9.b4, .int .i64 C9.b5, .int .i64 C9.b6, .int .i64 C9.lo, .int .i64 C9.hi, .int .i64 C9.ct] 43) = V0 at G6 G7 G8 G9 HB0 HP HR ⊢
  obtain ⟨c0, c1, c2, -, -, -⟩ := tri_cells G6.out
  have QSA := hide (fun V => keep_small A V)
  have QSB := hide (fun V => keep_small C9 V)
  have HSA := hide (fun h : smallB A = true => small_tm h)
  have HSB := hide (fun h : smallB C9 = true => small_tm h)
  generalize smallB A = sa at QSA HSA
  generalize smallB C9 = sb at QSB HSB
  by_cases hbig : 20 < P.L.length
  · have d : decide ((20 : Int) < (P.L.length : Int)) = true := decide_eq_true (by omega)
    have d' : decide (20 < P.L.length) = true := decide_eq_true hbig
    clear hbig
    go_wp2_with (first
      | (go_at_call 8; (with_reducible refine (QAW.out _).mono ?_); rintro en v4 ⟨rfl, hb⟩))
    go_ret
    exact ⟨rfl, HB0.out.trans (hb.mono HB0.out.size)⟩
  have d : decide ((20 : Int) < (P.L.length : Int)) = false := decide_eq_false (by omega)
  have d' : decide (20 < P.L.length) = false := decide_eq_false hbig
  cases sa
  · clear hbig
    go_wp2_with (first
      | (refine wpList_load_rowG ?_ 43 (.tmp 8) (by rfl) (W0.heap.size + 1 + 1) (by rfl) 43 #[.string A.a1, .string A.a2, .string A.a3, .string A.a4, .int .i64 A.t1, .int .i64 A.t2, .int .i64 A.t3, .int .i64 A.am, .int .i64 A.po, .slice A.p A.n A.c, .int .i64 A.x, .int .i64 A.y, .int .i64 A.z, .int .i64 A.tm, .int .i64 A.mf, .int .i64 A.lw, .int .i64 A.b1, .int .i64 A.b2, .int .i64 A.b3, .int .i64 A.b4, .int .i64 A.b5, .int .i64 A.b6, .int .i64 A.lo, .int .i64 A.hi, .int .i64 A.ct] (0, 0) _ ?_ Try.underlying43 rfl (by kernel_rfl) ?_; (focus rfl); (focus exact G8.out); simp only [Act.put, List.setIfInBounds_toArray, List.set_cons_succ, List.set_cons_zero])
      | (go_at_call 7; (with_reducible refine (QSA.out _).mono ?_); rintro en v1 ⟨rfl, hb⟩; (have G6 := hide ((hb.block _ (Array.getElem?_eq_some_iff.1 G6.out).1).trans G6.out)); (have G7 := hide ((hb.block _ (Array.getElem?_eq_some_iff.1 G7.out).1).trans G7.out)); (have G8 := hide ((hb.block _ (Array.getElem?_eq_some_iff.1 G8.out).1).trans G8.out)); (have G9 := hide ((hb.block _ (Array.getElem?_eq_some_iff.1 G9.out).1).trans G9.out)); (have HP := hide (HP.out.keep hb)); (have HR := hide (HR.out.keep hb)); (have HB0 := hide (HB0.out.trans (hb.mono HB0.out.size))); (obtain ⟨c0, c1, c2, -, -, -⟩ := tri_cells G6.out); clear hb)
      | (go_at_call 7; (with_reducible refine (QSB.out _).mono ?_); rintro en v2 ⟨rfl, hb⟩; (have G6 := hide ((hb.block _ (Array.getElem?_eq_some_iff.1 G6.out).1).trans G6.out)); (have G7 := hide ((hb.block _ (Array.getElem?_eq_some_iff.1 G7.out).1).trans G7.out)); (have G8 := hide ((hb.block _ (Array.getElem?_eq_some_iff.1 G8.out).1).trans G8.out)); (have G9 := hide ((hb.block _ (Array.getElem?_eq_some_iff.1 G9.out).1).trans G9.out)); (have HP := hide (HP.out.keep hb)); (have HR := hide (HR.out.keep hb)); (have HB0 := hide (HB0.out.trans (hb.mono HB0.out.size))); (obtain ⟨c0, c1, c2, -, -, -⟩ := tri_cells G6.out); clear hb)
      | (go_at_call 8; (with_reducible refine (QAW.out _).mono ?_); rintro en v4 ⟨rfl, hb⟩))
    go_ret
    exact ⟨rfl, HB0.out.trans (hb.mono HB0.out.size)⟩
  cases sb
  · clear hbig
    go_wp2_with (first
      | (refine wpList_load_rowG ?_ 43 (.tmp 8) (by rfl) (W0.heap.size + 1 + 1) (by rfl) 43 #[.string A.a1, .string A.a2, .string A.a3, .string A.a4, .int .i64 A.t1, .int .i64 A.t2, .int .i64 A.t3, .int .i64 A.am, .int .i64 A.po, .slice A.p A.n A.c, .int .i64 A.x, .int .i64 A.y, .int .i64 A.z, .int .i64 A.tm, .int .i64 A.mf, .int .i64 A.lw, .int .i64 A.b1, .int .i64 A.b2, .int .i64 A.b3, .int .i64 A.b4, .int .i64 A.b5, .int .i64 A.b6, .int .i64 A.lo, .int .i64 A.hi, .int .i64 A.ct] (0, 0) _ ?_ Try.underlying43 rfl (by kernel_rfl) ?_; (focus rfl); (focus exact G8.out); simp only [Act.put, List.setIfInBounds_toArray, List.set_cons_succ, List.set_cons_zero])
      | (refine wpList_load_rowG ?_ 43 (.tmp 9) (by rfl) (W0.heap.size + 1 + 1 + 1) (by rfl) 43 #[.string C9.a1, .string C9.a2, .string C9.a3, .string C9.a4, .int .i64 C9.t1, .int .i64 C9.t2, .int .i64 C9.t3, .int .i64 C9.am, .int .i64 C9.po, .slice C9.p C9.n C9.c, .int .i64 C9.x, .int .i64 C9.y, .int .i64 C9.z, .int .i64 C9.tm, .int .i64 C9.mf, .int .i64 C9.lw, .int .i64 C9.b1, .int .i64 C9.b2, .int .i64 C9.b3, .int .i64 C9.b4, .int .i64 C9.b5, .int .i64 C9.b6, .int .i64 C9.lo, .int .i64 C9.hi, .int .i64 C9.ct] (0, 0) _ ?_ Try.underlying43 rfl (by kernel_rfl) ?_; (focus rfl); (focus exact G9.out); simp only [Act.put, List.setIfInBounds_toArray, List.set_cons_succ, List.set_cons_zero])
      | (go_at_call 7; (with_reducible refine (QSA.out _).mono ?_); rintro en v1 ⟨rfl, hb⟩; (have G6 := hide ((hb.block _ (Array.getElem?_eq_some_iff.1 G6.out).1).trans G6.out)); (have G7 := hide ((hb.block _ (Array.getElem?_eq_some_iff.1 G7.out).1).trans G7.out)); (have G8 := hide ((hb.block _ (Array.getElem?_eq_some_iff.1 G8.out).1).trans G8.out)); (have G9 := hide ((hb.block _ (Array.getElem?_eq_some_iff.1 G9.out).1).trans G9.out)); (have HP := hide (HP.out.keep hb)); (have HR := hide (HR.out.keep hb)); (have HB0 := hide (HB0.out.trans (hb.mono HB0.out.size))); (obtain ⟨c0, c1, c2, -, -, -⟩ := tri_cells G6.out); clear hb)
      | (go_at_call 7; (with_reducible refine (QSB.out _).mono ?_); rintro en v2 ⟨rfl, hb⟩; (have G6 := hide ((hb.block _ (Array.getElem?_eq_some_iff.1 G6.out).1).trans G6.out)); (have G7 := hide ((hb.block _ (Array.getElem?_eq_some_iff.1 G7.out).1).trans G7.out)); (have G8 := hide ((hb.block _ (Array.getElem?_eq_some_iff.1 G8.out).1).trans G8.out)); (have G9 := hide ((hb.block _ (Array.getElem?_eq_some_iff.1 G9.out).1).trans G9.out)); (have HP := hide (HP.out.keep hb)); (have HR := hide (HR.out.keep hb)); (have HB0 := hide (HB0.out.trans (hb.mono HB0.out.size))); (obtain ⟨c0, c1, c2, -, -, -⟩ := tri_cells G6.out); clear hb)
      | (go_at_call 8; (with_reducible refine (QAW.out _).mono ?_); rintro en v4 ⟨rfl, hb⟩))
    go_ret
    exact ⟨rfl, HB0.out.trans (hb.mono HB0.out.size)⟩
  go_upto_region 3 with (first
      | (refine wpList_load_rowG ?_ 43 (.tmp 8) (by rfl) (W0.heap.size + 1 + 1) (by rfl) 43 #[.string A.a1, .string A.a2, .string A.a3, .string A.a4, .int .i64 A.t1, .int .i64 A.t2, .int .i64 A.t3, .int .i64 A.am, .int .i64 A.po, .slice A.p A.n A.c, .int .i64 A.x, .int .i64 A.y, .int .i64 A.z, .int .i64 A.tm, .int .i64 A.mf, .int .i64 A.lw, .int .i64 A.b1, .int .i64 A.b2, .int .i64 A.b3, .int .i64 A.b4, .int .i64 A.b5, .int .i64 A.b6, .int .i64 A.lo, .int .i64 A.hi, .int .i64 A.ct] (0, 0) _ ?_ Try.underlying43 rfl (by kernel_rfl) ?_; (focus rfl); (focus exact G8.out); simp only [Act.put, List.setIfInBounds_toArray, List.set_cons_succ, List.set_cons_zero])
      | (refine wpList_load_rowG ?_ 43 (.tmp 9) (by rfl) (W0.heap.size + 1 + 1 + 1) (by rfl) 43 #[.string C9.a1, .string C9.a2, .string C9.a3, .string C9.a4, .int .i64 C9.t1, .int .i64 C9.t2, .int .i64 C9.t3, .int .i64 C9.am, .int .i64 C9.po, .slice C9.p C9.n C9.c, .int .i64 C9.x, .int .i64 C9.y, .int .i64 C9.z, .int .i64 C9.tm, .int .i64 C9.mf, .int .i64 C9.lw, .int .i64 C9.b1, .int .i64 C9.b2, .int .i64 C9.b3, .int .i64 C9.b4, .int .i64 C9.b5, .int .i64 C9.b6, .int .i64 C9.lo, .int .i64 C9.hi, .int .i64 C9.ct] (0, 0) _ ?_ Try.underlying43 rfl (by kernel_rfl) ?_; (focus rfl); (focus exact G9.out); simp only [Act.put, List.setIfInBounds_toArray, List.set_cons_succ, List.set_cons_zero])
      | (go_at_call 7; (with_reducible refine (QSA.out _).mono ?_); rintro en v1 ⟨rfl, hb⟩; (have G6 := hide ((hb.block _ (Array.getElem?_eq_some_iff.1 G6.out).1).trans G6.out)); (have G7 := hide ((hb.block _ (Array.getElem?_eq_some_iff.1 G7.out).1).trans G7.out)); (have G8 := hide ((hb.block _ (Array.getElem?_eq_some_iff.1 G8.out).1).trans G8.out)); (have G9 := hide ((hb.block _ (Array.getElem?_eq_some_iff.1 G9.out).1).trans G9.out)); (have HP := hide (HP.out.keep hb)); (have HR := hide (HR.out.keep hb)); (have HB0 := hide (HB0.out.trans (hb.mono HB0.out.size))); (obtain ⟨c0, c1, c2, -, -, -⟩ := tri_cells G6.out); clear hb)
      | (go_at_call 7; (with_reducible refine (QSB.out _).mono ?_); rintro en v2 ⟨rfl, hb⟩; (have G6 := hide ((hb.block _ (Array.getElem?_eq_some_iff.1 G6.out).1).trans G6.out)); (have G7 := hide ((hb.block _ (Array.getElem?_eq_some_iff.1 G7.out).1).trans G7.out)); (have G8 := hide ((hb.block _ (Array.getElem?_eq_some_iff.1 G8.out).1).trans G8.out)); (have G9 := hide ((hb.block _ (Array.getElem?_eq_some_iff.1 G9.out).1).trans G9.out)); (have HP := hide (HP.out.keep hb)); (have HR := hide (HR.out.keep hb)); (have HB0 := hide (HB0.out.trans (hb.mono HB0.out.size))); (obtain ⟨c0, c1, c2, -, -, -⟩ := tri_cells G6.out); clear hb))
  have htA := HSA.out trivial
  have htB := HSB.out trivial
  clear QSA QSB HSA HSB c0 c1 c2 d d'
  generalize v2 = W at G6 G7 G8 G9 HP HR HB0 ⊢
  have hg9 : W0.heap.size + 1 + 1 + 1 < W.heap.size := (Array.getElem?_eq_some_iff.1 G9.out).1
  obtain ⟨m, hm, QN⟩ := keep_new a len cap hcap W HR.out
  have QN := hide QN
  clear hcap HR

  go_upto_region 4 with (go_at_call 9; (with_reducible refine (QN.out).mono ?_); rintro en w1 ⟨rfl, hd⟩; (have HD := hide hd); (have hg1 := hd.lt); clear hd)
  go_cut [4, 6, 7, 8, 9, 12, 13, 14, 15, 16] from 0 to 48 (fun s4 s6 s7 s8 s9 s12 s13 s14 s15 s16 wx => s4 = .int .i64 now ∧ s6 = .pointer (some ⟨W0.heap.size, 0, none⟩) ∧ s7 = .pointer (some ⟨W0.heap.size + 1, 0, none⟩) ∧ s8 = .pointer (some ⟨W0.heap.size + 1 + 1, 0, none⟩) ∧ s9 = .pointer (some ⟨W0.heap.size + 1 + 1 + 1, 0, none⟩) ∧ s12 = .bool false ∧ s13 = .pointer (some ⟨W.heap.size, 0, none⟩) ∧ ∃ (RL : List Rl) (di ev : Int) (bb off c : Nat) (x y : Ev) (q1 : Nat), s14 = .pointer (some ⟨q1, 0, none⟩) ∧ s15 = .pointer (some ⟨q1 + 1, 0, none⟩) ∧ s16 = .pointer (some ⟨q1 + 1 + 1, 0, none⟩) ∧ (1 ≤ RL.length ∧ RL.length ≤ 3) ∧ W.heap.size < q1 ∧ Hid (wx.heap[q1]? = some (.cells #[.slice (some ⟨bb, off, none⟩) RL.length c, .int .i64 di, .int .i64 ev] 24 (0, 0))) ∧ Hid (wx.heap[q1 + 1]? = some (.cells #[.string x.a1, .string x.a2, .string x.a3, .string x.a4, .int .i64 x.t1, .int .i64 x.t2, .int .i64 x.t3, .int .i64 x.am, .int .i64 x.po, .slice x.p x.n x.c, .int .i64 x.x, .int .i64 x.y, .int .i64 x.z, .int .i64 x.tm, .int .i64 x.mf, .int .i64 x.lw, .int .i64 x.b1, .int .i64 x.b2, .int .i64 x.b3, .int .i64 x.b4, .int .i64 x.b5, .int .i64 x.b6, .int .i64 x.lo, .int .i64 x.hi, .int .i64 x.ct] 43 (0, 0))) ∧ Hid (wx.heap[q1 + 1 + 1]? = some (.cells #[.string y.a1, .string y.a2, .string y.a3, .string y.a4, .int .i64 y.t1, .int .i64 y.t2, .int .i64 y.t3, .int .i64 y.am, .int .i64 y.po, .slice y.p y.n y.c, .int .i64 y.x, .int .i64 y.y, .int .i64 y.z, .int .i64 y.tm, .int .i64 y.mf, .int .i64 y.lw, .int .i64 y.b1, .int .i64 y.b2, .int .i64 y.b3, .int .i64 y.b4, .int .i64 y.b5, .int .i64 y.b6, .int .i64 y.lo, .int .i64 y.hi, .int .i64 y.ct] 43 (0, 0))) ∧ Hid (RlRow wx (some ⟨bb, off, none⟩) RL.length RL) ∧ Hid (Src W a m cap W.heap.size wx) ∧ (-1152921504606846976 ≤ x.tm ∧ x.tm ≤ 1152921504606846976) ∧ (-1152921504606846976 ≤ y.tm ∧ y.tm ≤ 1152921504606846976))
  case first => as_aux_lemma =>
    go_wp2_with (first
      | (go_at_call 10; (with_reducible refine (keep_policy _ HD.out).mono ?_); rintro en w2 ⟨⟨RL, di, ev, p, c, rfl, hL1, hL3, hOK, ⟨di0, di1⟩, ⟨ev0, ev1⟩, hrow, hc1, hc2, hpb⟩, hd, hr1⟩; (have HD := hide hd); (have HOK := hide hOK); (have HROW := hide hrow); (have HPB := hide (fun b off (hp : p = some ⟨b, off, none⟩) => (show b ≠ W.heap.size from (by have := hpb b off hp; omega)))); (have hg2 := hd.lt); clear hd hr1 hOK hrow hpb)
      | (go_at_call 11; (with_reducible refine (keep_event 1 ⟨by omega, by omega⟩ _ HD.out).mono ?_); rintro en w3 ⟨⟨x, Ax, rfl, hA1x, hA4x, hfrx, hokx, hownx⟩, hd, hr1⟩; (have HROW := hide (HROW.out.heap fun b off hp hl => .inr (hr1.block b hl (HPB.out b off hp)))); (have HD := hide hd); (have HOWx := hide hownx); (have HFRx := hide hfrx); (have HOKx := hide hokx); clear hd hr1 hfrx hokx hownx)
      | (go_at_call 11; (with_reducible refine (keep_event 2 ⟨by omega, by omega⟩ _ HD.out).mono ?_); rintro en w4 ⟨⟨y, Ay, rfl, hA1y, hA4y, hfry, hoky, howny⟩, hd, hr1⟩; (have HROW := hide (HROW.out.heap fun b off hp hl => .inr (hr1.block b hl (HPB.out b off hp)))); (have HD := hide hd); (have HOWx := hide (owns_heap HOWx.out fun k h1 h2 => hr1.block k h2 (by omega))); (have HOWy := hide howny); (have HFRy := hide hfry); (have HOKy := hide hoky); clear hd hr1 hfry hoky howny; (have GX0 := hide (pair_alloc (new_at (w := w4.alloc (.cells #[.slice p RL.length c, .int .i64 di, .int .i64 ev] 24)) (.cells #[.string ⟨#[]⟩, .string ⟨#[]⟩, .string ⟨#[]⟩, .string ⟨#[]⟩, .int .i64 0, .int .i64 0, .int .i64 0, .int .i64 0, .int .i64 0, .slice none 0 0, .int .i64 0, .int .i64 0, .int .i64 0, .int .i64 0, .int .i64 0, .int .i64 0, .int .i64 0, .int .i64 0, .int .i64 0, .int .i64 0, .int .i64 0, .int .i64 0, .int .i64 0, .int .i64 0, .int .i64 0] 43) (g := w4.heap.size + 1) (by simp)) (.cells #[.string ⟨#[]⟩, .string ⟨#[]⟩, .string ⟨#[]⟩, .string ⟨#[]⟩, .int .i64 0, .int .i64 0, .int .i64 0, .int .i64 0, .int .i64 0, .slice none 0 0, .int .i64 0, .int .i64 0, .int .i64 0, .int .i64 0, .int .i64 0, .int .i64 0, .int .i64 0, .int .i64 0, .int .i64 0, .int .i64 0, .int .i64 0, .int .i64 0, .int .i64 0, .int .i64 0, .int .i64 0] 43))); (have GY0 := hide ((sets_other (show w4.heap.size + 1 + 1 ≠ w4.heap.size + 1 by omega) [.string x.a1, .string x.a2, .string x.a3, .string x.a4, .int .i64 x.t1, .int .i64 x.t2, .int .i64 x.t3, .int .i64 x.am, .int .i64 x.po, .slice x.p x.n x.c, .int .i64 x.x, .int .i64 x.y, .int .i64 x.z, .int .i64 x.tm, .int .i64 x.mf, .int .i64 x.lw, .int .i64 x.b1, .int .i64 x.b2, .int .i64 x.b3, .int .i64 x.b4, .int .i64 x.b5, .int .i64 x.b6, .int .i64 x.lo, .int .i64 x.hi, .int .i64 x.ct] _ 0).trans (new_at (w := (w4.alloc (.cells #[.slice p RL.length c, .int .i64 di, .int .i64 ev] 24)).alloc (.cells #[.string ⟨#[]⟩, .string ⟨#[]⟩, .string ⟨#[]⟩, .string ⟨#[]⟩, .int .i64 0, .int .i64 0, .int .i64 0, .int .i64 0, .int .i64 0, .slice none 0 0, .int .i64 0, .int .i64 0, .int .i64 0, .int .i64 0, .int .i64 0, .int .i64 0, .int .i64 0, .int .i64 0, .int .i64 0, .int .i64 0, .int .i64 0, .int .i64 0, .int .i64 0, .int .i64 0, .int .i64 0] 43)) (.cells #[.string ⟨#[]⟩, .string ⟨#[]⟩, .string ⟨#[]⟩, .string ⟨#[]⟩, .int .i64 0, .int .i64 0, .int .i64 0, .int .i64 0, .int .i64 0, .slice none 0 0, .int .i64 0, .int .i64 0, .int .i64 0, .int .i64 0, .int .i64 0, .int .i64 0, .int .i64 0, .int .i64 0, .int .i64 0, .int .i64 0, .int .i64 0, .int .i64 0, .int .i64 0, .int .i64 0, .int .i64 0] 43) (g := w4.heap.size + 1 + 1) (by simp)))))
      | (refine wpList_store_mid (by rfl) 43 (.tmp 15) (.tmp 45) (by rfl) (w4.heap.size + 1) 0 #[.string x.a1, .string x.a2, .string x.a3, .string x.a4, .int .i64 x.t1, .int .i64 x.t2, .int .i64 x.t3, .int .i64 x.am, .int .i64 x.po, .slice x.p x.n x.c, .int .i64 x.x, .int .i64 x.y, .int .i64 x.z, .int .i64 x.tm, .int .i64 x.mf, .int .i64 x.lw, .int .i64 x.b1, .int .i64 x.b2, .int .i64 x.b3, .int .i64 x.b4, .int .i64 x.b5, .int .i64 x.b6, .int .i64 x.lo, .int .i64 x.hi, .int .i64 x.ct] (by rfl) (by rfl) ?_ (by kernel_rfl) (by simp [Value.oneCell']) ?_; (focus exact there_row GX0.out 0 25 (by simp)))
      | (refine wpList_store_mid (by rfl) 43 (.tmp 16) (.tmp 47) (by rfl) (w4.heap.size + 1 + 1) 0 #[.string y.a1, .string y.a2, .string y.a3, .string y.a4, .int .i64 y.t1, .int .i64 y.t2, .int .i64 y.t3, .int .i64 y.am, .int .i64 y.po, .slice y.p y.n y.c, .int .i64 y.x, .int .i64 y.y, .int .i64 y.z, .int .i64 y.tm, .int .i64 y.mf, .int .i64 y.lw, .int .i64 y.b1, .int .i64 y.b2, .int .i64 y.b3, .int .i64 y.b4, .int .i64 y.b5, .int .i64 y.b6, .int .i64 y.lo, .int .i64 y.hi, .int .i64 y.ct] (by rfl) (by rfl) ?_ (by kernel_rfl) (by simp [Value.oneCell']) ?_; (focus exact there_row GY0.out 0 25 (by simp))))
    simp only [Act.put]
    obtain ⟨hv, gp, gx, gy⟩ := ev_two w4 (.cells #[.slice p RL.length c, .int .i64 di, .int .i64 ev] 24) x y
    have HV := hide hv
    have GP := hide gp
    have GX := hide gx
    have GY := hide gy
    clear hv gp gx gy
    have HROW := hide (HROW.out.keep HV.out)
    have hq1 : W.heap.size < w4.heap.size := HD.out.lt
    have HD := hide (HD.out.keep HV.out)
    clear HV HPB HOWx HOWy GX0 GY0
    generalize ((((w4.alloc (.cells #[.slice p RL.length c, .int .i64 di, .int .i64 ev] 24)).alloc (.cells #[.string ⟨#[]⟩, .string ⟨#[]⟩, .string ⟨#[]⟩, .string ⟨#[]⟩, .int .i64 0, .int .i64 0, .int .i64 0, .int .i64 0, .int .i64 0, .slice none 0 0, .int .i64 0, .int .i64 0, .int .i64 0, .int .i64 0, .int .i64 0, .int .i64 0, .int .i64 0, .int .i64 0, .int .i64 0, .int .i64 0, .int .i64 0, .int .i64 0, .int .i64 0, .int .i64 0, .int .i64 0] 43)).alloc (.cells #[.string ⟨#[]⟩, .string ⟨#[]⟩, .string ⟨#[]⟩, .string ⟨#[]⟩, .int .i64 0, .int .i64 0, .int .i64 0, .int .i64 0, .int .i64 0, .slice none 0 0, .int .i64 0, .int .i64 0, .int .i64 0, .int .i64 0, .int .i64 0, .int .i64 0, .int .i64 0, .int .i64 0, .int .i64 0, .int .i64 0, .int .i64 0, .int .i64 0, .int .i64 0, .int .i64 0, .int .i64 0] 43)).setCells (w4.heap.size + 1) 0 [.string x.a1, .string x.a2, .string x.a3, .string x.a4, .int .i64 x.t1, .int .i64 x.t2, .int .i64 x.t3, .int .i64 x.am, .int .i64 x.po, .slice x.p x.n x.c, .int .i64 x.x, .int .i64 x.y, .int .i64 x.z, .int .i64 x.tm, .int .i64 x.mf, .int .i64 x.lw, .int .i64 x.b1, .int .i64 x.b2, .int .i64 x.b3, .int .i64 x.b4, .int .i64 x.b5, .int .i64 x.b6, .int .i64 x.lo, .int .i64 x.hi, .int .i64 x.ct]).setCells (w4.heap.size + 1 + 1) 0 [.string y.a1, .string y.a2, .string y.a3, .string y.a4, .int .i64 y.t1, .int .i64 y.t2, .int .i64 y.t3, .int .i64 y.am, .int .i64 y.po, .slice y.p y.n y.c, .int .i64 y.x, .int .i64 y.y, .int .i64 y.z, .int .i64 y.tm, .int .i64 y.mf, .int .i64 y.lw, .int .i64 y.b1, .int .i64 y.b2, .int .i64 y.b3, .int .i64 y.b4, .int .i64 y.b5, .int .i64 y.b6, .int .i64 y.lo, .int .i64 y.hi, .int .i64 y.ct] = V at GP GX GY HROW HD ⊢
    generalize w4.heap.size = q1 at GP GX GY hq1 ⊢
    have htx : -1152921504606846976 ≤ x.tm ∧ x.tm ≤ 1152921504606846976 := by have := HOKx.out.tm; omega
    have hty : -1152921504606846976 ≤ y.tm ∧ y.tm ≤ 1152921504606846976 := by have := HOKy.out.tm; omega
    go_meet
    obtain ⟨-, h9 | ⟨bb, off, hp, hc'⟩⟩ := HROW.out
    · omega
    rw [hp] at GP HROW
    exact ⟨rfl, rfl, rfl, rfl, rfl, rfl, rfl, RL, di, ev, bb, off, c, x, y, q1, rfl, rfl, rfl, ⟨hL1, hL3⟩, hq1, GP, GX, GY, HROW, HD, htx, hty⟩
  case rest => as_aux_lemma =>
    obtain ⟨rfl, rfl, rfl, rfl, rfl, rfl, rfl, RL, di, ev, bb, off, c, x, y, q1, rfl, rfl, rfl, ⟨hL1, hL3⟩, hq1, GP, GX, GY, HROW, HD, htx, hty⟩ := hcut
    generalize wc = V at GP GX GY HROW HD ⊢
    have hqV : q1 + 1 + 1 < V.heap.size := (Array.getElem?_eq_some_iff.1 GY.out).1
    have HLO := hide HD.out.low
    have G6 := hide ((HLO.out.block _ (by omega)).trans G6.out)
    have G7 := hide ((HLO.out.block _ (by omega)).trans G7.out)
    have G8 := hide ((HLO.out.block _ (by omega)).trans G8.out)
    have G9 := hide ((HLO.out.block _ (by omega)).trans G9.out)
    have HP := hide (HP.out.keep HLO.out)
    clear HLO

    have hbg : bb ≠ W.heap.size := by
      rcases src_row HD.out HROW.out bb off rfl with h | h
      · omega
      · exact h
    obtain ⟨g, hgg⟩ : ∃ g, W.heap.size = g := ⟨_, rfl⟩
    rw [hgg] at HD hg9 hq1 hbg ⊢
    have HSV := hide (St.start HD.out)
    have hgV := HD.out.lt
    go_upto_region 5 with fail
    go_cut [53, 54, 55] from 25 to 56 (fun s53 s54 s55 wx => s54 = .int .i64 3 ∧ s55 = .int .i64 0 ∧ ∃ (po : Po) (B : Nat) (cells : Array Value), s53 = .slice (some ⟨B, 0, none⟩) 3 3 ∧ V.heap.size ≤ B ∧ Hid (wx.heap[B]? = some (.cells cells 24 (0, 0))) ∧ Hid (Parts 3 [.agg #[.slice P.p P.L.length P.c, .int .i64 P.di, .int .i64 P.ev], .agg #[.slice (some ⟨bb, off, none⟩) RL.length c, .int .i64 di, .int .i64 ev], .agg #[.slice po.p po.L.length po.c, .int .i64 po.di, .int .i64 po.ev]] cells) ∧ Hid (RlRow wx po.p po.L.length po.L) ∧ po.L.length ≤ 3 ∧ Hid (St W a m cap g V wx))
    case first => as_aux_lemma =>
      refine wp_region_inv2 (fun L a' w' => ∃ u : Nat → Value, a' = { tmps := #[u0, u1, u2, u3, .int .i64 now, u5, .pointer (some ⟨W0.heap.size, 0, none⟩), .pointer (some ⟨W0.heap.size + 1, 0, none⟩), .pointer (some ⟨W0.heap.size + 1 + 1, 0, none⟩), .pointer (some ⟨W0.heap.size + 1 + 1 + 1, 0, none⟩), u10, u11, .bool false, .pointer (some ⟨g, 0, none⟩), .pointer (some ⟨q1, 0, none⟩), .pointer (some ⟨q1 + 1, 0, none⟩), .pointer (some ⟨q1 + 1 + 1, 0, none⟩), u17, u18, u19, u20, u21, u22, u23, u24, u25, u26, u27, u28, u29, u30, u31, u32, u33, u34, u35, u36, u37, u38, u39, u40, u41, u42, u43, u44, u45, u46, u47, u 48, u 49, u 50, u 51, u 52, u 53, u 54, u 55, undef, undef, undef, undef, undef, undef, undef, undef, undef, undef, undef, undef, undef, undef, undef, undef, undef, undef, undef, undef, undef, undef, undef, undef, undef, undef, undef, undef, undef, undef, undef, undef, undef, undef, undef, undef, undef, undef, undef, undef, undef, undef, undef, undef, undef, undef, undef, undef, undef, undef, undef, undef, undef, undef, undef, undef, undef, undef, undef, undef, undef, undef, undef, undef, undef, undef, undef, undef, undef, undef, undef, undef, undef, undef, undef, undef, undef, undef, undef, undef, undef, undef, undef, undef, undef, undef, undef, undef, undef, undef, undef, undef, undef, undef, undef], defers := [] } ∧ PolA W a m cap g V W0 q1 P RL di ev bb off c L u w') (by kernel_rfl) (by kernel_rfl) ?h0 ?hs ?hd
      case h0 =>
        exact ⟨fun s => if s = 48 then u48 else undef, rfl, { st := HSV.out.drew, h6 := G6.out, hq := GP.out, row := HROW.out.keep (Below.refl _ _).drew, f0 := fun e => Bool.noConfusion e, f1 := fun e => Bool.noConfusion e, f2 := fun e => Bool.noConfusion e, f3 := fun e => Bool.noConfusion e, f4 := fun e => Bool.noConfusion e, f5 := fun e => Bool.noConfusion e, f6 := fun e => Bool.noConfusion e, f7 := fun e => Bool.noConfusion e }⟩
      case hs =>
        refine (Steps2.cons ?_ (Steps2.cons ?_ (Steps2.cons ?_ (Steps2.cons ?_ (Steps2.cons ?_ (Steps2.cons ?_ (Steps2.cons ?_ (Steps2.cons ?_ Steps2.nil))))))))
        · intro L a' x hL hcl hc hI K' hK
          obtain ⟨u, rfl, hC⟩ := hI
          have HK := hide hK
          have HC := hide hC
          clear hK hC hc
          obtain ⟨m0, m1, m2, -⟩ := tri_cells HC.out.h6
          go_simp
          exact HK.out _ _ ⟨fun s => if s = 48 then .agg #[.slice P.p P.L.length P.c, .int .i64 P.di, .int .i64 P.ev] else u s, rfl, { HC.out with f0 := fun _ => rfl }⟩
        · intro L a' x hL hcl hc hI K' hK
          obtain ⟨u, rfl, hC⟩ := hI
          have HK := hide hK
          have HC := hide hC
          clear hK hC hc
          obtain ⟨m0, m1, m2, -⟩ := tri_cells HC.out.hq
          go_simp
          exact HK.out _ _ ⟨fun s => if s = 49 then .agg #[.slice (some ⟨bb, off, none⟩) RL.length c, .int .i64 di, .int .i64 ev] else u s, rfl, { HC.out with f1 := fun _ => rfl }⟩
        · intro L a' x hL hcl hc hI K' hK
          obtain ⟨u, rfl, hC⟩ := hI
          have HK := hide hK
          have HC := hide hC
          clear hK hC hc
          go_simp
          exact HK.out _ _ ⟨fun s => if s = 50 then (.pointer (some ⟨g, 0, none⟩)) else u s, rfl, { HC.out with f2 := fun _ => rfl }⟩
        · intro L a' x hL hcl hc hI K' hK
          obtain ⟨u, rfl, hC⟩ := hI
          have HK := hide hK
          have HC := hide hC
          clear hK hC hc
          obtain ⟨m0, m1, m2, -⟩ := tri_cells HC.out.hq
          go_simp
          exact HK.out _ _ ⟨fun s => if s = 51 then .agg #[.slice (some ⟨bb, off, none⟩) RL.length c, .int .i64 di, .int .i64 ev] else u s, rfl, { HC.out with f3 := fun _ => rfl }⟩
        · intro L a' x hL hcl hc hI K' hK
          obtain ⟨u, rfl, hC⟩ := hI
          have d2 : L 2 = true := hc ⟨2, .data⟩ (by simp) rfl
          have d3 : L 3 = true := hc ⟨3, .data⟩ (by simp) rfl
          have HK := hide hK
          have HC := hide hC
          clear hK hC hc
          have e50 := HC.out.f2 d2
          have e51 := HC.out.f3 d3
          go_simp
          go_at_call 12
          refine (keep_bent (W := W) (a := a) (len := m) (cap := cap) (g := g) RL di ev bb off c ⟨hL1, hL3⟩ x HC.out.st.src HC.out.row hbg).mono ?_
          rintro e y ⟨⟨L', di', ev', p', c', rfl, hrow', hL', hfar⟩, hd1, hr1⟩
          exact HK.out _ _ ⟨fun s => if s = 52 then .agg #[.slice p' L'.length c', .int .i64 di', .int .i64 ev'] else u s, by simp [e50, e51], { (HC.out.rolls hgV (by omega) (by omega) hd1 hr1) with f4 := fun _ => ⟨⟨p', c', L', di', ev'⟩, rfl, hrow', hL'⟩ }⟩
        · intro L a' x hL hcl hc hI K' hK
          obtain ⟨u, rfl, hC⟩ := hI
          have d0 : L 0 = true := hc ⟨0, .data⟩ (by simp) rfl
          have d1 : L 1 = true := hc ⟨1, .data⟩ (by simp) rfl
          have d4 : L 4 = true := hc ⟨4, .data⟩ (by simp) rfl
          have HK := hide hK
          have HC := hide hC
          clear hK hC hc
          have e48 := HC.out.f0 d0
          have e49 := HC.out.f1 d1
          obtain ⟨po, e52, hrow, hpl⟩ := HC.out.f4 d4
          have HRW := hide hrow
          clear hrow
          refine wp_buildRows 52 24 3 _ rfl 3 [.agg #[.slice P.p P.L.length P.c, .int .i64 P.di, .int .i64 P.ev], .agg #[.slice (some ⟨bb, off, none⟩) RL.length c, .int .i64 di, .int .i64 ev], .agg #[.slice po.p po.L.length po.c, .int .i64 po.di, .int .i64 po.ev]] Try.underlying52 (by kernel_rfl) (by kernel_rfl) rfl (by decide) (by simp [Value.cells]) (by simp [Act.eval, e48, e49, e52, List.zipIdx]) ?_
          intro cells hcells
          exact HK.out _ _ ⟨fun s => if s = 53 then .slice (some ⟨x.heap.size, 0, none⟩) 3 3 else u s, by simp [Act.put], { (HC.out.rolls hgV (by omega) (by omega) (HC.out.st.src.alloc _) (Rolls.of_below (below1 _))) with f5 := fun _ => ⟨po, x.heap.size, cells, rfl, HC.out.st.roll.size, heap_alloc_new _ _, hcells, HRW.out.keep (below1 _), hpl⟩ }⟩
        · intro L a' x hL hcl hc hI K' hK
          obtain ⟨u, rfl, hC⟩ := hI
          have d5 : L 5 = true := hc ⟨5, .data⟩ (by simp) rfl
          have HK := hide hK
          have HC := hide hC
          clear hK hC hc
          obtain ⟨po, B, cells, e53, h1, h2, h3, h4, h5⟩ := HC.out.f5 d5
          clear h2 h3 h4 h5
          go_simp
          exact HK.out _ _ ⟨fun s => if s = 54 then .int .i64 3 else u s, by simp [e53], { HC.out with f6 := fun _ => rfl }⟩
        · intro L a' x hL hcl hc hI K' hK
          obtain ⟨u, rfl, hC⟩ := hI
          have HK := hide hK
          have HC := hide hC
          clear hK hC hc
          go_simp
          exact HK.out _ _ ⟨fun s => if s = 55 then .int .i64 0 else u s, rfl, { HC.out with f7 := fun _ => rfl }⟩
      case hd =>
        rintro L a' x hall ⟨u, rfl, hC⟩
        obtain ⟨po, B, cells, e53, hB, hcB, hparts, hrow, hpl⟩ := hC.f5 (hall 5 (by decide))
        have e54 := hC.f6 (hall 6 (by decide))
        have e55 := hC.f7 (hall 7 (by decide))
        have HS5 := hide hC.st
        have HCB := hide hcB
        have HPT := hide hparts
        have HRP := hide hrow
        clear hC hall hcB hparts hrow
        rw [e53, e54, e55]
        go_wp2_with fail
        go_meet
        exact ⟨rfl, rfl, po, B, cells, rfl, hB, HCB, HPT, HRP, hpl, HS5⟩
    case rest =>
      obtain ⟨rfl, rfl, po, B, cells, rfl, hB, HCB, HPT, HRP, hpl, HS5⟩ := hcut
      have G6 := hide (HS5.out.blk G6.out (by omega))
      have G7 := hide (HS5.out.blk G7.out (by omega))
      have G8 := hide (HS5.out.blk G8.out (by omega))
      have G9 := hide (HS5.out.blk G9.out (by omega))
      have GP := hide (HS5.out.blk GP.out (by omega))
      have GX := hide (HS5.out.blk GX.out (by omega))
      have GY := hide (HS5.out.blk GY.out (by omega))
      have HP := hide (HS5.out.row HSV.out.src HP.out)
      have HROW := hide (HS5.out.row HSV.out.src HROW.out)
      have HBW := hide HB0.out
      have hgB : g < B := by omega
      have HD5 := hide HS5.out.src
      clear HSV HS5 HD HB0 hB
      generalize wc = V5 at G6 G7 G8 G9 GP GX GY HP HROW HRP HCB HD5 ⊢
      have POL := hide (fun (k : Nat) (hk : k < 3) => (show ∃ q : Po, V5.rangeAt B (k * 3) [.slice q.p q.L.length q.c, .int .i64 q.di, .int .i64 q.ev] ∧ RlRow V5 q.p q.L.length q.L ∧ q.L.length ≤ 1000 from by
        match k, hk with
        | 0, _ => exact ⟨P, HPT.out.range HCB.out (i := 0) rfl, HP.out, by omega⟩
        | 1, _ => exact ⟨⟨some ⟨bb, off, none⟩, c, RL, di, ev⟩, HPT.out.range HCB.out (i := 1) rfl, HROW.out, by show RL.length ≤ 1000; omega⟩
        | 2, _ => exact ⟨po, HPT.out.range HCB.out (i := 2) rfl, HRP.out, by omega⟩))
      clear HPT HCB HP HRP G6 hpl
      go_wp2_with fail
      go_loopw [55] (fun i wr => ∃ k : Nat, k ≤ 3 ∧ i = .int .i64 k ∧ Hid (St W a m cap g V5 wr)) (fun i _ => 3 - (intOf i).toNat)
      case atStart => exact ⟨0, by omega, rfl, hide (St.start HD5.out)⟩
      case round => as_aux_lemma =>
        obtain ⟨k, hk, rfl, HS⟩ := hrel
        by_cases hlt : k < 3
        · have d : decide ((k : Int) < 3) = true := decide_eq_true (by omega)
          have d' : decide (k < 3) = true := decide_eq_true (by omega)
          have hkI : (k : Int) < 3 := by omega
          obtain ⟨q, hrg, hrq, hq3⟩ := POL.out k hlt
          have HRG := hide (HS.out.range hrg (by omega))
          have HRQ := hide (HS.out.row HD5.out hrq)
          clear hrg hrq
          go_upto_region 8 with (first
            | (refine wpList_load_mid (by rfl) 24 (.tmp 57) (by rfl) B (k * 3) (by rfl) [.slice q.p q.L.length q.c, .int .i64 q.di, .int .i64 q.ev] _ ?_ Try.underlying24 rfl (by kernel_rfl) ?_; (focus exact HRG.out)))
          have h18 : g < wr.heap.size := by have := HD5.out.lt; have := HS.out.roll.size; omega
          have G18 := hide (heap_alloc_new wr (.cells #[.slice q.p q.L.length q.c, .int .i64 q.di, .int .i64 q.ev] 24))
          have HS := hide (HS.out.alloc (.cells #[.slice q.p q.L.length q.c, .int .i64 q.di, .int .i64 q.ev] 24))
          have HRQ := hide (HRQ.out.keep (below1 (.cells #[.slice q.p q.L.length q.c, .int .i64 q.di, .int .i64 q.ev] 24)))
          clear HRG
          generalize wr.alloc (.cells #[.slice q.p q.L.length q.c, .int .i64 q.di, .int .i64 q.ev] 24) = V8 at G18 HS HRQ ⊢
          generalize wr.heap.size = q18 at G18 h18 ⊢
          obtain ⟨x0, x1, x2, -⟩ := tri_cells G18.out
          have m0 := fun p : More => cell_more x0 p
          have m1 := fun p : More => cell_more x1 p
          have m2 := fun p : More => cell_more x2 p
          have QV1 := hide (fun p : More => rule_validate q.L q.di q.ev q.p q.L.length q.c (more V8 p) (HRQ.out.keep (below_more V8 p)))
          have QV2 := hide (fun p : More => rr_validate q.L q.di q.ev q.p q.L.length q.c (by omega) (more V8 p) (HRQ.out.keep (below_more V8 p)))
          generalize vE q.L q.di q.ev = ve at QV1 QV2
          clear x0 x1 x2 d d'
          refine wp_region_grown (by kernel_rfl) (by kernel_rfl) ?_
          repeat (go_big_quiet_step ((first | (go_at_call 13; with_reducible exact more_of (QV1.out _)) | (go_at_call 14; with_reducible exact more_of (QV2.out _)))))
          refine wpQuiet_nil ?_
          intro w9 hb9
          have HS := hide (HS.out.below hb9)
          have HRQ := hide (HRQ.out.keep hb9)
          have G18 := hide ((hb9.block _ (Array.getElem?_eq_some_iff.1 G18.out).1).trans G18.out)
          have GA := hide (HS.out.blk G8.out (by omega))
          have GU := hide (HS.out.blk GX.out (by omega))
          have GV := hide (HS.out.blk GY.out (by omega))
          clear hb9 m0 m1 m2 QV1 QV2
          go_wp2_with (first
      | (refine wpList_load_rowG ?_ 43 (.tmp 8) (by rfl) (W0.heap.size + 1 + 1) (by rfl) 43 #[.string A.a1, .string A.a2, .string A.a3, .string A.a4, .int .i64 A.t1, .int .i64 A.t2, .int .i64 A.t3, .int .i64 A.am, .int .i64 A.po, .slice A.p A.n A.c, .int .i64 A.x, .int .i64 A.y, .int .i64 A.z, .int .i64 A.tm, .int .i64 A.mf, .int .i64 A.lw, .int .i64 A.b1, .int .i64 A.b2, .int .i64 A.b3, .int .i64 A.b4, .int .i64 A.b5, .int .i64 A.b6, .int .i64 A.lo, .int .i64 A.hi, .int .i64 A.ct] (0, 0) _ ?_ Try.underlying43 rfl (by kernel_rfl) ?_; (focus rfl); (focus exact GA.out); simp only [Act.put, List.setIfInBounds_toArray, List.set_cons_succ, List.set_cons_zero])
      | (refine wpList_load_rowG ?_ 43 (.tmp 15) (by rfl) (q1 + 1) (by rfl) 43 #[.string x.a1, .string x.a2, .string x.a3, .string x.a4, .int .i64 x.t1, .int .i64 x.t2, .int .i64 x.t3, .int .i64 x.am, .int .i64 x.po, .slice x.p x.n x.c, .int .i64 x.x, .int .i64 x.y, .int .i64 x.z, .int .i64 x.tm, .int .i64 x.mf, .int .i64 x.lw, .int .i64 x.b1, .int .i64 x.b2, .int .i64 x.b3, .int .i64 x.b4, .int .i64 x.b5, .int .i64 x.b6, .int .i64 x.lo, .int .i64 x.hi, .int .i64 x.ct] (0, 0) _ ?_ Try.underlying43 rfl (by kernel_rfl) ?_; (focus rfl); (focus exact GU.out); simp only [Act.put, List.setIfInBounds_toArray, List.set_cons_succ, List.set_cons_zero])
      | (refine wpList_load_rowG ?_ 43 (.tmp 16) (by rfl) (q1 + 1 + 1) (by rfl) 43 #[.string y.a1, .string y.a2, .string y.a3, .string y.a4, .int .i64 y.t1, .int .i64 y.t2, .int .i64 y.t3, .int .i64 y.am, .int .i64 y.po, .slice y.p y.n y.c, .int .i64 y.x, .int .i64 y.y, .int .i64 y.z, .int .i64 y.tm, .int .i64 y.mf, .int .i64 y.lw, .int .i64 y.b1, .int .i64 y.b2, .int .i64 y.b3, .int .i64 y.b4, .int .i64 y.b5, .int .i64 y.b6, .int .i64 y.lo, .int .i64 y.hi, .int .i64 y.ct] (0, 0) _ ?_ Try.underlying43 rfl (by kernel_rfl) ?_; (focus rfl); (focus exact GV.out); simp only [Act.put, List.setIfInBounds_toArray, List.set_cons_succ, List.set_cons_zero])
      | (refine wpList_buildRows (by rfl) 55 43 3 _ (by rfl) 25 [.agg #[.string A.a1, .string A.a2, .string A.a3, .string A.a4, .int .i64 A.t1, .int .i64 A.t2, .int .i64 A.t3, .int .i64 A.am, .int .i64 A.po, .slice A.p A.n A.c, .int .i64 A.x, .int .i64 A.y, .int .i64 A.z, .int .i64 A.tm, .int .i64 A.mf, .int .i64 A.lw, .int .i64 A.b1, .int .i64 A.b2, .int .i64 A.b3, .int .i64 A.b4, .int .i64 A.b5, .int .i64 A.b6, .int .i64 A.lo, .int .i64 A.hi, .int .i64 A.ct], .agg #[.string x.a1, .string x.a2, .string x.a3, .string x.a4, .int .i64 x.t1, .int .i64 x.t2, .int .i64 x.t3, .int .i64 x.am, .int .i64 x.po, .slice x.p x.n x.c, .int .i64 x.x, .int .i64 x.y, .int .i64 x.z, .int .i64 x.tm, .int .i64 x.mf, .int .i64 x.lw, .int .i64 x.b1, .int .i64 x.b2, .int .i64 x.b3, .int .i64 x.b4, .int .i64 x.b5, .int .i64 x.b6, .int .i64 x.lo, .int .i64 x.hi, .int .i64 x.ct], .agg #[.string y.a1, .string y.a2, .string y.a3, .string y.a4, .int .i64 y.t1, .int .i64 y.t2, .int .i64 y.t3, .int .i64 y.am, .int .i64 y.po, .slice y.p y.n y.c, .int .i64 y.x, .int .i64 y.y, .int .i64 y.z, .int .i64 y.tm, .int .i64 y.mf, .int .i64 y.lw, .int .i64 y.b1, .int .i64 y.b2, .int .i64 y.b3, .int .i64 y.b4, .int .i64 y.b5, .int .i64 y.b6, .int .i64 y.lo, .int .i64 y.hi, .int .i64 y.ct]] Try.underlying55 (by kernel_rfl) (by kernel_rfl) rfl (by decide) (by simp [Value.cells]) ?_ ?_; (focus kernel_rfl); intro cellsE hcE))
          have hB2 : g < w9.heap.size := by have := HD5.out.lt; have := HS.out.roll.size; omega
          have HCE := hide (heap_alloc_new w9 (.cells cellsE 43))
          have HS := hide (HS.out.alloc (.cells cellsE 43))
          have HRQ := hide (HRQ.out.keep (below1 (.cells cellsE 43)))
          have G18 := hide (pair_alloc G18.out (.cells cellsE 43))
          clear GA GU GV
          generalize w9.alloc (.cells cellsE 43) = V10 at HCE HS HRQ G18 ⊢
          generalize w9.heap.size = B2 at HCE hB2 ⊢
          have EVS := hide (fun (k : Nat) (hk : k < 3) => (show ∃ e : Ev, V10.rangeAt B2 (k * 25) [.string e.a1, .string e.a2, .string e.a3, .string e.a4, .int .i64 e.t1, .int .i64 e.t2, .int .i64 e.t3, .int .i64 e.am, .int .i64 e.po, .slice e.p e.n e.c, .int .i64 e.x, .int .i64 e.y, .int .i64 e.z, .int .i64 e.tm, .int .i64 e.mf, .int .i64 e.lw, .int .i64 e.b1, .int .i64 e.b2, .int .i64 e.b3, .int .i64 e.b4, .int .i64 e.b5, .int .i64 e.b6, .int .i64 e.lo, .int .i64 e.hi, .int .i64 e.ct] ∧ (-1152921504606846976 ≤ e.tm ∧ e.tm ≤ 1152921504606846976) from by
            match k, hk with
            | 0, _ => exact ⟨A, hcE.range HCE.out (i := 0) rfl, htA⟩
            | 1, _ => exact ⟨x, hcE.range HCE.out (i := 1) rfl, htx⟩
            | 2, _ => exact ⟨y, hcE.range HCE.out (i := 2) rfl, hty⟩))
          have HD10 := hide HS.out.src
          clear HCE hcE
          go_loopw [69] (fun i wr => ∃ k : Nat, k ≤ 3 ∧ i = .int .i64 k ∧ Hid (St W a m cap g V10 wr)) (fun i _ => 3 - (intOf i).toNat)
          case atStart => exact ⟨0, by omega, rfl, hide (St.start HD10.out)⟩
          case round => as_aux_lemma =>
            obtain ⟨k2, hk2, rfl, HS2⟩ := hrel
            by_cases hlt2 : k2 < 3
            · have d : decide ((k2 : Int) < 3) = true := decide_eq_true (by omega)
              have d' : decide (k2 < 3) = true := decide_eq_true (by omega)
              have hkI : (k2 : Int) < 3 := by omega
              obtain ⟨e, hrg, hte⟩ := EVS.out k2 hlt2
              have HRG := hide (HS2.out.range hrg (by omega))
              have h20 : g < wr.heap.size := HS2.out.src.lt
              have GE0 := hide (heap_alloc_new wr (.cells #[.string ⟨#[]⟩, .string ⟨#[]⟩, .string ⟨#[]⟩, .string ⟨#[]⟩, .int .i64 0, .int .i64 0, .int .i64 0, .int .i64 0, .int .i64 0, .slice none 0 0, .int .i64 0, .int .i64 0, .int .i64 0, .int .i64 0, .int .i64 0, .int .i64 0, .int .i64 0, .int .i64 0, .int .i64 0, .int .i64 0, .int .i64 0, .int .i64 0, .int .i64 0, .int .i64 0, .int .i64 0] 43))
              clear hrg
              go_upto_region 13 with (first
                | (refine wpList_load_mid (by rfl) 43 (.tmp 71) (by rfl) B2 (k2 * 25) (by rfl) [.string e.a1, .string e.a2, .string e.a3, .string e.a4, .int .i64 e.t1, .int .i64 e.t2, .int .i64 e.t3, .int .i64 e.am, .int .i64 e.po, .slice e.p e.n e.c, .int .i64 e.x, .int .i64 e.y, .int .i64 e.z, .int .i64 e.tm, .int .i64 e.mf, .int .i64 e.lw, .int .i64 e.b1, .int .i64 e.b2, .int .i64 e.b3, .int .i64 e.b4, .int .i64 e.b5, .int .i64 e.b6, .int .i64 e.lo, .int .i64 e.hi, .int .i64 e.ct] _ ?_ Try.underlying43 rfl (by kernel_rfl) ?_; (focus exact HRG.out))
                | (refine wpList_store_mid (by rfl) 43 (.tmp 20) (.tmp 72) (by rfl) (wr.heap.size) 0 #[.string e.a1, .string e.a2, .string e.a3, .string e.a4, .int .i64 e.t1, .int .i64 e.t2, .int .i64 e.t3, .int .i64 e.am, .int .i64 e.po, .slice e.p e.n e.c, .int .i64 e.x, .int .i64 e.y, .int .i64 e.z, .int .i64 e.tm, .int .i64 e.mf, .int .i64 e.lw, .int .i64 e.b1, .int .i64 e.b2, .int .i64 e.b3, .int .i64 e.b4, .int .i64 e.b5, .int .i64 e.b6, .int .i64 e.lo, .int .i64 e.hi, .int .i64 e.ct] (by rfl) (by rfl) ?_ (by kernel_rfl) (by simp [Value.oneCell']) ?_; (focus exact there_row GE0.out 0 25 (by simp))))
              simp only [Act.put]
              obtain ⟨hv, ge⟩ := ev_one wr e
              have HS2 := hide (HS2.out.below hv)
              have GE := hide ge
              clear hv ge GE0 HRG
              generalize (wr.alloc (.cells #[.string ⟨#[]⟩, .string ⟨#[]⟩, .string ⟨#[]⟩, .string ⟨#[]⟩, .int .i64 0, .int .i64 0, .int .i64 0, .int .i64 0, .int .i64 0, .slice none 0 0, .int .i64 0, .int .i64 0, .int .i64 0, .int .i64 0, .int .i64 0, .int .i64 0, .int .i64 0, .int .i64 0, .int .i64 0, .int .i64 0, .int .i64 0, .int .i64 0, .int .i64 0, .int .i64 0, .int .i64 0] 43)).setCells wr.heap.size 0 [.string e.a1, .string e.a2, .string e.a3, .string e.a4, .int .i64 e.t1, .int .i64 e.t2, .int .i64 e.t3, .int .i64 e.am, .int .i64 e.po, .slice e.p e.n e.c, .int .i64 e.x, .int .i64 e.y, .int .i64 e.z, .int .i64 e.tm, .int .i64 e.mf, .int .i64 e.lw, .int .i64 e.b1, .int .i64 e.b2, .int .i64 e.b3, .int .i64 e.b4, .int .i64 e.b5, .int .i64 e.b6, .int .i64 e.lo, .int .i64 e.hi, .int .i64 e.ct] = V12 at HS2 GE ⊢
              generalize wr.heap.size = q20 at GE h20 ⊢
              have G18b := hide (HS2.out.blk G18.out (by omega))
              have HS12 := hide (HS.out.trans HS2.out)
              have HRQ := hide (HS2.out.row HD10.out HRQ.out)
              have G7b := hide (HS12.out.blk G7.out (by omega))
              have GPb := hide (HS12.out.blk GP.out (by omega))
              have HROWb := hide (HS12.out.row HD5.out HROW.out)
              go_cut [103] from 73 to 103 (fun s103 wx => s103 = .bool false ∧ Hid (Below V12.heap.size V12 wx))
              case first => as_aux_lemma =>
                have M18 := hide (fun W (h : ∃ p, W = more V12 p) => show W.heap[q18]? = _ from by obtain ⟨q, rfl⟩ := h; exact heap_more G18b.out q)
                have M20 := hide (fun W (h : ∃ p, W = more V12 p) => show W.heap[q20]? = _ from by obtain ⟨q, rfl⟩ := h; exact heap_more GE.out q)
                have M7 := hide (fun W (h : ∃ p, W = more V12 p) => show W.heap[W0.heap.size + 1]? = _ from by obtain ⟨q, rfl⟩ := h; exact heap_more G7b.out q)
                obtain ⟨x0, -, -, -⟩ := tri_cells GPb.out
                have m0 := fun p : More => cell_more x0 p
                obtain ⟨-, h9 | ⟨bb', off', hp', hc'⟩⟩ := HROWb.out
                · omega
                injection hp' with hp'
                injection hp' with e1 e2
                subst e1
                subst e2
                obtain ⟨y0, y1, y2, y3⟩ := hc' 0 (by omega)
                simp only [Nat.zero_mul, Nat.add_zero] at y0 y1 y2 y3
                have hL0 : 0 < RL.length := by omega
                have hL0I : (0 : Int) < (RL.length : Int) := by omega
                generalize RL[0] = r9 at y0 y1 y2 y3
                have y0 := fun p : More => cell_more y0 p
                have y1 := fun p : More => cell_more y1 p
                have y2 := fun p : More => cell_more y2 p
                have y3 := fun p : More => cell_more y3 p
                have QL1 := hide (fun p : More => rule_level q.L q.di q.ev q.p q.L.length q.c (by omega) e (more V12 p) (HRQ.out.keep (below_more V12 p)))
                have QL2 := hide (fun p : More => rr_level q.L q.di q.ev q.p q.L.length q.c (by omega) e (more V12 p) (HRQ.out.keep (below_more V12 p)))
                generalize levF q.L q.di q.ev e = lv at QL1 QL2
                have QR1 := hide (fun p : More => rule_meets r e (more V12 p))
                have QR2 := hide (fun p : More => rref_meets r e (more V12 p))
                generalize meetsB r e = b1 at QR1 QR2
                have QG1 := hide (fun p : More => rule_meets r9 e (more V12 p))
                have QG2 := hide (fun p : More => rref_meets r9 e (more V12 p))
                generalize meetsB r9 e = b2 at QG1 QG2
                clear hc' x0 d d' GPb HROWb G18b G7b GE
                refine wp_region_grown (by kernel_rfl) (by kernel_rfl) ?_
                repeat (first
                  | (refine wpQuiet_load_row ?_ 24 (.tmp 18) (by rfl) (q18) (by rfl) 24 #[.slice q.p q.L.length q.c, .int .i64 q.di, .int .i64 q.ev] (0, 0) _ ?_ Try.underlying24 rfl (by kernel_rfl) ?_; (focus rfl); (focus exact M18.out); simp only [Act.put, List.setIfInBounds_toArray, List.set_cons_succ, List.set_cons_zero])
                  | (refine wpQuiet_load_row ?_ 43 (.tmp 20) (by rfl) (q20) (by rfl) 43 #[.string e.a1, .string e.a2, .string e.a3, .string e.a4, .int .i64 e.t1, .int .i64 e.t2, .int .i64 e.t3, .int .i64 e.am, .int .i64 e.po, .slice e.p e.n e.c, .int .i64 e.x, .int .i64 e.y, .int .i64 e.z, .int .i64 e.tm, .int .i64 e.mf, .int .i64 e.lw, .int .i64 e.b1, .int .i64 e.b2, .int .i64 e.b3, .int .i64 e.b4, .int .i64 e.b5, .int .i64 e.b6, .int .i64 e.lo, .int .i64 e.hi, .int .i64 e.ct] (0, 0) _ ?_ Try.underlying43 rfl (by kernel_rfl) ?_; (focus rfl); (focus exact M20.out); simp only [Act.put, List.setIfInBounds_toArray, List.set_cons_succ, List.set_cons_zero])
                  | (refine wpQuiet_load_row ?_ 26 (.tmp 7) (by rfl) (W0.heap.size + 1) (by rfl) 26 #[.int .i64 r.m, .int .i64 r.p, .int .i64 r.f, .int .i64 r.d] (0, 0) _ ?_ Try.underlying26 rfl (by kernel_rfl) ?_; (focus rfl); (focus exact M7.out); simp only [Act.put, List.setIfInBounds_toArray, List.set_cons_succ, List.set_cons_zero])
                  | go_big_quiet_step ((first | (go_at_call 15; with_reducible exact more_of (QL1.out _)) | (go_at_call 16; with_reducible exact more_of (QL2.out _)) | (go_at_call 17; with_reducible exact more_of (QR1.out _)) | (go_at_call 18; with_reducible exact more_of (QR2.out _)) | (go_at_call 17; with_reducible exact more_of (QG1.out _)) | (go_at_call 18; with_reducible exact more_of (QG2.out _)))))
                refine wpQuiet_nil ?_
                intro w9 hb9
                go_wp2_with fail
                go_meet
                exact ⟨rfl, hide hb9⟩
              case rest =>
                obtain ⟨rfl, HB13⟩ := hcut
                have HS12 := hide (HS12.out.below HB13.out)
                have HS2 := hide (HS2.out.below HB13.out)
                have GE := hide ((HB13.out.block _ (Array.getElem?_eq_some_iff.1 GE.out).1).trans GE.out)
                have HRQ := hide (HRQ.out.keep HB13.out)
                have G18b := hide ((HB13.out.block _ (Array.getElem?_eq_some_iff.1 G18b.out).1).trans G18b.out)
                clear HB13 G7b GPb HROWb d d'
                generalize wc = V14 at HS12 HS2 GE HRQ G18b ⊢
                have HD14 := hide HS2.out.src
                go_upto_region 15 with fail
                go_cut [113, 114, 115] from 104 to 116 (fun s113 s114 s115 wx => s114 = .int .i64 3 ∧ s115 = .int .i64 0 ∧ ∃ (B3 : Nat) (n0 n1 n2 : Int), s113 = .slice (some ⟨B3, 0, none⟩) 3 3 ∧ g < B3 ∧ Hid (wx.heap[B3]? = some (.cells #[.int .i64 n0, .int .i64 n1, .int .i64 n2] 3 (0, 0))) ∧ Hid (St W a m cap g V14 wx))
                case first => as_aux_lemma =>
                  refine wp_region_inv2 (fun L a' w' => ∃ u : Nat → Value, a' = { tmps := #[u0, u1, u2, u3, Value.int IntKind.i64 now, u5, Value.pointer (some ⟨W0.heap.size, 0, none⟩), Value.pointer (some ⟨W0.heap.size + 1, 0, none⟩), Value.pointer (some ⟨W0.heap.size + 1 + 1, 0, none⟩), Value.pointer (some ⟨W0.heap.size + 1 + 1 + 1, 0, none⟩), u10, u11, u12, Value.pointer (some ⟨g, 0, none⟩), Value.pointer (some ⟨q1, 0, none⟩), Value.pointer (some ⟨q1 + 1, 0, none⟩), Value.pointer (some ⟨q1 + 1 + 1, 0, none⟩), u17, Value.pointer (some ⟨q18, 0, none⟩), u19, Value.pointer (some ⟨q20, 0, none⟩), u21, u22, u23, u24, u25, u26, u27, u28, u29, u30, u31, u32, u33, u34, u35, u36, u37, u38, u39, u40, u41, u42, u43, u44, u45, u46, u47, u48, u49, u50, u51, u52, Value.slice (some ⟨B, 0, none⟩) 3 3, Value.int IntKind.i64 3, Value.int IntKind.i64 ↑k, Value.bool true, Value.pointer (some ⟨B, k * 3, none⟩), Value.agg #[Value.slice q.p q.L.length q.c, Value.int IntKind.i64 q.di, Value.int IntKind.i64 q.ev], Value.agg #[Value.slice q.p q.L.length q.c, Value.int IntKind.i64 q.di, Value.int IntKind.i64 q.ev], Value.int IntKind.i64 ve, Value.agg #[Value.slice q.p q.L.length q.c, Value.int IntKind.i64 q.di, Value.int IntKind.i64 q.ev], Value.int IntKind.i64 ve, Value.bool false, Value.agg #[Value.string A.a1, Value.string A.a2, Value.string A.a3, Value.string A.a4, Value.int IntKind.i64 A.t1, Value.int IntKind.i64 A.t2, Value.int IntKind.i64 A.t3, Value.int IntKind.i64 A.am, Value.int IntKind.i64 A.po, Value.slice A.p A.n A.c, Value.int IntKind.i64 A.x, Value.int IntKind.i64 A.y, Value.int IntKind.i64 A.z, Value.int IntKind.i64 A.tm, Value.int IntKind.i64 A.mf, Value.int IntKind.i64 A.lw, Value.int IntKind.i64 A.b1, Value.int IntKind.i64 A.b2, Value.int IntKind.i64 A.b3, Value.int IntKind.i64 A.b4, Value.int IntKind.i64 A.b5, Value.int IntKind.i64 A.b6, Value.int IntKind.i64 A.lo, Value.int IntKind.i64 A.hi, Value.int IntKind.i64 A.ct], Value.agg #[Value.string x.a1, Value.string x.a2, Value.string x.a3, Value.string x.a4, Value.int IntKind.i64 x.t1, Value.int IntKind.i64 x.t2, Value.int IntKind.i64 x.t3, Value.int IntKind.i64 x.am, Value.int IntKind.i64 x.po, Value.slice x.p x.n x.c, Value.int IntKind.i64 x.x, Value.int IntKind.i64 x.y, Value.int IntKind.i64 x.z, Value.int IntKind.i64 x.tm, Value.int IntKind.i64 x.mf, Value.int IntKind.i64 x.lw, Value.int IntKind.i64 x.b1, Value.int IntKind.i64 x.b2, Value.int IntKind.i64 x.b3, Value.int IntKind.i64 x.b4, Value.int IntKind.i64 x.b5, Value.int IntKind.i64 x.b6, Value.int IntKind.i64 x.lo, Value.int IntKind.i64 x.hi, Value.int IntKind.i64 x.ct], Value.agg #[Value.string y.a1, Value.string y.a2, Value.string y.a3, Value.string y.a4, Value.int IntKind.i64 y.t1, Value.int IntKind.i64 y.t2, Value.int IntKind.i64 y.t3, Value.int IntKind.i64 y.am, Value.int IntKind.i64 y.po, Value.slice y.p y.n y.c, Value.int IntKind.i64 y.x, Value.int IntKind.i64 y.y, Value.int IntKind.i64 y.z, Value.int IntKind.i64 y.tm, Value.int IntKind.i64 y.mf, Value.int IntKind.i64 y.lw, Value.int IntKind.i64 y.b1, Value.int IntKind.i64 y.b2, Value.int IntKind.i64 y.b3, Value.int IntKind.i64 y.b4, Value.int IntKind.i64 y.b5, Value.int IntKind.i64 y.b6, Value.int IntKind.i64 y.lo, Value.int IntKind.i64 y.hi, Value.int IntKind.i64 y.ct], Value.slice (some ⟨B2, 0, none⟩) 3 3, Value.int IntKind.i64 3, Value.int IntKind.i64 ↑k2, Value.bool true, Value.pointer (some ⟨B2, k2 * 25, none⟩), Value.agg #[Value.string e.a1, Value.string e.a2, Value.string e.a3, Value.string e.a4, Value.int IntKind.i64 e.t1, Value.int IntKind.i64 e.t2, Value.int IntKind.i64 e.t3, Value.int IntKind.i64 e.am, Value.int IntKind.i64 e.po, Value.slice e.p e.n e.c, Value.int IntKind.i64 e.x, Value.int IntKind.i64 e.y, Value.int IntKind.i64 e.z, Value.int IntKind.i64 e.tm, Value.int IntKind.i64 e.mf, Value.int IntKind.i64 e.lw, Value.int IntKind.i64 e.b1, Value.int IntKind.i64 e.b2, Value.int IntKind.i64 e.b3, Value.int IntKind.i64 e.b4, Value.int IntKind.i64 e.b5, Value.int IntKind.i64 e.b6, Value.int IntKind.i64 e.lo, Value.int IntKind.i64 e.hi, Value.int IntKind.i64 e.ct], u73, u74, u75, u76, u77, u78, u79, u80, u81, u82, u83, u84, u85, u86, u87, u88, u89, u90, u91, u92, u93, u94, u95, u96, u97, u98, u99, u100, u101, u102, Value.bool false, u 104, u 105, u 106, u 107, u 108, u 109, u 110, u 111, u 112, u 113, u 114, u 115, u116, u117, u118, u119, u120, u121, u122, u123, u124, u125, u126, u127, u128, u129, u130, u131, u132, u133, u134, u135, u136, u137, u138, u139, u140, u141, u142, u143, u144, u145, u146, u147, u148, u149 , undef], defers := [] } ∧ PolB W a m cap g V14 q20 now e L u w') (by kernel_rfl) (by kernel_rfl) ?h0 ?hs ?hd
                  case h0 =>
                    exact ⟨fun s => (#[u104, u105, u106, u107, u108, u109, u110, u111, u112, u113, u114, u115] : Array Value).getD (s - 104) undef, rfl, { st := (St.start HD14.out).drew, blk := GE.out, f0 := fun e => Bool.noConfusion e, f1 := fun e => Bool.noConfusion e, f2 := fun e => Bool.noConfusion e, f3 := fun e => Bool.noConfusion e, f4 := fun e => Bool.noConfusion e, f5 := fun e => Bool.noConfusion e, f6 := fun e => Bool.noConfusion e, f7 := fun e => Bool.noConfusion e, f8 := fun e => Bool.noConfusion e, f9 := fun e => Bool.noConfusion e, f10 := fun e => Bool.noConfusion e, f11 := fun e => Bool.noConfusion e }⟩
                  case hs =>
                    refine (Steps2.cons ?_ (Steps2.cons ?_ (Steps2.cons ?_ (Steps2.cons ?_ (Steps2.cons ?_ (Steps2.cons ?_ (Steps2.cons ?_ (Steps2.cons ?_ (Steps2.cons ?_ (Steps2.cons ?_ (Steps2.cons ?_ (Steps2.cons ?_ Steps2.nil))))))))))))
                    · intro L a' x hL hcl hc hI K' hK
                      obtain ⟨u, rfl, hC⟩ := hI
                      have HK := hide hK
                      have HC := hide hC
                      clear hK hC hc
                      go_simp
                      exact HK.out _ _ ⟨fun s => if s = 104 then .int .i64 now else u s, rfl, { HC.out with f0 := fun _ => rfl }⟩
                    · intro L a' x hL hcl hc hI K' hK
                      obtain ⟨u, rfl, hC⟩ := hI
                      have d0 : L 0 = true := hc ⟨0, .data⟩ (by simp) rfl
                      have HK := hide hK
                      have HC := hide hC
                      clear hK hC hc
                      have e104 := HC.out.f0 d0
                      go_simp
                      go_at_call 19
                      refine (keep_mod now 1152921504606846976 (by omega) x).mono ?_
                      rintro en y ⟨rfl, rfl⟩
                      exact HK.out _ _ ⟨fun s => if s = 105 then .int .i64 (now % 1152921504606846976) else u s, by simp [e104], { HC.out with f1 := fun _ => ⟨_, rfl⟩ }⟩
                    · intro L a' x hL hcl hc hI K' hK
                      obtain ⟨u, rfl, hC⟩ := hI
                      have HK := hide hK
                      have HC := hide hC
                      clear hK hC hc
                      go_simp
                      exact HK.out _ _ ⟨fun s => if s = 106 then (.pointer (some ⟨g, 0, none⟩)) else u s, rfl, { HC.out with f2 := fun _ => rfl }⟩
                    · intro L a' x hL hcl hc hI K' hK
                      obtain ⟨u, rfl, hC⟩ := hI
                      have d2 : L 2 = true := hc ⟨2, .data⟩ (by simp) rfl
                      have d1 : L 1 = true := hc ⟨1, .chain⟩ (by simp) rfl
                      have HK := hide hK
                      have HC := hide hC
                      clear hK hC hc
                      have e106 := HC.out.f2 d2
                      go_simp
                      go_at_call 20
                      refine (keep_n W a m cap g 2000 ⟨by omega, by omega⟩ x HC.out.st.src).mono ?_
                      rintro en y ⟨⟨z, rfl, z0, z1⟩, hd1, hr1⟩
                      exact HK.out _ _ ⟨fun s => if s = 107 then .int .i64 z else u s, by simp [e106], { (HC.out.rolls HD14.out.lt (by omega) hd1 hr1) with f3 := fun _ => ⟨z, rfl, z0, z1⟩ }⟩
                    · intro L a' x hL hcl hc hI K' hK
                      obtain ⟨u, rfl, hC⟩ := hI
                      have d3 : L 3 = true := hc ⟨3, .data⟩ (by simp) rfl
                      have HK := hide hK
                      have HC := hide hC
                      clear hK hC hc
                      obtain ⟨z, e107, z0, z1⟩ := HC.out.f3 d3
                      have hw : IntKind.i64.wrap (1000 + z) = 1000 + z := by rw [IntKind.wrap_i64]; omega
                      go_simp
                      exact HK.out _ _ ⟨fun s => if s = 108 then .int .i64 (1000 + z) else u s, by simp [e107, hw], { HC.out with f4 := fun _ => ⟨_, rfl⟩ }⟩
                    · intro L a' x hL hcl hc hI K' hK
                      obtain ⟨u, rfl, hC⟩ := hI
                      have HK := hide hK
                      have HC := hide hC
                      clear hK hC hc
                      go_simp
                      exact HK.out _ _ ⟨fun s => if s = 109 then .pointer (some ⟨q20, 9, none⟩) else u s, rfl, { HC.out with f5 := fun _ => rfl }⟩
                    · intro L a' x hL hcl hc hI K' hK
                      obtain ⟨u, rfl, hC⟩ := hI
                      have d5 : L 5 = true := hc ⟨5, .data⟩ (by simp) rfl
                      have HK := hide hK
                      have HC := hide hC
                      clear hK hC hc
                      have e109 := HC.out.f5 d5
                      go_simp
                      exact HK.out _ _ ⟨fun s => if s = 110 then .pointer (some ⟨q20, 10, none⟩) else u s, by simp [e109], { HC.out with f6 := fun _ => rfl }⟩
                    · intro L a' x hL hcl hc hI K' hK
                      obtain ⟨u, rfl, hC⟩ := hI
                      have d6 : L 6 = true := hc ⟨6, .data⟩ (by simp) rfl
                      have HK := hide hK
                      have HC := hide hC
                      clear hK hC hc
                      have e110 := HC.out.f6 d6
                      go_simp
                      exact HK.out _ _ ⟨fun s => if s = 111 then .pointer (some ⟨q20, 13, none⟩) else u s, by simp [e110], { HC.out with f7 := fun _ => rfl }⟩
                    · intro L a' x hL hcl hc hI K' hK
                      obtain ⟨u, rfl, hC⟩ := hI
                      have d7 : L 7 = true := hc ⟨7, .data⟩ (by simp) rfl
                      have HK := hide hK
                      have HC := hide hC
                      clear hK hC hc
                      have e111 := HC.out.f7 d7
                      have m0 : x.cell? ⟨q20, 13, none⟩ = some (.int .i64 e.tm) := boxed_at HC.out.blk rfl
                      go_simp
                      exact HK.out _ _ ⟨fun s => if s = 112 then .int .i64 e.tm else u s, by simp [e111], { HC.out with f8 := fun _ => rfl }⟩
                    · intro L a' x hL hcl hc hI K' hK
                      obtain ⟨u, rfl, hC⟩ := hI
                      have d1 : L 1 = true := hc ⟨1, .data⟩ (by simp) rfl
                      have d4 : L 4 = true := hc ⟨4, .data⟩ (by simp) rfl
                      have d8 : L 8 = true := hc ⟨8, .data⟩ (by simp) rfl
                      have HK := hide hK
                      have HC := hide hC
                      clear hK hC hc
                      obtain ⟨z1, e105⟩ := HC.out.f1 d1
                      obtain ⟨z2, e108⟩ := HC.out.f4 d4
                      have e112 := HC.out.f8 d8
                      go_simp
                      exact HK.out _ _ ⟨fun s => if s = 113 then .slice (some ⟨x.heap.size, 0, none⟩) 3 3 else u s, by simp [e105, e108, e112], { (HC.out.rolls HD14.out.lt (by omega) (HC.out.st.src.alloc _) (Rolls.of_below (below1 _))) with f9 := fun _ => ⟨x.heap.size, z1, z2, e.tm, rfl, HC.out.st.roll.size, heap_alloc_new _ _⟩ }⟩
                    · intro L a' x hL hcl hc hI K' hK
                      obtain ⟨u, rfl, hC⟩ := hI
                      have d9 : L 9 = true := hc ⟨9, .data⟩ (by simp) rfl
                      have HK := hide hK
                      have HC := hide hC
                      clear hK hC hc
                      obtain ⟨B, n0, n1, n2, e113, h1, h2⟩ := HC.out.f9 d9
                      clear h2
                      go_simp
                      exact HK.out _ _ ⟨fun s => if s = 114 then .int .i64 3 else u s, by simp [e113], { HC.out with f10 := fun _ => rfl }⟩
                    · intro L a' x hL hcl hc hI K' hK
                      obtain ⟨u, rfl, hC⟩ := hI
                      have HK := hide hK
                      have HC := hide hC
                      clear hK hC hc
                      go_simp
                      exact HK.out _ _ ⟨fun s => if s = 115 then .int .i64 0 else u s, rfl, { HC.out with f11 := fun _ => rfl }⟩
                  case hd =>
                    rintro L a' x hall ⟨u, rfl, hC⟩
                    obtain ⟨B3, n0, n1, n2, e113, hB, hcB⟩ := hC.f9 (hall 9 (by decide))
                    have e114 := hC.f10 (hall 10 (by decide))
                    have e115 := hC.f11 (hall 11 (by decide))
                    have HSX := hide hC.st
                    have HCB := hide hcB
                    have hgl := HD14.out.lt
                    clear hC hall hcB
                    rw [e113, e114, e115]
                    go_wp2_with fail
                    go_meet
                    exact ⟨rfl, rfl, B3, n0, n1, n2, rfl, by omega, HCB, HSX⟩
                case rest =>
                  obtain ⟨rfl, rfl, B3, n0, n1, n2, rfl, hB3, GI, HS3⟩ := hcut
                  have HS12 := hide (HS12.out.trans HS3.out)
                  have HS2 := hide (HS2.out.trans HS3.out)
                  have HRQ := hide (HS3.out.row HD14.out HRQ.out)
                  have GE := hide (HS3.out.blk GE.out (by omega))
                  have G18b := hide (HS3.out.blk G18b.out (by omega))
                  have HD15 := hide HS3.out.src
                  clear HS3 HD14
                  generalize wc = V15 at HS12 HS2 GE HRQ G18b GI HD15 ⊢
                  have INT := hide (fun (k : Nat) (hk : k < 3) => (show ∃ t : Int, V15.cell? ⟨B3, k, none⟩ = some (.int .i64 t) from by
                    match k, hk with
                    | 0, _ => exact ⟨n0, boxed_at GI.out (i := 0) rfl⟩
                    | 1, _ => exact ⟨n1, boxed_at GI.out (i := 1) rfl⟩
                    | 2, _ => exact ⟨n2, boxed_at GI.out (i := 2) rfl⟩))
                  clear GI
                  go_wp2_with fail
                  go_loopw [115] (fun i wr => ∃ k : Nat, k ≤ 3 ∧ i = .int .i64 k ∧ Hid (St W a m cap g V15 wr)) (fun i _ => 3 - (intOf i).toNat)
                  case atStart => exact ⟨0, by omega, rfl, hide (St.start HD15.out)⟩
                  case round => as_aux_lemma =>
                    obtain ⟨k3, hk3, rfl, HS3⟩ := hrel
                    by_cases hlt3 : k3 < 3
                    · have d : decide ((k3 : Int) < 3) = true := decide_eq_true (by omega)
                      have d' : decide (k3 < 3) = true := decide_eq_true (by omega)
                      have hkI : (k3 : Int) < 3 := by omega
                      obtain ⟨t, ht⟩ := INT.out k3 hlt3
                      have ht := (World.cell?_of_block (HS3.out.roll.block B3 (block_lt_of_cell ht) (by omega))).trans ht
                      have G18c := hide (HS3.out.blk G18b.out (by omega))
                      have GEc := hide (HS3.out.blk GE.out (by omega))
                      have HRQc := hide (HS3.out.row HD15.out HRQ.out)
                      go_upto_region 18 with fail
                      have M18 := hide (fun W (h : ∃ p, W = more wr p) => show W.heap[q18]? = _ from by obtain ⟨q, rfl⟩ := h; exact heap_more G18c.out q)
                      have M20 := hide (fun W (h : ∃ p, W = more wr p) => show W.heap[q20]? = _ from by obtain ⟨q, rfl⟩ := h; exact heap_more GEc.out q)
                      have QT1 := hide (fun p : More => rule_timely q.L q.di q.ev q.p q.L.length q.c (by omega) e t (more wr p) (HRQc.out.keep (below_more wr p)))
                      have QT2 := hide (fun p : More => rr_timely q.L q.di q.ev q.p q.L.length q.c (by omega) e t (more wr p) (HRQc.out.keep (below_more wr p)))
                      generalize timB q.L q.di q.ev e t = b1 at QT1 QT2
                      clear ht d d' G18c GEc HRQc
                      refine wp_region_grown (by kernel_rfl) (by kernel_rfl) ?_
                      repeat (first
                        | (refine wpQuiet_load_row ?_ 24 (.tmp 18) (by rfl) (q18) (by rfl) 24 #[.slice q.p q.L.length q.c, .int .i64 q.di, .int .i64 q.ev] (0, 0) _ ?_ Try.underlying24 rfl (by kernel_rfl) ?_; (focus rfl); (focus exact M18.out); simp only [Act.put, List.setIfInBounds_toArray, List.set_cons_succ, List.set_cons_zero])
                        | (refine wpQuiet_load_row ?_ 43 (.tmp 20) (by rfl) (q20) (by rfl) 43 #[.string e.a1, .string e.a2, .string e.a3, .string e.a4, .int .i64 e.t1, .int .i64 e.t2, .int .i64 e.t3, .int .i64 e.am, .int .i64 e.po, .slice e.p e.n e.c, .int .i64 e.x, .int .i64 e.y, .int .i64 e.z, .int .i64 e.tm, .int .i64 e.mf, .int .i64 e.lw, .int .i64 e.b1, .int .i64 e.b2, .int .i64 e.b3, .int .i64 e.b4, .int .i64 e.b5, .int .i64 e.b6, .int .i64 e.lo, .int .i64 e.hi, .int .i64 e.ct] (0, 0) _ ?_ Try.underlying43 rfl (by kernel_rfl) ?_; (focus rfl); (focus exact M20.out); simp only [Act.put, List.setIfInBounds_toArray, List.set_cons_succ, List.set_cons_zero])
                        | go_big_quiet_step ((first | (go_at_call 21; with_reducible exact more_of (QT1.out _)) | (go_at_call 22; with_reducible exact more_of (QT2.out _)))))
                      refine wpQuiet_nil ?_
                      intro w9 hb9
                      have HS3 := hide (HS3.out.below hb9)
                      clear hb9 M18 M20 QT1 QT2
                      go_wp2_with fail
                      go_roundw
                      case rel => exact ⟨k3 + 1, by omega, by go_num, HS3⟩
                      case measure => simp [intOf]; omega
                    · have d : decide ((k3 : Int) < 3) = false := decide_eq_false (by omega)
                      have d' : decide (k3 < 3) = false := decide_eq_false (by omega)
                      have HS12 := hide (HS12.out.trans HS3.out)
                      have HS2 := hide (HS2.out.trans HS3.out)
                      have GE := hide (HS3.out.blk GE.out (by omega))
                      have G18b := hide (HS3.out.blk G18b.out (by omega))
                      have HRQ := hide (HS3.out.row HD15.out HRQ.out)
                      have GA := hide (HS12.out.blk G9.out (by omega))
                      have GU := hide (HS12.out.blk GX.out (by omega))
                      have GV := hide (HS12.out.blk GY.out (by omega))
                      clear HS3 HD15 INT
                      go_wp2_with (first
      | (refine wpList_load_rowG ?_ 43 (.tmp 9) (by rfl) (W0.heap.size + 1 + 1 + 1) (by rfl) 43 #[.string C9.a1, .string C9.a2, .string C9.a3, .string C9.a4, .int .i64 C9.t1, .int .i64 C9.t2, .int .i64 C9.t3, .int .i64 C9.am, .int .i64 C9.po, .slice C9.p C9.n C9.c, .int .i64 C9.x, .int .i64 C9.y, .int .i64 C9.z, .int .i64 C9.tm, .int .i64 C9.mf, .int .i64 C9.lw, .int .i64 C9.b1, .int .i64 C9.b2, .int .i64 C9.b3, .int .i64 C9.b4, .int .i64 C9.b5, .int .i64 C9.b6, .int .i64 C9.lo, .int .i64 C9.hi, .int .i64 C9.ct] (0, 0) _ ?_ Try.underlying43 rfl (by kernel_rfl) ?_; (focus rfl); (focus exact GA.out); simp only [Act.put, List.setIfInBounds_toArray, List.set_cons_succ, List.set_cons_zero])
      | (refine wpList_load_rowG ?_ 43 (.tmp 15) (by rfl) (q1 + 1) (by rfl) 43 #[.string x.a1, .string x.a2, .string x.a3, .string x.a4, .int .i64 x.t1, .int .i64 x.t2, .int .i64 x.t3, .int .i64 x.am, .int .i64 x.po, .slice x.p x.n x.c, .int .i64 x.x, .int .i64 x.y, .int .i64 x.z, .int .i64 x.tm, .int .i64 x.mf, .int .i64 x.lw, .int .i64 x.b1, .int .i64 x.b2, .int .i64 x.b3, .int .i64 x.b4, .int .i64 x.b5, .int .i64 x.b6, .int .i64 x.lo, .int .i64 x.hi, .int .i64 x.ct] (0, 0) _ ?_ Try.underlying43 rfl (by kernel_rfl) ?_; (focus rfl); (focus exact GU.out); simp only [Act.put, List.setIfInBounds_toArray, List.set_cons_succ, List.set_cons_zero])
      | (refine wpList_load_rowG ?_ 43 (.tmp 16) (by rfl) (q1 + 1 + 1) (by rfl) 43 #[.string y.a1, .string y.a2, .string y.a3, .string y.a4, .int .i64 y.t1, .int .i64 y.t2, .int .i64 y.t3, .int .i64 y.am, .int .i64 y.po, .slice y.p y.n y.c, .int .i64 y.x, .int .i64 y.y, .int .i64 y.z, .int .i64 y.tm, .int .i64 y.mf, .int .i64 y.lw, .int .i64 y.b1, .int .i64 y.b2, .int .i64 y.b3, .int .i64 y.b4, .int .i64 y.b5, .int .i64 y.b6, .int .i64 y.lo, .int .i64 y.hi, .int .i64 y.ct] (0, 0) _ ?_ Try.underlying43 rfl (by kernel_rfl) ?_; (focus rfl); (focus exact GV.out); simp only [Act.put, List.setIfInBounds_toArray, List.set_cons_succ, List.set_cons_zero])
      | (refine wpList_buildRows (by rfl) 55 43 3 _ (by rfl) 25 [.agg #[.string C9.a1, .string C9.a2, .string C9.a3, .string C9.a4, .int .i64 C9.t1, .int .i64 C9.t2, .int .i64 C9.t3, .int .i64 C9.am, .int .i64 C9.po, .slice C9.p C9.n C9.c, .int .i64 C9.x, .int .i64 C9.y, .int .i64 C9.z, .int .i64 C9.tm, .int .i64 C9.mf, .int .i64 C9.lw, .int .i64 C9.b1, .int .i64 C9.b2, .int .i64 C9.b3, .int .i64 C9.b4, .int .i64 C9.b5, .int .i64 C9.b6, .int .i64 C9.lo, .int .i64 C9.hi, .int .i64 C9.ct], .agg #[.string x.a1, .string x.a2, .string x.a3, .string x.a4, .int .i64 x.t1, .int .i64 x.t2, .int .i64 x.t3, .int .i64 x.am, .int .i64 x.po, .slice x.p x.n x.c, .int .i64 x.x, .int .i64 x.y, .int .i64 x.z, .int .i64 x.tm, .int .i64 x.mf, .int .i64 x.lw, .int .i64 x.b1, .int .i64 x.b2, .int .i64 x.b3, .int .i64 x.b4, .int .i64 x.b5, .int .i64 x.b6, .int .i64 x.lo, .int .i64 x.hi, .int .i64 x.ct], .agg #[.string y.a1, .string y.a2, .string y.a3, .string y.a4, .int .i64 y.t1, .int .i64 y.t2, .int .i64 y.t3, .int .i64 y.am, .int .i64 y.po, .slice y.p y.n y.c, .int .i64 y.x, .int .i64 y.y, .int .i64 y.z, .int .i64 y.tm, .int .i64 y.mf, .int .i64 y.lw, .int .i64 y.b1, .int .i64 y.b2, .int .i64 y.b3, .int .i64 y.b4, .int .i64 y.b5, .int .i64 y.b6, .int .i64 y.lo, .int .i64 y.hi, .int .i64 y.ct]] Try.underlying55 (by kernel_rfl) (by kernel_rfl) rfl (by decide) (by simp [Value.cells]) ?_ ?_; (focus kernel_rfl); intro cellsF hcF))
                      have hB4 : g < wr.heap.size := HS2.out.src.lt
                      have HCF := hide (heap_alloc_new wr (.cells cellsF 43))
                      have HS2 := hide (HS2.out.alloc (.cells cellsF 43))
                      have HRQ := hide (HRQ.out.keep (below1 (.cells cellsF 43)))
                      have GE := hide (pair_alloc GE.out (.cells cellsF 43))
                      have G18b := hide (pair_alloc G18b.out (.cells cellsF 43))
                      clear GA GU GV HS12 d d'
                      generalize wr.alloc (.cells cellsF 43) = V21 at HCF HS2 HRQ GE G18b ⊢
                      generalize wr.heap.size = B4 at HCF hB4 ⊢
                      have FVS := hide (fun (k : Nat) (hk : k < 3) => (show ∃ f : Ev, V21.rangeAt B4 (k * 25) [.string f.a1, .string f.a2, .string f.a3, .string f.a4, .int .i64 f.t1, .int .i64 f.t2, .int .i64 f.t3, .int .i64 f.am, .int .i64 f.po, .slice f.p f.n f.c, .int .i64 f.x, .int .i64 f.y, .int .i64 f.z, .int .i64 f.tm, .int .i64 f.mf, .int .i64 f.lw, .int .i64 f.b1, .int .i64 f.b2, .int .i64 f.b3, .int .i64 f.b4, .int .i64 f.b5, .int .i64 f.b6, .int .i64 f.lo, .int .i64 f.hi, .int .i64 f.ct] ∧ (-1152921504606846976 ≤ f.tm ∧ f.tm ≤ 1152921504606846976) from by
                        match k, hk with
                        | 0, _ => exact ⟨C9, hcF.range HCF.out (i := 0) rfl, htB⟩
                        | 1, _ => exact ⟨x, hcF.range HCF.out (i := 1) rfl, htx⟩
                        | 2, _ => exact ⟨y, hcF.range HCF.out (i := 2) rfl, hty⟩))
                      have HD21 := hide HS2.out.src
                      clear HCF hcF
                      go_loopw [134] (fun i wr => ∃ k : Nat, k ≤ 3 ∧ i = .int .i64 k ∧ Hid (St W a m cap g V21 wr)) (fun i _ => 3 - (intOf i).toNat)
                      case atStart => exact ⟨0, by omega, rfl, hide (St.start HD21.out)⟩
                      case round => as_aux_lemma =>
                        obtain ⟨k4, hk4, rfl, HS4⟩ := hrel
                        by_cases hlt4 : k4 < 3
                        · have d : decide ((k4 : Int) < 3) = true := decide_eq_true (by omega)
                          have d' : decide (k4 < 3) = true := decide_eq_true (by omega)
                          have hkI : (k4 : Int) < 3 := by omega
                          obtain ⟨f, hrg, htf⟩ := FVS.out k4 hlt4
                          have HRG := hide (HS4.out.range hrg (by omega))
                          have GE0 := hide (heap_alloc_new wr (.cells #[.string ⟨#[]⟩, .string ⟨#[]⟩, .string ⟨#[]⟩, .string ⟨#[]⟩, .int .i64 0, .int .i64 0, .int .i64 0, .int .i64 0, .int .i64 0, .slice none 0 0, .int .i64 0, .int .i64 0, .int .i64 0, .int .i64 0, .int .i64 0, .int .i64 0, .int .i64 0, .int .i64 0, .int .i64 0, .int .i64 0, .int .i64 0, .int .i64 0, .int .i64 0, .int .i64 0, .int .i64 0] 43))
                          have G18c := hide (HS4.out.blk G18b.out (by omega))
                          have GEc := hide (HS4.out.blk GE.out (by omega))
                          have HRQc := hide (HS4.out.row HD21.out HRQ.out)
                          clear hrg
                          go_upto_region 24 with (first
                            | (refine wpList_load_mid (by rfl) 43 (.tmp 136) (by rfl) B4 (k4 * 25) (by rfl) [.string f.a1, .string f.a2, .string f.a3, .string f.a4, .int .i64 f.t1, .int .i64 f.t2, .int .i64 f.t3, .int .i64 f.am, .int .i64 f.po, .slice f.p f.n f.c, .int .i64 f.x, .int .i64 f.y, .int .i64 f.z, .int .i64 f.tm, .int .i64 f.mf, .int .i64 f.lw, .int .i64 f.b1, .int .i64 f.b2, .int .i64 f.b3, .int .i64 f.b4, .int .i64 f.b5, .int .i64 f.b6, .int .i64 f.lo, .int .i64 f.hi, .int .i64 f.ct] _ ?_ Try.underlying43 rfl (by kernel_rfl) ?_; (focus exact HRG.out))
                            | (refine wpList_store_mid (by rfl) 43 (.tmp 24) (.tmp 137) (by rfl) (wr.heap.size) 0 #[.string f.a1, .string f.a2, .string f.a3, .string f.a4, .int .i64 f.t1, .int .i64 f.t2, .int .i64 f.t3, .int .i64 f.am, .int .i64 f.po, .slice f.p f.n f.c, .int .i64 f.x, .int .i64 f.y, .int .i64 f.z, .int .i64 f.tm, .int .i64 f.mf, .int .i64 f.lw, .int .i64 f.b1, .int .i64 f.b2, .int .i64 f.b3, .int .i64 f.b4, .int .i64 f.b5, .int .i64 f.b6, .int .i64 f.lo, .int .i64 f.hi, .int .i64 f.ct] (by rfl) (by rfl) ?_ (by kernel_rfl) (by simp [Value.oneCell']) ?_; (focus exact there_row GE0.out 0 25 (by simp))))
                          simp only [Act.put]
                          obtain ⟨hv, ge⟩ := ev_one wr f
                          have HS4 := hide (HS4.out.below hv)
                          have GF := hide ge
                          have G18c := hide ((hv.block _ (Array.getElem?_eq_some_iff.1 G18c.out).1).trans G18c.out)
                          have GEc := hide ((hv.block _ (Array.getElem?_eq_some_iff.1 GEc.out).1).trans GEc.out)
                          have HRQc := hide (HRQc.out.keep hv)
                          clear hv ge GE0 HRG
                          generalize (wr.alloc (.cells #[.string ⟨#[]⟩, .string ⟨#[]⟩, .string ⟨#[]⟩, .string ⟨#[]⟩, .int .i64 0, .int .i64 0, .int .i64 0, .int .i64 0, .int .i64 0, .slice none 0 0, .int .i64 0, .int .i64 0, .int .i64 0, .int .i64 0, .int .i64 0, .int .i64 0, .int .i64 0, .int .i64 0, .int .i64 0, .int .i64 0, .int .i64 0, .int .i64 0, .int .i64 0, .int .i64 0, .int .i64 0] 43)).setCells wr.heap.size 0 [.string f.a1, .string f.a2, .string f.a3, .string f.a4, .int .i64 f.t1, .int .i64 f.t2, .int .i64 f.t3, .int .i64 f.am, .int .i64 f.po, .slice f.p f.n f.c, .int .i64 f.x, .int .i64 f.y, .int .i64 f.z, .int .i64 f.tm, .int .i64 f.mf, .int .i64 f.lw, .int .i64 f.b1, .int .i64 f.b2, .int .i64 f.b3, .int .i64 f.b4, .int .i64 f.b5, .int .i64 f.b6, .int .i64 f.lo, .int .i64 f.hi, .int .i64 f.ct] = V24 at HS4 GF G18c GEc HRQc ⊢
                          generalize wr.heap.size = q24 at GF ⊢
                          have M18 := hide (fun W (h : ∃ p, W = more V24 p) => show W.heap[q18]? = _ from by obtain ⟨q, rfl⟩ := h; exact heap_more G18c.out q)
                          have M20 := hide (fun W (h : ∃ p, W = more V24 p) => show W.heap[q20]? = _ from by obtain ⟨q, rfl⟩ := h; exact heap_more GEc.out q)
                          have M24 := hide (fun W (h : ∃ p, W = more V24 p) => show W.heap[q24]? = _ from by obtain ⟨q, rfl⟩ := h; exact heap_more GF.out q)
                          have QM1 := hide (fun p : More => rule_moved q.L q.di q.ev q.p q.L.length q.c (by omega) e f (by omega) (by omega) (more V24 p) (HRQc.out.keep (below_more V24 p)))
                          have QM2 := hide (fun p : More => rr_moved q.L q.di q.ev q.p q.L.length q.c (by omega) e f hte htf (more V24 p) (HRQc.out.keep (below_more V24 p)))
                          generalize movB q.L q.di q.ev e f = b1 at QM1 QM2
                          clear d d' G18c GEc HRQc GF
                          refine wp_region_grown (by kernel_rfl) (by kernel_rfl) ?_
                          repeat (first
                            | (refine wpQuiet_load_row ?_ 24 (.tmp 18) (by rfl) (q18) (by rfl) 24 #[.slice q.p q.L.length q.c, .int .i64 q.di, .int .i64 q.ev] (0, 0) _ ?_ Try.underlying24 rfl (by kernel_rfl) ?_; (focus rfl); (focus exact M18.out); simp only [Act.put, List.setIfInBounds_toArray, List.set_cons_succ, List.set_cons_zero])
                            | (refine wpQuiet_load_row ?_ 43 (.tmp 20) (by rfl) (q20) (by rfl) 43 #[.string e.a1, .string e.a2, .string e.a3, .string e.a4, .int .i64 e.t1, .int .i64 e.t2, .int .i64 e.t3, .int .i64 e.am, .int .i64 e.po, .slice e.p e.n e.c, .int .i64 e.x, .int .i64 e.y, .int .i64 e.z, .int .i64 e.tm, .int .i64 e.mf, .int .i64 e.lw, .int .i64 e.b1, .int .i64 e.b2, .int .i64 e.b3, .int .i64 e.b4, .int .i64 e.b5, .int .i64 e.b6, .int .i64 e.lo, .int .i64 e.hi, .int .i64 e.ct] (0, 0) _ ?_ Try.underlying43 rfl (by kernel_rfl) ?_; (focus rfl); (focus exact M20.out); simp only [Act.put, List.setIfInBounds_toArray, List.set_cons_succ, List.set_cons_zero])
                            | (refine wpQuiet_load_row ?_ 43 (.tmp 24) (by rfl) (q24) (by rfl) 43 #[.string f.a1, .string f.a2, .string f.a3, .string f.a4, .int .i64 f.t1, .int .i64 f.t2, .int .i64 f.t3, .int .i64 f.am, .int .i64 f.po, .slice f.p f.n f.c, .int .i64 f.x, .int .i64 f.y, .int .i64 f.z, .int .i64 f.tm, .int .i64 f.mf, .int .i64 f.lw, .int .i64 f.b1, .int .i64 f.b2, .int .i64 f.b3, .int .i64 f.b4, .int .i64 f.b5, .int .i64 f.b6, .int .i64 f.lo, .int .i64 f.hi, .int .i64 f.ct] (0, 0) _ ?_ Try.underlying43 rfl (by kernel_rfl) ?_; (focus rfl); (focus exact M24.out); simp only [Act.put, List.setIfInBounds_toArray, List.set_cons_succ, List.set_cons_zero])
                            | go_big_quiet_step ((first | (go_at_call 23; with_reducible exact more_of (QM1.out _)) | (go_at_call 24; with_reducible exact more_of (QM2.out _)))))
                          refine wpQuiet_nil ?_
                          intro w9 hb9
                          have HS4 := hide (HS4.out.below hb9)
                          clear hb9 M18 M20 M24 QM1 QM2
                          go_wp2_with fail
                          go_roundw
                          case rel => exact ⟨k4 + 1, by omega, by go_num, HS4⟩
                          case measure => simp [intOf]; omega
                        · have d : decide ((k4 : Int) < 3) = false := decide_eq_false (by omega)
                          have d' : decide (k4 < 3) = false := decide_eq_false (by omega)
                          have HS2 := hide (HS2.out.trans HS4.out)
                          clear HS4
                          go_wp2_with fail
                          go_roundw
                          case rel => exact ⟨k2 + 1, by omega, by go_num, HS2⟩
                          case measure => simp [intOf]; omega
            · have d : decide ((k2 : Int) < 3) = false := decide_eq_false (by omega)
              have d' : decide (k2 < 3) = false := decide_eq_false (by omega)
              have HS := hide (HS.out.trans HS2.out)
              clear HS2
              go_wp2_with fail
              go_roundw
              case rel => exact ⟨k + 1, by omega, by go_num, HS⟩
              case measure => simp [intOf]; omega
        · have d : decide ((k : Int) < 3) = false := decide_eq_false (by omega)
          have d' : decide (k < 3) = false := decide_eq_false (by omega)
          have HL := hide (show Below W0.heap.size W0 wr from HBW.out.trans (HS.out.src.low.mono HBW.out.size))
          clear HS
          go_wp2_with (go_at_call 8; (with_reducible refine (QAW.out _).mono ?_); rintro en v4 ⟨rfl, hb⟩)
          go_ret
          exact ⟨rfl, HL.out.trans (hb.mono HL.out.size)⟩


end Go.Proofs.Ytlhphhiodckaaaa
