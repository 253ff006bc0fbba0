/- Detectors and watches that came in. -/
import Derived.Test.YtaiadjadgpgnmaaLeaf
import Derived.Test.YtaiadjadgpgnmaaSymY
namespace Go.Proofs.Ytaiadjadgpgnmaa
open Go.ChangeShapes Go.WideShapes Go.ChangeAt Go.RowKit Go.Deep
set_option linter.unusedVariables false
section
variable {H : Type} {enc : TypeId × Value → H} {w : World}
theorem cell_spot {P : Program} {r : Reach} {base : Nat} {t u e : TypeId} {fs : Array Field} {ts : List TypeId} {cs : Array Value} (hs : P.underlying t = some (.struct fs)) (hT : P.cellTypes P.depth t = some ts) (hn : P.cellsOf t = ts.length) (hv : Value.okWide P w r base t (.agg cs)) (i : Nat) (hi : ts[i]? = some u) (hu : P.underlying u = some (.slice e)) {a : Addr} {l c : Nat} (hc : cs[i]? = some (.slice (some a) l c)) : a.spot = none := by
  simp only [Value.okWide, hs] at hv
  obtain ⟨cs', h1, h2, ts', h3, -, h5⟩ := hv
  obtain rfl : cs = cs' := by injection h1
  obtain rfl : ts = ts' := by rw [hT] at h3; injection h3
  obtain ⟨u', h6, h7⟩ := h5 i _ hc
  have hlt : i < ts.length := (List.getElem?_eq_some_iff.1 hi).1
  rw [Nat.mod_eq_of_lt hlt, hi] at h6
  obtain rfl : u = u' := by injection h6
  simp [hu, Cell.okWide, Cell.ok, World.has] at h7
  exact h7.2.2.2.1
theorem sl_ints {P : Program} {t e : TypeId} {fuel : Nat} {v : Value} {x : DataW H × List MemPlace} (ht : P.underlying t = some (.slice e)) (he : P.underlying e = some (.int .i64)) (hc : P.cellsOf e = 1) (h : DataW.trod enc P w 0 (fun _ => true) true fuel t [v] = some x) (hs : ∀ a l c, v = .slice (some a) l c → a.spot = none) : IntsIn w v := by
  rcases open_ints ht he hc h with ⟨hcs, _⟩ | ⟨x, l, c, zs, hcs, _, hl, hm, hz, _, hcell, hwz⟩
  · injection hcs with hcs _
    subst hcs
    exact ints_nil w
  · injection hcs with hcs _
    subst hcs
    have hz2 : zs.length = c := by simpa using hz
    exact ints_of (zs := zs) (hs _ _ _ rfl) (by omega) (by omega) hm hcell hwz
structure Dt4 where
  s : Int
  l : Int
  a : Int
  b : Int
structure Wt9 where
  d : Dt4
  past : Value
  c : Int
  o : Int
  f : Int
  p : Int
theorem det_in {b0 : Nat} {v : Value} {d : DataW H} {p : List MemPlace} (hv : Value.okWide Try.prog w .any b0 28 v) (h : DataW.Trod enc Try.prog w 0 (fun _ => true) true 28 v d p) :
    ∃ r : Dt4, v = .agg #[.int .i64 r.s, .int .i64 r.l, .int .i64 r.a, .int .i64 r.b] := by
  obtain ⟨cs, rfl, h0⟩ := agg_in (n := 3) (ls := [.int .i64, .int .i64, .int .i64, .int .i64]) Try.underlying28 (by kernel_rfl) hv h
  obtain ⟨v0, s0, rfl, k0, h1⟩ := AllOk.cons h0
  obtain ⟨v1, s1, rfl, k1, h2⟩ := AllOk.cons h1
  obtain ⟨v2, s2, rfl, k2, h3⟩ := AllOk.cons h2
  obtain ⟨v3, s3, rfl, k3, h4⟩ := AllOk.cons h3
  obtain rfl := AllOk.nil h4
  obtain ⟨x0, rfl, -⟩ := k0
  obtain ⟨x1, rfl, -⟩ := k1
  obtain ⟨x2, rfl, -⟩ := k2
  obtain ⟨x3, rfl, -⟩ := k3
  exact ⟨⟨x0, x1, x2, x3⟩, rfl⟩
theorem watch_in {b0 : Nat} {v : Value} {d : DataW H} {p : List MemPlace} (hv : Value.okWide Try.prog w .any b0 46 v) (h : DataW.Trod enc Try.prog w 0 (fun _ => true) true 46 v d p) :
    ∃ r : Wt9, v = .agg #[.int .i64 r.d.s, .int .i64 r.d.l, .int .i64 r.d.a, .int .i64 r.d.b, r.past, .int .i64 r.c, .int .i64 r.o, .int .i64 r.f, .int .i64 r.p] ∧ IntsIn w r.past ∧ r.past.oneCell' = true := by
  obtain ⟨cs, rfl, h0⟩ := agg_in (n := 4) (ls := [.int .i64, .int .i64, .int .i64, .int .i64, .sl 22, .int .i64, .int .i64, .int .i64, .int .i64]) Try.underlying46 (by kernel_rfl) hv h
  obtain ⟨v0, s0, rfl, k0, h1⟩ := AllOk.cons h0
  obtain ⟨v1, s1, rfl, k1, h2⟩ := AllOk.cons h1
  obtain ⟨v2, s2, rfl, k2, h3⟩ := AllOk.cons h2
  obtain ⟨v3, s3, rfl, k3, h4⟩ := AllOk.cons h3
  obtain ⟨v4, s4, rfl, k4, h5⟩ := AllOk.cons h4
  obtain ⟨v5, s5, rfl, k5, h6⟩ := AllOk.cons h5
  obtain ⟨v6, s6, rfl, k6, h7⟩ := AllOk.cons h6
  obtain ⟨v7, s7, rfl, k7, h8⟩ := AllOk.cons h7
  obtain ⟨v8, s8, rfl, k8, h9⟩ := AllOk.cons h8
  obtain rfl := AllOk.nil h9
  obtain ⟨x0, rfl, -⟩ := k0
  obtain ⟨x1, rfl, -⟩ := k1
  obtain ⟨x2, rfl, -⟩ := k2
  obtain ⟨x3, rfl, -⟩ := k3
  obtain ⟨x5, rfl, -⟩ := k5
  obtain ⟨x6, rfl, -⟩ := k6
  obtain ⟨x7, rfl, -⟩ := k7
  obtain ⟨x8, rfl, -⟩ := k8
  obtain ⟨n, y, hy⟩ := k4
  have hin := sl_ints Try.underlying22 Try.underlying3 (by kernel_rfl) hy (fun a l c hvc => by
    subst hvc
    exact cell_spot (ts := [3, 3, 3, 3, 22, 3, 3, 3, 3]) Try.underlying46 (by kernel_rfl) (by kernel_rfl) hv 4 rfl Try.underlying22 rfl)
  refine ⟨⟨⟨x0, x1, x2, x3⟩, v4, x5, x6, x7, x8⟩, rfl, hin, ?_⟩
  rcases DataW.trod_slice Try.underlying22 hy with ⟨hcs, -⟩ | ⟨a, len, cap, el, re, m, -, hcs, -⟩
  · injection hcs with hcs _
    subst hcs; rfl
  · injection hcs with hcs _
    subst hcs; rfl
end
end Go.Proofs.Ytaiadjadgpgnmaa
