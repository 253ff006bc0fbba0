/- Rates that came in: their cells. -/
import Derived.Test.YtmhbncpiloffgaaLeaf
namespace Go.Proofs.Ytmhbncpiloffgaa
open Go.ChangeShapes Go.WideShapes Go.ChangeAt Go.RowKit Go.Deep
section
variable {H : Type} {enc : TypeId × Value → H} {w : World}
structure Rt where
  n : Int
  d : Int
theorem rate_in {b0 : Nat} {v : Value} {d : DataW H} {p : List MemPlace} (hv : Value.okWide Try.prog w .any b0 27 v) (h : DataW.Trod enc Try.prog w 0 (fun _ => true) true 27 v d p) :
    ∃ r : Rt, v = .agg #[.int .i64 r.n, .int .i64 r.d] := by
  obtain ⟨cs, rfl, h0⟩ := agg_in (n := 3) (ls := [.int .i64, .int .i64]) Try.underlying27 (by kernel_rfl) hv h
  obtain ⟨v0, s0, rfl, k0, h1⟩ := AllOk.cons h0
  obtain ⟨v1, s1, rfl, k1, h2⟩ := AllOk.cons h1
  obtain rfl := AllOk.nil h2
  obtain ⟨x0, rfl, -⟩ := k0
  obtain ⟨x1, rfl, -⟩ := k1
  exact ⟨⟨x0, x1⟩, rfl⟩
end
end Go.Proofs.Ytmhbncpiloffgaa
