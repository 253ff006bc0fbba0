/- Natural numbers: NatAlgebra and NatFractions as calls. -/
import Derived.Test.YtlpebecbipjoaaaDoorNaI
namespace Go.Proofs.YtlpebecbipjoaaaDoor
open Go.RowKit
set_option linter.unusedVariables false
/-- NatAlgebra returns true. -/
theorem nat_algebra (a : Option Addr) (len cap : Nat) (n : Int) (W : World) (w : IntsIn W (.slice a len cap)) (hn : 0 ≤ n ∧ n ≤ 65535) (hgl : GlOk (memOf W) W [] (InT sig0 [])) : Calls Tryd.prog 5 #[.slice a len cap, .int .u16 n] W fun e w' => e = .returned (.bool true) ∧ Below W.heap.size W w' := by
  obtain ⟨xs, hb, hl, hr⟩ := w
  refine CallOk.calls ((F5_e 600).ok (rowsI xs, n) true (algebra_law hb hn)) W _ rfl (fun i h h' => ?_) hgl
  rcases (show i = 0 ∨ i = 1 by have : i < 2 := h'; omega) with rfl | rfl
  · exact hr _ _
  · exact .v
/-- NatFractions returns true. -/
theorem nat_fractions (a : Option Addr) (len cap : Nat) (n : Int) (W : World) (w : IntsIn W (.slice a len cap)) (hn : 0 ≤ n ∧ n ≤ 65535) (hgl : GlOk (memOf W) W [] (InT sig0 [])) : Calls Tryd.prog 4 #[.slice a len cap, .int .u16 n] W fun e w' => e = .returned (.bool true) ∧ Below W.heap.size W w' := by
  obtain ⟨xs, hb, hl, hr⟩ := w
  refine CallOk.calls ((F4_e 600).ok (rowsI xs, n) true (fractions_law hb hn)) W _ rfl (fun i h h' => ?_) hgl
  rcases (show i = 0 ∨ i = 1 by have : i < 2 := h'; omega) with rfl | rfl
  · exact hr _ _
  · exact .v
end Go.Proofs.YtlpebecbipjoaaaDoor
