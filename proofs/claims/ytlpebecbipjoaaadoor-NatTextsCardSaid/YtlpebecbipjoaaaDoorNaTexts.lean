/- Natural numbers: NatTexts as a call. -/
import Derived.Test.YtlpebecbipjoaaaDoorNaH
namespace Go.Proofs.YtlpebecbipjoaaaDoor
open Go.RowKit
set_option linter.unusedVariables false
/-- NatTexts returns true. -/
theorem nat_texts (a : Option Addr) (len cap : Nat) (W : World) (w : IntsIn W (.slice a len cap)) (hgl : GlOk (memOf W) W [] (InT sig0 [])) : Calls Tryd.prog 3 #[.slice a len cap] W fun e w' => e = .returned (.bool true) ∧ Below W.heap.size W w' := by
  obtain ⟨xs, hb, hl, hr⟩ := w
  refine CallOk.calls ((F3_e 600).ok (rowsI xs) true (texts_law hb)) W _ rfl (fun i h h' => ?_) hgl
  obtain rfl : i = 0 := by have : i < 1 := h'; omega
  exact hr _ _
end Go.Proofs.YtlpebecbipjoaaaDoor
