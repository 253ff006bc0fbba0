/- Utc: UtcTables as a call. -/
import Derived.Test.YtaanjciokdpkmaaDoorUtJ
namespace Go.Proofs.YtaanjciokdpkmaaDoor
open Go.RowKit
set_option linter.unusedVariables false
/-- UtcTables returns true. -/
theorem utc_tables (a : Option Addr) (len cap : Nat) (n : Int) (W : World) (w : IntsIn W (.slice a len cap)) (hn : 0 ≤ n ∧ n ≤ 4294967295) (hgl : GlOk (memOf W) W [] (InT sig0 [])) : Calls Tryd.prog 5 #[.slice a len cap, .int .u32 n] W fun e w' => e = .returned (.bool true) ∧ Below W.heap.size W w' := by
  obtain ⟨xs, hb, hl, hr⟩ := w
  refine CallOk.calls ((F5_e 600).ok (rowsI xs, n) true (tables_law hb hn)) W _ rfl (fun i h h' => ?_) hgl
  rcases (show i = 0 ∨ i = 1 by have : i < 2 := h'; omega) with rfl | rfl
  · exact hr _ _
  · exact .v
end Go.Proofs.YtaanjciokdpkmaaDoor
