/- Natural numbers: NatExact as a call. -/
import Derived.Test.YtlpebecbipjoaaaGreatDoorNeE
namespace Go.Proofs.YtlpebecbipjoaaaGreatDoor
open Go.RowKit
set_option linter.unusedVariables false
/-- NatExact returns true. -/
theorem nat_exact (a : Option Addr) (len cap : Nat) (b : Option Addr) (len2 cap2 : Nat) (n x : Int) (s : ByteArray) (W : World) (w : IntsIn W (.slice a len cap)) (w2 : IntsIn W (.slice b len2 cap2)) (hn : -9223372036854775808 ≤ n ∧ n ≤ 9223372036854775807) (hx : -9223372036854775808 ≤ x ∧ x ≤ 9223372036854775807) (hs : s.size ≤ 140737488351232) (hgl : GlOk (memOf W) W [] (InT sig0 [])) : Calls Tryz.prog 3 #[.slice a len cap, .slice b len2 cap2, .int .i64 n, .int .i64 x, .string s] W fun e w' => e = .returned (.bool true) ∧ Below W.heap.size W w' := by
  obtain ⟨xs, hb, hl, hr⟩ := w
  obtain ⟨raw, hb2, hl2, hr2⟩ := w2
  have es : BB s.data.toList = s := rfl
  have law := exact_law (xs := xs) (raw := raw) hb (n := n) (x := x) hx s.data.toList
  rw [es] at law
  refine CallOk.calls ((F3_e 600).ok (rowsI xs, rowsI raw, n, x, s) true law) W _ rfl (fun i h h' => ?_) hgl
  rcases (show i = 0 ∨ i = 1 ∨ i = 2 ∨ i = 3 ∨ i = 4 by have : i < 5 := h'; omega) with rfl | rfl | rfl | rfl | rfl
  · exact hr _ _
  · exact hr2 _ _
  · exact .v
  · exact .v
  · exact .v
end Go.Proofs.YtlpebecbipjoaaaGreatDoor
