/- The walk of the references' range test. -/
import Derived.Test.YtmhbncpiloffgaaProg
import Derived.Test.YtmhbncpiloffgaaLib
namespace Go.Proofs.Ytmhbncpiloffgaa
open Go.RowKit
theorem utc_in_yes (n low high : Int) (h : low ≤ n ∧ n ≤ high) (w : World) :
    Calls Try.prog 39 #[.int .i64 n, .int .i64 low, .int .i64 high] w fun e w' => e = .returned (.bool true) ∧ w = w' := by
  obtain ⟨h1, h2⟩ := h
  go_enter Try.func39, Try.ntmps39
  go_wp2
  go_ret
  exact ⟨rfl, rfl⟩
theorem utc_in_no (n low high : Int) (h : n < low ∨ high < n) (w : World) :
    Calls Try.prog 39 #[.int .i64 n, .int .i64 low, .int .i64 high] w fun e w' => e = .returned (.bool false) ∧ w = w' := by
  by_cases h1 : n < low
  · clear h
    go_enter Try.func39, Try.ntmps39
    go_wp2
    go_ret
    exact ⟨rfl, rfl⟩
  · have h2 : high < n := by omega
    have h3 : low ≤ n := by omega
    have d : decide (n ≤ high) = false := by simp; omega
    clear h h1
    go_enter Try.func39, Try.ntmps39
    go_wp2
    go_ret
    exact ⟨rfl, rfl⟩
end Go.Proofs.Ytmhbncpiloffgaa
