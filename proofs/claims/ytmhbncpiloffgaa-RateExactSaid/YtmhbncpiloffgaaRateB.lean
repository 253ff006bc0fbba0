/- The walks of micros, after, ceil, upto, check, Time, Index, Next, Number, for rates that are valid. -/
import Derived.Test.YtmhbncpiloffgaaRateWalk
namespace Go.Proofs.Ytmhbncpiloffgaa
open Go.RowKit
set_option linter.unusedVariables false

theorem box_cell0 (w : World) (x y : Value) (t : TypeId) (p : More) : (more (w.alloc (.cells #[x, y] t)) p).cell? ⟨w.heap.size, 0, none⟩ = some x := by
  apply cell_more; rw [cell_of_row _ _ _ _ _ _ (heap_alloc_new w _)]; rfl
theorem box_cell1 (w : World) (x y : Value) (t : TypeId) (p : More) : (more (w.alloc (.cells #[x, y] t)) p).cell? ⟨w.heap.size, 1, none⟩ = some y := by
  apply cell_more; rw [cell_of_row _ _ _ _ _ _ (heap_alloc_new w _)]; rfl
theorem rate_micros (n d : Nat) (hd : d ≤ 4096) (w : World) :
    Calls Try.prog 37 #[.agg #[.int .i64 n, .int .i64 d]] w fun e w' => e = .returned (.int .i64 (d * 1000000 : Nat)) ∧ Below w.heap.size w w' := by
  obtain ⟨p, hp⟩ : ∃ p : Nat, d * 1000000 = p := ⟨_, rfl⟩
  have e : (d : Int) * 1000000 = (p : Int) := by omega
  have hp2 : p ≤ 4096000000 := by omega
  rw [hp]
  clear hp
  go_enter Try.func37, Try.ntmps37
  go_wp2
  go_ret
  exact ⟨rfl, below1 _⟩

def afterN (n d k : Nat) : Nat := k * (d * 1000000) / n
theorem rate_after (n d k : Nat) (hn : 1 ≤ n) (hn2 : n ≤ 4096) (hd : d ≤ 4096) (hk : k ≤ 16777217) (w : World) :
    Calls Try.prog 32 #[.agg #[.int .i64 n, .int .i64 d], .int .i64 k] w fun e w' => e = .returned (.int .i64 (afterN n d k)) ∧ Below w.heap.size w w' := by
  have q := fun w => rate_micros n d hd w
  obtain ⟨p, hp⟩ : ∃ p : Nat, d * 1000000 = p := ⟨_, rfl⟩
  have hp2 : p ≤ 4096000000 := by omega
  obtain ⟨m, hm⟩ : ∃ m : Nat, k * p = m := ⟨_, rfl⟩
  have hm2 : m ≤ 16777217 * 4096000000 := by rw [← hm]; exact Nat.mul_le_mul hk hp2
  have e1 : (k : Int) * (p : Int) = (m : Int) := by rw [← hm]; exact (Int.natCast_mul k p).symm
  obtain ⟨t, ht⟩ : ∃ t : Nat, m / n = t := ⟨_, rfl⟩
  have e2 : (m : Int) / (n : Int) = (t : Int) := by rw [← ht]; rfl
  have e3 : afterN n d k = t := by unfold afterN; rw [hp, hm, ht]
  rw [e3]
  rw [hp] at q
  have Q := hide q
  have hn0 : (n : Int) ≠ 0 := by omega
  have ht2 : t ≤ m := by rw [← ht]; exact Nat.div_le_self _ _
  have b0 := box_cell0 w (.int .i64 n) (.int .i64 d) 27
  have b1 := box_cell1 w (.int .i64 n) (.int .i64 d) 27
  clear q hp hm ht e3
  go_enter Try.func32, Try.ntmps32
  go_wp2
  refine wp_region_grown (by kernel_rfl) (by kernel_rfl) ?_
  repeat (go_big_quiet_step ((go_at_call 37; exact more_of (Q.out _))))
  refine wpQuiet_nil ?_
  intro w2 hb2
  go_wp2
  go_ret
  exact ⟨rfl, (below1 _).trans (hb2.mono (by simp))⟩
end Go.Proofs.Ytmhbncpiloffgaa
