/- The walk of the statements' examples. -/
import Derived.Test.YtecoemdhnphmdaaClockWalkG
namespace Go.Proofs.Ytecoemdhnphmdaa
open Go.RowKit
set_option linter.unusedVariables false
set_option linter.unusedSimpArgs false
theorem AncRow.blk {w : World} {g n : Nat} {cs : Array Value} {T : TypeId} {fr : Nat × Nat} {A : Nat → Anc} (h : w.heap[g]? = some (.cells cs T fr))
    (hc : ∀ i, i < n → cs[i * 3]? = some (.int .i64 (A i).tag) ∧ cs[i * 3 + 1]? = some (.int .i64 (A i).low) ∧ cs[i * 3 + 2]? = some (.int .i64 (A i).high)) : AncRow w (some ⟨g, 0, none⟩) n A :=
  .inr ⟨g, 0, rfl, fun i hi => by
    obtain ⟨h1, h2, h3⟩ := hc i hi
    exact ⟨by rw [cell_of_row _ _ _ _ _ _ h, Nat.zero_add]; exact h1, by rw [cell_of_row _ _ _ _ _ _ h, Nat.zero_add]; exact h2, by rw [cell_of_row _ _ _ _ _ _ h, Nat.zero_add]; exact h3⟩⟩
theorem NatRow.cell0 {w : World} {a : Option Addr} {m j : Nat} {J : List Nat} (h : NatRow w a m (j :: J)) : ∃ b off : Nat, a = some ⟨b, off, none⟩ ∧ w.cell? ⟨b, off, none⟩ = some (.int .i64 (j : Int)) := by
  obtain ⟨rfl, h | ⟨b, off, rfl, h⟩⟩ := h
  · simp at h
  · exact ⟨b, off, rfl, h 0 (by simp)⟩
def exA : Nat → Anc := fun _ => ⟨1000, 5000, 5010⟩
def exB : Nat → Anc := fun i => if i = 0 then ⟨0, 0, 0⟩ else ⟨1000, 5000, 5000⟩
theorem exA_ok : AncL 1 exA := ⟨by omega, fun i hi => by unfold exA AncT; simp, fun i h1 h2 => by omega⟩
theorem exB_ok : AncL 2 exB := by
  refine ⟨by omega, fun i hi => ?_, fun i h1 h2 => ?_⟩
  · have : i = 0 ∨ i = 1 := by omega
    rcases this with rfl | rfl <;> (unfold exB AncT; simp)
  · have : i = 1 := by omega
    subst this
    unfold exB; simp
set_option maxHeartbeats 4000000 in
set_option maxRecDepth 100000 in
theorem clock_sane (w : World) : Calls Try.prog 11 #[] w fun e w' => e = .returned (.bool true) ∧ Below w.heap.size w w' := by
  have q1 := correct_ok exA 1 (some ⟨w.heap.size, 0, none⟩) 1 0 1100 exA_ok (by omega) (by omega) (by omega) (by omega) (by omega) (w.alloc (.cells #[.int .i64 1000, .int .i64 5000, .int .i64 5010] 34)) (AncRow.blk (heap_alloc_new _ _) (fun i hi => by
    have : i = 0 := by omega
    subst this; exact ⟨rfl, rfl, rfl⟩))
  rw [show corT exA 1 0 1100 = 5105 by decide +kernel, show corO exA 1 0 1100 = 5 by decide +kernel, show corE exA 1 0 1100 = 0 by decide +kernel] at q1
  have rowB : ∀ W : World, ∀ g, W.heap[g]? = some (.cells #[.int .i64 0, .int .i64 0, .int .i64 0, .int .i64 1000, .int .i64 5000, .int .i64 5000] 34 (0, 0)) → AncRow W (some ⟨g, 0, none⟩) 2 exB := fun W g h => AncRow.blk h (fun i hi => by
    have : i = 0 ∨ i = 1 := by omega
    rcases this with rfl | rfl <;> exact ⟨rfl, rfl, rfl⟩)
  have q2 : ∀ W : World, ∀ g, W.heap[g]? = some (.cells #[.int .i64 0, .int .i64 0, .int .i64 0, .int .i64 1000, .int .i64 5000, .int .i64 5000] 34 (0, 0)) → Calls Try.prog 15 #[.slice (some ⟨g, 0, none⟩) 2 2, .int .i64 0, .int .i64 500] W fun e w' => e = .returned (.tuple #[.int .i64 2500, .int .i64 2000, .int .i64 0]) ∧ Below W.heap.size W w' := fun W g h => by
    have q := correct_ok exB 2 (some ⟨g, 0, none⟩) 2 0 500 exB_ok (by omega) (by omega) (by omega) (by omega) (by omega) W (rowB W g h)
    rw [show corT exB 2 0 500 = 2500 by decide +kernel, show corO exB 2 0 500 = 2000 by decide +kernel, show corE exB 2 0 500 = 0 by decide +kernel] at q
    exact q
  have q3 : ∀ W : World, ∀ g, W.heap[g]? = some (.cells #[.int .i64 0, .int .i64 0, .int .i64 0, .int .i64 1000, .int .i64 5000, .int .i64 5000] 34 (0, 0)) → Calls Try.prog 16 #[.slice (some ⟨g, 0, none⟩) 2 2, .int .i64 0] W fun e w' => (∃ a c, e = .returned (.tuple #[.slice a 1 c, .int .i64 0]) ∧ NatRow w' a 1 [1]) ∧ Below W.heap.size W w' := fun W g h => by
    have q := jumps_ok exB 2 (some ⟨g, 0, none⟩) 2 0 exB_ok (by omega) W (rowB W g h)
    rw [show jumpsF exB 0 2 = [1] by decide +kernel] at q
    exact q
  have Q1 := hide q1
  have Q2 := hide q2
  have Q3 := hide q3
  clear q1 q2 q3 rowB
  go_enter Try.func11, Try.ntmps11
  go_wp2_with (first
    | (go_at_call 15; (with_reducible refine (Q1.out).mono ?_); rintro ee w1 ⟨rfl, hb⟩; (have HB := hide ((below1 _).trans (hb.mono (by simp)))); clear hb)
    | (go_at_call 15; (with_reducible refine (Q2.out _ _ ?_).mono ?_); (focus exact heap_alloc_new _ _); rintro ee w2 ⟨rfl, hb⟩; (have HB2 := hide ((HB.out.alloc HB.out.size _).trans (hb.mono (by have := HB.out.size; simp; omega)))); (have H2 := hide ((hb.block _ (by simp)).trans (heap_alloc_new w1 _))); clear hb)
    | (go_at_call 16; (with_reducible refine (Q3.out _ _ ?_).mono ?_); (focus exact H2.out); rintro ee w3 ⟨⟨a, c, rfl, hj⟩, hb⟩; (have HB3 := hide (HB2.out.trans (hb.mono HB2.out.size))); (obtain ⟨b, off, rfl, x0⟩ := hj.cell0); clear hb hj))
  go_ret
  exact ⟨rfl, HB3.out⟩
end Go.Proofs.Ytecoemdhnphmdaa
