/- The walks of the clock: Valid. -/
import Derived.Test.YtecoemdhnphmdaaClockWalkB
import Derived.LoopTactic
namespace Go.Proofs.Ytecoemdhnphmdaa
open Go.RowKit
set_option linter.unusedVariables false
set_option linter.unusedSimpArgs false
/-- Anchors in memory. -/
def AncRow (w : World) (p : Option Addr) (n : Nat) (A : Nat → Anc) : Prop :=
  n = 0 ∨ ∃ b off : Nat, p = some ⟨b, off, none⟩ ∧ ∀ i, i < n → w.cell? ⟨b, off + i * 3, none⟩ = some (.int .i64 (A i).tag) ∧ w.cell? ⟨b, off + i * 3 + 1, none⟩ = some (.int .i64 (A i).low) ∧ w.cell? ⟨b, off + i * 3 + 2, none⟩ = some (.int .i64 (A i).high)
structure AncL (n : Nat) (A : Nat → Anc) : Prop where
  few : n ≤ 256
  one : ∀ i, i < n → AncT (A i) ∧ (A i).low ≤ (A i).high
  up : ∀ i, 0 < i → i < n → (A (i - 1)).tag < (A i).tag
theorem AncRow.keep {w w' : World} {p : Option Addr} {n : Nat} {A : Nat → Anc} (h : AncRow w p n A) (hb : Below w.heap.size w w') : AncRow w' p n A := by
  rcases h with h | ⟨b, off, rfl, h⟩
  · exact .inl h
  · refine .inr ⟨b, off, rfl, fun i hi => ?_⟩
    obtain ⟨h1, h2, h3⟩ := h i hi
    exact ⟨by rw [hb.cell (block_lt_of_cell h1)]; exact h1, by rw [hb.cell (block_lt_of_cell h2)]; exact h2, by rw [hb.cell (block_lt_of_cell h3)]; exact h3⟩
set_option maxHeartbeats 4000000 in
set_option maxRecDepth 100000 in
theorem valid_ok (A : Nat → Anc) (n : Nat) (p : Option Addr) (cap : Nat) (x : Int) (hL : AncL n A) (hx : 0 ≤ x ∧ x ≤ 500000) (w : World) (hr : AncRow w p n A) :
    Calls Try.prog 26 #[.slice p n cap, .int .i64 x] w fun e w' => e = .returned (.bool true) ∧ Below w.heap.size w w' := by
  have HL := hide hL
  have HR := hide hr
  have hn : n ≤ 256 := hL.few
  have dn : decide ((n : Int) ≤ 256) = true := by simp; omega
  have HX := hide hx
  clear hL hr hx
  go_enter Try.func26, Try.ntmps26
  go_wp2_with fail
  go_loopw [9] (fun i wr => ∃ k : Nat, k ≤ n ∧ i = .int .i64 k ∧ Below w.heap.size w wr) (fun i _ => n - (intOf i).toNat)
  case atStart => exact ⟨0, Nat.zero_le _, rfl, Below.refl _ _⟩
  case round =>
    obtain ⟨k, hk, rfl, hb⟩ := hrel
    by_cases hlt : k < n
    · rcases HR.out with h0 | ⟨b, off, rfl, hc⟩
      · omega
      · obtain ⟨c0, c1, c2⟩ := hc k hlt
        have c0' : wr.cell? ⟨b, off + k * 3, none⟩ = some (.int .i64 (A k).tag) := by rw [hb.cell (block_lt_of_cell c0)]; exact c0
        have c1' : wr.cell? ⟨b, off + k * 3 + 1, none⟩ = some (.int .i64 (A k).low) := by rw [hb.cell (block_lt_of_cell c1)]; exact c1
        have c2' : wr.cell? ⟨b, off + k * 3 + 2, none⟩ = some (.int .i64 (A k).high) := by rw [hb.cell (block_lt_of_cell c2)]; exact c2
        clear c0 c1 c2
        obtain ⟨⟨t0, t1, l0, l1, h0, h1⟩, lh⟩ := HL.out.one k hlt
        have hup := HL.out.up k
        generalize (A k).tag = tg at *
        generalize (A k).low = lo at *
        generalize (A k).high = hi at *
        have d1 : decide (hi < lo) = false := by simp; omega
        have HU := hide hup
        have HC := hide hc
        clear hc hup
        go_wp2_with fail
        obtain ⟨b0, b1, b2⟩ := tri_cells (heap_alloc_new wr (.cells #[.int .i64 tg, .int .i64 lo, .int .i64 hi] 34))
        have c9 := fun i (hi : i < n) => (HC.out i hi).1
        have hW := hb.alloc hb.size (.cells #[.int .i64 tg, .int .i64 lo, .int .i64 hi] 34)
        generalize wr.alloc (.cells #[.int .i64 tg, .int .i64 lo, .int .i64 hi] 34) = W at *
        have k0 := fun q : More => cell_more b0 q
        have k1 := fun q : More => cell_more b1 q
        have k2 := fun q : More => cell_more b2 q
        clear b0 b1 b2 c0' c1' c2'
        have HB := hide hb
        have HW := hide hW
        have HC9 := hide c9
        clear c9 hb hW
        by_cases hk0 : k = 0
        · subst hk0
          clear HU
          refine wp_region_grown (by kernel_rfl) (by kernel_rfl) ?_
          repeat (go_big_quiet_step ((go_at_call 35; exact more_of_same (clk_time_yes _ (by omega) _))))
          refine wpQuiet_nil ?_
          intro w2 hb2
          go_wp2
          go_roundw
          case rel => exact ⟨1, by omega, by simp, HW.out.trans (hb2.mono HW.out.size)⟩
          case measure => simp [intOf]; omega
        · obtain ⟨j, rfl⟩ : ∃ j, k = j + 1 := ⟨k - 1, by omega⟩
          have c9 := HC9.out j (by omega)
          have h9 := HU.out (by omega) hlt
          rw [show j + 1 - 1 = j by omega] at h9
          have c9' : W.cell? ⟨b, off + j * 3, none⟩ = some (.int .i64 (A j).tag) := by rw [HW.out.cell (block_lt_of_cell c9)]; exact c9
          have k9 := fun q : More => cell_more c9' q
          generalize (A j).tag = tj at *
          have d2 : decide (tg ≤ tj) = false := by simp; omega
          have hj0 : (((j + 1 : Nat) : Int) - 1) = (j : Int) := by omega
          have hj1 : ((j : Int) + 1 - 1) = (j : Int) := by omega
          have hj2 : decide ((0 : Int) < ((j + 1 : Nat) : Int)) = true := by simp <;> omega
          have hj3 : decide ((0 : Int) < (j : Int) + 1) = true := by simp <;> omega
          have hj4 : (j : Int) < (n : Int) := by omega
          clear c9 c9' h9 HU HC9
          refine wp_region_grown (by kernel_rfl) (by kernel_rfl) ?_
          repeat (go_big_quiet_step ((go_at_call 35; exact more_of_same (clk_time_yes _ (by omega) _))))
          refine wpQuiet_nil ?_
          intro w2 hb2
          go_wp2
          go_roundw
          case rel => exact ⟨j + 2, by omega, by go_num, HW.out.trans (hb2.mono HW.out.size)⟩
          case measure => simp [intOf]; omega
    · have he : k = n := by omega
      subst he
      have HB := hide hb
      go_wp2_with (go_at_call 39; (with_reducible refine (clk_in_yes _ _ _ HX.out _).mono ?_); rintro e w1 ⟨rfl, rfl⟩)
      go_ret
      exact ⟨rfl, HB.out⟩
end Go.Proofs.Ytecoemdhnphmdaa
