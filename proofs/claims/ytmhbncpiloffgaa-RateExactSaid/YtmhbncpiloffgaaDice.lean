/- The walks of the statements' dice: Light, Roll, Next. -/
import Derived.Test.YtmhbncpiloffgaaProg
import Derived.Test.YtmhbncpiloffgaaLib
import Derived.Test.YtmhbncpiloffgaaLibQ
namespace Go.Proofs.Ytmhbncpiloffgaa
open Go.RowKit
set_option linter.unusedVariables false

/-- A slice of ints that came in: its cells. -/
def IntRow (w : World) (a : Option Addr) (len : Nat) : Prop :=
  len ≤ 9223372036854775807 ∧ (len = 0 ∨ ∃ b off : Nat, a = some ⟨b, off, none⟩ ∧ ∀ i, i < len → ∃ x : Int, w.cell? ⟨b, off + i, none⟩ = some (.int .i64 x) ∧ -9223372036854775808 ≤ x ∧ x ≤ 9223372036854775807)
/-- The dice in block g: its list came in with the world W. -/
structure Die (W : World) (a : Option Addr) (len cap g : Nat) (w : World) : Prop where
  row : IntRow W a len
  big : W.heap.size ≤ g
  low : Below W.heap.size W w
  spot : ∃ i : Nat, i ≤ len ∧ w.heap[g]? = some (.cells #[.slice a len cap, .int .i64 i] 50 (0, 0))
/-- What a call that rolls leaves as it was: all but the dice. -/
structure Rolls (g : Nat) (w w' : World) : Prop where
  size : w.heap.size ≤ w'.heap.size
  block : ∀ k, k < w.heap.size → k ≠ g → w'.heap[k]? = w.heap[k]?
theorem Rolls.refl (g : Nat) (w : World) : Rolls g w w := ⟨Nat.le_refl _, fun _ _ _ => rfl⟩
theorem Rolls.trans {g : Nat} {a b c : World} (h : Rolls g a b) (k : Rolls g b c) : Rolls g a c :=
  ⟨Nat.le_trans h.size k.size, fun i hi hg => (k.block i (Nat.lt_of_lt_of_le hi h.size) hg).trans (h.block i hi hg)⟩
theorem Rolls.of_below {g : Nat} {w w' : World} (h : Below w.heap.size w w') : Rolls g w w' := ⟨h.size, fun k hk _ => h.block k hk⟩
/-- The dice stay in a call that only makes memory. -/
theorem Die.keep {W : World} {a : Option Addr} {len cap g : Nat} {w w' : World} (h : Die W a len cap g w) (hb : Below w.heap.size w w') : Die W a len cap g w' := by
  obtain ⟨i, h1, h2⟩ := h.spot
  exact ⟨h.row, h.big, h.low.trans (hb.mono h.low.size), i, h1, (hb.block g (Array.getElem?_eq_some_iff.1 h2).1).trans h2⟩
theorem die_pair {w : World} {g : Nat} {x y : Value} {t : TypeId} (h : w.heap[g]? = some (.cells #[x, y] t (0, 0))) :
    w.cell? ⟨g, 0, none⟩ = some x ∧ w.cell? ⟨g, 1, none⟩ = some y ∧ w.frozen? ⟨g, 0, none⟩ = false ∧ w.frozen? ⟨g, 1, none⟩ = false :=
  ⟨by rw [cell_of_row _ _ _ _ _ _ h]; rfl, by rw [cell_of_row _ _ _ _ _ _ h]; rfl, frozen_of_row _ _ _ _ _ h, frozen_of_row _ _ _ _ _ h⟩

theorem made_light (a : Option Addr) (len cap : Nat) (hl : len ≤ 9223372036854775807) (w : World) :
    Calls Try.prog 8 #[.slice a len cap] w fun e w' => e = .returned (.bool (decide (len ≤ 500))) ∧ w = w' := by
  by_cases h : len ≤ 500
  · have d : decide ((len : Int) ≤ 500) = true := by simp; omega
    have r := hide (decide_eq_true h)
    go_enter Try.func8, Try.ntmps8
    go_wp2
    go_ret
    exact ⟨by rw [r.out]; rfl, rfl⟩
  · have d : decide ((len : Int) ≤ 500) = false := by simp; omega
    have r := hide (decide_eq_false h)
    clear h
    go_enter Try.func8, Try.ntmps8
    go_wp2
    go_ret
    exact ⟨by rw [r.out]; rfl, rfl⟩

theorem made_roll (a : Option Addr) (len cap : Nat) (w : World) (hr : IntRow w a len) :
    Calls Try.prog 10 #[.slice a len cap] w fun e w' => e = .returned (.pointer (some ⟨w.heap.size, 0, none⟩)) ∧ Die w a len cap w.heap.size w' := by
  go_enter Try.func10, Try.ntmps10
  go_wp2
  go_ret
  exact ⟨rfl, hr, Nat.le_refl _, below1 _, 0, Nat.zero_le _, heap_alloc_new _ _⟩

theorem made_next (W : World) (a : Option Addr) (len cap g : Nat) (n : Int) (hn : 1 ≤ n ∧ n ≤ 4611686018427387904) (w : World) (hd : Die W a len cap g w) :
    Calls Try.prog 17 #[.pointer (some ⟨g, 0, none⟩), .int .i64 n] w fun e w' => (∃ x : Int, e = .returned (.int .i64 x) ∧ 0 ≤ x ∧ x < n) ∧ Die W a len cap g w' ∧ Rolls g w w' := by
  have HD := hide hd
  obtain ⟨⟨hl, hrow⟩, big, low, i, hi, hg⟩ := hd
  obtain ⟨n1, n2⟩ := hn
  obtain ⟨c0, c1, f0, f1⟩ := die_pair hg
  have dn : decide (n < 1) = false := by simp; omega
  by_cases hil : i = len
  · subst hil
    have d : decide ((i : Int) ≤ (i : Int)) = true := by simp
    have k0 := fun p : More => cell_more c0 p
    have k1 := fun p : More => cell_more c1 p
    have G := hide hg
    have L := hide low
    have HR := hide hrow
    clear hg low hrow
    go_enter Try.func17, Try.ntmps17
    go_wp2
    refine wp_region_grown (by kernel_rfl) (by kernel_rfl) ?_
    repeat (go_big_quiet_step (fail))
    refine wpQuiet_nil ?_
    intro w2 hb2
    go_wp2
    go_ret
    exact ⟨⟨0, rfl, by omega, by omega⟩, HD.out.keep hb2, Rolls.of_below hb2⟩
  · rcases hrow with h0 | ⟨b, off, rfl, hrow⟩
    · omega
    · obtain ⟨v, hv, v1, v2⟩ := hrow i (by omega)
      have hv' : w.cell? ⟨b, off + i, none⟩ = some (.int .i64 v) := by
        rw [low.cell (block_lt_of_cell hv)]; exact hv
      have d : decide ((len : Int) ≤ (i : Int)) = false := by simp; omega
      have hn0 : n ≠ 0 := by omega
      have d' : decide (len ≤ i) = false := by simp; omega
      have k0 := fun p : More => cell_more c0 p
      have k1 := fun p : More => cell_more c1 p
      have hit : i < 9223372036854775807 := by omega
      obtain ⟨m, hm⟩ : ∃ m : Int, v.tmod n = m := ⟨_, rfl⟩
      have m1 : -n < m ∧ m < n := by
        rw [← hm]
        constructor
        · have := Int.lt_tmod_of_pos v (b := n) (by omega); omega
        · exact Int.tmod_lt_of_pos v (by omega)
      obtain ⟨m1, m2⟩ := m1
      have hilt : (i : Int) < (len : Int) := by omega
      have G := hide hg
      have L := hide low
      have HR := hide hrow
      have hbg : b ≠ g := by have := block_lt_of_cell hv; simp at this; omega
      clear hg low hrow hv
      by_cases hneg : m < 0
      · have dm : decide (m < 0) = true := by simp; omega
        go_enter Try.func17, Try.ntmps17
        go_wp2
        refine wp_region_grown (by kernel_rfl) (by kernel_rfl) ?_
        repeat (go_big_quiet_step (fail))
        refine wpQuiet_nil ?_
        intro w2 hb2
        have g2 : w2.heap[g]? = some (.cells #[.slice (some ⟨b, off, none⟩) len cap, .int .i64 i] 50 (0, 0)) := (hb2.block g (Array.getElem?_eq_some_iff.1 G.out).1).trans G.out
        obtain ⟨x0, x1, y0, y1⟩ := die_pair g2
        have xv : w2.cell? ⟨b, off + i, none⟩ = some (.int .i64 v) := by rw [hb2.cell (block_lt_of_cell hv')]; exact hv'
        have G2 := hide g2
        clear c0 c1 f0 f1 hv' g2
        go_wp2
        go_region
        go_wp2
        go_ret
        refine ⟨⟨_, rfl, by omega, by omega⟩, ⟨⟨hl, .inr ⟨b, off, rfl, HR.out⟩⟩, big, ((L.out.trans (hb2.mono L.out.size)).drew.setCell big _), i + 1, by omega, ?_⟩, ?_⟩
        · exact (setCell_row G2.out _).trans rfl
        · exact ⟨Nat.le_trans hb2.size (by simp [World.setCell, World.drew]), fun k hk hg => (Below.heap_setCell _ _ _ _ hg).trans (hb2.block k hk)⟩
      · have dm : decide (m < 0) = false := by simp; omega
        go_enter Try.func17, Try.ntmps17
        go_wp2
        refine wp_region_grown (by kernel_rfl) (by kernel_rfl) ?_
        repeat (go_big_quiet_step (fail))
        refine wpQuiet_nil ?_
        intro w2 hb2
        have g2 : w2.heap[g]? = some (.cells #[.slice (some ⟨b, off, none⟩) len cap, .int .i64 i] 50 (0, 0)) := (hb2.block g (Array.getElem?_eq_some_iff.1 G.out).1).trans G.out
        obtain ⟨x0, x1, y0, y1⟩ := die_pair g2
        have xv : w2.cell? ⟨b, off + i, none⟩ = some (.int .i64 v) := by rw [hb2.cell (block_lt_of_cell hv')]; exact hv'
        have G2 := hide g2
        clear c0 c1 f0 f1 hv' g2
        go_wp2
        go_region
        go_wp2
        go_ret
        refine ⟨⟨_, rfl, by omega, by omega⟩, ⟨⟨hl, .inr ⟨b, off, rfl, HR.out⟩⟩, big, ((L.out.trans (hb2.mono L.out.size)).drew.setCell big _), i + 1, by omega, ?_⟩, ?_⟩
        · exact (setCell_row G2.out _).trans rfl
        · exact ⟨Nat.le_trans hb2.size (by simp [World.setCell, World.drew]), fun k hk hg => (Below.heap_setCell _ _ _ _ hg).trans (hb2.block k hk)⟩
end Go.Proofs.Ytmhbncpiloffgaa
