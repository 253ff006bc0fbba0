/- The walks of the sender: Answer's closure, its search. -/
import Derived.Test.YtpniokkllkjhhaaSndSpan
namespace Go.Proofs.Ytpniokkllkjhhaa
open Go.RowKit
set_option linter.unusedVariables false
set_option linter.unusedSimpArgs false
theorem one_cell {w : World} {g : Nat} {x : Value} {t : TypeId} (h : w.heap[g]? = some (.cells #[x] t (0, 0))) : w.cell? ⟨g, 0, none⟩ = some x ∧ w.frozen? ⟨g, 0, none⟩ = false :=
  ⟨by rw [cell_of_row _ _ _ _ _ _ h]; rfl, frozen_of_row _ _ _ _ _ h⟩
theorem ans_closure (y1 y2 q : Int) (g : Nat) (w : World) (hg : w.heap[g]? = some (.cells #[.int .i64 q] 3 (0, 0))) :
    Calls Try.prog 32 #[.agg #[.int .i64 y1, .int .i64 y2], .pointer (some ⟨g, 0, none⟩)] w fun e w' => e = .returned (.bool (decide (y1 ≤ q) && decide (q < y2))) ∧ Below w.heap.size w w' := by
  obtain ⟨r, hr⟩ : ∃ r, (decide (y1 ≤ q) && decide (q < y2)) = r := ⟨_, rfl⟩
  have HR := hide hr
  have hl := hide (Array.getElem?_eq_some_iff.1 hg).1
  have l0 := fun o => (one_cell (w := w.alloc o) (g := g) (by rw [Below.heap_alloc _ _ _ hl.out]; exact hg)).1
  obtain ⟨c0, f0⟩ := one_cell hg
  rw [hr]
  clear hr hg
  by_cases h1 : y1 ≤ q
  · have d1 : decide (y1 ≤ q) = true := decide_eq_true h1
    by_cases h2 : q < y2
    · have d2 : decide (q < y2) = true := decide_eq_true h2
      have hr1 : r = true := by rw [← HR.out, d1, d2]; rfl
      subst hr1
      clear h1 h2
      go_enter Try.func32, Try.ntmps32
      go_wp2
      go_ret
      exact ⟨rfl, below1 _⟩
    · have d2 : decide (q < y2) = false := decide_eq_false h2
      have hr1 : r = false := by rw [← HR.out, d1, d2]; rfl
      subst hr1
      clear h1 h2
      go_enter Try.func32, Try.ntmps32
      go_wp2
      go_ret
      exact ⟨rfl, below1 _⟩
  · have d1 : decide (y1 ≤ q) = false := decide_eq_false h1
    have hr1 : r = false := by rw [← HR.out, d1]; rfl
    subst hr1
    clear h1
    go_enter Try.func32, Try.ntmps32
    go_wp2
    go_ret
    exact ⟨rfl, below1 _⟩
set_option maxHeartbeats 2000000 in
theorem ans_indexf (L : List (Int × Int)) (q : Int) (g : Nat) (p : Option Addr) (n c : Nat) (hL : L.length ≤ 1000) (w : World) (hg : w.heap[g]? = some (.cells #[.int .i64 q] 3 (0, 0))) (hr : SpRow w p n L) :
    Calls Try.prog 34 #[.slice p n c, .func (.func 32) #[] #[.pointer (some ⟨g, 0, none⟩)]] w fun e w' => (∃ r : Int, e = .returned (.int .i64 r) ∧ -1 ≤ r ∧ r ≤ 1000 ∧ (0 ≤ r ↔ hasB L q = true)) ∧ Below w.heap.size w w' := by
  obtain ⟨rfl, hr⟩ := hr
  have HR := hide hr
  have HG := hide hg
  clear hr hg
  go_enter Try.func34, Try.ntmps34
  go_wp2_with fail
  go_loopw [8] (fun i wr => ∃ k : Nat, k ≤ L.length ∧ i = .int .i64 k ∧ Hid (hasB (L.take k) q = false) ∧ Hid (Below w.heap.size w wr)) (fun i _ => L.length - (intOf i).toNat)
  case atStart => exact ⟨0, Nat.zero_le _, rfl, rfl, Below.refl _ _⟩
  case round =>
    obtain ⟨k, hk, rfl, hno, HB⟩ := hrel
    by_cases hlt : k < L.length
    · rcases HR.out with h0 | ⟨b, off, rfl, hc⟩
      · omega
      · obtain ⟨c0, c1⟩ := hc k hlt
        have c0 : wr.cell? ⟨b, off + k * 2, none⟩ = some (.int .i64 L[k].1) := by rw [HB.out.cell (block_lt_of_cell c0)]; exact c0
        have c1 : wr.cell? ⟨b, off + k * 2 + 1, none⟩ = some (.int .i64 L[k].2) := by rw [HB.out.cell (block_lt_of_cell c1)]; exact c1
        have HC := hide hc
        have hs := hide (hasB_succ L q k hlt hno.out)
        have hh := hide (hasB_hit L q k hlt)
        have hgr := (HB.out.block g (Array.getElem?_eq_some_iff.1 HG.out).1).trans HG.out
        have qc := ans_closure L[k].1 L[k].2 q g wr hgr
        clear hc hgr
        generalize L[k] = y at *
        obtain ⟨y1, y2⟩ := y
        simp only at c0 c1 qc
        by_cases hyes : (decide (y1 ≤ q) && decide (q < y2)) = true
        · rw [hyes] at qc
          have QC := hide qc
          have hb1 : hasB L q = true := by
            simp at hyes
            exact hh.out hyes.1 hyes.2
          have HY := hide hb1
          clear qc hyes hb1
          go_wp2_with (first
            | (go_at_call 32; (with_reducible refine (QC.out).mono ?_); rintro e w1 ⟨rfl, hb⟩; (have HB := hide (HB.out.trans (hb.mono HB.out.size))); clear hb))
          go_ret
          exact ⟨⟨k, rfl, by omega, by omega, by constructor; (intro _; exact HY.out); (intro _; omega)⟩, HB.out⟩
        · have hf : (decide (y1 ≤ q) && decide (q < y2)) = false := by simpa using hyes
          have hn2 := hide (show hasB (L.take (k + 1)) q = false from by rw [hs.out]; exact hf)
          rw [hf] at qc
          have QC := hide qc
          clear qc hyes hf
          go_wp2_with (first
            | (go_at_call 32; (with_reducible refine (QC.out).mono ?_); rintro e w1 ⟨rfl, hb⟩; (have HB := hide (HB.out.trans (hb.mono HB.out.size))); clear hb))
          go_roundw
          case rel => exact ⟨k + 1, by omega, by go_num, hn2, HB⟩
          case measure => simp [intOf]; omega
    · have hr1 : hasB L q = false := by
        have := hno.out
        rw [show k = L.length by omega, List.take_length] at this
        exact this
      have HY := hide hr1
      have d : decide ((k : Int) < (L.length : Int)) = false := by simp; omega
      have d' : decide (k < L.length) = false := by simp; omega
      clear hr1
      go_wp2
      go_ret
      exact ⟨⟨-1, rfl, by omega, by omega, by constructor; (intro h; omega); (intro h; rw [HY.out] at h; cases h)⟩, HB.out⟩
theorem ans_containsf (L : List (Int × Int)) (q : Int) (g : Nat) (p : Option Addr) (n c : Nat) (hL : L.length ≤ 1000) (w : World) (hg : w.heap[g]? = some (.cells #[.int .i64 q] 3 (0, 0))) (hr : SpRow w p n L) :
    Calls Try.prog 31 #[.slice p n c, .func (.func 32) #[] #[.pointer (some ⟨g, 0, none⟩)]] w fun e w' => e = .returned (.bool (hasB L q)) ∧ Below w.heap.size w w' := by
  have Q := hide (ans_indexf L q g p n c hL w hg hr)
  obtain ⟨cc, hc⟩ : ∃ cc, hasB L q = cc := ⟨_, rfl⟩
  have HC := hide hc
  rw [hc]
  clear hc hg hr
  go_enter Try.func31, Try.ntmps31
  go_wp2_with (first
    | (go_at_call 34; (with_reducible refine (Q.out).mono ?_); rintro e w1 ⟨⟨r, rfl, r0, r1, r2⟩, hb⟩; (have HB := hide hb); (have d : decide (0 ≤ r) = cc := (by (rw [← HC.out]; cases hcc : hasB L q; (rw [decide_eq_false_iff_not]; intro h; rw [r2.1 h] at hcc; cases hcc); (rw [decide_eq_true_iff]; exact r2.2 hcc)))); clear r2 hb))
  go_ret
  exact ⟨rfl, HB.out⟩
end Go.Proofs.Ytpniokkllkjhhaa
