/- The walks of the sender: in, Next, Valid. -/
import Derived.Test.YtpniokkllkjhhaaProg
import Derived.Test.YtpniokkllkjhhaaLib
import Derived.Test.YtpniokkllkjhhaaLibQ
import Derived.BigQuiet
import Derived.Deep.QuietTactic
import Derived.LoopTactic
namespace Go.Proofs.Ytpniokkllkjhhaa
open Go.RowKit
set_option linter.unusedVariables false
set_option linter.unusedSimpArgs false
theorem snd_in_yes (n low high : Int) (h : low ≤ n ∧ n ≤ high) (w : World) :
    Calls Try.prog 27 #[.int .i64 n, .int .i64 low, .int .i64 high] w fun e w' => e = .returned (.bool true) ∧ w = w' := by
  obtain ⟨h1, h2⟩ := h
  go_enter Try.func27, Try.ntmps27
  go_wp2
  go_ret
  exact ⟨rfl, rfl⟩
theorem snd_in_no (n low high : Int) (h : n < low ∨ high < n) (w : World) :
    Calls Try.prog 27 #[.int .i64 n, .int .i64 low, .int .i64 high] w fun e w' => e = .returned (.bool false) ∧ w = w' := by
  by_cases h1 : n < low
  · clear h
    go_enter Try.func27, Try.ntmps27
    go_wp2
    go_ret
    exact ⟨rfl, rfl⟩
  · have h2 : high < n := by omega
    have h3 : low ≤ n := by omega
    have d : decide (n ≤ high) = false := by simp; omega
    clear h h1
    go_enter Try.func27, Try.ntmps27
    go_wp2
    go_ret
    exact ⟨rfl, rfl⟩
/-- Strings in memory. -/
def StrRow (w : World) (p : Option Addr) (n : Nat) (D : List ByteArray) : Prop :=
  n = D.length ∧ (n = 0 ∨ ∃ b off : Nat, p = some ⟨b, off, none⟩ ∧ ∀ i (h : i < D.length), w.cell? ⟨b, off + i, none⟩ = some (.string D[i]))
theorem StrRow.keep {w w' : World} {p : Option Addr} {n : Nat} {D : List ByteArray} (h : StrRow w p n D) (hb : Below w.heap.size w w') : StrRow w' p n D := by
  obtain ⟨rfl, h | ⟨b, off, rfl, h⟩⟩ := h
  · exact ⟨rfl, .inl h⟩
  · exact ⟨rfl, .inr ⟨b, off, rfl, fun i hi => by rw [hb.cell (block_lt_of_cell (h i hi))]; exact h i hi⟩⟩
/-- A sender that is valid: its size, its first number, its messages. -/
def SOk (s f : Nat) (D : List ByteArray) : Prop := 1 ≤ s ∧ s ≤ 256 ∧ D.length ≤ s ∧ f + D.length ≤ 1073741825 ∧ ∀ x ∈ D, x.size ≤ 4064
theorem tri_cells {w : World} {g : Nat} {x y z : Value} {t : TypeId} (h : w.heap[g]? = some (.cells #[x, y, z] t (0, 0))) :
    w.cell? ⟨g, 0, none⟩ = some x ∧ w.cell? ⟨g, 1, none⟩ = some y ∧ w.cell? ⟨g, 2, none⟩ = some z ∧ w.frozen? ⟨g, 0, none⟩ = false ∧ w.frozen? ⟨g, 1, none⟩ = false ∧ w.frozen? ⟨g, 2, none⟩ = false :=
  ⟨by rw [cell_of_row _ _ _ _ _ _ h]; rfl, by rw [cell_of_row _ _ _ _ _ _ h]; rfl, by rw [cell_of_row _ _ _ _ _ _ h]; rfl, frozen_of_row _ _ _ _ _ h, frozen_of_row _ _ _ _ _ h, frozen_of_row _ _ _ _ _ h⟩
theorem snd_next (s f : Int) (p : Option Addr) (n c : Nat) (hf : 0 ≤ f ∧ f ≤ 1099511627776) (hn : n ≤ 1000000) (w : World) :
    Calls Try.prog 14 #[.agg #[.int .i64 s, .int .i64 f, .slice p n c]] w fun e w' => e = .returned (.int .i64 (f + n)) ∧ Below w.heap.size w w' := by
  obtain ⟨f0, f1⟩ := hf
  go_enter Try.func14, Try.ntmps14
  go_wp2
  go_ret
  exact ⟨rfl, below1 _⟩
theorem snd_long_no (x : ByteArray) (h : x.size ≤ 4064) (w : World) : Calls Try.prog 29 #[.string x] w fun e w' => e = .returned (.bool false) ∧ w = w' := by
  have d : decide ((4064 : Int) < (x.size : Int)) = false := by simp; omega
  have d' : decide (4064 < x.size) = false := by simp; omega
  go_enter Try.func29, Try.ntmps29
  go_wp2
  go_ret
  exact ⟨rfl, rfl⟩
theorem accB {P : Program} {f : FuncId} {args : Array Value} {w0 w : World} {g : Nat} {o : Obj} {R : Ending → Prop} (hb : Below w0.heap.size w0 w) (hc : w.heap[g]? = some o) (h : Calls P f args w fun e w' => R e ∧ Below w.heap.size w w') :
    Calls P f args w fun e w' => R e ∧ Below w0.heap.size w0 w' ∧ w'.heap[g]? = some o := h.mono fun _ _ ⟨h1, h2⟩ => ⟨h1, hb.trans (h2.mono hb.size), (h2.block _ (Array.getElem?_eq_some_iff.1 hc).1).trans hc⟩
set_option maxHeartbeats 1000000 in
theorem snd_indexf (D : List ByteArray) (p : Option Addr) (n c : Nat) (h5 : ∀ x ∈ D, x.size ≤ 4064) (hn : n ≤ 1000000) (w : World) (hr : StrRow w p n D) :
    Calls Try.prog 33 #[.slice p n c, .func (.func 29) #[] #[]] w fun e w' => e = .returned (.int .i64 (-1)) ∧ w = w' := by
  obtain ⟨rfl, hr⟩ := hr
  have HR := hide hr
  have HQ := hide (fun (i : Nat) (hi : i < D.length) => snd_long_no D[i] (h5 _ (List.getElem_mem hi)))
  clear hr h5
  go_enter Try.func33, Try.ntmps33
  go_wp2_with fail
  go_loop [8] (fun i => ∃ k : Nat, k ≤ D.length ∧ i = .int .i64 k) (fun i => D.length - (intOf i).toNat)
  case atStart => exact ⟨0, Nat.zero_le _, rfl⟩
  case round =>
    obtain ⟨k, hk, rfl⟩ := hrel
    by_cases hlt : k < D.length
    · rcases HR.out with h0 | ⟨b, off, rfl, hc⟩
      · omega
      · have c0 := hc k hlt
        have q := HQ.out k hlt
        have HC := hide hc
        clear hc
        generalize D[k] = y at *
        have Q := hide q
        clear q
        go_wp2_with (first
          | (go_at_call 29; (with_reducible refine (Q.out _).mono ?_); rintro e w1 ⟨rfl, rfl⟩))
        go_round
        case rel => exact ⟨k + 1, by omega, by go_num⟩
        case measure => simp [intOf]; omega
    · have d : decide ((k : Int) < (D.length : Int)) = false := by simp; omega
      have d' : decide (k < D.length) = false := by simp; omega
      go_wp2
      go_ret
      exact ⟨rfl, rfl⟩
theorem snd_containsf (D : List ByteArray) (p : Option Addr) (n c : Nat) (h5 : ∀ x ∈ D, x.size ≤ 4064) (hn : n ≤ 1000000) (w : World) (hr : StrRow w p n D) :
    Calls Try.prog 28 #[.slice p n c, .func (.func 29) #[] #[]] w fun e w' => e = .returned (.bool false) ∧ w = w' := by
  have q := hide (snd_indexf D p n c h5 hn w hr)
  clear h5 hr
  go_enter Try.func28, Try.ntmps28
  go_wp2_with (first
    | (go_at_call 33; (with_reducible refine (q.out).mono ?_); rintro e w1 ⟨rfl, rfl⟩))
  go_ret
  exact ⟨rfl, rfl⟩
theorem snd_valid (s f : Nat) (D : List ByteArray) (p : Option Addr) (n c : Nat) (hok : SOk s f D) (w : World) (hr : StrRow w p n D) :
    Calls Try.prog 13 #[.agg #[.int .i64 s, .int .i64 f, .slice p n c]] w fun e w' => e = .returned (.bool true) ∧ Below w.heap.size w w' := by
  obtain ⟨h1, h2, h3, h4, h5⟩ := hok
  have hnD := hr.1
  have q := hide (snd_next s f p n c (by omega) (by omega))
  have d1 : decide ((s : Int) < (n : Int)) = false := by simp; omega
  have d1' : decide (s < n) = false := by simp; omega
  have d2 : decide ((1073741825 : Int) < (f : Int) + (n : Int)) = false := by simp; omega
  have HCF := hide (fun (W : World) (hW : StrRow W p n D) => snd_containsf D p n c h5 (by omega) W hW)
  have HR := hide hr
  have HN := hide hnD
  clear hr h5 hnD
  go_enter Try.func13, Try.ntmps13
  go_wp2_with (first
    | (go_at_call 27; (with_reducible refine (snd_in_yes _ _ _ ?_ _).mono ?_); (focus omega); rintro e w1 ⟨rfl, rfl⟩)
    | (go_at_call 14; (with_reducible refine (accB (below1 _) (heap_alloc_new _ _) (q.out _)).mono ?_); rintro e w1 ⟨rfl, hb, hc⟩; (have HB := hide hb); (obtain ⟨c0, c1, c2, f0, f1, f2⟩ := tri_cells hc); clear hb hc)
    | (go_at_call 28; (with_reducible refine (HCF.out _ ?_).mono ?_); (focus exact HR.out.keep HB.out); rintro e w2 ⟨rfl, rfl⟩))
  go_ret
  exact ⟨rfl, HB.out⟩
end Go.Proofs.Ytpniokkllkjhhaa
