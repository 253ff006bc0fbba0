/- The walks of spans: the dice's Spans, the reference's Has. -/
import Derived.Test.YtpniokkllkjhhaaSndWalkC
import Derived.Test.YtpniokkllkjhhaaDiceB
namespace Go.Proofs.Ytpniokkllkjhhaa
open Go.RowKit
set_option linter.unusedVariables false
set_option linter.unusedSimpArgs false
/-- Spans in memory: pairs of numbers. -/
def SpRow (w : World) (p : Option Addr) (n : Nat) (L : List (Int × Int)) : Prop :=
  n = L.length ∧ (n = 0 ∨ ∃ b off : Nat, p = some ⟨b, off, none⟩ ∧ ∀ i (h : i < L.length), w.cell? ⟨b, off + i * 2, none⟩ = some (.int .i64 L[i].1) ∧ w.cell? ⟨b, off + i * 2 + 1, none⟩ = some (.int .i64 L[i].2))
theorem SpRow.keep {w w' : World} {p : Option Addr} {n : Nat} {L : List (Int × Int)} (h : SpRow w p n L) (hb : Below w.heap.size w w') : SpRow w' p n L := by
  obtain ⟨rfl, h | ⟨b, off, rfl, h⟩⟩ := h
  · exact ⟨rfl, .inl h⟩
  · exact ⟨rfl, .inr ⟨b, off, rfl, fun i hi => ⟨by rw [hb.cell (block_lt_of_cell (h i hi).1)]; exact (h i hi).1, by rw [hb.cell (block_lt_of_cell (h i hi).2)]; exact (h i hi).2⟩⟩⟩
def hasB (L : List (Int × Int)) (q : Int) : Bool := L.any fun x => decide (x.1 ≤ q) && decide (q < x.2)
theorem hasB_succ (L : List (Int × Int)) (q : Int) (k : Nat) (hk : k < L.length) (h : hasB (L.take k) q = false) : hasB (L.take (k + 1)) q = (decide (L[k].1 ≤ q) && decide (q < L[k].2)) := by
  unfold hasB at *
  rw [List.take_add_one, List.getElem?_eq_getElem hk, List.any_append, h]
  simp
theorem hasB_hit (L : List (Int × Int)) (q : Int) (k : Nat) (hk : k < L.length) (h1 : L[k].1 ≤ q) (h2 : q < L[k].2) : hasB L q = true := by
  unfold hasB
  rw [List.any_eq_true]
  exact ⟨L[k], List.getElem_mem hk, by simp [h1, h2]⟩
set_option maxHeartbeats 2000000 in
theorem span_has (L : List (Int × Int)) (q : Int) (p : Option Addr) (n c : Nat) (hL : L.length ≤ 1000) (hb : ∀ x ∈ L, -1000000 ≤ x.1 ∧ x.1 ≤ 1000000 ∧ -1000000 ≤ x.2 ∧ x.2 ≤ 1000000) (w : World) (hr : SpRow w p n L) :
    Calls Try.prog 26 #[.slice p n c, .int .i64 q] w fun e w' => e = .returned (.bool (hasB L q)) ∧ w = w' := by
  obtain ⟨rfl, hr⟩ := hr
  have HR := hide hr
  clear hr hb
  obtain ⟨r, hrr⟩ : ∃ r, hasB L q = r := ⟨_, rfl⟩
  have HQ := hide hrr
  rw [hrr]
  clear hrr
  go_enter Try.func26, Try.ntmps26
  go_wp2_with fail
  go_loop [5] (fun i => ∃ k : Nat, k ≤ L.length ∧ i = .int .i64 k ∧ Hid (hasB (L.take k) q = false)) (fun i => L.length - (intOf i).toNat)
  case atStart => exact ⟨0, Nat.zero_le _, rfl, rfl⟩
  case round =>
    obtain ⟨k, hk, rfl, hno⟩ := hrel
    by_cases hlt : k < L.length
    · rcases HR.out with h0 | ⟨b, off, rfl, hc⟩
      · omega
      · obtain ⟨c0, c1⟩ := hc k hlt
        have HC := hide hc
        have hs := hide (hasB_succ L q k hlt hno.out)
        have hh := hide (hasB_hit L q k hlt)
        clear hc
        generalize L[k] = y at *
        obtain ⟨y1, y2⟩ := y
        simp only at c0 c1
        by_cases h1 : y1 ≤ q
        · have d1 : decide (y1 ≤ q) = true := decide_eq_true h1
          by_cases h2 : q < y2
          · have d2 : decide (q < y2) = true := decide_eq_true h2
            have hr1 : r = true := by rw [← HQ.out]; exact hh.out h1 h2
            subst hr1
            clear h1 h2
            go_wp2
            go_ret
            exact ⟨rfl, rfl⟩
          · have d2 : decide (q < y2) = false := decide_eq_false h2
            have hn2 := hide (show hasB (L.take (k + 1)) q = false from by rw [hs.out]; simp [d1, d2])
            clear h1 h2
            go_wp2
            go_round
            case rel => exact ⟨k + 1, by omega, by go_num, hn2⟩
            case measure => simp [intOf]; omega
        · have d1 : decide (y1 ≤ q) = false := decide_eq_false h1
          have hn2 := hide (show hasB (L.take (k + 1)) q = false from by rw [hs.out]; simp [d1])
          clear h1
          go_wp2
          go_round
          case rel => exact ⟨k + 1, by omega, by go_num, hn2⟩
          case measure => simp [intOf]; omega
    · have hk2 : k = L.length := by omega
      have hr1 : r = false := by rw [← HQ.out]; have := hno.out; rw [hk2, List.take_length] at this; exact this
      subst hr1
      have d : decide ((k : Int) < (L.length : Int)) = false := by simp; omega
      have d' : decide (k < L.length) = false := by simp; omega
      clear hk2
      go_wp2
      go_ret
      exact ⟨rfl, rfl⟩
end Go.Proofs.Ytpniokkllkjhhaa
