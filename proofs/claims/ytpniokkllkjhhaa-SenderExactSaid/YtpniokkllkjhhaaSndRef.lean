/- The walks of the sender's reference: New, Next, Valid. -/
import Derived.Test.YtpniokkllkjhhaaSndWalkC
import Derived.Test.YtpniokkllkjhhaaIn
namespace Go.Proofs.Ytpniokkllkjhhaa
open Go.RowKit
set_option linter.unusedVariables false
set_option linter.unusedSimpArgs false
theorem sref_new (s : Nat) (h : 1 ≤ s ∧ s ≤ 256) (w : World) :
    Calls Try.prog 25 #[.int .i64 s] w fun e w' => e = .returned (.tuple #[.agg #[.int .i64 s, .int .i64 0, .slice none 0 0], .int .i64 0]) ∧ Below w.heap.size w w' := by
  go_enter Try.func25, Try.ntmps25
  go_wp2_with (first
    | (go_at_call 30; (with_reducible refine (utc_in_yes _ _ _ ?_ _).mono ?_); (focus omega); rintro e w1 ⟨rfl, rfl⟩))
  (try simp only [Exit.inBlock, Exit.then])
  refine bodyPost_ret (v := .tuple #[.agg #[.int .i64 s, .int .i64 0, .slice none 0 0], .int .i64 0]) (by simp [results, Try.results25, go_sem]) rfl ⟨rfl, ?_⟩
  exact below1 _
theorem sref_next (s f : Int) (p : Option Addr) (n c : Nat) (hf : 0 ≤ f ∧ f ≤ 1099511627776) (hn : n ≤ 1000000) (w : World) :
    Calls Try.prog 20 #[.agg #[.int .i64 s, .int .i64 f, .slice p n c]] w fun e w' => e = .returned (.int .i64 (f + n)) ∧ Below w.heap.size w w' := by
  obtain ⟨f0, f1⟩ := hf
  go_enter Try.func20, Try.ntmps20
  go_wp2
  go_ret
  exact ⟨rfl, below1 _⟩
set_option maxHeartbeats 2000000 in
theorem sref_valid (s f : Nat) (D : List ByteArray) (p : Option Addr) (n c : Nat) (hok : SOk s f D) (w : World) (hr : StrRow w p n D) :
    Calls Try.prog 19 #[.agg #[.int .i64 s, .int .i64 f, .slice p n c]] w fun e w' => e = .returned (.bool true) ∧ Below w.heap.size w w' := by
  obtain ⟨h1, h2, h3, h4, h5⟩ := hok
  obtain ⟨rfl, hr⟩ := hr
  have d1 : decide ((s : Int) < (D.length : Int)) = false := by simp; omega
  have d1' : decide (s < D.length) = false := by simp; omega
  have d2 : decide ((1073741825 : Int) < (f : Int) + (D.length : Int)) = false := by simp; omega
  have HR := hide hr
  have H5 := hide h5
  have hnb : D.length ≤ 256 := by omega
  clear hr h5
  go_enter Try.func19, Try.ntmps19
  go_wp2_with (first
    | (go_at_call 30; (with_reducible refine (utc_in_yes _ _ _ ?_ _).mono ?_); (focus omega); rintro e w1 ⟨rfl, rfl⟩))
  have h0 := heap_alloc_new w (.cells #[.int .i64 s, .int .i64 f, .slice p D.length c] 30)
  have hb := below1 (w := w) (.cells #[.int .i64 s, .int .i64 f, .slice p D.length c] 30)
  generalize w.alloc (.cells #[.int .i64 s, .int .i64 f, .slice p D.length c] 30) = V at *
  obtain ⟨c0, c1, c2, -, -, -⟩ := tri_cells h0
  have HB := hide hb
  clear h0 hb
  go_loop [3] (fun i => ∃ k : Nat, k ≤ D.length ∧ i = .int .i64 k) (fun i => D.length - (intOf i).toNat)
  case atStart => exact ⟨0, Nat.zero_le _, rfl⟩
  case round =>
    obtain ⟨k, hk, rfl⟩ := hrel
    by_cases hlt : k < D.length
    · rcases HR.out with h0 | ⟨b, off, rfl, hc⟩
      · omega
      · have k0 : V.cell? ⟨b, off + k, none⟩ = some (.string D[k]) := by rw [HB.out.cell (block_lt_of_cell (hc k hlt))]; exact hc k hlt
        have hsz := H5.out _ (List.getElem_mem hlt)
        have HC := hide hc
        clear hc
        generalize D[k] = y at *
        have e1 : decide ((4064 : Int) < (y.size : Int)) = false := by simp; omega
        have e1' : decide (4064 < y.size) = false := by simp; omega
        go_wp2
        go_round
        case rel => exact ⟨k + 1, by omega, by go_num⟩
        case measure => simp [intOf]; omega
    · have d : decide ((k : Int) < (D.length : Int)) = false := by simp; omega
      have d' : decide (k < D.length) = false := by simp; omega
      go_wp2
      go_ret
      exact ⟨rfl, HB.out⟩
end Go.Proofs.Ytpniokkllkjhhaa
