/- The walks of the sender's reference: Valid, of any sender. -/
import Derived.Test.YtpniokkllkjhhaaSndAny
namespace Go.Proofs.Ytpniokkllkjhhaa
open Go.RowKit
set_option linter.unusedVariables false
set_option linter.unusedSimpArgs false
theorem vld_bad {s f : Int} {D : List ByteArray} {n : Nat} (hv : vldB s f D = false) (hn : n = D.length) : (s < 1 ∨ 256 < s) ∨ ((1 ≤ s ∧ s ≤ 256) ∧ (f < 0 ∨ 1073741825 < f)) ∨ ((1 ≤ s ∧ s ≤ 256) ∧ (0 ≤ f ∧ f ≤ 1073741825) ∧ s < (n : Int)) ∨ ((1 ≤ s ∧ s ≤ 256) ∧ (0 ≤ f ∧ f ≤ 1073741825) ∧ (n : Int) ≤ s ∧ 1073741825 < f + (n : Int)) ∨ ((1 ≤ s ∧ s ≤ 256) ∧ (0 ≤ f ∧ f ≤ 1073741825) ∧ (n : Int) ≤ s ∧ f + (n : Int) ≤ 1073741825 ∧ ¬ ∀ x ∈ D, x.size ≤ 4064) := by
  subst hn
  by_cases h1 : 1 ≤ s ∧ s ≤ 256
  · by_cases h2 : 0 ≤ f ∧ f ≤ 1073741825
    · by_cases h3 : (D.length : Int) ≤ s
      · by_cases h4 : f + (D.length : Int) ≤ 1073741825
        · refine .inr (.inr (.inr (.inr ⟨h1, h2, h3, h4, fun h5 => ?_⟩)))
          have : vldB s f D = true := by
            unfold vldB
            rw [Bool.and_eq_true, decide_eq_true_iff, List.all_eq_true]
            exact ⟨⟨h1.1, h1.2, h2.1, h2.2, by omega, by omega⟩, fun x hx => by simpa using h5 x hx⟩
          rw [this] at hv
          cases hv
        · exact .inr (.inr (.inr (.inl ⟨h1, h2, h3, by omega⟩)))
      · exact .inr (.inr (.inl ⟨h1, h2, by omega⟩))
    · exact .inr (.inl ⟨h1, by omega⟩)
  · exact .inl (by omega)
set_option maxHeartbeats 2000000 in
theorem sref_valid_no (s f : Int) (D : List ByteArray) (p : Option Addr) (n c : Nat) (hv : vldB s f D = false) (hD : D.length ≤ 1000000) (w : World) (hr : StrRow w p n D) :
    Calls Try.prog 19 #[.agg #[.int .i64 s, .int .i64 f, .slice p n c]] w fun e w' => e = .returned (.bool false) ∧ Below w.heap.size w w' := by
  have hnD := hr.1
  have HR := hide hr
  have hbad := vld_bad hv hnD
  have hnb : n ≤ 1000000 := by omega
  have HN := hide hnD
  have h0 := heap_alloc_new w (.cells #[.int .i64 s, .int .i64 f, .slice p n c] 30)
  have HG := hide h0
  have HB := hide (below1 (w := w) (.cells #[.int .i64 s, .int .i64 f, .slice p n c] 30))
  clear hv hr hnD hD h0
  rcases hbad with h1 | ⟨h1, h2⟩ | ⟨h1, h2, h3⟩ | ⟨h1, h2, h3, h4⟩ | ⟨h1, h2, h3, h4, h5⟩
  · have Q := hide (utc_in_no s 1 256 h1)
    clear h1
    go_enter Try.func19, Try.ntmps19
    go_wp2_with (first
      | (go_at_call 30; (with_reducible refine (Q.out _).mono ?_); rintro e w1 ⟨rfl, rfl⟩))
    go_ret
    exact ⟨rfl, below1 _⟩
  · have Q := hide (utc_in_yes s 1 256 h1)
    have Q2 := hide (utc_in_no f 0 1073741825 h2)
    clear h1 h2
    go_enter Try.func19, Try.ntmps19
    go_wp2_with (first
      | (go_at_call 30; (with_reducible refine (Q.out _).mono ?_); rintro e w1 ⟨rfl, rfl⟩)
      | (go_at_call 30; (with_reducible refine (Q2.out _).mono ?_); rintro e w1 ⟨rfl, rfl⟩))
    go_ret
    exact ⟨rfl, below1 _⟩
  · have Q := hide (utc_in_yes s 1 256 h1)
    have Q2 := hide (utc_in_yes f 0 1073741825 h2)
    have d1 : decide (s < (n : Int)) = true := decide_eq_true h3
    clear h1 h2 h3
    go_enter Try.func19, Try.ntmps19
    go_wp2_with (first
      | (go_at_call 30; (with_reducible refine (Q.out _).mono ?_); rintro e w1 ⟨rfl, rfl⟩)
      | (go_at_call 30; (with_reducible refine (Q2.out _).mono ?_); rintro e w1 ⟨rfl, rfl⟩))
    go_ret
    exact ⟨rfl, below1 _⟩
  · have Q := hide (utc_in_yes s 1 256 h1)
    have Q2 := hide (utc_in_yes f 0 1073741825 h2)
    have d1 : decide (s < (n : Int)) = false := decide_eq_false (by omega)
    have d2 : decide ((1073741825 : Int) < f + (n : Int)) = true := decide_eq_true h4
    have ha : 0 ≤ f ∧ f ≤ 1073741825 := h2
    clear h1 h3 h4
    go_enter Try.func19, Try.ntmps19
    go_wp2_with (first
      | (go_at_call 30; (with_reducible refine (Q.out _).mono ?_); rintro e w1 ⟨rfl, rfl⟩)
      | (go_at_call 30; (with_reducible refine (Q2.out _).mono ?_); rintro e w1 ⟨rfl, rfl⟩))
    go_ret
    exact ⟨rfl, below1 _⟩
  · have Q := hide (utc_in_yes s 1 256 h1)
    have Q2 := hide (utc_in_yes f 0 1073741825 h2)
    have d1 : decide (s < (n : Int)) = false := decide_eq_false (by omega)
    have d2 : decide ((1073741825 : Int) < f + (n : Int)) = false := decide_eq_false (by omega)
    have hn256 : n ≤ 256 := by omega
    have H5 := hide h5
    have HNN := hide HN.out
    have hfr : 0 ≤ f ∧ f ≤ 1073741825 := h2
    clear h1 h3 h4 h5
    go_enter Try.func19, Try.ntmps19
    go_wp2_with (first
      | (go_at_call 30; (with_reducible refine (Q.out _).mono ?_); rintro e w1 ⟨rfl, rfl⟩)
      | (go_at_call 30; (with_reducible refine (Q2.out _).mono ?_); rintro e w1 ⟨rfl, rfl⟩))
    generalize w.alloc (.cells #[.int .i64 s, .int .i64 f, .slice p n c] 30) = V at *
    obtain ⟨c0, c1, c2, -, -, -⟩ := tri_cells HG.out
    have hl := HN.out
    subst hl
    go_loop [3] (fun i => ∃ k : Nat, k ≤ D.length ∧ i = .int .i64 k ∧ Hid (∀ j (h : j < D.length), j < k → D[j].size ≤ 4064)) (fun i => D.length - (intOf i).toNat)
    case atStart => exact ⟨0, Nat.zero_le _, rfl, hide (fun j _ h => by omega)⟩
    case round =>
      obtain ⟨k, hk, rfl, hall⟩ := hrel
      by_cases hlt : k < D.length
      · rcases HR.out.2 with h0 | ⟨b, off, rfl, hc⟩
        · omega
        · have k0 : V.cell? ⟨b, off + k, none⟩ = some (.string D[k]) := by rw [HB.out.cell (block_lt_of_cell (hc k hlt))]; exact hc k hlt
          have HC := hide hc
          have hnx := hide (fun (hy : D[k].size ≤ 4064) j (h : j < D.length) (hj : j < k + 1) => (show D[j].size ≤ 4064 from by
            by_cases hjk : j = k
            · subst hjk; exact hy
            · exact hall.out j h (by omega)))
          clear hc
          generalize D[k] = y at *
          by_cases hy : y.size ≤ 4064
          · have HY := hide (hnx.out hy)
            have e1 : decide ((4064 : Int) < (y.size : Int)) = false := by simp; omega
            have e1' : decide (4064 < y.size) = false := by simp; omega
            clear hy
            go_wp2
            go_round
            case rel => exact ⟨k + 1, by omega, by go_num, HY⟩
            case measure => simp [intOf]; omega
          · have e1 : decide ((4064 : Int) < (y.size : Int)) = true := by simp; omega
            have e1' : decide (4064 < y.size) = true := by simp; omega
            clear hy
            go_wp2
            go_ret
            exact ⟨rfl, HB.out⟩
      · exact absurd (fun x hx => by
          obtain ⟨j, hj, rfl⟩ := List.mem_iff_getElem.1 hx
          exact hall.out j hj (by omega)) H5.out
theorem sref_valid_any (s f : Int) (D : List ByteArray) (p : Option Addr) (n c : Nat) (hD : D.length ≤ 1000000) (w : World) (hr : StrRow w p n D) :
    Calls Try.prog 19 #[.agg #[.int .i64 s, .int .i64 f, .slice p n c]] w fun e w' => e = .returned (.bool (vldB s f D)) ∧ Below w.heap.size w w' := by
  cases hv : vldB s f D
  · exact sref_valid_no s f D p n c hv hD w hr
  · obtain ⟨s', f', rfl, rfl, hok⟩ := vld_ok hv
    exact sref_valid s' f' D p n c hok w hr
end Go.Proofs.Ytpniokkllkjhhaa
