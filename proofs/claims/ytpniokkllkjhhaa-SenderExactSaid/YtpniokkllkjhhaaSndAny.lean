/- The walks of the sender: Valid, of any sender. -/
import Derived.Test.YtpniokkllkjhhaaSndRef
namespace Go.Proofs.Ytpniokkllkjhhaa
open Go.RowKit
set_option linter.unusedVariables false
set_option linter.unusedSimpArgs false
/-- Whether a sender is valid. -/
def vldB (s f : Int) (D : List ByteArray) : Bool := decide (1 ≤ s ∧ s ≤ 256 ∧ 0 ≤ f ∧ f ≤ 1073741825 ∧ (D.length : Int) ≤ s ∧ f + (D.length : Int) ≤ 1073741825) && D.all (fun x => decide (x.size ≤ 4064))
theorem vld_ok {s f : Int} {D : List ByteArray} (h : vldB s f D = true) : ∃ s' f' : Nat, s = (s' : Int) ∧ f = (f' : Int) ∧ SOk s' f' D := by
  unfold vldB at h
  rw [Bool.and_eq_true, decide_eq_true_iff, List.all_eq_true] at h
  obtain ⟨⟨h1, h2, h3, h4, h5, h6⟩, h7⟩ := h
  refine ⟨s.toNat, f.toNat, by omega, by omega, by omega, by omega, by omega, by omega, fun x hx => ?_⟩
  have := h7 x hx
  simpa using this
theorem snd_long_yes (x : ByteArray) (h : 4064 < x.size) (w : World) : Calls Try.prog 29 #[.string x] w fun e w' => e = .returned (.bool true) ∧ w = w' := by
  have d : decide ((4064 : Int) < (x.size : Int)) = true := by simp; omega
  have d' : decide (4064 < x.size) = true := by simp; omega
  go_enter Try.func29, Try.ntmps29
  go_wp2
  go_ret
  exact ⟨rfl, rfl⟩
set_option maxHeartbeats 1000000 in
theorem snd_indexf_hit (D : List ByteArray) (p : Option Addr) (n c : Nat) (h5 : ¬ ∀ x ∈ D, x.size ≤ 4064) (hn : n ≤ 1000000) (w : World) (hr : StrRow w p n D) :
    Calls Try.prog 33 #[.slice p n c, .func (.func 29) #[] #[]] w fun e w' => (∃ r : Int, e = .returned (.int .i64 r) ∧ 0 ≤ r ∧ r ≤ 1000000) ∧ w = w' := by
  obtain ⟨rfl, hr⟩ := hr
  have HR := hide hr
  have H5 := hide h5
  clear hr h5
  go_enter Try.func33, Try.ntmps33
  go_wp2_with fail
  go_loop [8] (fun i => ∃ k : Nat, k ≤ D.length ∧ i = .int .i64 k ∧ Hid (∀ j (h : j < D.length), j < k → D[j].size ≤ 4064)) (fun i => D.length - (intOf i).toNat)
  case atStart => exact ⟨0, Nat.zero_le _, rfl, hide (fun j _ h => by omega)⟩
  case round =>
    obtain ⟨k, hk, rfl, hall⟩ := hrel
    by_cases hlt : k < D.length
    · rcases HR.out with h0 | ⟨b, off, rfl, hc⟩
      · omega
      · have c0 := hc k hlt
        have HC := hide hc
        have hnx := hide (fun (hy : D[k].size ≤ 4064) j (h : j < D.length) (hj : j < k + 1) => (show D[j].size ≤ 4064 from by
          by_cases hjk : j = k
          · subst hjk; exact hy
          · exact hall.out j h (by omega)))
        clear hc
        generalize D[k] = y at *
        by_cases hy : y.size ≤ 4064
        · have Q := hide (snd_long_no y hy)
          have HY := hide (hnx.out hy)
          clear hy
          go_wp2_with (first
            | (go_at_call 29; (with_reducible refine (Q.out _).mono ?_); rintro e w1 ⟨rfl, rfl⟩))
          go_round
          case rel => exact ⟨k + 1, by omega, by go_num, HY⟩
          case measure => simp [intOf]; omega
        · have Q := hide (snd_long_yes y (by omega))
          clear hy
          go_wp2_with (first
            | (go_at_call 29; (with_reducible refine (Q.out _).mono ?_); rintro e w1 ⟨rfl, rfl⟩))
          go_ret
          exact ⟨⟨k, rfl, by omega, by omega⟩, rfl⟩
    · exact absurd (fun x hx => by
        obtain ⟨j, hj, rfl⟩ := List.mem_iff_getElem.1 hx
        exact hall.out j hj (by omega)) H5.out
theorem snd_containsf_hit (D : List ByteArray) (p : Option Addr) (n c : Nat) (h5 : ¬ ∀ x ∈ D, x.size ≤ 4064) (hn : n ≤ 1000000) (w : World) (hr : StrRow w p n D) :
    Calls Try.prog 28 #[.slice p n c, .func (.func 29) #[] #[]] w fun e w' => e = .returned (.bool true) ∧ w = w' := by
  have q := hide (snd_indexf_hit D p n c h5 hn w hr)
  clear h5 hr
  go_enter Try.func28, Try.ntmps28
  go_wp2_with (first
    | (go_at_call 33; (with_reducible refine (q.out).mono ?_); rintro e w1 ⟨⟨r, rfl, r0, r1⟩, rfl⟩))
  go_ret
  exact ⟨rfl, rfl⟩
set_option maxHeartbeats 2000000 in
theorem snd_valid_no (s f : Int) (D : List ByteArray) (p : Option Addr) (n c : Nat) (hv : vldB s f D = false) (hD : D.length ≤ 1000000) (w : World) (hr : StrRow w p n D) :
    Calls Try.prog 13 #[.agg #[.int .i64 s, .int .i64 f, .slice p n c]] w fun e w' => e = .returned (.bool false) ∧ Below w.heap.size w w' := by
  have hnD := hr.1
  have HR := hide hr
  have hbad : (s < 1 ∨ 256 < s) ∨ ((1 ≤ s ∧ s ≤ 256) ∧ (f < 0 ∨ 1073741825 < f)) ∨ ((1 ≤ s ∧ s ≤ 256) ∧ (0 ≤ f ∧ f ≤ 1073741825) ∧ s < (n : Int)) ∨ ((1 ≤ s ∧ s ≤ 256) ∧ (0 ≤ f ∧ f ≤ 1073741825) ∧ (n : Int) ≤ s ∧ 1073741825 < f + (n : Int)) ∨ ((1 ≤ s ∧ s ≤ 256) ∧ (0 ≤ f ∧ f ≤ 1073741825) ∧ (n : Int) ≤ s ∧ f + (n : Int) ≤ 1073741825 ∧ ¬ ∀ x ∈ D, x.size ≤ 4064) := by
    by_cases h1 : 1 ≤ s ∧ s ≤ 256
    · by_cases h2 : 0 ≤ f ∧ f ≤ 1073741825
      · by_cases h3 : (n : Int) ≤ s
        · by_cases h4 : f + (n : Int) ≤ 1073741825
          · refine .inr (.inr (.inr (.inr ⟨h1, h2, h3, h4, fun h5 => ?_⟩)))
            have : vldB s f D = true := by
              unfold vldB
              rw [Bool.and_eq_true, decide_eq_true_iff, List.all_eq_true]
              exact ⟨⟨h1.1, h1.2, h2.1, h2.2, by omega, by omega⟩, fun x hx => by simpa using h5 x hx⟩
            rw [this] at hv
            cases hv
          · exact .inr (.inr (.inr (.inl ⟨h1, h2, h3, by omega⟩)))
        · exact .inr (.inr (.inl ⟨h1, h2, by omega⟩))
      · exact .inr (.inl ⟨h1, by omega⟩)
    · exact .inl (by omega)
  have hnb : n ≤ 1000000 := by omega
  have HN := hide hnD
  clear hv hr hnD hD
  have h0 := heap_alloc_new w (.cells #[.int .i64 s, .int .i64 f, .slice p n c] 30)
  have HG := hide h0
  clear h0
  rcases hbad with h1 | ⟨h1, h2⟩ | ⟨h1, h2, h3⟩ | ⟨h1, h2, h3, h4⟩ | ⟨h1, h2, h3, h4, h5⟩
  · have Q := hide (snd_in_no s 1 256 h1)
    clear h1
    go_enter Try.func13, Try.ntmps13
    go_wp2_with (first
      | (go_at_call 27; (with_reducible refine (Q.out _).mono ?_); rintro e w1 ⟨rfl, rfl⟩))
    go_ret
    exact ⟨rfl, below1 _⟩
  · have Q := hide (snd_in_yes s 1 256 h1)
    have Q2 := hide (snd_in_no f 0 1073741825 h2)
    clear h1 h2
    go_enter Try.func13, Try.ntmps13
    go_wp2_with (first
      | (go_at_call 27; (with_reducible refine (Q.out _).mono ?_); rintro e w1 ⟨rfl, rfl⟩)
      | (go_at_call 27; (with_reducible refine (Q2.out _).mono ?_); rintro e w1 ⟨rfl, rfl⟩))
    go_ret
    exact ⟨rfl, below1 _⟩
  · have Q := hide (snd_in_yes s 1 256 h1)
    have Q2 := hide (snd_in_yes f 0 1073741825 h2)
    have d1 : decide (s < (n : Int)) = true := decide_eq_true h3
    clear h1 h2 h3
    go_enter Try.func13, Try.ntmps13
    go_wp2_with (first
      | (go_at_call 27; (with_reducible refine (Q.out _).mono ?_); rintro e w1 ⟨rfl, rfl⟩)
      | (go_at_call 27; (with_reducible refine (Q2.out _).mono ?_); rintro e w1 ⟨rfl, rfl⟩))
    go_ret
    exact ⟨rfl, below1 _⟩
  · have Q := hide (snd_in_yes s 1 256 h1)
    have Q2 := hide (snd_in_yes f 0 1073741825 h2)
    have Q3 := hide (snd_next s f p n c ⟨h2.1, by omega⟩ hnb)
    have d1 : decide (s < (n : Int)) = false := decide_eq_false (by omega)
    have d2 : decide ((1073741825 : Int) < f + (n : Int)) = true := decide_eq_true h4
    clear h1 h2 h3 h4
    go_enter Try.func13, Try.ntmps13
    go_wp2_with (first
      | (go_at_call 27; (with_reducible refine (Q.out _).mono ?_); rintro e w1 ⟨rfl, rfl⟩)
      | (go_at_call 27; (with_reducible refine (Q2.out _).mono ?_); rintro e w1 ⟨rfl, rfl⟩)
      | (go_at_call 14; (with_reducible refine (accB (below1 _) HG.out (Q3.out _)).mono ?_); rintro e w1 ⟨rfl, hb, hc⟩; (have HB := hide hb); (obtain ⟨c0, c1, c2, f0, f1, f2⟩ := tri_cells hc); clear hb hc))
    go_ret
    exact ⟨rfl, HB.out⟩
  · have Q := hide (snd_in_yes s 1 256 h1)
    have Q2 := hide (snd_in_yes f 0 1073741825 h2)
    have Q3 := hide (snd_next s f p n c ⟨h2.1, by omega⟩ hnb)
    have d1 : decide (s < (n : Int)) = false := decide_eq_false (by omega)
    have d2 : decide ((1073741825 : Int) < f + (n : Int)) = false := decide_eq_false (by omega)
    have Q4 := hide (fun (V : World) (hV : StrRow V p n D) => snd_containsf_hit D p n c h5 hnb V hV)
    clear h1 h2 h3 h4 h5
    go_enter Try.func13, Try.ntmps13
    go_wp2_with (first
      | (go_at_call 27; (with_reducible refine (Q.out _).mono ?_); rintro e w1 ⟨rfl, rfl⟩)
      | (go_at_call 27; (with_reducible refine (Q2.out _).mono ?_); rintro e w1 ⟨rfl, rfl⟩)
      | (go_at_call 14; (with_reducible refine (accB (below1 _) HG.out (Q3.out _)).mono ?_); rintro e w1 ⟨rfl, hb, hc⟩; (have HB := hide hb); (obtain ⟨c0, c1, c2, f0, f1, f2⟩ := tri_cells hc); clear hb hc)
      | (go_at_call 28; (with_reducible refine (Q4.out _ ?_).mono ?_); (focus exact HR.out.keep HB.out); rintro e w2 ⟨rfl, rfl⟩))
    go_ret
    exact ⟨rfl, HB.out⟩
theorem snd_valid_any (s f : Int) (D : List ByteArray) (p : Option Addr) (n c : Nat) (hD : D.length ≤ 1000000) (w : World) (hr : StrRow w p n D) :
    Calls Try.prog 13 #[.agg #[.int .i64 s, .int .i64 f, .slice p n c]] w fun e w' => e = .returned (.bool (vldB s f D)) ∧ Below w.heap.size w w' := by
  cases hv : vldB s f D
  · exact snd_valid_no s f D p n c hv hD w hr
  · obtain ⟨s', f', rfl, rfl, hok⟩ := vld_ok hv
    exact snd_valid s' f' D p n c hok w hr
end Go.Proofs.Ytpniokkllkjhhaa
