/- The walks of the clock: Contains and run. -/
import Derived.Test.YtecoemdhnphmdaaClockWalkC
namespace Go.Proofs.Ytecoemdhnphmdaa
open Go.RowKit
set_option linter.unusedVariables false
set_option linter.unusedSimpArgs false
/-- Small numbers in memory. -/
def NatRow (w : World) (a : Option Addr) (m : Nat) (J : List Nat) : Prop :=
  m = J.length ∧ (m = 0 ∨ ∃ b off : Nat, a = some ⟨b, off, none⟩ ∧ ∀ i (h : i < J.length), w.cell? ⟨b, off + i, none⟩ = some (.int .i64 (J[i] : Nat)))
theorem index_ok (J : List Nat) (v : Nat) (a : Option Addr) (m cap : Nat) (hJ : J.length ≤ 256) (hs : ∀ j ∈ J, j ≤ 256) (hv : v ≤ 256) (w : World) (hr : NatRow w a m J) :
    Calls Try.prog 58 #[.slice a m cap, .int .i64 v] w fun e w' => (∃ r : Int, e = .returned (.int .i64 r) ∧ -1 ≤ r ∧ r ≤ 256 ∧ (0 ≤ r ↔ v ∈ J)) ∧ w = w' := by
  obtain ⟨rfl, hr⟩ := hr
  have HR := hide hr
  have HS := hide hs
  clear hr hs
  go_enter Try.func58, Try.ntmps58
  go_wp2_with fail
  go_loop [8] (fun i => ∃ k : Nat, k ≤ J.length ∧ i = .int .i64 k ∧ Hid (∀ i (h : i < J.length), i < k → J[i] ≠ v)) (fun i => J.length - (intOf i).toNat)
  case atStart => exact ⟨0, Nat.zero_le _, rfl, fun i _ h => by omega⟩
  case round =>
    obtain ⟨k, hk, rfl, hno⟩ := hrel
    by_cases hlt : k < J.length
    · rcases HR.out with h0 | ⟨b, off, rfl, hc⟩
      · omega
      · have c0 := hc k hlt
        have HC := hide hc
        have hle := HS.out _ (List.getElem_mem hlt)
        have hmem := hide (List.getElem_mem hlt)
        clear hc
        obtain ⟨y, hy⟩ : ∃ y : Nat, J[k] = y := ⟨_, rfl⟩
        have HY := hide hy
        rw [hy] at c0 hle
        clear hy
        by_cases he : v = y
        · subst he
          have d : decide ((v : Int) = (v : Int)) = true := by simp
          go_wp2
          go_ret
          exact ⟨⟨k, rfl, by omega, by omega, by constructor; (intro _; have := hmem.out; rw [HY.out] at this; exact this); (intro _; omega)⟩, rfl⟩
        · have d : ((v : Int) == (y : Int)) = false := by simp; omega
          have d2 : decide (v = y) = false := by simp; omega
          have d3 : (v == y) = false := by simp; omega
          go_wp2
          go_round
          case rel => exact ⟨k + 1, by omega, by go_num, fun i h hi => by
            by_cases hik : i = k
            · subst hik; rw [HY.out]; omega
            · exact hno.out i h (by omega)⟩
          case measure => simp [intOf]; omega
    · have he : k = J.length := by omega
      have NO := hide (fun h : v ∈ J => by
        obtain ⟨i, hi, hh⟩ := List.mem_iff_getElem.1 h
        exact hno.out i hi (by omega) hh : ¬ v ∈ J)
      have H0 := hide he
      obtain ⟨z, hz⟩ : ∃ z : Nat, J.length = z := ⟨_, rfl⟩
      clear he
      go_wp2
      go_ret
      exact ⟨⟨-1, rfl, by omega, by omega, by constructor; (intro h; omega); (intro h; exact absurd h NO.out)⟩, rfl⟩
theorem contains_ok (J : List Nat) (v : Nat) (a : Option Addr) (m cap : Nat) (hJ : J.length ≤ 256) (hs : ∀ j ∈ J, j ≤ 256) (hv : v ≤ 256) (w : World) (hr : NatRow w a m J) :
    Calls Try.prog 50 #[.slice a m cap, .int .i64 v] w fun e w' => e = .returned (.bool (decide (v ∈ J))) ∧ w = w' := by
  have q := hide (index_ok J v a m cap hJ hs hv w hr)
  obtain ⟨c, hc⟩ : ∃ c : Bool, decide (v ∈ J) = c := ⟨_, rfl⟩
  have HC := hide hc
  clear hr hs
  rw [hc]
  clear hc
  go_enter Try.func50, Try.ntmps50
  go_wp2_with (go_at_call 58; (with_reducible refine (q.out).mono ?_); rintro e w1 ⟨⟨r, rfl, r0, r1, r2⟩, rfl⟩; (have d : decide (0 ≤ r) = c := by (rw [← HC.out]; simp only [r2])); (have R2 := hide r2; clear r2))
  go_ret
  exact ⟨rfl, rfl⟩
set_option maxHeartbeats 1000000 in
theorem run_ok (J : List Nat) (n i : Nat) (a : Option Addr) (m cap : Nat) (hJ : J.length ≤ 256) (hs : ∀ j ∈ J, j ≤ 256) (hn : n ≤ 256) (hi : i ≤ 256) (w : World) (hr : NatRow w a m J) :
    Calls Try.prog 52 #[.slice a m cap, .int .i64 n, .int .i64 i] w fun e w' => e = .returned (.tuple #[.int .i64 ((runF n i J).1 : Nat), .int .i64 ((runF n i J).2 : Nat)]) ∧ w = w' := by
  obtain ⟨rfl, hr⟩ := hr
  rw [run_eq]
  have HR := hide hr
  have HS := hide hs
  clear hr hs
  go_enter Try.func52, Try.ntmps52
  go_wp2_with fail
  go_loop [6, 7, 13] (fun u v x => ∃ k f e : Nat, k ≤ J.length ∧ u = .int .i64 f ∧ v = .int .i64 e ∧ x = .int .i64 k ∧ f ≤ 256 ∧ e ≤ 256 ∧ Hid ((J.take k).foldl (runS i) (0, n) = (f, e))) (fun _ _ x => J.length - (intOf x).toNat)
  case atStart => exact ⟨0, 0, n, Nat.zero_le _, rfl, rfl, rfl, by omega, hn, rfl⟩
  case round =>
    obtain ⟨k, f, e, hk, rfl, rfl, rfl, hf, he, hrel⟩ := hrel
    by_cases hlt : k < J.length
    · rcases HR.out with h0 | ⟨b, off, rfl, hc⟩
      · omega
      · have c0 := hc k hlt
        have HC := hide hc
        have hle := HS.out _ (List.getElem_mem hlt)
        clear hc
        have hstep : (J.take (k + 1)).foldl (runS i) (0, n) = runS i (f, e) J[k] := by
          rw [List.take_succ_eq_append_getElem hlt, List.foldl_append, hrel.out]; rfl
        obtain ⟨y, hy⟩ : ∃ y : Nat, J[k] = y := ⟨_, rfl⟩
        rw [hy] at c0 hle hstep
        have HY := hide hy
        clear hy
        by_cases h1 : y ≤ i
        · have e1 : runS i (f, e) y = (y, e) := if_pos h1
          rw [e1] at hstep
          have HS2 := hide hstep
          have d : decide ((y : Int) ≤ (i : Int)) = true := by simp; omega
          have d' : decide (y ≤ i) = true := by simp; omega
          clear hstep e1
          go_wp2
          go_round
          case rel => exact ⟨k + 1, y, e, by omega, rfl, rfl, by go_num, by omega, by omega, HS2⟩
          case measure => simp [intOf]; omega
        · have d : decide ((y : Int) ≤ (i : Int)) = false := by simp; omega
          have d' : decide (y ≤ i) = false := by simp; omega
          by_cases h2 : y < e
          · have e1 : runS i (f, e) y = (f, y) := by unfold runS; rw [if_neg h1, if_pos h2]
            rw [e1] at hstep
            have HS2 := hide hstep
            have d2 : decide ((y : Int) < (e : Int)) = true := by simp; omega
            have d2' : decide (y < e) = true := by simp; omega
            clear hstep e1
            go_wp2
            go_round
            case rel => exact ⟨k + 1, f, y, by omega, rfl, rfl, by go_num, by omega, by omega, HS2⟩
            case measure => simp [intOf]; omega
          · have e1 : runS i (f, e) y = (f, e) := by unfold runS; rw [if_neg h1, if_neg h2]
            rw [e1] at hstep
            have HS2 := hide hstep
            have d2 : decide ((y : Int) < (e : Int)) = false := by simp; omega
            have d2' : decide (y < e) = false := by simp; omega
            clear hstep e1
            go_wp2
            go_round
            case rel => exact ⟨k + 1, f, e, by omega, rfl, rfl, by go_num, by omega, by omega, HS2⟩
            case measure => simp [intOf]; omega
    · have hkl : k = J.length := by omega
      subst hkl
      rw [List.take_length] at hrel
      go_wp2
      go_ret2
      exact ⟨by rw [hrel.out]; first | rfl | simp, rfl⟩
end Go.Proofs.Ytecoemdhnphmdaa
