/- Time and Number of both packages, for any numbers: one value. -/
import Derived.Test.YtmhbncpiloffgaaRateO
namespace Go.Proofs.Ytmhbncpiloffgaa
open Go.RowKit
set_option linter.unusedVariables false
def timeIn (s k : Int) : Prop := (0 ≤ s ∧ s ≤ 9007199254740992) ∧ (0 ≤ k ∧ k ≤ 16777216)
instance (s k : Int) : Decidable (timeIn s k) := by unfold timeIn; infer_instance
def timeV (s n d k : Int) : Int := if RateOk n d ∧ timeIn s k then ((s.toNat + afterN n.toNat d.toNat k.toNat : Nat) : Int) else 0
def timeE (s n d k : Int) : Int := if RateOk n d then (if timeIn s k then 0 else 2) else 1
def numIn (k : Int) : Prop := 0 ≤ k ∧ k ≤ 18014398509481984
instance (k : Int) : Decidable (numIn k) := by unfold numIn; infer_instance
def numV (n d k : Int) : Int := if RateOk n d ∧ numIn k then (numN n.toNat d.toNat k.toNat : Int) else 0
def numE (n d k : Int) : Int := if RateOk n d then (if numIn k then 0 else 2) else 1

theorem rate_time (s n d k : Int) (w : World) :
    Calls Try.prog 13 #[.int .i64 s, .agg #[.int .i64 n, .int .i64 d], .int .i64 k] w fun e w' => e = .returned (.tuple #[.int .i64 (timeV s n d k), .int .i64 (timeE s n d k)]) ∧ Below w.heap.size w w' := by
  by_cases hr : RateOk n d
  · by_cases hi : timeIn s k
    · have e1 : timeV s n d k = ((s.toNat + afterN n.toNat d.toNat k.toNat : Nat) : Int) := by unfold timeV; rw [if_pos ⟨hr, hi⟩]
      have e2 : timeE s n d k = 0 := by unfold timeE; rw [if_pos hr, if_pos hi]
      rw [e1, e2]
      obtain ⟨⟨s1, s2⟩, k1, k2⟩ := hi
      have := hr.1; have := hr.2.2.1
      obtain ⟨s, rfl⟩ : ∃ x : Nat, s = x := ⟨s.toNat, by omega⟩
      obtain ⟨k, rfl⟩ : ∃ x : Nat, k = x := ⟨k.toNat, by omega⟩
      obtain ⟨n, rfl⟩ : ∃ x : Nat, n = x := ⟨n.toNat, by omega⟩
      obtain ⟨d, rfl⟩ : ∃ x : Nat, d = x := ⟨d.toNat, by omega⟩
      exact rate_time_ok n d s k hr (by omega) (by omega) w
    · have e1 : timeV s n d k = 0 := by unfold timeV; rw [if_neg (fun h => hi h.2)]
      have e2 : timeE s n d k = 2 := by unfold timeE; rw [if_pos hr, if_neg hi]
      rw [e1, e2]
      by_cases hs : 0 ≤ s ∧ s ≤ 9007199254740992
      · exact rate_time_far2 s n d k hr hs (by unfold timeIn at hi; omega) w
      · exact rate_time_far1 s n d k hr (by omega) w
  · have e1 : timeV s n d k = 0 := by unfold timeV; rw [if_neg (fun h => hr h.1)]
    have e2 : timeE s n d k = 1 := by unfold timeE; rw [if_neg hr]
    rw [e1, e2]
    exact rate_time_bad s n d k hr w
theorem rate_numb (n d k : Int) (w : World) :
    Calls Try.prog 16 #[.agg #[.int .i64 n, .int .i64 d], .int .i64 k] w fun e w' => e = .returned (.tuple #[.int .i64 (numV n d k), .int .i64 (numE n d k)]) ∧ Below w.heap.size w w' := by
  by_cases hr : RateOk n d
  · by_cases hi : numIn k
    · have e1 : numV n d k = (numN n.toNat d.toNat k.toNat : Int) := by unfold numV; rw [if_pos ⟨hr, hi⟩]
      have e2 : numE n d k = 0 := by unfold numE; rw [if_pos hr, if_pos hi]
      rw [e1, e2]
      obtain ⟨k1, k2⟩ := hi
      have := hr.1; have := hr.2.2.1
      obtain ⟨k, rfl⟩ : ∃ x : Nat, k = x := ⟨k.toNat, by omega⟩
      obtain ⟨n, rfl⟩ : ∃ x : Nat, n = x := ⟨n.toNat, by omega⟩
      obtain ⟨d, rfl⟩ : ∃ x : Nat, d = x := ⟨d.toNat, by omega⟩
      exact rate_number n d k hr (by omega) w
    · have e1 : numV n d k = 0 := by unfold numV; rw [if_neg (fun h => hi h.2)]
      have e2 : numE n d k = 2 := by unfold numE; rw [if_pos hr, if_neg hi]
      rw [e1, e2]
      exact rate_number_far1 0 n d k hr (by unfold numIn at hi; omega) w
  · have e1 : numV n d k = 0 := by unfold numV; rw [if_neg (fun h => hr h.1)]
    have e2 : numE n d k = 1 := by unfold numE; rw [if_neg hr]
    rw [e1, e2]
    exact rate_number_bad 0 n d k hr w

theorem ref_time (s n d k : Int) (w : World) :
    Calls Try.prog 22 #[.int .i64 s, .agg #[.int .i64 n, .int .i64 d], .int .i64 k] w fun e w' => e = .returned (.tuple #[.int .i64 (timeV s n d k), .int .i64 (timeE s n d k)]) ∧ Below w.heap.size w w' := by
  by_cases hr : RateOk n d
  · by_cases hi : timeIn s k
    · have e1 : timeV s n d k = ((s.toNat + afterN n.toNat d.toNat k.toNat : Nat) : Int) := by unfold timeV; rw [if_pos ⟨hr, hi⟩]
      have e2 : timeE s n d k = 0 := by unfold timeE; rw [if_pos hr, if_pos hi]
      rw [e1, e2]
      obtain ⟨⟨s1, s2⟩, k1, k2⟩ := hi
      have := hr.1; have := hr.2.2.1
      obtain ⟨s, rfl⟩ : ∃ x : Nat, s = x := ⟨s.toNat, by omega⟩
      obtain ⟨k, rfl⟩ : ∃ x : Nat, k = x := ⟨k.toNat, by omega⟩
      obtain ⟨n, rfl⟩ : ∃ x : Nat, n = x := ⟨n.toNat, by omega⟩
      obtain ⟨d, rfl⟩ : ∃ x : Nat, d = x := ⟨d.toNat, by omega⟩
      exact ref_time_ok n d s k hr (by omega) (by omega) w
    · have e1 : timeV s n d k = 0 := by unfold timeV; rw [if_neg (fun h => hi h.2)]
      have e2 : timeE s n d k = 2 := by unfold timeE; rw [if_pos hr, if_neg hi]
      rw [e1, e2]
      by_cases hs : 0 ≤ s ∧ s ≤ 9007199254740992
      · exact ref_time_far2 s n d k hr hs (by unfold timeIn at hi; omega) w
      · exact ref_time_far1 s n d k hr (by omega) w
  · have e1 : timeV s n d k = 0 := by unfold timeV; rw [if_neg (fun h => hr h.1)]
    have e2 : timeE s n d k = 1 := by unfold timeE; rw [if_neg hr]
    rw [e1, e2]
    exact ref_time_bad s n d k hr w
theorem ref_numb (n d k : Int) (w : World) :
    Calls Try.prog 26 #[.agg #[.int .i64 n, .int .i64 d], .int .i64 k] w fun e w' => e = .returned (.tuple #[.int .i64 (numV n d k), .int .i64 (numE n d k)]) ∧ Below w.heap.size w w' := by
  by_cases hr : RateOk n d
  · by_cases hi : numIn k
    · have e1 : numV n d k = (numN n.toNat d.toNat k.toNat : Int) := by unfold numV; rw [if_pos ⟨hr, hi⟩]
      have e2 : numE n d k = 0 := by unfold numE; rw [if_pos hr, if_pos hi]
      rw [e1, e2]
      obtain ⟨k1, k2⟩ := hi
      have := hr.1; have := hr.2.2.1
      obtain ⟨k, rfl⟩ : ∃ x : Nat, k = x := ⟨k.toNat, by omega⟩
      obtain ⟨n, rfl⟩ : ∃ x : Nat, n = x := ⟨n.toNat, by omega⟩
      obtain ⟨d, rfl⟩ : ∃ x : Nat, d = x := ⟨d.toNat, by omega⟩
      exact ref_number n d k hr (by omega) w
    · have e1 : numV n d k = 0 := by unfold numV; rw [if_neg (fun h => hi h.2)]
      have e2 : numE n d k = 2 := by unfold numE; rw [if_pos hr, if_neg hi]
      rw [e1, e2]
      exact ref_number_far1 0 n d k hr (by unfold numIn at hi; omega) w
  · have e1 : numV n d k = 0 := by unfold numV; rw [if_neg (fun h => hr h.1)]
    have e2 : numE n d k = 1 := by unfold numE; rw [if_neg hr]
    rw [e1, e2]
    exact ref_number_bad 0 n d k hr w
end Go.Proofs.Ytmhbncpiloffgaa
