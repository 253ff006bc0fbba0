/- Index of both packages, for any numbers: one value. -/
import Derived.Test.YtmhbncpiloffgaaRateP
namespace Go.Proofs.Ytmhbncpiloffgaa
open Go.RowKit
set_option linter.unusedVariables false
def idxIn (s k : Int) : Prop := (0 ≤ s ∧ s ≤ 9007199254740992) ∧ (0 ≤ k ∧ k ≤ 18014398509481984)
instance (s k : Int) : Decidable (idxIn s k) := by unfold idxIn; infer_instance
def idxV (s n d k : Int) : Int := if RateOk n d ∧ idxIn s k then (if k < s then -1 else (idxN n.toNat d.toNat (k.toNat - s.toNat) : Int)) else 0
def idxE (s n d k : Int) : Int := if RateOk n d then (if idxIn s k then 0 else 2) else 1

theorem rate_index (s n d k : Int) (w : World) :
    Calls Try.prog 14 #[.int .i64 s, .agg #[.int .i64 n, .int .i64 d], .int .i64 k] w fun e w' => e = .returned (.tuple #[.int .i64 (idxV s n d k), .int .i64 (idxE s n d k)]) ∧ Below w.heap.size w w' := by
  by_cases hr : RateOk n d
  · by_cases hi : idxIn s k
    · have e1 : idxV s n d k = (if k < s then -1 else (idxN n.toNat d.toNat (k.toNat - s.toNat) : Int)) := by unfold idxV; rw [if_pos ⟨hr, hi⟩]
      have e2 : idxE s n d k = 0 := by unfold idxE; rw [if_pos hr, if_pos hi]
      rw [e1, e2]
      obtain ⟨⟨s1, s2⟩, k1, k2⟩ := hi
      have := hr.1; have := hr.2.2.1
      obtain ⟨s, rfl⟩ : ∃ x : Nat, s = x := ⟨s.toNat, by omega⟩
      obtain ⟨k, rfl⟩ : ∃ x : Nat, k = x := ⟨k.toNat, by omega⟩
      obtain ⟨n, rfl⟩ : ∃ x : Nat, n = x := ⟨n.toNat, by omega⟩
      obtain ⟨d, rfl⟩ : ∃ x : Nat, d = x := ⟨d.toNat, by omega⟩
      by_cases h : (k : Int) < s
      · rw [if_pos h]
        exact rate_index_ahead n d s k hr (by omega) (by omega) (by omega) w
      · rw [if_neg h]
        exact rate_index_in n d s k hr (by omega) (by omega) (by omega) w
    · have e1 : idxV s n d k = 0 := by unfold idxV; rw [if_neg (fun h => hi h.2)]
      have e2 : idxE s n d k = 2 := by unfold idxE; rw [if_pos hr, if_neg hi]
      rw [e1, e2]
      by_cases hs : 0 ≤ s ∧ s ≤ 9007199254740992
      · exact rate_index_err s n d k 2 (.inr rfl) (fun w => rate_check_far2 s n d k hr hs (by unfold idxIn at hi; omega) w) w
      · exact rate_index_err s n d k 2 (.inr rfl) (fun w => rate_check_far1 s n d k hr (by omega) w) w
  · have e1 : idxV s n d k = 0 := by unfold idxV; rw [if_neg (fun h => hr h.1)]
    have e2 : idxE s n d k = 1 := by unfold idxE; rw [if_neg hr]
    rw [e1, e2]
    exact rate_index_err s n d k 1 (.inl rfl) (fun w => rate_check_bad s n d k hr w) w

theorem ref_index (s n d k : Int) (w : World) :
    Calls Try.prog 23 #[.int .i64 s, .agg #[.int .i64 n, .int .i64 d], .int .i64 k] w fun e w' => e = .returned (.tuple #[.int .i64 (idxV s n d k), .int .i64 (idxE s n d k)]) ∧ Below w.heap.size w w' := by
  by_cases hr : RateOk n d
  · by_cases hi : idxIn s k
    · have e1 : idxV s n d k = (if k < s then -1 else (idxN n.toNat d.toNat (k.toNat - s.toNat) : Int)) := by unfold idxV; rw [if_pos ⟨hr, hi⟩]
      have e2 : idxE s n d k = 0 := by unfold idxE; rw [if_pos hr, if_pos hi]
      rw [e1, e2]
      obtain ⟨⟨s1, s2⟩, k1, k2⟩ := hi
      have := hr.1; have := hr.2.2.1
      obtain ⟨s, rfl⟩ : ∃ x : Nat, s = x := ⟨s.toNat, by omega⟩
      obtain ⟨k, rfl⟩ : ∃ x : Nat, k = x := ⟨k.toNat, by omega⟩
      obtain ⟨n, rfl⟩ : ∃ x : Nat, n = x := ⟨n.toNat, by omega⟩
      obtain ⟨d, rfl⟩ : ∃ x : Nat, d = x := ⟨d.toNat, by omega⟩
      by_cases h : (k : Int) < s
      · rw [if_pos h]
        exact ref_index_ahead n d s k hr (by omega) (by omega) (by omega) w
      · rw [if_neg h]
        exact ref_index_in n d s k hr (by omega) (by omega) (by omega) w
    · have e1 : idxV s n d k = 0 := by unfold idxV; rw [if_neg (fun h => hi h.2)]
      have e2 : idxE s n d k = 2 := by unfold idxE; rw [if_pos hr, if_neg hi]
      rw [e1, e2]
      by_cases hs : 0 ≤ s ∧ s ≤ 9007199254740992
      · exact ref_index_err s n d k 2 (.inr rfl) (fun w => ref_check_far2 s n d k hr hs (by unfold idxIn at hi; omega) w) w
      · exact ref_index_err s n d k 2 (.inr rfl) (fun w => ref_check_far1 s n d k hr (by omega) w) w
  · have e1 : idxV s n d k = 0 := by unfold idxV; rw [if_neg (fun h => hr h.1)]
    have e2 : idxE s n d k = 1 := by unfold idxE; rw [if_neg hr]
    rw [e1, e2]
    exact ref_index_err s n d k 1 (.inl rfl) (fun w => ref_check_bad s n d k hr w) w
end Go.Proofs.Ytmhbncpiloffgaa
