/- Plain facts about the numbers that an answer gives. -/
import Derived.Test.YtpniokkllkjhhaaSndAnsB
namespace Go.Proofs.Ytpniokkllkjhhaa
set_option linter.unusedVariables false
theorem hits_tail (L : List (Int × Int)) (F k : Nat) : ∀ d, ∃ t, hitsF L F (k + d) = hitsF L F k ++ t ∧ ∀ v ∈ t, F + k ≤ v
  | 0 => ⟨[], by simp, fun v h => by cases h⟩
  | d + 1 => by
    obtain ⟨t, ht, hv⟩ := hits_tail L F k d
    refine ⟨t ++ (if hasB L ((F + (k + d) : Nat) : Int) = true then [F + (k + d)] else []), by show hitsF L F (k + d) ++ _ = _; rw [ht, List.append_assoc]; rfl, fun v h => ?_⟩
    rw [List.mem_append] at h
    rcases h with h | h
    · exact hv v h
    · split at h
      · simp at h; omega
      · cases h
/-- The next number of all: just the one asked for, if it lies in spans. -/
theorem hits_next (L : List (Int × Int)) (F n j : Nat) (hj : j < n) : (hasB L ((F + j : Nat) : Int) = true → (hitsF L F n)[(hitsF L F j).length]? = some (F + j) ∧ (hitsF L F (j + 1)).length = (hitsF L F j).length + 1) ∧
    (hasB L ((F + j : Nat) : Int) = false → (∀ v, (hitsF L F n)[(hitsF L F j).length]? = some v → v ≠ F + j) ∧ (hitsF L F (j + 1)).length = (hitsF L F j).length) := by
  obtain ⟨t, ht, hv⟩ := hits_tail L F (j + 1) (n - (j + 1))
  rw [show j + 1 + (n - (j + 1)) = n by omega] at ht
  have hs : hitsF L F (j + 1) = hitsF L F j ++ (if hasB L ((F + j : Nat) : Int) = true then [F + j] else []) := rfl
  constructor
  · intro h
    rw [if_pos h] at hs
    rw [ht, hs]
    refine ⟨?_, by simp⟩
    rw [List.append_assoc, List.getElem?_append_right (Nat.le_refl _)]
    simp
  · intro h
    rw [if_neg (by rw [h]; simp), List.append_nil] at hs
    rw [ht, hs]
    refine ⟨fun v hg => ?_, rfl⟩
    rw [List.getElem?_append_right (Nat.le_refl _), Nat.sub_self] at hg
    have := hv v (List.mem_of_getElem? hg)
    omega
theorem hits_first (L : List (Int × Int)) (F n : Nat) : ∀ v ∈ hitsF L F n, F ≤ v := by
  obtain ⟨t, ht, hv⟩ := hits_tail L F 0 n
  rw [Nat.zero_add] at ht
  rw [ht]
  intro v h
  exact hv v (by simpa [hitsF] using h)
theorem hits_mono (L : List (Int × Int)) (F n j : Nat) (hj : j ≤ n) : (hitsF L F j).length ≤ (hitsF L F n).length := by
  obtain ⟨t, ht, -⟩ := hits_tail L F j (n - j)
  rw [show j + (n - j) = n by omega] at ht
  rw [ht, List.length_append]; omega
end Go.Proofs.Ytpniokkllkjhhaa
