/- Samples of both packages, by values. (written by gen_ratex.py) -/
import Derived.Test.YtmhbncpiloffgaaRateR
import Derived.Test.YtmhbncpiloffgaaRateSane
import Derived.Test.YtmhbncpiloffgaaDiceRate
import Derived.Test.YtmhbncpiloffgaaDieSt
import Derived.Test.YtmhbncpiloffgaaBlk
import Derived.Test.YtmhbncpiloffgaaIntBlk
import Derived.Test.YtmhbncpiloffgaaReg2
namespace Go.Proofs.Ytmhbncpiloffgaa
open Go.RowKit
set_option linter.unusedVariables false
def smpV (n d k : Int) : Int := if RateOk n d ∧ (0 ≤ k ∧ k ≤ 9007199254740992) ∧ ceilN n.toNat d.toNat k.toNat ≤ 16777216 then (ceilN n.toNat d.toNat k.toNat : Int) else 0
def smpE (n d k : Int) : Int := if RateOk n d then (if 0 ≤ k ∧ k ≤ 9007199254740992 then (if ceilN n.toNat d.toNat k.toNat ≤ 16777216 then 0 else 8) else 2) else 1
theorem rate_smp (n d k : Int) (w : World) : Calls Try.prog 28 #[.agg #[.int .i64 n, .int .i64 d], .int .i64 k] w fun e w' => e = .returned (.tuple #[.int .i64 (smpV n d k), .int .i64 (smpE n d k)]) ∧ Below w.heap.size w w' := by
  by_cases hr : RateOk n d
  · by_cases hi : 0 ≤ k ∧ k ≤ 9007199254740992
    · obtain ⟨k1, k2⟩ := hi
      have := hr.1; have := hr.2.2.1
      obtain ⟨k, rfl⟩ : ∃ x : Nat, k = x := ⟨k.toNat, by omega⟩
      obtain ⟨n, rfl⟩ : ∃ x : Nat, n = x := ⟨n.toNat, by omega⟩
      obtain ⟨d, rfl⟩ : ∃ x : Nat, d = x := ⟨d.toNat, by omega⟩
      by_cases hm : ceilN n d k ≤ 16777216
      · have e1 : smpV n d k = ceilN n d k := by unfold smpV; rw [if_pos ⟨hr, ⟨k1, k2⟩, hm⟩]; rfl
        have e2 : smpE n d k = 0 := by unfold smpE; rw [if_pos hr, if_pos ⟨k1, k2⟩]; exact if_pos hm
        rw [e1, e2]
        exact rate_samples_ok n d k hr (by omega) hm w
      · have e1 : smpV n d k = 0 := by unfold smpV; rw [if_neg (fun h => hm h.2.2)]
        have e2 : smpE n d k = 8 := by unfold smpE; rw [if_pos hr, if_pos ⟨k1, k2⟩]; exact if_neg hm
        rw [e1, e2]
        exact rate_samples_many n d k hr (by omega) (by omega) w
    · have e1 : smpV n d k = 0 := by unfold smpV; rw [if_neg (fun h => hi h.2.1)]
      have e2 : smpE n d k = 2 := by unfold smpE; rw [if_pos hr, if_neg hi]
      rw [e1, e2]
      exact rate_samples_far1 0 n d k hr (by omega) w
  · have e1 : smpV n d k = 0 := by unfold smpV; rw [if_neg (fun h => hr h.1)]
    have e2 : smpE n d k = 1 := by unfold smpE; rw [if_neg hr]
    rw [e1, e2]
    exact rate_samples_bad 0 n d k hr w
theorem ref_smp (n d k : Int) (w : World) : Calls Try.prog 29 #[.agg #[.int .i64 n, .int .i64 d], .int .i64 k] w fun e w' => e = .returned (.tuple #[.int .i64 (smpV n d k), .int .i64 (smpE n d k)]) ∧ Below w.heap.size w w' := by
  by_cases hr : RateOk n d
  · by_cases hi : 0 ≤ k ∧ k ≤ 9007199254740992
    · obtain ⟨k1, k2⟩ := hi
      have := hr.1; have := hr.2.2.1
      obtain ⟨k, rfl⟩ : ∃ x : Nat, k = x := ⟨k.toNat, by omega⟩
      obtain ⟨n, rfl⟩ : ∃ x : Nat, n = x := ⟨n.toNat, by omega⟩
      obtain ⟨d, rfl⟩ : ∃ x : Nat, d = x := ⟨d.toNat, by omega⟩
      by_cases hm : ceilN n d k ≤ 16777216
      · have e1 : smpV n d k = ceilN n d k := by unfold smpV; rw [if_pos ⟨hr, ⟨k1, k2⟩, hm⟩]; rfl
        have e2 : smpE n d k = 0 := by unfold smpE; rw [if_pos hr, if_pos ⟨k1, k2⟩]; exact if_pos hm
        rw [e1, e2]
        exact ref_samples_ok n d k hr (by omega) hm w
      · have e1 : smpV n d k = 0 := by unfold smpV; rw [if_neg (fun h => hm h.2.2)]
        have e2 : smpE n d k = 8 := by unfold smpE; rw [if_pos hr, if_pos ⟨k1, k2⟩]; exact if_neg hm
        rw [e1, e2]
        exact ref_samples_many n d k hr (by omega) (by omega) w
    · have e1 : smpV n d k = 0 := by unfold smpV; rw [if_neg (fun h => hi h.2.1)]
      have e2 : smpE n d k = 2 := by unfold smpE; rw [if_pos hr, if_neg hi]
      rw [e1, e2]
      exact ref_samples_far1 0 n d k hr (by omega) w
  · have e1 : smpV n d k = 0 := by unfold smpV; rw [if_neg (fun h => hr h.1)]
    have e2 : smpE n d k = 1 := by unfold smpE; rw [if_neg hr]
    rw [e1, e2]
    exact ref_samples_bad 0 n d k hr w
end Go.Proofs.Ytmhbncpiloffgaa
