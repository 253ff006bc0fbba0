/- The walk of RateNearest. -/
import Derived.Test.YtmhbncpiloffgaaRateAscendsLaw
namespace Go.Proofs.Ytmhbncpiloffgaa
open Go.RowKit
set_option linter.unusedVariables false
set_option linter.unusedSimpArgs false

theorem near_facts (n d s t : Nat) (hok : RateOk n d) (hs : s ≤ 4294967295) (ht : t ≤ 8589934590) : ∃ (k : Nat) (off : Int),
    Hid (∀ w, Calls Try.prog 12 #[.int .i64 s, .agg #[.int .i64 n, .int .i64 d], .int .i64 t] w fun e w' => e = .returned (.tuple #[.int .i64 k, .int .i64 off, .int .i64 0]) ∧ Below w.heap.size w w') ∧
    k ≤ 16777216 ∧ off = (t : Int) - (s + afterN n d k : Nat) ∧
    ∀ i : Nat, i ≤ 16777216 → ∃ u v : Int, ((s + afterN n d i : Nat) : Int) - t = u ∧ (t : Int) - (s + afterN n d i : Nat) = v ∧ (off ≤ u ∨ off ≤ v) ∧ (-off ≤ u ∨ -off ≤ v) ∧ (i < k → (off < u ∨ off < v) ∧ (-off < u ∨ -off < v)) := by
  have hok' := hok
  obtain ⟨r1, r2, r3, r4, r5⟩ := hok'
  have n1 : 1 ≤ n := by omega
  have n2 : n ≤ 4096 := by omega
  have d1 : 1 ≤ d := by omega
  by_cases h : s ≤ t
  · obtain ⟨kk, hkk⟩ : ∃ kk, idxN n d (t - s) = kk := ⟨_, rfl⟩
    have hm : kk ≤ 16777216 := by rw [← hkk]; unfold idxN; omega
    have hp := ceilN_pos n d (t - s) n1 d1
    have hA : afterN n d kk ≤ t - s := by
      have : ¬ ceilN n d (t - s + 1) ≤ kk := by rw [← hkk]; unfold idxN; omega
      rw [ceil_after n d _ _ n1 d1] at this
      omega
    by_cases hk2 : kk < 16777216
    · have hB : t - s + 1 ≤ afterN n d (kk + 1) := by
        rw [← ceil_after n d _ _ n1 d1]
        rw [← hkk] at hk2 ⊢
        unfold idxN at hk2 ⊢
        omega
      by_cases hup : (afterN n d (kk + 1) : Int) - ((t : Int) - s) < (t : Int) - s - afterN n d kk
      · refine ⟨kk + 1, (t : Int) - s - afterN n d (kk + 1), fun w => rate_near_up n d s t kk hok (by omega) (by omega) h hkk hk2 hup w, by omega, by omega, fun i hi => ⟨_, _, rfl, rfl, ?_⟩⟩
        by_cases hik : i ≤ kk
        · have := after_mono n d hik
          omega
        · have := after_mono n d (show kk + 1 ≤ i by omega)
          omega
      · refine ⟨kk, (t : Int) - s - afterN n d kk, fun w => rate_near_here n d s t kk hok (by omega) (by omega) h hkk hk2 hup w, by omega, by omega, fun i hi => ⟨_, _, rfl, rfl, ?_⟩⟩
        by_cases hik : i < kk
        · have := after_mono n d (show i + 1 ≤ kk from hik)
          have := after_succ n d i n1 n2 d1
          omega
        · by_cases he : i = kk
          · subst he; omega
          · have := after_mono n d (show kk + 1 ≤ i by omega)
            omega
    · have hk3 : kk = 16777216 := by omega
      subst hk3
      refine ⟨16777216, (t : Int) - s - afterN n d 16777216, fun w => rate_near_end n d s t hok (by omega) (by omega) h hkk w, by omega, by omega, fun i hi => ⟨_, _, rfl, rfl, ?_⟩⟩
      by_cases he : i = 16777216
      · subst he; omega
      · have := after_mono n d (show i + 1 ≤ 16777216 by omega)
        have := after_succ n d i n1 n2 d1
        omega
  · have z : afterN n d 0 = 0 := by simp [afterN]
    refine ⟨0, (t : Int) - s, fun w => rate_near_ahead n d s t hok (by omega) (by omega) (by omega) w, by omega, by rw [z]; omega, fun i hi => ⟨_, _, rfl, rfl, ?_⟩⟩
    omega
end Go.Proofs.Ytmhbncpiloffgaa
