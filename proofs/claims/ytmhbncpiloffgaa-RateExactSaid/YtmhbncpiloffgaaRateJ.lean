/- The walks of the reference's Number and Samples, for rates that are valid. -/
import Derived.Test.YtmhbncpiloffgaaRateI
namespace Go.Proofs.Ytmhbncpiloffgaa
open Go.RowKit
set_option linter.unusedVariables false
set_option linter.unusedSimpArgs false

theorem ref_number (n d x : Nat) (hr : RateOk n d) (hx : x ≤ 18014398509481984) (w : World) :
    Calls Try.prog 26 #[.agg #[.int .i64 n, .int .i64 d], .int .i64 x] w fun e w' => e = .returned (.tuple #[.int .i64 (numN n d x), .int .i64 0]) ∧ Below w.heap.size w w' := by
  have q0 := fun w => ref_valid n d w
  rw [decide_eq_true hr] at q0
  have Q0 := hide q0
  obtain ⟨r1, r2, r3, r4, r5⟩ := hr
  clear q0 r5
  have hn : n ≤ 4096 := by omega
  have hB := numN_bound n d x hn (by omega) hx
  have hC : numN n d x = x / (d * 1000000) * n + (2 * (x % (d * 1000000)) * n + d * 1000000) / (2 * (d * 1000000)) := rfl
  obtain ⟨r, hr⟩ : ∃ r : Nat, numN n d x = r := ⟨_, rfl⟩
  rw [hr] at hC hB ⊢
  obtain ⟨p, hp⟩ : ∃ p : Nat, d * 1000000 = p := ⟨_, rfl⟩
  rw [hp] at hC
  have e0 : (d : Int) * 1000000 = (p : Int) := by omega
  have hp1 : 1000000 ≤ p := by omega
  have hp2 : p ≤ 4096000000 := by omega
  obtain ⟨a, ha⟩ : ∃ a : Nat, x / p = a := ⟨_, rfl⟩
  obtain ⟨b, hb⟩ : ∃ b : Nat, a * n = b := ⟨_, rfl⟩
  obtain ⟨c, hc⟩ : ∃ c : Nat, x % p = c := ⟨_, rfl⟩
  obtain ⟨c2, hcc⟩ : ∃ c2 : Nat, 2 * c = c2 := ⟨_, rfl⟩
  obtain ⟨f, hf⟩ : ∃ f : Nat, c2 * n = f := ⟨_, rfl⟩
  obtain ⟨u, hu⟩ : ∃ u : Nat, f + p = u := ⟨_, rfl⟩
  obtain ⟨p2, hpp⟩ : ∃ p2 : Nat, 2 * p = p2 := ⟨_, rfl⟩
  obtain ⟨h, hh⟩ : ∃ h : Nat, u / p2 = h := ⟨_, rfl⟩
  have e1 : (x : Int) / (p : Int) = (a : Int) := by rw [← ha]; rfl
  have e2 : (a : Int) * (n : Int) = (b : Int) := by rw [← hb]; exact (Int.natCast_mul a n).symm
  have e3 : (x : Int) % (p : Int) = (c : Int) := by rw [← hc]; rfl
  have e3a : 2 * (c : Int) = (c2 : Int) := by omega
  have e4 : (c2 : Int) * (n : Int) = (f : Int) := by rw [← hf]; exact (Int.natCast_mul c2 n).symm
  have e5 : (f : Int) + (p : Int) = (u : Int) := by omega
  have e5a : 2 * (p : Int) = (p2 : Int) := by omega
  have e6 : (u : Int) / (p2 : Int) = (h : Int) := by rw [← hh]; rfl
  have hc2 : c < p := by rw [← hc]; exact Nat.mod_lt _ (by omega)
  have hc3 : c2 ≤ 8192000000 := by omega
  have hf2 : f ≤ 8192000000 * 4096 := by rw [← hf]; exact Nat.mul_le_mul (by omega) hn
  have ha2 : a ≤ x := by rw [← ha]; exact Nat.div_le_self _ _
  have hh2 : h ≤ u := by rw [← hh]; exact Nat.div_le_self _ _
  rw [ha, hb, hc, hcc, hf, hu, hpp, hh] at hC
  have e7 : (b : Int) + (h : Int) = (r : Int) := by omega
  have hb2 : b ≤ r := by omega
  have hp0 : (p : Int) ≠ 0 := by omega
  have hp20 : (p2 : Int) ≠ 0 := by omega
  have hu2 : u ≤ 8192000000 * 4096 + 4096000000 := by omega
  have hp22 : p2 ≤ 8192000000 := by omega
  clear hp ha hb hc hcc hf hu hpp hh hr hC hn
  go_enter Try.func26, Try.ntmps26
  go_wp2_with (first
    | (go_at_call 21; (with_reducible refine (accB (below1 _) (heap_alloc_new _ _) (Q0.out _)).mono ?_); rintro e w1 ⟨rfl, hb, hc⟩; (obtain ⟨c0, c1, f0, f1⟩ := pair_cells hc))
    | (go_at_call 39; (with_reducible refine (utc_in_yes _ _ _ ?_ _).mono ?_); (focus omega); rintro e w1 ⟨rfl, rfl⟩))
  go_region
  go_wp2
  go_region
  go_wp2
  go_ret2
  exact ⟨rfl, hb.drew.drew⟩

theorem ref_samples_ok (n d x : Nat) (hr : RateOk n d) (hx : x ≤ 9007199254740992) (hm : ceilN n d x ≤ 16777216) (w : World) :
    Calls Try.prog 29 #[.agg #[.int .i64 n, .int .i64 d], .int .i64 x] w fun e w' => e = .returned (.tuple #[.int .i64 (ceilN n d x), .int .i64 0]) ∧ Below w.heap.size w w' := by
  have q := fun w => ref_valid n d w
  rw [decide_eq_true hr] at q
  have q2 : ∀ w, Calls Try.prog 24 #[.int .i64 0, .agg #[.int .i64 n, .int .i64 d], .int .i64 x] w fun e w' => e = .returned (.tuple #[.int .i64 (ceilN n d x), .int .i64 0]) ∧ Below w.heap.size w w' := fun w => by
    have := ref_next_in n d 0 x hr (by omega) (by omega) (by omega) w
    have e1 : nextV n d (x - 0) = (ceilN n d x : Int) := by unfold nextV; rw [Nat.sub_zero, if_pos hm]
    have e2 : nextE n d (x - 0) = 0 := by unfold nextE; rw [Nat.sub_zero, if_pos hm]
    rw [e1, e2] at this
    exact this
  generalize ceilN n d x = c at *
  have Q := hide q
  have Q2 := hide q2
  have d1 : decide ((16777216 : Int) < (c : Int)) = false := by simp; omega
  have d1' : decide (16777216 < c) = false := by simp; omega
  clear q q2 hr
  go_enter Try.func29, Try.ntmps29
  go_wp2_with (first
    | (go_at_call 21; (with_reducible refine (accB (below1 _) (heap_alloc_new _ _) (Q.out _)).mono ?_); rintro e w1 ⟨rfl, hb, hc⟩; (obtain ⟨c0, c1, f0, f1⟩ := pair_cells hc))
    | (go_at_call 39; (with_reducible refine (utc_in_yes _ _ _ ?_ _).mono ?_); (focus omega); rintro e w1 ⟨rfl, rfl⟩)
    | (go_at_call 24; (with_reducible refine (acc hb (Q2.out _)).mono ?_); clear hb; rintro e w2 ⟨rfl, hb⟩))
  go_ret2
  exact ⟨rfl, hb⟩
theorem ref_samples_many (n d x : Nat) (hr : RateOk n d) (hx : x ≤ 9007199254740992) (hm : 16777216 < ceilN n d x) (w : World) :
    Calls Try.prog 29 #[.agg #[.int .i64 n, .int .i64 d], .int .i64 x] w fun e w' => e = .returned (.tuple #[.int .i64 0, .int .i64 8]) ∧ Below w.heap.size w w' := by
  have q := fun w => ref_valid n d w
  rw [decide_eq_true hr] at q
  have q2 : ∀ w, Calls Try.prog 24 #[.int .i64 0, .agg #[.int .i64 n, .int .i64 d], .int .i64 x] w fun e w' => e = .returned (.tuple #[.int .i64 0, .int .i64 6]) ∧ Below w.heap.size w w' := fun w => by
    have := ref_next_in n d 0 x hr (by omega) (by omega) (by omega) w
    have e1 : nextV n d (x - 0) = 0 := by unfold nextV; rw [Nat.sub_zero, if_neg (by omega)]
    have e2 : nextE n d (x - 0) = 6 := by unfold nextE; rw [Nat.sub_zero, if_neg (by omega)]
    rw [e1, e2] at this
    exact this
  have Q := hide q
  have Q2 := hide q2
  clear q q2 hr hm
  go_enter Try.func29, Try.ntmps29
  go_wp2_with (first
    | (go_at_call 21; (with_reducible refine (accB (below1 _) (heap_alloc_new _ _) (Q.out _)).mono ?_); rintro e w1 ⟨rfl, hb, hc⟩; (obtain ⟨c0, c1, f0, f1⟩ := pair_cells hc))
    | (go_at_call 39; (with_reducible refine (utc_in_yes _ _ _ ?_ _).mono ?_); (focus omega); rintro e w1 ⟨rfl, rfl⟩)
    | (go_at_call 24; (with_reducible refine (acc hb (Q2.out _)).mono ?_); clear hb; rintro e w2 ⟨rfl, hb⟩))
  go_ret2
  exact ⟨rfl, hb⟩
end Go.Proofs.Ytmhbncpiloffgaa
