/- The walks of the reference's Next, for rates that are valid. -/
import Derived.Test.YtmhbncpiloffgaaRateH
namespace Go.Proofs.Ytmhbncpiloffgaa
open Go.RowKit
set_option linter.unusedVariables false
set_option linter.unusedSimpArgs false

theorem ref_next_ahead (n d s t : Nat) (hr : RateOk n d) (hs : s ≤ 9007199254740992) (ht : t ≤ 18014398509481984) (h : t < s) (w : World) :
    Calls Try.prog 24 #[.int .i64 s, .agg #[.int .i64 n, .int .i64 d], .int .i64 t] w fun e w' => e = .returned (.tuple #[.int .i64 0, .int .i64 0]) ∧ Below w.heap.size w w' := by
  have Q := hide (fun w => ref_index_ahead n d s t hr hs ht h w)
  clear hr
  go_enter Try.func24, Try.ntmps24
  go_wp2_with (first
    | (go_at_call 23; (with_reducible refine (acc (below1 _) (Q.out _)).mono ?_); rintro e w1 ⟨rfl, hb⟩))
  go_ret2
  exact ⟨rfl, hb⟩
/-- What Next has to say of a time that is not ahead of the start. -/
def nextV (n d x : Nat) : Int := if ceilN n d x ≤ 16777216 then ceilN n d x else 0
def nextE (n d x : Nat) : Int := if ceilN n d x ≤ 16777216 then 0 else 6
theorem next_cases (n d x k : Nat) (hn1 : 1 ≤ n) (hn2 : n ≤ 4096) (hd1 : 1 ≤ d) (hk : idxN n d x = k) :
    (afterN n d k = x ∧ nextV n d x = (k : Int) ∧ nextE n d x = 0) ∨ (afterN n d k ≠ x ∧ k ≠ 16777216 ∧ nextV n d x = (k : Int) + 1 ∧ nextE n d x = 0) ∨
    (afterN n d k ≠ x ∧ k = 16777216 ∧ nextV n d x = 0 ∧ nextE n d x = 6) := by
  have hm : k ≤ 16777216 := by rw [← hk]; unfold idxN; exact Nat.min_le_right _ _
  have h1 : afterN n d k ≤ x := (idx_iff n d x k hn1 hd1 hm).2 (Nat.le_of_eq hk.symm)
  by_cases e : afterN n d k = x
  · have hc := ceil_of_after n d k hn1 hn2 hd1
    rw [e] at hc
    refine .inl ⟨e, ?_, ?_⟩
    · unfold nextV; rw [hc, if_pos hm]
    · unfold nextE; rw [hc, if_pos hm]
  · have hc1 : ¬ ceilN n d x ≤ k := by rw [ceil_after n d x k hn1 hd1]; omega
    by_cases hk2 : k = 16777216
    · have hC : ¬ ceilN n d x ≤ 16777216 := by rw [← hk2]; exact hc1
      refine .inr (.inr ⟨e, hk2, ?_, ?_⟩)
      · unfold nextV; rw [if_neg hC]
      · unfold nextE; rw [if_neg hC]
    · have hn : ¬ afterN n d (k + 1) ≤ x := by rw [idx_iff n d x (k + 1) hn1 hd1 (by omega), hk]; omega
      have hc2 : ceilN n d x ≤ k + 1 := by rw [ceil_after n d x (k + 1) hn1 hd1]; omega
      have hC : ceilN n d x = k + 1 := by omega
      refine .inr (.inl ⟨e, hk2, ?_, ?_⟩)
      · unfold nextV; rw [hC, if_pos (by omega)]; rfl
      · unfold nextE; rw [hC, if_pos (by omega)]
set_option maxHeartbeats 1000000 in
theorem ref_next_in (n d s t : Nat) (hr : RateOk n d) (hs : s ≤ 9007199254740992) (ht : t ≤ 18014398509481984) (h : s ≤ t) (w : World) :
    Calls Try.prog 24 #[.int .i64 s, .agg #[.int .i64 n, .int .i64 d], .int .i64 t] w fun e w' => e = .returned (.tuple #[.int .i64 (nextV n d (t - s)), .int .i64 (nextE n d (t - s))]) ∧ Below w.heap.size w w' := by
  have hn1 : 1 ≤ n := by have := hr.1; omega
  have hn2 : n ≤ 4096 := by have := hr.2.1; omega
  have hd1 : 1 ≤ d := by have := hr.2.2.1; omega
  have q := fun w => ref_index_in n d s t hr hs ht h w
  obtain ⟨k, hk⟩ : ∃ k : Nat, idxN n d (t - s) = k := ⟨_, rfl⟩
  have hm : k ≤ 16777216 := by rw [← hk]; unfold idxN; exact Nat.min_le_right _ _
  have hT := fun w => ref_time_ok n d s k hr hs hm w
  have H := next_cases n d (t - s) k hn1 hn2 hd1 hk
  rw [hk] at q
  have Q := hide q
  obtain ⟨b, hb0⟩ : ∃ b : Nat, s + afterN n d k = b := ⟨_, rfl⟩
  rw [hb0] at hT
  have QT := hide hT
  rcases H with ⟨H, hV, hE⟩ | ⟨H, hk2, hV, hE⟩ | ⟨H, hk2, hV, hE⟩
  all_goals rw [hV, hE]; clear hV hE
  · have t1 : ((b : Int) == (t : Int)) = true := by rw [beq_iff_eq]; omega
    have t1' : (b == t) = true := by rw [beq_iff_eq]; omega
    have t3 : True := trivial
    · clear q hT hr hk hb0 H
      go_enter Try.func24, Try.ntmps24
      go_wp2_with (first
        | (go_at_call 23; (with_reducible refine (accB (below1 _) (heap_alloc_new _ _) (Q.out _)).mono ?_); rintro e w1 ⟨rfl, hb, hc⟩; (obtain ⟨c0, c1, f0, f1⟩ := pair_cells hc))
        | (go_at_call 22; (with_reducible refine (acc hb (QT.out _)).mono ?_); clear hb; rintro e w2 ⟨rfl, hb⟩))
      go_ret2
      exact ⟨rfl, hb⟩
  · have t1 : ((b : Int) == (t : Int)) = false := by rw [beq_eq_false_iff_ne]; omega
    have t1' : (b == t) = false := by rw [beq_eq_false_iff_ne]; omega
    have t2 : ((k : Int) == 16777216) = false := by rw [beq_eq_false_iff_ne]; omega
    have t2' : (k == 16777216) = false := by rw [beq_eq_false_iff_ne]; omega
    · clear q hT hr hk hb0 H
      go_enter Try.func24, Try.ntmps24
      go_wp2_with (first
        | (go_at_call 23; (with_reducible refine (accB (below1 _) (heap_alloc_new _ _) (Q.out _)).mono ?_); rintro e w1 ⟨rfl, hb, hc⟩; (obtain ⟨c0, c1, f0, f1⟩ := pair_cells hc))
        | (go_at_call 22; (with_reducible refine (acc hb (QT.out _)).mono ?_); clear hb; rintro e w2 ⟨rfl, hb⟩))
      go_ret2
      exact ⟨rfl, hb⟩
  · have t1 : ((b : Int) == (t : Int)) = false := by rw [beq_eq_false_iff_ne]; omega
    have t1' : (b == t) = false := by rw [beq_eq_false_iff_ne]; omega
    have t2 : ((k : Int) == 16777216) = true := by rw [beq_iff_eq]; omega
    have t2' : (k == 16777216) = true := by rw [beq_iff_eq]; omega
    · clear hk2
      clear q hT hr hk hb0 H
      go_enter Try.func24, Try.ntmps24
      go_wp2_with (first
        | (go_at_call 23; (with_reducible refine (accB (below1 _) (heap_alloc_new _ _) (Q.out _)).mono ?_); rintro e w1 ⟨rfl, hb, hc⟩; (obtain ⟨c0, c1, f0, f1⟩ := pair_cells hc))
        | (go_at_call 22; (with_reducible refine (acc hb (QT.out _)).mono ?_); clear hb; rintro e w2 ⟨rfl, hb⟩))
      go_ret2
      exact ⟨rfl, hb⟩
end Go.Proofs.Ytmhbncpiloffgaa
