/- The walks of ceil, upto, check, Time, for rates that are valid. -/
import Derived.Test.YtmhbncpiloffgaaRateB
namespace Go.Proofs.Ytmhbncpiloffgaa
open Go.RowKit
set_option linter.unusedVariables false

def ceilN (n d x : Nat) : Nat := x / (d * 1000000) * n + (x % (d * 1000000) * n + d * 1000000 - 1) / (d * 1000000)
theorem ceilN_bound (n d x : Nat) (hn2 : n ≤ 4096) (hd1 : 1 ≤ d) (hx : x ≤ 18014398509481985) : ceilN n d x ≤ 73786976294838210 := by
  unfold ceilN
  obtain ⟨p, hp⟩ : ∃ p : Nat, d * 1000000 = p := ⟨_, rfl⟩
  rw [hp]
  have ha : x / p ≤ 18014398509 := by rw [Nat.div_le_iff_le_mul_add_pred (by omega)]; have : 1000000 * 18014398509 ≤ p * 18014398509 := Nat.mul_le_mul_right _ (by omega); omega
  have h1 : x / p * n ≤ 18014398509 * 4096 := Nat.mul_le_mul ha hn2
  have hc : x % p < p := Nat.mod_lt _ (by omega)
  have h2 : (x % p * n + p - 1) / p ≤ 4097 := by
    rw [Nat.div_le_iff_le_mul_add_pred (by omega)]
    have : x % p * n ≤ p * 4096 := Nat.mul_le_mul (by omega) hn2
    omega
  omega
theorem rate_ceil (n d x : Nat) (hn : 1 ≤ n) (hn2 : n ≤ 4096) (hd1 : 1 ≤ d) (hd : d ≤ 4096) (hx : x ≤ 18014398509481985) (w : World) :
    Calls Try.prog 36 #[.agg #[.int .i64 n, .int .i64 d], .int .i64 x] w fun e w' => e = .returned (.int .i64 (ceilN n d x)) ∧ Below w.heap.size w w' := by
  have q := fun w => rate_micros n d hd w
  have hB := ceilN_bound n d x hn2 hd1 hx
  have hC : ceilN n d x = x / (d * 1000000) * n + (x % (d * 1000000) * n + d * 1000000 - 1) / (d * 1000000) := rfl
  obtain ⟨r, hr⟩ : ∃ r : Nat, ceilN n d x = r := ⟨_, rfl⟩
  rw [hr] at hC hB ⊢
  obtain ⟨p, hp⟩ : ∃ p : Nat, d * 1000000 = p := ⟨_, rfl⟩
  rw [hp] at q hC
  have hp1 : 1000000 ≤ p := by omega
  have hp2 : p ≤ 4096000000 := by omega
  obtain ⟨a, ha⟩ : ∃ a : Nat, x / p = a := ⟨_, rfl⟩
  obtain ⟨b, hb⟩ : ∃ b : Nat, a * n = b := ⟨_, rfl⟩
  obtain ⟨c, hc⟩ : ∃ c : Nat, x % p = c := ⟨_, rfl⟩
  obtain ⟨f, hf⟩ : ∃ f : Nat, c * n = f := ⟨_, rfl⟩
  obtain ⟨u, hu⟩ : ∃ u : Nat, f + p - 1 = u := ⟨_, rfl⟩
  obtain ⟨h, hh⟩ : ∃ h : Nat, u / p = h := ⟨_, rfl⟩
  have e1 : (x : Int) / (p : Int) = (a : Int) := by rw [← ha]; rfl
  have e2 : (a : Int) * (n : Int) = (b : Int) := by rw [← hb]; exact (Int.natCast_mul a n).symm
  have e3 : (x : Int) % (p : Int) = (c : Int) := by rw [← hc]; rfl
  have e4 : (c : Int) * (n : Int) = (f : Int) := by rw [← hf]; exact (Int.natCast_mul c n).symm
  have e5 : (f : Int) + (p : Int) - 1 = (u : Int) := by omega
  have e6 : (u : Int) / (p : Int) = (h : Int) := by rw [← hh]; rfl
  have hc2 : c < p := by rw [← hc]; exact Nat.mod_lt _ (by omega)
  have hf2 : f ≤ 4096000000 * 4096 := by rw [← hf]; exact Nat.mul_le_mul (by omega) hn2
  have ha2 : a ≤ x := by rw [← ha]; exact Nat.div_le_self _ _
  have hh2 : h ≤ u := by rw [← hh]; exact Nat.div_le_self _ _
  rw [ha, hb, hc, hf, hu, hh] at hC
  have e7 : (b : Int) + (h : Int) = (r : Int) := by omega
  have hb2 : b ≤ r := by omega
  have Q := hide q
  have hp0 : (p : Int) ≠ 0 := by omega
  have b0 := fun p => box_cell0 w (.int .i64 n) (.int .i64 d) 27 p
  have b1 := fun p => box_cell1 w (.int .i64 n) (.int .i64 d) 27 p
  clear q hp ha hb hc hf hu hh hr hC
  go_enter Try.func36, Try.ntmps36
  go_wp2_with (first
    | (go_at_call 37; (with_reducible refine (accB (below1 _) (heap_alloc_new _ _) (Q.out _)).mono ?_); rintro e w1 ⟨rfl, hb, hc⟩; (obtain ⟨c0, c1, f0, f1⟩ := pair_cells hc)))
  go_region
  go_wp2
  go_ret
  exact ⟨rfl, hb.drew⟩
theorem rate_upto (n d x : Nat) (hn : 1 ≤ n) (hn2 : n ≤ 4096) (hd1 : 1 ≤ d) (hd : d ≤ 4096) (hx : x ≤ 18014398509481984) (w : World) :
    Calls Try.prog 35 #[.agg #[.int .i64 n, .int .i64 d], .int .i64 x] w fun e w' => e = .returned (.int .i64 ((ceilN n d (x + 1) : Nat) - 1)) ∧ Below w.heap.size w w' := by
  have q := fun w => rate_ceil n d (x + 1) hn hn2 hd1 hd (by omega) w
  have hB := ceilN_bound n d (x + 1) hn2 hd1 (by omega)
  generalize ceilN n d (x + 1) = r at *
  obtain ⟨y, hy⟩ : ∃ y : Nat, x + 1 = y := ⟨_, rfl⟩
  rw [hy] at q
  have e1 : (x : Int) + 1 = (y : Int) := by omega
  have Q := hide q
  clear q hy
  go_enter Try.func35, Try.ntmps35
  go_wp2_with (first
    | (go_at_call 36; (with_reducible refine (acc (below1 _) (Q.out _)).mono ?_); rintro e w1 ⟨rfl, hb⟩))
  go_ret
  exact ⟨rfl, hb⟩
theorem rate_check_ok (n d s x : Nat) (hr : RateOk n d) (hs : s ≤ 9007199254740992) (hx : x ≤ 18014398509481984) (w : World) :
    Calls Try.prog 34 #[.int .i64 s, .agg #[.int .i64 n, .int .i64 d], .int .i64 x] w fun e w' => e = .returned (.int .i64 0) ∧ Below w.heap.size w w' := by
  have q := fun w => rate_valid n d w
  rw [decide_eq_true hr] at q
  have Q := hide q
  clear q hr
  go_enter Try.func34, Try.ntmps34
  go_wp2_with (first
    | (go_at_call 20; (with_reducible refine (acc (below1 _) (Q.out _)).mono ?_); rintro e w1 ⟨rfl, hb⟩)
    | (go_at_call 33; (with_reducible refine (rate_in_yes _ _ _ ?_ _).mono ?_); (focus omega); rintro e w1 ⟨rfl, rfl⟩))
  go_ret
  exact ⟨rfl, hb⟩
theorem rate_time_ok (n d s k : Nat) (hr : RateOk n d) (hs : s ≤ 9007199254740992) (hk : k ≤ 16777216) (w : World) :
    Calls Try.prog 13 #[.int .i64 s, .agg #[.int .i64 n, .int .i64 d], .int .i64 k] w fun e w' => e = .returned (.tuple #[.int .i64 (s + afterN n d k : Nat), .int .i64 0]) ∧ Below w.heap.size w w' := by
  have q := fun w => rate_valid n d w
  rw [decide_eq_true hr] at q
  have Q := hide q
  have hr' := hr
  obtain ⟨r1, r2, r3, r4, r5⟩ := hr
  have q2 := fun w => rate_after n d k (by omega) (by omega) (by omega) (by omega) w
  have hA : afterN n d k ≤ 16777217 * 4096000000 := by
    unfold afterN
    refine Nat.le_trans (Nat.div_le_self _ _) (Nat.mul_le_mul (by omega) (by omega))
  generalize afterN n d k = a at *
  obtain ⟨y, hy⟩ : ∃ y : Nat, s + a = y := ⟨_, rfl⟩
  have e1 : (s : Int) + (a : Int) = (y : Int) := by omega
  have hy2 : y ≤ 9007199254740992 + 16777217 * 4096000000 := by omega
  rw [hy]
  have Q2 := hide q2
  clear q q2 hr' r5 hy
  go_enter Try.func13, Try.ntmps13
  go_wp2_with (first
    | (go_at_call 20; (with_reducible refine (accB (below1 _) (heap_alloc_new _ _) (Q.out _)).mono ?_); rintro e w1 ⟨rfl, hb, hc⟩; (obtain ⟨c0, c1, f0, f1⟩ := pair_cells hc))
    | (go_at_call 33; (with_reducible refine (rate_in_yes _ _ _ ?_ _).mono ?_); (focus omega); rintro e w1 ⟨rfl, rfl⟩)
    | (go_at_call 32; (with_reducible refine (acc hb (Q2.out _)).mono ?_); clear hb; rintro e w2 ⟨rfl, hb⟩))
  go_ret2
  exact ⟨rfl, hb⟩
theorem rate_time_far (n d s k : Nat) (hr : RateOk n d) (hs : s ≤ 9007199254740992) (hk : 16777216 < k) (w : World) :
    Calls Try.prog 13 #[.int .i64 s, .agg #[.int .i64 n, .int .i64 d], .int .i64 k] w fun e w' => e = .returned (.tuple #[.int .i64 0, .int .i64 2]) ∧ Below w.heap.size w w' := by
  have q := fun w => rate_valid n d w
  rw [decide_eq_true hr] at q
  have Q := hide q
  clear q hr
  go_enter Try.func13, Try.ntmps13
  go_wp2_with (first
    | (go_at_call 20; (with_reducible refine (acc (below1 _) (Q.out _)).mono ?_); rintro e w1 ⟨rfl, hb⟩)
    | (go_at_call 33; (with_reducible refine (rate_in_yes (s : Int) _ _ ?_ _).mono ?_); (focus omega); rintro e w1 ⟨rfl, rfl⟩)
    | (go_at_call 33; (with_reducible refine (rate_in_no (k : Int) _ _ ?_ _).mono ?_); (focus omega); rintro e w1 ⟨rfl, rfl⟩))
  go_ret2
  exact ⟨rfl, hb⟩
end Go.Proofs.Ytmhbncpiloffgaa
