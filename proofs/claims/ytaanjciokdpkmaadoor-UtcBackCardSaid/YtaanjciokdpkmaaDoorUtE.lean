/- Utc, the plain law: UtcDates. -/
import Derived.Test.YtaanjciokdpkmaaDoorUtD
namespace Go.Proofs.YtaanjciokdpkmaaDoor
open Go.RowKit
set_option linter.unusedVariables false
set_option linter.unusedSimpArgs false
set_option linter.unnecessarySimpa false
theorem dates_step (R : List (List AV)) (p q n i a b c : Int) (h0 : 0 ≤ i ∧ i ≤ 100) (hi : i < n) (hR : R[i.toNat]? = some [AV.v (.int .i64 a), AV.v (.int .i64 b), AV.v (.int .i64 c)]) (f : Nat) : (F3_l4 600).L (f + 1) (R, p, q, n, i) = (F3_l4 600).L f (R, p, q, n, i + 1) := by
  show (F3_l4 600).b _ _ ((F3_l4 600).L f) some = _
  generalize (F3_l4 600).L f = Lf
  simp only [F3_l4, decide_eq_true hi, h0.1, if_true, hR, List.getElem?_cons_zero, List.getElem?_cons_succ, days_ok, rdays_ok, bne_self_eq_false, beq_self_eq_true, Bool.not_true, i64_id (show -9223372036854775808 ≤ i + 1 ∧ i + 1 ≤ 9223372036854775807 by omega)]
  exact if_pos trivial
theorem dates_end (R : List (List AV)) (p q n : Int) (f : Nat) : (F3_l4 600).L (f + 1) (R, p, q, n, n) = some (.inr (p, q)) := by
  show (F3_l4 600).b _ _ ((F3_l4 600).L f) some = _
  generalize (F3_l4 600).L f = Lf
  simp only [F3_l4, decide_eq_false (show ¬ n < n by omega)]
theorem dates4 (a b c a' b' c' p q : Int) : F3_d4 600 ([[AV.v (.int .i64 a), AV.v (.int .i64 b), AV.v (.int .i64 c)], [AV.v (.int .i64 a'), AV.v (.int .i64 b'), AV.v (.int .i64 c')]], p, q, 2, 0) = some (.inr (p, q)) := by
  refine (dates_step _ p q 2 0 a b c (by omega) (by omega) rfl 599).trans ?_
  refine (dates_step _ p q 2 1 a' b' c' (by omega) (by omega) rfl 598).trans ?_
  exact dates_end _ p q 2 597
theorem day_step (R : List (List AV)) (n i x : Int) (h0 : 0 ≤ i ∧ i ≤ 100) (hi : i < n) (hR : R[i.toNat]? = some [AV.v (.int .i64 x)]) (f : Nat) : (F3_l19 600).L (f + 1) (R, n, i) = (F3_l19 600).L f (R, n, i + 1) := by
  show (F3_l19 600).b _ _ ((F3_l19 600).L f) some = _
  generalize (F3_l19 600).L f = Lf
  have e := i64_id (show -9223372036854775808 ≤ i + 1 ∧ i + 1 ≤ 9223372036854775807 by omega)
  by_cases hx : 0 ≤ x ∧ x ≤ 120894
  · obtain ⟨y, m, d, h1, h2, h3, h4⟩ := date_ok hx
    have hd : dayOf y m d = (x, true) := by
      unfold dayOf
      rw [if_pos h3, h4]
    simp only [F3_l19, decide_eq_true hi, h0.1, if_true, hR, List.getElem?_cons_zero, h1, h2, bne_self_eq_false, days_ok, hd, e]
    exact if_pos trivial
  · obtain ⟨h1, h2⟩ := date_out hx
    have hd : dayOf 0 0 0 = (0, false) := by
      unfold dayOf
      rw [if_neg (fun h => by have := h.1; omega)]
    simp only [F3_l19, decide_eq_true hi, h0.1, if_true, hR, List.getElem?_cons_zero, h1, h2, bne_self_eq_false, days_ok, hd, e]
    exact if_pos trivial
theorem day_end (R : List (List AV)) (n : Int) (f : Nat) : (F3_l19 600).L (f + 1) (R, n, n) = some (.inr ()) := by
  show (F3_l19 600).b _ _ ((F3_l19 600).L f) some = _
  generalize (F3_l19 600).L f = Lf
  simp only [F3_l19, decide_eq_false (show ¬ n < n by omega)]
theorem day19 (x y : Int) : F3_d19 600 ([[AV.v (.int .i64 x)], [AV.v (.int .i64 y)]], 2, 0) = some (.inr ()) := by
  refine (day_step _ 2 0 x (by omega) (by omega) rfl 599).trans ?_
  refine (day_step _ 2 1 y (by omega) (by omega) rfl 598).trans ?_
  exact day_end _ 2 597
theorem dates_law (a b c d : Int) : F3_d 600 (a, b, c, d) = some true := by
  simp only [F3_d, FSpec.d, F3_s]
  show (match F3_d4 600 (_, c, d, 2, 0) with | some y13 => _ | none => none) = some true
  rw [dates4]
  show (match F3_d19 600 (_, 2, 0) with | some y23 => _ | none => none) = some true
  rw [day19]
  show (match F12_d 600 () with | some y26 => _ | none => none) = some true
  rw [sane_ok]
/-- UtcDates returns true. -/
theorem utc_dates (a b c d : Int) (_ : -9223372036854775808 ≤ a ∧ a ≤ 9223372036854775807) (_ : -9223372036854775808 ≤ b ∧ b ≤ 9223372036854775807) (_ : -9223372036854775808 ≤ c ∧ c ≤ 9223372036854775807) (_ : 0 ≤ d ∧ d ≤ 4294967295) (W : World) (hgl : GlOk (memOf W) W [] (InT sig0 [])) : Calls Tryd.prog 3 #[.int .i64 a, .int .i64 b, .int .i64 c, .int .u32 d] W fun e w' => e = .returned (.bool true) ∧ Below W.heap.size W w' := by
  refine CallOk.calls ((F3_e 600).ok (a, b, c, d) true (dates_law a b c d)) W _ rfl (fun i h h' => ?_) hgl
  rcases (show i = 0 ∨ i = 1 ∨ i = 2 ∨ i = 3 by have : i < 4 := h'; omega) with rfl | rfl | rfl | rfl
  all_goals exact .v
end Go.Proofs.YtaanjciokdpkmaaDoor
