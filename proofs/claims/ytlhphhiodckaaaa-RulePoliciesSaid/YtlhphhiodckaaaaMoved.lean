/- Positions, estimates, distances: of, Valid, Square, Agree, apart. (written by gen_moved.py) -/
import Derived.Test.YtlhphhiodckaaaaKeepPick
import Derived.Test.YtlhphhiodckaaaaRuleVal
import Derived.Test.YtlhphhiodckaaaaReg2
namespace Go.Proofs.Ytlhphhiodckaaaa
open Go.RowKit
set_option linter.unusedVariables false
set_option linter.unusedSimpArgs false
def posB (x y z : Int) : Bool := decide ((-1048576 ≤ x ∧ x ≤ 1048576) ∧ (-1048576 ≤ y ∧ y ≤ 1048576) ∧ (-16384 ≤ z ∧ z ≤ 1048576))
def agreeB (a b c d : Int) : Bool := decide (a ≤ b ∧ a ≤ d ∧ c ≤ b ∧ c ≤ d)
def sqV (x y z a b c : Int) : Int := if posB x y z = true ∧ posB a b c = true then (x - a) * (x - a) + (y - b) * (y - b) + (z - c) * (z - c) else 0

set_option maxHeartbeats 4000000 in
theorem geo_of (x y z : Int) (w : World) :
    Calls Try.prog 40 #[.agg #[.int .i64 x, .int .i64 y, .int .i64 z]] w fun e w' => e = .returned (.agg #[.int .i64 x, .int .i64 y, .int .i64 z]) ∧ Below w.heap.size w w' := by
  go_enter Try.func40, Try.ntmps40
  go_wp2_with fail
  (try simp only [Exit.inBlock, Exit.then])
  refine bodyPost_ret (v := .agg #[.int .i64 x, .int .i64 y, .int .i64 z]) (by simp [results, Try.results40, go_sem]) rfl ⟨rfl, below2 _ _⟩

set_option maxHeartbeats 4000000 in
theorem mag_agree (a b c d : Int) (w : World) :
    Calls Try.prog 35 #[.agg #[.int .i64 a, .int .i64 b], .agg #[.int .i64 c, .int .i64 d]] w fun e w' => e = .returned (.bool (agreeB a b c d)) ∧ Below w.heap.size w w' := by
  have HB := hide (below2 (w := w) (.cells #[.int .i64 a, .int .i64 b] 39) (.cells #[.int .i64 c, .int .i64 d] 39))
  have G0 := hide (pair_alloc (heap_alloc_new w (.cells #[.int .i64 a, .int .i64 b] 39)) (.cells #[.int .i64 c, .int .i64 d] 39))
  have G1 := hide (new_at (w := w.alloc (.cells #[.int .i64 a, .int .i64 b] 39)) (.cells #[.int .i64 c, .int .i64 d] 39) (g := w.heap.size + 1) (by simp))
  have HE := hide (fun (p : Prop) (_ : Decidable p) (h : (a ≤ b ∧ a ≤ d ∧ c ≤ b ∧ c ≤ d) ↔ p) => (show agreeB a b c d = decide p from by unfold agreeB; exact decide_eq_decide.2 h))
  go_enter Try.func35, Try.ntmps35
  go_upto_region 1 with fail
  generalize (w.alloc (.cells #[.int .i64 a, .int .i64 b] 39)).alloc (.cells #[.int .i64 c, .int .i64 d] 39) = V at HB G0 G1 ⊢
  obtain ⟨c0, c1, -, -⟩ := src_pair G0.out
  obtain ⟨d0, d1, -, -⟩ := src_pair G1.out
  go_wp2_with fail
  all_goals
    go_ret
    first | exact ⟨congrArg (fun q => Ending.returned (.bool q)) (HE.out (c ≤ b) _ (by omega)).symm, HB.out⟩ | exact ⟨congrArg (fun q => Ending.returned (.bool q)) (HE.out (a ≤ b) _ (by omega)).symm, HB.out⟩ | exact ⟨congrArg (fun q => Ending.returned (.bool q)) (HE.out (c ≤ d) _ (by omega)).symm, HB.out⟩ | exact ⟨congrArg (fun q => Ending.returned (.bool q)) (HE.out (a ≤ d) _ (by omega)).symm, HB.out⟩

set_option maxHeartbeats 4000000 in
theorem mref_agree (a b c d : Int) (w : World) :
    Calls Try.prog 36 #[.agg #[.int .i64 a, .int .i64 b], .agg #[.int .i64 c, .int .i64 d]] w fun e w' => e = .returned (.bool (agreeB a b c d)) ∧ Below w.heap.size w w' := by
  have HB := hide (below2 (w := w) (.cells #[.int .i64 a, .int .i64 b] 39) (.cells #[.int .i64 c, .int .i64 d] 39))
  have G0 := hide (pair_alloc (heap_alloc_new w (.cells #[.int .i64 a, .int .i64 b] 39)) (.cells #[.int .i64 c, .int .i64 d] 39))
  have G1 := hide (new_at (w := w.alloc (.cells #[.int .i64 a, .int .i64 b] 39)) (.cells #[.int .i64 c, .int .i64 d] 39) (g := w.heap.size + 1) (by simp))
  have HE := hide (fun (p : Prop) (_ : Decidable p) (h : (a ≤ b ∧ a ≤ d ∧ c ≤ b ∧ c ≤ d) ↔ p) => (show agreeB a b c d = decide p from by unfold agreeB; exact decide_eq_decide.2 h))
  go_enter Try.func36, Try.ntmps36
  go_upto_region 1 with fail
  generalize (w.alloc (.cells #[.int .i64 a, .int .i64 b] 39)).alloc (.cells #[.int .i64 c, .int .i64 d] 39) = V at HB G0 G1 ⊢
  obtain ⟨c0, c1, -, -⟩ := src_pair G0.out
  obtain ⟨d0, d1, -, -⟩ := src_pair G1.out
  go_wp2_with fail
  all_goals
    go_ret
    first | exact ⟨congrArg (fun q => Ending.returned (.bool q)) (HE.out (c ≤ b) _ (by omega)).symm, HB.out⟩ | exact ⟨congrArg (fun q => Ending.returned (.bool q)) (HE.out (a ≤ b) _ (by omega)).symm, HB.out⟩ | exact ⟨congrArg (fun q => Ending.returned (.bool q)) (HE.out (c ≤ d) _ (by omega)).symm, HB.out⟩ | exact ⟨congrArg (fun q => Ending.returned (.bool q)) (HE.out (a ≤ d) _ (by omega)).symm, HB.out⟩

theorem rule_apart (a b : Int) (ha : -9223372036854775808 ≤ a ∧ a ≤ 9223372036854775807) (hb : -9223372036854775808 ≤ b ∧ b ≤ 9223372036854775807) (w : World) :
    Calls Try.prog 34 #[.int .i64 a, .int .i64 b] w fun e w' => e = .returned (.int .u64 (max a b - min a b)) ∧ w = w' := by
  have HE := hide (fun (q : Int) (h : q = max a b - min a b) => (show Ending.returned (.int .u64 q) = .returned (.int .u64 (max a b - min a b)) from by rw [h]))
  by_cases h : a < b
  · have d : decide (a < b) = true := by simpa using h
    go_enter Try.func34, Try.ntmps34
    go_wp2_with fail
    go_ret
    exact ⟨HE.out _ (by simp only [IntKind.wrap_u64]; omega), rfl⟩
  · have d : decide (a < b) = false := by simpa using h
    go_enter Try.func34, Try.ntmps34
    go_wp2_with fail
    go_ret
    exact ⟨HE.out _ (by simp only [IntKind.wrap_u64]; omega), rfl⟩

def upB (x y z : Int) (k : Int) : Prop := (1 ≤ k → -1048576 ≤ x ∧ x ≤ 1048576) ∧ (2 ≤ k → -1048576 ≤ y ∧ y ≤ 1048576) ∧ (3 ≤ k → -16384 ≤ z ∧ z ≤ 1048576)
set_option maxHeartbeats 4000000 in
theorem geo_valid (x y z : Int) (w : World) :
    Calls Try.prog 39 #[.agg #[.int .i64 x, .int .i64 y, .int .i64 z]] w fun e w' => e = .returned (.bool (posB x y z)) ∧ Below w.heap.size w w' := by
  have HN := hide (fun (h : ¬ ((-1048576 ≤ x ∧ x ≤ 1048576) ∧ (-1048576 ≤ y ∧ y ≤ 1048576) ∧ (-16384 ≤ z ∧ z ≤ 1048576))) => (show Ending.returned (.bool false) = .returned (.bool (posB x y z)) from by unfold posB; rw [decide_eq_false h]))
  have HY := hide (fun (h : ((-1048576 ≤ x ∧ x ≤ 1048576) ∧ (-1048576 ≤ y ∧ y ≤ 1048576) ∧ (-16384 ≤ z ∧ z ≤ 1048576))) => (show Ending.returned (.bool true) = .returned (.bool (posB x y z)) from by unfold posB; rw [decide_eq_true h]))
  have HB := hide (below2 (w := w) (.cells #[.int .i64 x, .int .i64 y, .int .i64 z] 33) (.cells #[.int .i64 (-1048576), .int .i64 (-1048576), .int .i64 (-16384)] 86))
  have G0 := hide (pair_alloc (heap_alloc_new w (.cells #[.int .i64 x, .int .i64 y, .int .i64 z] 33)) (.cells #[.int .i64 (-1048576), .int .i64 (-1048576), .int .i64 (-16384)] 86))
  have G1 := hide (new_at (w := w.alloc (.cells #[.int .i64 x, .int .i64 y, .int .i64 z] 33)) (.cells #[.int .i64 (-1048576), .int .i64 (-1048576), .int .i64 (-16384)] 86) (g := w.heap.size + 1) (by simp))
  go_enter Try.func39, Try.ntmps39
  go_upto_region 2 with fail
  generalize (w.alloc (.cells #[.int .i64 x, .int .i64 y, .int .i64 z] 33)).alloc (.cells #[.int .i64 (-1048576), .int .i64 (-1048576), .int .i64 (-16384)] 86) = V at HB G0 G1 ⊢
  obtain ⟨c0, c1, c2, -, -, -⟩ := tri_cells G0.out
  have Q := hide (fun W => geo_of x y z W)
  go_wp2_with (first
    | (go_at_call 40; (with_reducible refine (Q.out _).mono ?_); rintro e w1 ⟨rfl, hb⟩; (have G1 := hide ((hb.block _ (Array.getElem?_eq_some_iff.1 G1.out).1).trans G1.out)); (have HL := hide (HB.out.trans (hb.mono HB.out.size))); clear hb))
  clear c0 c1 c2
  go_loopw [9] (fun i wr => ∃ k : Int, (k = 0 ∨ k = 1 ∨ k = 2 ∨ k = 3) ∧ i = .int .i64 k ∧ Hid (upB x y z k) ∧ Hid (Below w.heap.size w wr) ∧ Hid (wr.heap[w.heap.size + 1]? = some (.cells #[.int .i64 (-1048576), .int .i64 (-1048576), .int .i64 (-16384)] 86))) (fun i _ => 3 - (intOf i).toNat)
  case atStart => exact ⟨0, .inl rfl, rfl, hide ⟨by omega, by omega, by omega⟩, HL, G1⟩
  case round =>
    obtain ⟨k, hk, rfl, HOK, HL, G1⟩ := hrel
    obtain ⟨m0, m1, m2, -, -, -⟩ := tri_cells G1.out
    rcases hk with rfl | rfl | rfl | rfl
    · have ix : ∀ w, (Instr.index 86 (.agg #[.int .i64 x, .int .i64 y, .int .i64 z]) (.int .i64 0)).run Try.prog w = .ok (.int .i64 x) w := fun _ => by kernel_rfl
      by_cases hlo : x < -1048576
      · have d1 : decide (x < -1048576) = true := by simpa using hlo
        go_wp2_with fail
        go_ret
        exact ⟨HN.out (by omega), HL.out⟩
      · have d1 : decide (x < -1048576) = false := by simpa using hlo
        by_cases hhi : 1048576 < x
        · have d2 : decide ((1048576 : Int) < x) = true := by simpa using hhi
          go_wp2_with fail
          go_ret
          exact ⟨HN.out (by omega), HL.out⟩
        · have d2 : decide ((1048576 : Int) < x) = false := by simpa using hhi
          clear m0 m1 m2
          obtain ⟨m0, m1, m2, -, -, -⟩ := tri_cells G1.out
          go_wp2_with fail
          go_roundw
          case rel => exact ⟨1, by omega, rfl, hide (by obtain ⟨h1, h2, h3⟩ := HOK.out; exact ⟨by omega, by omega, by omega⟩), HL, G1⟩
          case measure => simp [intOf]
    · have ix : ∀ w, (Instr.index 86 (.agg #[.int .i64 x, .int .i64 y, .int .i64 z]) (.int .i64 1)).run Try.prog w = .ok (.int .i64 y) w := fun _ => by kernel_rfl
      by_cases hlo : y < -1048576
      · have d1 : decide (y < -1048576) = true := by simpa using hlo
        go_wp2_with fail
        go_ret
        exact ⟨HN.out (by omega), HL.out⟩
      · have d1 : decide (y < -1048576) = false := by simpa using hlo
        by_cases hhi : 1048576 < y
        · have d2 : decide ((1048576 : Int) < y) = true := by simpa using hhi
          go_wp2_with fail
          go_ret
          exact ⟨HN.out (by omega), HL.out⟩
        · have d2 : decide ((1048576 : Int) < y) = false := by simpa using hhi
          clear m0 m1 m2
          obtain ⟨m0, m1, m2, -, -, -⟩ := tri_cells G1.out
          go_wp2_with fail
          go_roundw
          case rel => exact ⟨2, by omega, rfl, hide (by obtain ⟨h1, h2, h3⟩ := HOK.out; exact ⟨by omega, by omega, by omega⟩), HL, G1⟩
          case measure => simp [intOf]
    · have ix : ∀ w, (Instr.index 86 (.agg #[.int .i64 x, .int .i64 y, .int .i64 z]) (.int .i64 2)).run Try.prog w = .ok (.int .i64 z) w := fun _ => by kernel_rfl
      by_cases hlo : z < -16384
      · have d1 : decide (z < -16384) = true := by simpa using hlo
        go_wp2_with fail
        go_ret
        exact ⟨HN.out (by omega), HL.out⟩
      · have d1 : decide (z < -16384) = false := by simpa using hlo
        by_cases hhi : 1048576 < z
        · have d2 : decide ((1048576 : Int) < z) = true := by simpa using hhi
          go_wp2_with fail
          go_ret
          exact ⟨HN.out (by omega), HL.out⟩
        · have d2 : decide ((1048576 : Int) < z) = false := by simpa using hhi
          clear m0 m1 m2
          obtain ⟨m0, m1, m2, -, -, -⟩ := tri_cells G1.out
          go_wp2_with fail
          go_roundw
          case rel => exact ⟨3, by omega, rfl, hide (by obtain ⟨h1, h2, h3⟩ := HOK.out; exact ⟨by omega, by omega, by omega⟩), HL, G1⟩
          case measure => simp [intOf]
    · clear m0 m1 m2
      go_wp2_with fail
      go_ret
      exact ⟨HY.out (by obtain ⟨h1, h2, h3⟩ := HOK.out; exact ⟨h1 (by omega), h2 (by omega), h3 (by omega)⟩), HL.out⟩

end Go.Proofs.Ytlhphhiodckaaaa
