/- The walks of gcd, Valid, New of package rate and of its reference. -/
import Derived.Test.YtmhbncpiloffgaaProg
import Derived.Test.YtmhbncpiloffgaaLib
import Derived.Test.YtmhbncpiloffgaaLibQ
import Derived.Test.YtmhbncpiloffgaaIn
namespace Go.Proofs.Ytmhbncpiloffgaa
open Go.RowKit
set_option linter.unusedVariables false

theorem rate_in_yes (n low high : Int) (h : low ≤ n ∧ n ≤ high) (w : World) :
    Calls Try.prog 33 #[.int .i64 n, .int .i64 low, .int .i64 high] w fun e w' => e = .returned (.bool true) ∧ w = w' := by
  obtain ⟨h1, h2⟩ := h
  go_enter Try.func33, Try.ntmps33
  go_wp2
  go_ret
  exact ⟨rfl, rfl⟩
theorem rate_in_no (n low high : Int) (h : n < low ∨ high < n) (w : World) :
    Calls Try.prog 33 #[.int .i64 n, .int .i64 low, .int .i64 high] w fun e w' => e = .returned (.bool false) ∧ w = w' := by
  by_cases h1 : n < low
  · clear h
    go_enter Try.func33, Try.ntmps33
    go_wp2
    go_ret
    exact ⟨rfl, rfl⟩
  · have h2 : high < n := by omega
    have h3 : low ≤ n := by omega
    have d : decide (n ≤ high) = false := by simp; omega
    clear h h1
    go_enter Try.func33, Try.ntmps33
    go_wp2
    go_ret
    exact ⟨rfl, rfl⟩

theorem cast_emod (x y : Nat) : ((x : Int) % (y : Int)) = ((x % y : Nat) : Int) := rfl
theorem cast_ediv (x y : Nat) : ((x : Int) / (y : Int)) = ((x / y : Nat) : Int) := rfl
theorem gcd_swap (x y : Nat) : Nat.gcd x y = Nat.gcd y (x % y) := by rw [Nat.gcd_comm x y, Nat.gcd_rec y x, Nat.gcd_comm]
/-- A contract in a row of calls, beside a block that stays. -/
theorem accB {P : Program} {f : FuncId} {args : Array Value} {w0 w : World} {g : Nat} {o : Obj} {R : Ending → Prop} (hb : Below w0.heap.size w0 w) (hc : w.heap[g]? = some o) (h : Calls P f args w fun e w' => R e ∧ Below w.heap.size w w') :
    Calls P f args w fun e w' => R e ∧ Below w0.heap.size w0 w' ∧ w'.heap[g]? = some o := h.mono fun _ _ ⟨h1, h2⟩ => ⟨h1, hb.trans (h2.mono hb.size), (h2.block _ (Array.getElem?_eq_some_iff.1 hc).1).trans hc⟩
/-- The cells of a block of two. -/
theorem pair_cells {w : World} {g : Nat} {x y : Value} {t : TypeId} (h : w.heap[g]? = some (.cells #[x, y] t (0, 0))) :
    w.cell? ⟨g, 0, none⟩ = some x ∧ w.cell? ⟨g, 1, none⟩ = some y ∧ w.frozen? ⟨g, 0, none⟩ = false ∧ w.frozen? ⟨g, 1, none⟩ = false :=
  ⟨by rw [cell_of_row _ _ _ _ _ _ h]; rfl, by rw [cell_of_row _ _ _ _ _ _ h]; rfl, frozen_of_row _ _ _ _ _ h, frozen_of_row _ _ _ _ _ h⟩
theorem pair_set {w : World} {g : Nat} {x y : Value} {t : TypeId} (h : w.heap[g]? = some (.cells #[x, y] t (0, 0))) (x' y' : Value) :
    ((w.setCell ⟨g, 0, none⟩ x').setCell ⟨g, 1, none⟩ y').heap[g]? = some (.cells #[x', y'] t (0, 0)) := by
  rw [setCell_row (setCell_row h _)]; rfl
theorem pair_set_cells {w : World} {g : Nat} {x y : Value} {t : TypeId} (h : w.heap[g]? = some (.cells #[x, y] t (0, 0))) (x' y' : Value) :
    (w.setCell ⟨g, 0, none⟩ x').cell? ⟨g, 0, none⟩ = some x' ∧ ((w.setCell ⟨g, 0, none⟩ x').setCell ⟨g, 1, none⟩ y').cell? ⟨g, 1, none⟩ = some y' := by
  constructor
  · rw [cell_of_row _ _ _ _ _ _ (setCell_row h _)]; rfl
  · rw [cell_of_row _ _ _ _ _ _ (pair_set h _ _)]; rfl
/-- A rate's terms as the program takes them. -/
def RateOk (n d : Int) : Prop := 1 ≤ n ∧ n ≤ 4096 ∧ 1 ≤ d ∧ d ≤ 4096 ∧ Nat.gcd n.toNat d.toNat = 1
instance (n d : Int) : Decidable (RateOk n d) := by unfold RateOk; infer_instance

theorem rate_gcd (a b : Nat) (ha : a < 4611686018427387904) (hb : b < 4611686018427387904) (w : World) :
    Calls Try.prog 38 #[.int .i64 a, .int .i64 b] w fun e w' => e = .returned (.int .i64 (Nat.gcd a b : Nat)) ∧ Below w.heap.size w w' := by
  go_enter Try.func38, Try.ntmps38
  go_wp2_with fail
  go_loopw [0, 1] (fun u v wr => ∃ x y : Nat, u = .int .i64 x ∧ v = .int .i64 y ∧ x < 4611686018427387904 ∧ y < 4611686018427387904 ∧ Hid (Nat.gcd x y = Nat.gcd a b) ∧ Below w.heap.size w wr) (fun _ v _ => (intOf v).toNat)
  case atStart => exact ⟨a, b, rfl, rfl, ha, hb, rfl, Below.refl _ _⟩
  case round =>
    obtain ⟨x, y, rfl, rfl, hx, hy, hg, hbw⟩ := hrel
    by_cases h0 : y = 0
    · subst h0
      have e : Nat.gcd a b = x := by rw [← hg.out]; simp
      have E := hide e
      have d : (((0 : Nat) : Int) == 0) = true := rfl
      go_wp2_with fail
      go_ret
      exact ⟨by rw [E.out]; rfl, hbw⟩
    · have hpos : 0 < y := by omega
      have hlt : x % y < y := Nat.mod_lt _ hpos
      have d : ((y : Int) == 0) = false := by rw [beq_eq_false_iff_ne]; omega
      have e1 : (x : Int).tmod (y : Int) = ((x % y : Nat) : Int) := by rw [Int.tmod_eq_emod_of_nonneg (by omega)]; rfl
      have hg' : Nat.gcd y (x % y) = Nat.gcd a b := by rw [← gcd_swap]; exact hg.out
      have G := hide hg'
      clear hg hg'
      have hne : (y : Int) ≠ 0 := by omega
      go_wp2_with fail
      go_region
      go_roundw
      case rel => exact ⟨_, _, _, _, _, _, _, _, ⟨y, x % y, rfl, rfl, by omega, by omega, G.out, hbw.drew⟩, rfl⟩
      case measure => simp [intOf]; omega

theorem rate_valid (n d : Int) (w : World) :
    Calls Try.prog 20 #[.agg #[.int .i64 n, .int .i64 d]] w fun e w' => e = .returned (.bool (decide (RateOk n d))) ∧ Below w.heap.size w w' := by
  by_cases hn : 1 ≤ n ∧ n ≤ 4096
  · by_cases hd : 1 ≤ d ∧ d ≤ 4096
    · have q := fun w => rate_gcd n.toNat d.toNat (by omega) (by omega) w
      have e1 : (n.toNat : Int) = n := by omega
      have e2 : (d.toNat : Int) = d := by omega
      rw [e1, e2] at q
      obtain ⟨g, hg⟩ : ∃ g : Nat, Nat.gcd n.toNat d.toNat = g := ⟨_, rfl⟩
      have hr : decide (RateOk n d) = decide (g = 1) := by
        rw [decide_eq_decide]; unfold RateOk; rw [hg]; constructor
        · exact fun h => h.2.2.2.2
        · exact fun h => ⟨hn.1, hn.2, hd.1, hd.2, h⟩
      rw [hr]
      clear hr
      rw [hg] at q
      have Q := hide q
      obtain ⟨n1, n2⟩ := hn
      obtain ⟨d1, d2⟩ := hd
      clear q e1 e2 hg
      by_cases h1 : g = 1
      · subst h1
        have t1 : (((1 : Nat) : Int) == 1) = true := rfl
        go_enter Try.func20, Try.ntmps20
        go_wp2_with (first
          | (go_at_call 33; (with_reducible refine (rate_in_yes _ _ _ ?_ _).mono ?_); (focus omega); rintro e w1 ⟨rfl, rfl⟩)
          | (go_at_call 38; (with_reducible refine (acc (below1 _) (Q.out _)).mono ?_); rintro e w1 ⟨rfl, hb⟩))
        go_ret
        exact ⟨rfl, hb⟩
      · have t1 : ((g : Int) == 1) = false := by rw [beq_eq_false_iff_ne]; omega
        have t2 : decide (g = 1) = false := decide_eq_false h1
        go_enter Try.func20, Try.ntmps20
        go_wp2_with (first
          | (go_at_call 33; (with_reducible refine (rate_in_yes _ _ _ ?_ _).mono ?_); (focus omega); rintro e w1 ⟨rfl, rfl⟩)
          | (go_at_call 38; (with_reducible refine (acc (below1 _) (Q.out _)).mono ?_); rintro e w1 ⟨rfl, hb⟩))
        go_ret
        exact ⟨by simp [t2], hb⟩
    · have hr : decide (RateOk n d) = false := by rw [decide_eq_false_iff_not]; unfold RateOk; omega
      have R := hide hr
      obtain ⟨n1, n2⟩ := hn
      have hd' : d < 1 ∨ 4096 < d := by omega
      clear hr hd
      go_enter Try.func20, Try.ntmps20
      go_wp2_with (first
        | (go_at_call 33; (with_reducible refine (rate_in_yes n _ _ ?_ _).mono ?_); (focus omega); rintro e w1 ⟨rfl, rfl⟩)
        | (go_at_call 33; (with_reducible refine (rate_in_no d _ _ ?_ _).mono ?_); (focus omega); rintro e w1 ⟨rfl, rfl⟩))
      go_ret
      exact ⟨by rw [R.out]; rfl, below1 _⟩
  · have hr : decide (RateOk n d) = false := by rw [decide_eq_false_iff_not]; unfold RateOk; omega
    have R := hide hr
    have hn' : n < 1 ∨ 4096 < n := by omega
    clear hr hn
    go_enter Try.func20, Try.ntmps20
    go_wp2_with (first
      | (go_at_call 33; (with_reducible refine (rate_in_no n _ _ ?_ _).mono ?_); (focus omega); rintro e w1 ⟨rfl, rfl⟩))
    go_ret
    exact ⟨by rw [R.out]; rfl, below1 _⟩

theorem rate_new_ok (a b : Nat) (ha : 1 ≤ a ∧ a ≤ 4096) (hb : 1 ≤ b ∧ b ≤ 4096) (w : World) :
    Calls Try.prog 30 #[.int .i64 a, .int .i64 b] w fun e w' => e = .returned (.tuple #[.agg #[.int .i64 (a / Nat.gcd a b : Nat), .int .i64 (b / Nat.gcd a b : Nat)], .int .i64 0]) ∧ Below w.heap.size w w' := by
  have q := fun w => rate_gcd a b (by omega) (by omega) w
  have gp : 0 < Nat.gcd a b := Nat.gcd_pos_of_pos_left _ (by omega)
  generalize Nat.gcd a b = g at *
  obtain ⟨x, hx⟩ : ∃ x : Nat, a / g = x := ⟨_, rfl⟩
  obtain ⟨y, hy⟩ : ∃ y : Nat, b / g = y := ⟨_, rfl⟩
  have e1 : (a : Int) / (g : Int) = (x : Int) := by rw [← hx]; rfl
  have e2 : (b : Int) / (g : Int) = (y : Int) := by rw [← hy]; rfl
  have hx2 : x ≤ a := by rw [← hx]; exact Nat.div_le_self _ _
  have hy2 : y ≤ b := by rw [← hy]; exact Nat.div_le_self _ _
  have g0 : (g : Int) ≠ 0 := by omega
  rw [hx, hy]
  have Q := hide q
  obtain ⟨a1, a2⟩ := ha
  obtain ⟨b1, b2⟩ := hb
  clear q hx hy
  go_enter Try.func30, Try.ntmps30
  go_wp2_with (first
    | (go_at_call 33; (with_reducible refine (rate_in_yes _ _ _ ?_ _).mono ?_); (focus omega); rintro e w1 ⟨rfl, rfl⟩)
    | (go_at_call 38; (with_reducible refine (accB (below1 _) (heap_alloc_new _ _) (Q.out _)).mono ?_); rintro e w1 ⟨rfl, hb, hc⟩; (obtain ⟨c0, c1, f0, f1⟩ := pair_cells hc)))
  go_region
  go_wp2
  (try simp only [Exit.inBlock, Exit.then])
  obtain ⟨z0, z1⟩ := pair_set_cells hc (.int .i64 x) (.int .i64 y)
  refine bodyPost_ret (v := .tuple #[.agg #[.int .i64 x, .int .i64 y], .int .i64 0]) (by simp [results, Try.results30, go_sem, z0, z1]) rfl ⟨rfl, ?_⟩
  exact ((hb.drew.setCell (by simp) _).setCell (by simp) _)

theorem ref_gcd (a b : Nat) (ha : a < 4611686018427387904) (hb : b < 4611686018427387904) (w : World) :
    Calls Try.prog 40 #[.int .i64 a, .int .i64 b] w fun e w' => e = .returned (.int .i64 (Nat.gcd a b : Nat)) ∧ Below w.heap.size w w' := by
  go_enter Try.func40, Try.ntmps40
  go_wp2_with fail
  go_loopw [0, 1] (fun u v wr => ∃ x y : Nat, u = .int .i64 x ∧ v = .int .i64 y ∧ x < 4611686018427387904 ∧ y < 4611686018427387904 ∧ Hid (Nat.gcd x y = Nat.gcd a b) ∧ Below w.heap.size w wr) (fun _ v _ => (intOf v).toNat)
  case atStart => exact ⟨a, b, rfl, rfl, ha, hb, rfl, Below.refl _ _⟩
  case round =>
    obtain ⟨x, y, rfl, rfl, hx, hy, hg, hbw⟩ := hrel
    by_cases h0 : y = 0
    · subst h0
      have e : Nat.gcd a b = x := by rw [← hg.out]; simp
      have E := hide e
      have d : (((0 : Nat) : Int) == 0) = true := rfl
      go_wp2_with fail
      go_ret
      exact ⟨by rw [E.out]; rfl, hbw⟩
    · have hpos : 0 < y := by omega
      have hlt : x % y < y := Nat.mod_lt _ hpos
      have d : ((y : Int) == 0) = false := by rw [beq_eq_false_iff_ne]; omega
      have e1 : (x : Int).tmod (y : Int) = ((x % y : Nat) : Int) := by rw [Int.tmod_eq_emod_of_nonneg (by omega)]; rfl
      have hg' : Nat.gcd y (x % y) = Nat.gcd a b := by rw [← gcd_swap]; exact hg.out
      have G := hide hg'
      clear hg hg'
      have hne : (y : Int) ≠ 0 := by omega
      go_wp2_with fail
      go_region
      go_roundw
      case rel => exact ⟨_, _, _, _, _, _, _, _, ⟨y, x % y, rfl, rfl, by omega, by omega, G.out, hbw.drew⟩, rfl⟩
      case measure => simp [intOf]; omega

theorem ref_valid (n d : Int) (w : World) :
    Calls Try.prog 21 #[.agg #[.int .i64 n, .int .i64 d]] w fun e w' => e = .returned (.bool (decide (RateOk n d))) ∧ Below w.heap.size w w' := by
  by_cases hn : 1 ≤ n ∧ n ≤ 4096
  · by_cases hd : 1 ≤ d ∧ d ≤ 4096
    · have q := fun w => ref_gcd n.toNat d.toNat (by omega) (by omega) w
      have e1 : (n.toNat : Int) = n := by omega
      have e2 : (d.toNat : Int) = d := by omega
      rw [e1, e2] at q
      obtain ⟨g, hg⟩ : ∃ g : Nat, Nat.gcd n.toNat d.toNat = g := ⟨_, rfl⟩
      have hr : decide (RateOk n d) = decide (g = 1) := by
        rw [decide_eq_decide]; unfold RateOk; rw [hg]; constructor
        · exact fun h => h.2.2.2.2
        · exact fun h => ⟨hn.1, hn.2, hd.1, hd.2, h⟩
      rw [hr]
      clear hr
      rw [hg] at q
      have Q := hide q
      obtain ⟨n1, n2⟩ := hn
      obtain ⟨d1, d2⟩ := hd
      clear q e1 e2 hg
      by_cases h1 : g = 1
      · subst h1
        have t1 : (((1 : Nat) : Int) == 1) = true := rfl
        go_enter Try.func21, Try.ntmps21
        go_wp2_with (first
          | (go_at_call 39; (with_reducible refine (utc_in_yes _ _ _ ?_ _).mono ?_); (focus omega); rintro e w1 ⟨rfl, rfl⟩)
          | (go_at_call 40; (with_reducible refine (acc (below1 _) (Q.out _)).mono ?_); rintro e w1 ⟨rfl, hb⟩))
        go_ret
        exact ⟨rfl, hb⟩
      · have t1 : ((g : Int) == 1) = false := by rw [beq_eq_false_iff_ne]; omega
        have t2 : decide (g = 1) = false := decide_eq_false h1
        go_enter Try.func21, Try.ntmps21
        go_wp2_with (first
          | (go_at_call 39; (with_reducible refine (utc_in_yes _ _ _ ?_ _).mono ?_); (focus omega); rintro e w1 ⟨rfl, rfl⟩)
          | (go_at_call 40; (with_reducible refine (acc (below1 _) (Q.out _)).mono ?_); rintro e w1 ⟨rfl, hb⟩))
        go_ret
        exact ⟨by simp [t2], hb⟩
    · have hr : decide (RateOk n d) = false := by rw [decide_eq_false_iff_not]; unfold RateOk; omega
      have R := hide hr
      obtain ⟨n1, n2⟩ := hn
      have hd' : d < 1 ∨ 4096 < d := by omega
      clear hr hd
      go_enter Try.func21, Try.ntmps21
      go_wp2_with (first
        | (go_at_call 39; (with_reducible refine (utc_in_yes n _ _ ?_ _).mono ?_); (focus omega); rintro e w1 ⟨rfl, rfl⟩)
        | (go_at_call 39; (with_reducible refine (utc_in_no d _ _ ?_ _).mono ?_); (focus omega); rintro e w1 ⟨rfl, rfl⟩))
      go_ret
      exact ⟨by rw [R.out]; rfl, below1 _⟩
  · have hr : decide (RateOk n d) = false := by rw [decide_eq_false_iff_not]; unfold RateOk; omega
    have R := hide hr
    have hn' : n < 1 ∨ 4096 < n := by omega
    clear hr hn
    go_enter Try.func21, Try.ntmps21
    go_wp2_with (first
      | (go_at_call 39; (with_reducible refine (utc_in_no n _ _ ?_ _).mono ?_); (focus omega); rintro e w1 ⟨rfl, rfl⟩))
    go_ret
    exact ⟨by rw [R.out]; rfl, below1 _⟩

theorem ref_new_ok (a b : Nat) (ha : 1 ≤ a ∧ a ≤ 4096) (hb : 1 ≤ b ∧ b ≤ 4096) (w : World) :
    Calls Try.prog 31 #[.int .i64 a, .int .i64 b] w fun e w' => e = .returned (.tuple #[.agg #[.int .i64 (a / Nat.gcd a b : Nat), .int .i64 (b / Nat.gcd a b : Nat)], .int .i64 0]) ∧ Below w.heap.size w w' := by
  have q := fun w => ref_gcd a b (by omega) (by omega) w
  have gp : 0 < Nat.gcd a b := Nat.gcd_pos_of_pos_left _ (by omega)
  generalize Nat.gcd a b = g at *
  obtain ⟨x, hx⟩ : ∃ x : Nat, a / g = x := ⟨_, rfl⟩
  obtain ⟨y, hy⟩ : ∃ y : Nat, b / g = y := ⟨_, rfl⟩
  have e1 : (a : Int) / (g : Int) = (x : Int) := by rw [← hx]; rfl
  have e2 : (b : Int) / (g : Int) = (y : Int) := by rw [← hy]; rfl
  have hx2 : x ≤ a := by rw [← hx]; exact Nat.div_le_self _ _
  have hy2 : y ≤ b := by rw [← hy]; exact Nat.div_le_self _ _
  have g0 : (g : Int) ≠ 0 := by omega
  rw [hx, hy]
  have Q := hide q
  obtain ⟨a1, a2⟩ := ha
  obtain ⟨b1, b2⟩ := hb
  clear q hx hy
  go_enter Try.func31, Try.ntmps31
  go_wp2_with (first
    | (go_at_call 39; (with_reducible refine (utc_in_yes _ _ _ ?_ _).mono ?_); (focus omega); rintro e w1 ⟨rfl, rfl⟩)
    | (go_at_call 40; (with_reducible refine (accB (below1 _) (heap_alloc_new _ _) (Q.out _)).mono ?_); rintro e w1 ⟨rfl, hb, hc⟩; (obtain ⟨c0, c1, f0, f1⟩ := pair_cells hc)))
  go_region
  go_wp2
  (try simp only [Exit.inBlock, Exit.then])
  obtain ⟨z0, z1⟩ := pair_set_cells hc (.int .i64 x) (.int .i64 y)
  refine bodyPost_ret (v := .tuple #[.agg #[.int .i64 x, .int .i64 y], .int .i64 0]) (by simp [results, Try.results31, go_sem, z0, z1]) rfl ⟨rfl, ?_⟩
  exact ((hb.drew.setCell (by simp) _).setCell (by simp) _)

end Go.Proofs.Ytmhbncpiloffgaa
