/- valid and Validate of package rule. (written by gen_ruleval.py) -/
import Derived.Test.YtlhphhiodckaaaaKeepPol
namespace Go.Proofs.Ytlhphhiodckaaaa
open Go.RowKit
set_option linter.unusedVariables false
set_option linter.unusedSimpArgs false
def MT : Int := 9007199254740992
def validB (r : Rl) : Bool := decide (-1000 ≤ r.m ∧ r.m ≤ 2000 ∧ 1 ≤ r.p ∧ r.p ≤ 64 ∧ (0 ≤ r.f ∧ 0 ≤ r.d) ∧ (r.f ≤ 9007199254740992 ∧ r.d ≤ 9007199254740992))
def vE (L : List Rl) (di ev : Int) : Int := if (1 ≤ L.length ∧ L.length ≤ 8) ∧ (0 ≤ di ∧ 0 ≤ ev) ∧ (di ≤ 9007199254740992 ∧ ev ≤ 9007199254740992) ∧ ∀ r ∈ L, validB r = true then 0 else 27
theorem one_cells {w : World} {g : Nat} {x y z u : Value} {t : TypeId} (h : w.heap[g]? = some (.cells #[x, y, z, u] t (0, 0))) :
    w.cell? ⟨g, 0, none⟩ = some x ∧ w.cell? ⟨g, 1, none⟩ = some y ∧ w.cell? ⟨g, 2, none⟩ = some z ∧ w.cell? ⟨g, 3, none⟩ = some u :=
  ⟨by rw [cell_of_row _ _ _ _ _ _ h]; rfl, by rw [cell_of_row _ _ _ _ _ _ h]; rfl, by rw [cell_of_row _ _ _ _ _ _ h]; rfl, by rw [cell_of_row _ _ _ _ _ _ h]; rfl⟩

set_option maxHeartbeats 4000000 in
set_option maxRecDepth 100000 in
theorem rule_valid (r : Rl) (w : World) :
    Calls Try.prog 29 #[.agg #[.int .i64 r.m, .int .i64 r.p, .int .i64 r.f, .int .i64 r.d]] w fun e w' => e = .returned (.bool (validB r)) ∧ Below w.heap.size w w' := by
  have HB := hide (below1 (w := w) (.cells #[.int .i64 r.m, .int .i64 r.p, .int .i64 r.f, .int .i64 r.d] 26))
  have G := heap_alloc_new w (.cells #[.int .i64 r.m, .int .i64 r.p, .int .i64 r.f, .int .i64 r.d] 26)
  obtain ⟨c0, c1, c2, c3⟩ := one_cells G
  clear G
  go_enter Try.func29, Try.ntmps29
  go_upto_region 1 with fail
  generalize w.alloc (.cells #[.int .i64 r.m, .int .i64 r.p, .int .i64 r.f, .int .i64 r.d] 26) = V at *
  by_cases h1 : -1000 ≤ r.m
  · by_cases h2 : r.m ≤ 2000
    · by_cases h3 : 1 ≤ r.p
      · by_cases h4 : r.p ≤ 64
        all_goals go_wp2
        all_goals go_ret
        all_goals
          refine ⟨?_, HB.out⟩
          unfold validB
          first
            | exact congrArg (fun b => Ending.returned (Value.bool b)) (decide_eq_true (by omega)).symm
            | exact congrArg (fun b => Ending.returned (Value.bool b)) (decide_eq_false (by omega)).symm
            | exact congrArg (fun b => Ending.returned (Value.bool b)) (decide_eq_decide.2 (by omega))
      · go_wp2
        go_ret
        exact ⟨congrArg (fun b => Ending.returned (Value.bool b)) (decide_eq_false (by omega)).symm, HB.out⟩
    · go_wp2
      go_ret
      exact ⟨congrArg (fun b => Ending.returned (Value.bool b)) (decide_eq_false (by omega)).symm, HB.out⟩
  · go_wp2
    go_ret
    exact ⟨congrArg (fun b => Ending.returned (Value.bool b)) (decide_eq_false (by omega)).symm, HB.out⟩

theorem vE_bad {L : List Rl} {di ev : Int} (h : ¬ ((1 ≤ L.length ∧ L.length ≤ 8) ∧ (0 ≤ di ∧ 0 ≤ ev) ∧ (di ≤ 9007199254740992 ∧ ev ≤ 9007199254740992) ∧ ∀ r ∈ L, validB r = true)) : vE L di ev = 27 := by unfold vE; rw [if_neg h]
set_option maxHeartbeats 4000000 in
set_option maxRecDepth 100000 in
theorem rule_validate (L : List Rl) (di ev : Int) (p : Option Addr) (n c : Nat) (w : World) (hr : RlRow w p n L) :
    Calls Try.prog 13 #[.agg #[.slice p n c, .int .i64 di, .int .i64 ev]] w fun e w' => e = .returned (.int .i64 (vE L di ev)) ∧ Below w.heap.size w w' := by
  have HB := hide (below1 (w := w) (.cells #[.slice p n c, .int .i64 di, .int .i64 ev] 24))
  have G := heap_alloc_new w (.cells #[.slice p n c, .int .i64 di, .int .i64 ev] 24)
  obtain ⟨c0, c1, c2, -, -, -⟩ := tri_cells G
  have HR := hide hr
  have HN := hide hr.1
  have HG := hide G
  clear G hr
  go_enter Try.func13, Try.ntmps13
  go_upto_region 1 with fail
  generalize w.alloc (.cells #[.slice p n c, .int .i64 di, .int .i64 ev] 24) = V at *
  by_cases h1 : 1 ≤ n
  · have d1 : decide ((n : Int) < 1) = false := by simp; omega
    have d1' : decide (n < 1) = false := by simp; omega
    by_cases h2 : n ≤ 8
    · have d2 : decide ((8 : Int) < (n : Int)) = false := by simp; omega
      have d2' : decide (8 < n) = false := by simp; omega
      go_cut [30] from 5 (fun v wx => v = .bool (decide (¬ ((0 ≤ di ∧ 0 ≤ ev) ∧ (di ≤ 9007199254740992 ∧ ev ≤ 9007199254740992)))) ∧ wx = V)
      case first =>
        go_wp2
        all_goals go_meet
        all_goals
          refine ⟨congrArg Value.bool ?_, rfl⟩
          first
            | exact (decide_eq_true (by omega)).symm
            | exact (decide_eq_false (by omega)).symm
            | (rw [← Bool.decide_or]; exact decide_eq_decide.2 (by omega))
      case rest =>
        obtain ⟨rfl, rfl⟩ := hcut
        by_cases hgood : ((0 ≤ di ∧ 0 ≤ ev) ∧ (di ≤ 9007199254740992 ∧ ev ≤ 9007199254740992))
        · have dg : decide (¬ ((0 ≤ di ∧ 0 ≤ ev) ∧ (di ≤ 9007199254740992 ∧ ev ≤ 9007199254740992))) = false := decide_eq_false (not_not_intro hgood)
          rw [dg]
          have HGD := hide hgood
          clear hgood dg
          go_wp2_with fail
          generalize wc = V at *
          go_loopw [34] (fun i wr => ∃ k : Nat, k ≤ n ∧ i = .int .i64 k ∧ Hid (∀ (j : Nat) (h : j < L.length), j < k → validB L[j] = true) ∧ Hid (Below V.heap.size V wr)) (fun i _ => n - (intOf i).toNat)
          case atStart => exact ⟨0, Nat.zero_le _, rfl, hide (fun j h hj => by omega), Below.refl _ _⟩
          case round =>
            obtain ⟨k, hk, rfl, HA, HB2⟩ := hrel
            have HB3 := hide (HB.out.trans (HB2.out.mono HB.out.size))
            by_cases hlt : k < n
            · obtain ⟨-, h0 | ⟨b, off, rfl, hc⟩⟩ := HR.out
              · omega
              have hkL : k < L.length := by have := HN.out; omega
              obtain ⟨x0, x1, x2, x3⟩ := hc k hkL
              have y0 : wr.cell? ⟨b, off + k * 4, none⟩ = some (.int .i64 L[k].m) := by rw [HB3.out.cell (block_lt_of_cell x0)]; exact x0
              have y1 : wr.cell? ⟨b, off + k * 4 + 1, none⟩ = some (.int .i64 L[k].p) := by rw [HB3.out.cell (block_lt_of_cell x1)]; exact x1
              have y2 : wr.cell? ⟨b, off + k * 4 + 2, none⟩ = some (.int .i64 L[k].f) := by rw [HB3.out.cell (block_lt_of_cell x2)]; exact x2
              have y3 : wr.cell? ⟨b, off + k * 4 + 3, none⟩ = some (.int .i64 L[k].d) := by rw [HB3.out.cell (block_lt_of_cell x3)]; exact x3
              clear x0 x1 x2 x3 hc
              obtain ⟨r, hr⟩ : ∃ r, L[k] = r := ⟨_, rfl⟩
              rw [hr] at y0 y1 y2 y3
              have HRK := hide hr
              clear hr
              have Q := hide (fun w => rule_valid r w)
              have hkI : (k : Int) < (n : Int) := by omega
              cases hv : validB r
              · rw [hv] at Q
                have HV := hide hv
                clear hv
                go_wp2_with (first
                  | (go_at_call 29; (with_reducible refine (Q.out _).mono ?_); rintro e w1 ⟨rfl, hb⟩))
                go_ret
                exact ⟨by rw [vE_bad (fun h => by have h2 := h.2.2.2 L[k] (List.getElem_mem _); rw [HRK.out, HV.out] at h2; cases h2)]; rfl, (HB3.out.alloc HB3.out.size _).trans (hb.mono (by have := HB3.out.size; simp; omega))⟩
              · rw [hv] at Q
                have HV := hide hv
                clear hv
                go_wp2_with (first
                  | (go_at_call 29; (with_reducible refine (Q.out _).mono ?_); rintro e w1 ⟨rfl, hb⟩; (have HB4 := hide ((HB2.out.alloc HB2.out.size _).trans (hb.mono (by have := HB2.out.size; simp; omega)))); clear hb))
                go_roundw
                case rel =>
                  refine ⟨k + 1, by omega, by go_num, hide (fun j h hj => ?_), HB4⟩
                  by_cases hjk : j = k
                  · subst hjk; rw [HRK.out]; exact HV.out
                  · exact HA.out j h (by omega)
                case measure => simp [intOf]; omega
            · have d9 : decide ((k : Int) < (n : Int)) = false := by simp; omega
              have d9' : decide (k < n) = false := by simp; omega
              have hkn : k = n := by omega
              have HKN := hide hkn
              clear hkn hlt hk
              go_wp2
              go_ret
              refine ⟨?_, HB3.out⟩
              have hv : vE L di ev = 0 := by
                unfold vE
                refine if_pos ⟨by have := HN.out; omega, HGD.out.1, HGD.out.2, fun r hr => ?_⟩
                obtain ⟨j, hj, rfl⟩ := List.getElem_of_mem hr
                exact HA.out j hj (by have := HN.out; have := HKN.out; omega)
              rw [hv]
              rfl
        · have dg : decide (¬ ((0 ≤ di ∧ 0 ≤ ev) ∧ (di ≤ 9007199254740992 ∧ ev ≤ 9007199254740992))) = true := decide_eq_true hgood
          rw [dg]
          have HGD := hide hgood
          clear hgood dg
          go_wp2
          go_ret
          exact ⟨by rw [vE_bad (fun h => HGD.out ⟨h.2.1, h.2.2.1⟩)]; rfl, HB.out⟩
    · have d2 : decide ((8 : Int) < (n : Int)) = true := by simp; omega
      have d2' : decide (8 < n) = true := by simp; omega
      go_wp2
      go_ret
      exact ⟨by rw [vE_bad (fun h => by have := HN.out; omega)]; rfl, HB.out⟩
  · have d1 : decide ((n : Int) < 1) = true := by simp; omega
    have d1' : decide (n < 1) = true := by simp; omega
    go_wp2
    go_ret
    exact ⟨by rw [vE_bad (fun h => by have := HN.out; omega)]; rfl, HB.out⟩

end Go.Proofs.Ytlhphhiodckaaaa
