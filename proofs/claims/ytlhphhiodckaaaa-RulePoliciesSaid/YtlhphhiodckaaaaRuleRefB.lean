/- The reference of layer 35: Validate, Level, Timely. (written by gen_rrefb.py) -/
import Derived.Test.YtlhphhiodckaaaaRuleRef
import Derived.Test.YtlhphhiodckaaaaMovedB
import Derived.Test.YtlhphhiodckaaaaReg2
namespace Go.Proofs.Ytlhphhiodckaaaa
open Go.RowKit
set_option linter.unusedVariables false
set_option linter.unusedSimpArgs false

set_option maxHeartbeats 4000000 in
set_option maxRecDepth 100000 in
theorem rr_validate (L : List Rl) (di ev : Int) (p : Option Addr) (n c : Nat) (hn : n ≤ 1000000) (w : World) (hr : RlRow w p n L) :
    Calls Try.prog 14 #[.agg #[.slice p n c, .int .i64 di, .int .i64 ev]] w fun e w' => e = .returned (.int .i64 (vE L di ev)) ∧ Below w.heap.size w w' := by
  have HB := hide (below1 (w := w) (.cells #[.slice p n c, .int .i64 di, .int .i64 ev] 24))
  have G := heap_alloc_new w (.cells #[.slice p n c, .int .i64 di, .int .i64 ev] 24)
  obtain ⟨c0, c1, c2, -, -, -⟩ := tri_cells G
  have HR := hide hr
  have HN := hide hr.1
  have HG := hide G
  have Q1 := hide (fun W => rr_within di W)
  have Q2 := hide (fun W => rr_within ev W)
  clear G hr
  go_enter Try.func14, Try.ntmps14
  go_upto_region 1 with fail
  generalize w.alloc (.cells #[.slice p n c, .int .i64 di, .int .i64 ev] 24) = V at *
  by_cases h1 : 1 ≤ n
  · have d1 : decide ((n : Int) < 1) = false := decide_eq_false (by omega)
    have d1' : decide (n < 1) = false := decide_eq_false (by omega)
    by_cases h2 : n ≤ 8
    · have d2 : decide ((8 : Int) < (n : Int)) = false := decide_eq_false (by omega)
      have d2' : decide (8 < n) = false := decide_eq_false (by omega)
      cases g1 : inT di
      · rw [g1] at Q1
        have hbad : ¬ ((1 ≤ L.length ∧ L.length ≤ 8) ∧ (0 ≤ di ∧ 0 ≤ ev) ∧ (di ≤ 9007199254740992 ∧ ev ≤ 9007199254740992) ∧ ∀ r ∈ L, validB r = true) := fun h => by unfold inT at g1; exact of_decide_eq_false g1 ⟨h.2.1.1, h.2.2.1.1⟩
        have HBD := hide hbad
        clear g1 hbad
        go_wp2_with (first
          | (go_at_call 30; (with_reducible refine (Q1.out _).mono ?_); rintro e w1 ⟨rfl, rfl⟩))
        go_ret
        exact ⟨by rw [vE_bad HBD.out]; rfl, HB.out⟩
      · rw [g1] at Q1
        cases g2 : inT ev
        · rw [g2] at Q2
          have hbad : ¬ ((1 ≤ L.length ∧ L.length ≤ 8) ∧ (0 ≤ di ∧ 0 ≤ ev) ∧ (di ≤ 9007199254740992 ∧ ev ≤ 9007199254740992) ∧ ∀ r ∈ L, validB r = true) := fun h => by unfold inT at g2; exact of_decide_eq_false g2 ⟨h.2.1.2, h.2.2.1.2⟩
          have HBD := hide hbad
          clear g1 g2 hbad
          go_wp2_with (first
            | (go_at_call 30; (with_reducible refine (Q1.out _).mono ?_); rintro e w1 ⟨rfl, rfl⟩)
            | (go_at_call 30; (with_reducible refine (Q2.out _).mono ?_); rintro e w1 ⟨rfl, rfl⟩))
          go_ret
          exact ⟨by rw [vE_bad HBD.out]; rfl, HB.out⟩
        · rw [g2] at Q2
          have hgd : (0 ≤ di ∧ 0 ≤ ev) ∧ (di ≤ 9007199254740992 ∧ ev ≤ 9007199254740992) := by
            unfold inT at g1 g2
            have h4 := of_decide_eq_true g1
            have h5 := of_decide_eq_true g2
            omega
          have HGD := hide hgd
          clear g1 g2 hgd
          go_wp2_with (first
            | (go_at_call 30; (with_reducible refine (Q1.out _).mono ?_); rintro e w1 ⟨rfl, rfl⟩)
            | (go_at_call 30; (with_reducible refine (Q2.out _).mono ?_); rintro e w1 ⟨rfl, rfl⟩))
          go_loopw [3] (fun i wr => ∃ k : Nat, k ≤ n ∧ i = .int .i64 k ∧ Hid (∀ (j : Nat) (h : j < L.length), j < k → validB L[j] = true) ∧ Hid (Below V.heap.size V wr)) (fun i _ => n - (intOf i).toNat)
          case atStart => exact ⟨0, Nat.zero_le _, rfl, hide (fun j h hj => by omega), Below.refl _ _⟩
          case round =>
            obtain ⟨k, hk, rfl, HA, HB2⟩ := hrel
            have HB3 := hide (HB.out.trans (HB2.out.mono HB.out.size))
            clear c0 c1 c2
            obtain ⟨c0, c1, c2, -, -, -⟩ := tri_cells ((HB2.out.block _ (Array.getElem?_eq_some_iff.1 HG.out).1).trans HG.out)
            by_cases hlt : k < n
            · obtain ⟨-, h0 | ⟨b, off, rfl, hc⟩⟩ := HR.out
              · omega
              have hkL : k < L.length := by have := HN.out; omega
              obtain ⟨x0, x1, x2, x3⟩ := hc k hkL
              have y0 : wr.cell? ⟨b, off + k * 4, none⟩ = some (.int .i64 L[k].m) := by rw [HB3.out.cell (block_lt_of_cell x0)]; exact x0
              have y1 : wr.cell? ⟨b, off + k * 4 + 1, none⟩ = some (.int .i64 L[k].p) := by rw [HB3.out.cell (block_lt_of_cell x1)]; exact x1
              have y2 : wr.cell? ⟨b, off + k * 4 + 2, none⟩ = some (.int .i64 L[k].f) := by rw [HB3.out.cell (block_lt_of_cell x2)]; exact x2
              have y3 : wr.cell? ⟨b, off + k * 4 + 3, none⟩ = some (.int .i64 L[k].d) := by rw [HB3.out.cell (block_lt_of_cell x3)]; exact x3
              clear x0 x1 x2 x3 hc
              have HBAD := hide (fun (h : ¬ (-1000 ≤ L[k].m ∧ L[k].m ≤ 2000 ∧ 1 ≤ L[k].p ∧ L[k].p ≤ 64 ∧ (0 ≤ L[k].f ∧ 0 ≤ L[k].d) ∧ (L[k].f ≤ 9007199254740992 ∧ L[k].d ≤ 9007199254740992))) => (show Ending.returned (.int .i64 27) = .returned (.int .i64 (vE L di ev)) from by rw [vE_bad (fun h2 => by have h3 := h2.2.2.2 L[k] (List.getElem_mem _); unfold validB at h3; exact h (of_decide_eq_true h3))]))
              obtain ⟨r, hr⟩ : ∃ r, L[k] = r := ⟨_, rfl⟩
              rw [hr] at y0 y1 y2 y3 HBAD
              have HRK := hide hr
              clear hr
              have QF := hide (fun W => rr_within r.f W)
              have QD := hide (fun W => rr_within r.d W)
              have hkI : (k : Int) < (n : Int) := by omega
              by_cases g0 : r.m < -1000
              · have d0 : decide (r.m < -1000) = true := decide_eq_true g0
                have HBD := hide (HBAD.out (fun h9 => by omega))
                clear g0
                go_wp2_with fail
                go_ret
                exact ⟨HBD.out, HB3.out.alloc HB3.out.size _⟩
              · have d0 : decide (r.m < -1000) = false := decide_eq_false g0
                by_cases g1 : 2000 < r.m
                · have d1 : decide (2000 < r.m) = true := decide_eq_true g1
                  have HBD := hide (HBAD.out (fun h9 => by omega))
                  clear g0 g1
                  go_wp2_with fail
                  go_ret
                  exact ⟨HBD.out, HB3.out.alloc HB3.out.size _⟩
                · have d1 : decide (2000 < r.m) = false := decide_eq_false g1
                  by_cases g2 : r.p < 1
                  · have d2 : decide (r.p < 1) = true := decide_eq_true g2
                    have HBD := hide (HBAD.out (fun h9 => by omega))
                    clear g0 g1 g2
                    go_wp2_with fail
                    go_ret
                    exact ⟨HBD.out, HB3.out.alloc HB3.out.size _⟩
                  · have d2 : decide (r.p < 1) = false := decide_eq_false g2
                    by_cases g3 : 64 < r.p
                    · have d3 : decide (64 < r.p) = true := decide_eq_true g3
                      have HBD := hide (HBAD.out (fun h9 => by omega))
                      clear g0 g1 g2 g3
                      go_wp2_with fail
                      go_ret
                      exact ⟨HBD.out, HB3.out.alloc HB3.out.size _⟩
                    · have d3 : decide (64 < r.p) = false := decide_eq_false g3
                      cases g4 : inT r.f
                      · rw [g4] at QF
                        have HBD := hide (HBAD.out (fun h9 => by unfold inT at g4; have := of_decide_eq_false g4; omega))
                        clear g0 g1 g2 g3 g4
                        go_wp2_with (first
                          | (go_at_call 30; (with_reducible refine (QF.out _).mono ?_); rintro e w1 ⟨rfl, rfl⟩))
                        go_ret
                        exact ⟨HBD.out, HB3.out.alloc HB3.out.size _⟩
                      · rw [g4] at QF
                        cases g5 : inT r.d
                        · rw [g5] at QD
                          have HBD := hide (HBAD.out (fun h9 => by unfold inT at g5; have := of_decide_eq_false g5; omega))
                          clear g0 g1 g2 g3 g4 g5
                          go_wp2_with (first
                            | (go_at_call 30; (with_reducible refine (QF.out _).mono ?_); rintro e w1 ⟨rfl, rfl⟩)
                            | (go_at_call 30; (with_reducible refine (QD.out _).mono ?_); rintro e w1 ⟨rfl, rfl⟩))
                          go_ret
                          exact ⟨HBD.out, HB3.out.alloc HB3.out.size _⟩
                        · rw [g5] at QD
                          have hv : validB r = true := by
                            unfold inT at g4 g5
                            have h4 := of_decide_eq_true g4
                            have h5 := of_decide_eq_true g5
                            unfold validB
                            exact decide_eq_true (by omega)
                          have HV := hide hv
                          clear g0 g1 g2 g3 g4 g5 hv
                          go_wp2_with (first
                            | (go_at_call 30; (with_reducible refine (QF.out _).mono ?_); rintro e w1 ⟨rfl, rfl⟩)
                            | (go_at_call 30; (with_reducible refine (QD.out _).mono ?_); rintro e w1 ⟨rfl, rfl⟩))
                          go_roundw
                          case rel =>
                            refine ⟨k + 1, by omega, by go_num, hide (fun j h hj => ?_), hide (HB2.out.alloc HB2.out.size _)⟩
                            by_cases hjk : j = k
                            · subst hjk; rw [HRK.out]; exact HV.out
                            · exact HA.out j h (by omega)
                          case measure => simp [intOf]; omega
            · have d9 : decide ((k : Int) < (n : Int)) = false := decide_eq_false (by omega)
              have d9' : decide (k < n) = false := decide_eq_false hlt
              have hkn : k = n := by omega
              have HKN := hide hkn
              clear hkn hlt hk
              go_wp2_with fail
              go_ret
              refine ⟨?_, HB3.out⟩
              have hv : vE L di ev = 0 := by
                unfold vE
                refine if_pos ⟨by have := HN.out; omega, HGD.out.1, HGD.out.2, fun r hr => ?_⟩
                obtain ⟨j, hj, rfl⟩ := List.getElem_of_mem hr
                exact HA.out j hj (by have := HN.out; have := HKN.out; omega)
              rw [hv]
              rfl
    · have d2 : decide ((8 : Int) < (n : Int)) = true := decide_eq_true (by omega)
      have d2' : decide (8 < n) = true := decide_eq_true (by omega)
      go_wp2_with fail
      go_ret
      exact ⟨by rw [vE_bad (fun h => by have := HN.out; omega)]; rfl, HB.out⟩
  · have d1 : decide ((n : Int) < 1) = true := decide_eq_true (by omega)
    have d1' : decide (n < 1) = true := decide_eq_true (by omega)
    go_wp2_with fail
    go_ret
    exact ⟨by rw [vE_bad (fun h => by have := HN.out; omega)]; rfl, HB.out⟩

set_option maxHeartbeats 4000000 in
set_option maxRecDepth 100000 in
theorem rr_level (L : List Rl) (di ev : Int) (p : Option Addr) (n c : Nat) (hn : n ≤ 1000000) (e : Ev) (w : World) (hr : RlRow w p n L) :
    Calls Try.prog 16 #[.agg #[.slice p n c, .int .i64 di, .int .i64 ev], .agg #[.string e.a1, .string e.a2, .string e.a3, .string e.a4, .int .i64 e.t1, .int .i64 e.t2, .int .i64 e.t3, .int .i64 e.am, .int .i64 e.po, .slice e.p e.n e.c, .int .i64 e.x, .int .i64 e.y, .int .i64 e.z, .int .i64 e.tm, .int .i64 e.mf, .int .i64 e.lw, .int .i64 e.b1, .int .i64 e.b2, .int .i64 e.b3, .int .i64 e.b4, .int .i64 e.b5, .int .i64 e.b6, .int .i64 e.lo, .int .i64 e.hi, .int .i64 e.ct]] w fun en w' => en = .returned (.int .i64 ((levF L di ev e : Nat) : Int)) ∧ Below w.heap.size w w' := by
  have HB := hide (below2 (w := w) (.cells #[.slice p n c, .int .i64 di, .int .i64 ev] 24) (.cells #[.string e.a1, .string e.a2, .string e.a3, .string e.a4, .int .i64 e.t1, .int .i64 e.t2, .int .i64 e.t3, .int .i64 e.am, .int .i64 e.po, .slice e.p e.n e.c, .int .i64 e.x, .int .i64 e.y, .int .i64 e.z, .int .i64 e.tm, .int .i64 e.mf, .int .i64 e.lw, .int .i64 e.b1, .int .i64 e.b2, .int .i64 e.b3, .int .i64 e.b4, .int .i64 e.b5, .int .i64 e.b6, .int .i64 e.lo, .int .i64 e.hi, .int .i64 e.ct] 43))
  have G0 := hide (pair_alloc (heap_alloc_new w (.cells #[.slice p n c, .int .i64 di, .int .i64 ev] 24)) (.cells #[.string e.a1, .string e.a2, .string e.a3, .string e.a4, .int .i64 e.t1, .int .i64 e.t2, .int .i64 e.t3, .int .i64 e.am, .int .i64 e.po, .slice e.p e.n e.c, .int .i64 e.x, .int .i64 e.y, .int .i64 e.z, .int .i64 e.tm, .int .i64 e.mf, .int .i64 e.lw, .int .i64 e.b1, .int .i64 e.b2, .int .i64 e.b3, .int .i64 e.b4, .int .i64 e.b5, .int .i64 e.b6, .int .i64 e.lo, .int .i64 e.hi, .int .i64 e.ct] 43))
  have G1 := hide (new_at (w := w.alloc (.cells #[.slice p n c, .int .i64 di, .int .i64 ev] 24)) (.cells #[.string e.a1, .string e.a2, .string e.a3, .string e.a4, .int .i64 e.t1, .int .i64 e.t2, .int .i64 e.t3, .int .i64 e.am, .int .i64 e.po, .slice e.p e.n e.c, .int .i64 e.x, .int .i64 e.y, .int .i64 e.z, .int .i64 e.tm, .int .i64 e.mf, .int .i64 e.lw, .int .i64 e.b1, .int .i64 e.b2, .int .i64 e.b3, .int .i64 e.b4, .int .i64 e.b5, .int .i64 e.b6, .int .i64 e.lo, .int .i64 e.hi, .int .i64 e.ct] 43) (g := w.heap.size + 1) (by simp))
  have HR := hide (hr.keep HB.out)
  have HN := hide hr.1
  have QV := hide (fun (V : World) (hV : RlRow V p n L) => rr_validate L di ev p n c hn V hV)
  clear hr
  go_enter Try.func16, Try.ntmps16
  go_upto_region 1 with fail
  generalize (w.alloc (.cells #[.slice p n c, .int .i64 di, .int .i64 ev] 24)).alloc (.cells #[.string e.a1, .string e.a2, .string e.a3, .string e.a4, .int .i64 e.t1, .int .i64 e.t2, .int .i64 e.t3, .int .i64 e.am, .int .i64 e.po, .slice e.p e.n e.c, .int .i64 e.x, .int .i64 e.y, .int .i64 e.z, .int .i64 e.tm, .int .i64 e.mf, .int .i64 e.lw, .int .i64 e.b1, .int .i64 e.b2, .int .i64 e.b3, .int .i64 e.b4, .int .i64 e.b5, .int .i64 e.b6, .int .i64 e.lo, .int .i64 e.hi, .int .i64 e.ct] 43) = V at HB G0 G1 HR ⊢
  go_wp2_with fail
  by_cases hv : vE L di ev = 0
  · rw [hv] at QV
    have hlf : levF L di ev e = levN L e L.length := by unfold levF; rw [if_pos hv]
    have HLF := hide hlf
    clear hv hlf
    go_loopw [5, 6] (fun l i wr => ∃ k : Nat, k ≤ n ∧ i = .int .i64 k ∧ l = .int .i64 ((levN L e k : Nat) : Int) ∧ Hid (Below w.heap.size w wr) ∧ Hid (wr.heap[w.heap.size]? = some (.cells #[.slice p n c, .int .i64 di, .int .i64 ev] 24)) ∧ Hid (wr.heap[w.heap.size + 1]? = some (.cells #[.string e.a1, .string e.a2, .string e.a3, .string e.a4, .int .i64 e.t1, .int .i64 e.t2, .int .i64 e.t3, .int .i64 e.am, .int .i64 e.po, .slice e.p e.n e.c, .int .i64 e.x, .int .i64 e.y, .int .i64 e.z, .int .i64 e.tm, .int .i64 e.mf, .int .i64 e.lw, .int .i64 e.b1, .int .i64 e.b2, .int .i64 e.b3, .int .i64 e.b4, .int .i64 e.b5, .int .i64 e.b6, .int .i64 e.lo, .int .i64 e.hi, .int .i64 e.ct] 43)) ∧ Hid (RlRow wr p n L)) (fun _ i _ => n - (intOf i).toNat)
    case atStart => exact ⟨0, Nat.zero_le _, rfl, rfl, HB, G0, G1, HR⟩
    case round =>
      obtain ⟨k, hk, rfl, rfl, HL, G0, G1, HR⟩ := hrel
      obtain ⟨c0, c1, c2, -, -, -⟩ := tri_cells G0.out
      have hlk := levN_le L e k
      generalize hlv : levN L e k = lv at hlk
      have HLV := hide hlv
      clear hlv
      by_cases hlt : k < n
      · have d : decide ((k : Int) < (n : Int)) = true := decide_eq_true (by omega)
        have d' : decide (k < n) = true := decide_eq_true hlt
        have hkL : k < L.length := by have := HN.out; omega
        go_upto_region 5 with (first
          | (go_at_call 14; (with_reducible refine (QV.out _ HR.out).mono ?_); rintro en w1 ⟨rfl, hb⟩; (have G0 := hide ((hb.block _ (Array.getElem?_eq_some_iff.1 G0.out).1).trans G0.out)); (have G1 := hide ((hb.block _ (Array.getElem?_eq_some_iff.1 G1.out).1).trans G1.out)); (have HL := hide (HL.out.trans (hb.mono HL.out.size))); (have HR := hide (HR.out.keep hb)); (obtain ⟨c0, c1, c2, -, -, -⟩ := tri_cells G0.out); clear hb))
        obtain ⟨-, h0 | ⟨b, off, hp, hc⟩⟩ := HR.out
        · omega
        obtain ⟨x0, x1, x2, x3⟩ := hc k hkL
        have QM := hide (fun V => rref_meets L[k] e V)
        have hstep : levN L e (k + 1) = if meetsB L[k] e = true then k + 1 else levN L e k := by
          show (if meetsB (L[k]?.getD rl0) e = true then k + 1 else levN L e k) = _
          rw [List.getElem?_eq_getElem hkL]; rfl
        rw [HLV.out] at hstep
        have hkI : (k : Int) < (n : Int) := by omega
        generalize L[k] = r at x0 x1 x2 x3 QM hstep
        have mp0 := fun q : More => cell_more c0 q
        rw [hp] at mp0
        have y0 := fun q : More => cell_more x0 q
        have y1 := fun q : More => cell_more x1 q
        have y2 := fun q : More => cell_more x2 q
        have y3 := fun q : More => cell_more x3 q
        have ME := hide (fun W (h : ∃ q, W = more w1 q) => show W.heap[w.heap.size + 1]? = _ from by obtain ⟨q, rfl⟩ := h; exact heap_more G1.out q)
        clear hp hc x0 x1 x2 x3 c0 c1 c2 d d'
        generalize meetsB r e = bm at QM hstep
        have HST := hide hstep
        clear hstep
        refine wp_region_grown (by kernel_rfl) (by kernel_rfl) ?_
        repeat (first
          | (refine wpQuiet_load_row ?_ 43 (.tmp 3) (by rfl) (w.heap.size + 1) (by rfl) 43 #[.string e.a1, .string e.a2, .string e.a3, .string e.a4, .int .i64 e.t1, .int .i64 e.t2, .int .i64 e.t3, .int .i64 e.am, .int .i64 e.po, .slice e.p e.n e.c, .int .i64 e.x, .int .i64 e.y, .int .i64 e.z, .int .i64 e.tm, .int .i64 e.mf, .int .i64 e.lw, .int .i64 e.b1, .int .i64 e.b2, .int .i64 e.b3, .int .i64 e.b4, .int .i64 e.b5, .int .i64 e.b6, .int .i64 e.lo, .int .i64 e.hi, .int .i64 e.ct] (0, 0) _ ?_ Try.underlying43 rfl (by kernel_rfl) ?_; (focus rfl); (focus exact ME.out); simp only [Act.put, List.setIfInBounds_toArray, List.set_cons_succ, List.set_cons_zero])
          | go_big_quiet_step ((go_at_call 18; with_reducible exact more_of (QM.out _))))
        refine wpQuiet_nil ?_
        intro w9 hb9
        have G0 := hide ((hb9.block _ (Array.getElem?_eq_some_iff.1 G0.out).1).trans G0.out)
        have G1 := hide ((hb9.block _ (Array.getElem?_eq_some_iff.1 G1.out).1).trans G1.out)
        have HR := hide (HR.out.keep hb9)
        have HL := hide (HL.out.trans (hb9.mono HL.out.size))
        clear hb9 mp0 y0 y1 y2 y3 ME
        cases bm
        · go_wp2_with fail
          go_roundw
          case rel => exact ⟨k + 1, by omega, by go_num, by rw [HST.out]; rfl, HL, G0, G1, HR⟩
          case measure => simp [intOf]; omega
        · go_wp2_with fail
          go_roundw
          case rel => exact ⟨k + 1, by omega, by go_num, by rw [HST.out]; simp, HL, G0, G1, HR⟩
          case measure => simp [intOf]; omega
      · have d : decide ((k : Int) < (n : Int)) = false := decide_eq_false (by omega)
        have d' : decide (k < n) = false := decide_eq_false hlt
        have hkn : k = L.length := by have := HN.out; omega
        have HKN := hide hkn
        clear hkn hlt
        go_wp2_with fail
        go_ret
        exact ⟨ret_int (by rw [HLF.out, ← HLV.out, HKN.out]), HL.out⟩
  · have hlf : levF L di ev e = 0 := by unfold levF; rw [if_neg hv]
    have hv27 : vE L di ev = 27 := by unfold vE at hv ⊢; split at hv <;> simp_all
    rw [hv27] at QV
    have HLF := hide hlf
    clear hv hlf hv27
    obtain ⟨c0, c1, c2, -, -, -⟩ := tri_cells G0.out
    have HL := HB
    go_loopw [5, 6] (fun l i wr => i = .int .i64 0 ∧ l = .int .i64 0 ∧ wr = V) (fun _ i _ => 0)
    case atStart => exact ⟨rfl, rfl, rfl⟩
    case round =>
      obtain ⟨rfl, rfl, rfl⟩ := hrel
      by_cases hlt : 0 < n
      · have d : decide ((0 : Int) < (n : Int)) = true := decide_eq_true (by omega)
        have d' : decide (0 < n) = true := decide_eq_true hlt
        go_wp2_with (first
          | (go_at_call 14; (with_reducible refine (QV.out _ HR.out).mono ?_); rintro en w1 ⟨rfl, hb⟩; (have G0 := hide ((hb.block _ (Array.getElem?_eq_some_iff.1 G0.out).1).trans G0.out)); (have G1 := hide ((hb.block _ (Array.getElem?_eq_some_iff.1 G1.out).1).trans G1.out)); (have HL := hide (HL.out.trans (hb.mono HL.out.size))); (have HR := hide (HR.out.keep hb)); (obtain ⟨c0, c1, c2, -, -, -⟩ := tri_cells G0.out); clear hb))
        go_ret
        exact ⟨by rw [HLF.out]; rfl, HL.out⟩
      · have d : decide ((0 : Int) < (n : Int)) = false := decide_eq_false (by omega)
        have d' : decide (0 < n) = false := decide_eq_false hlt
        go_wp2_with fail
        go_ret
        exact ⟨by rw [HLF.out]; rfl, HL.out⟩

set_option maxHeartbeats 4000000 in
set_option maxRecDepth 100000 in
theorem rr_timely (L : List Rl) (di ev : Int) (p : Option Addr) (n c : Nat) (hn : n ≤ 1000000) (e : Ev) (now : Int) (w : World) (hr : RlRow w p n L) :
    Calls Try.prog 22 #[.agg #[.slice p n c, .int .i64 di, .int .i64 ev], .agg #[.string e.a1, .string e.a2, .string e.a3, .string e.a4, .int .i64 e.t1, .int .i64 e.t2, .int .i64 e.t3, .int .i64 e.am, .int .i64 e.po, .slice e.p e.n e.c, .int .i64 e.x, .int .i64 e.y, .int .i64 e.z, .int .i64 e.tm, .int .i64 e.mf, .int .i64 e.lw, .int .i64 e.b1, .int .i64 e.b2, .int .i64 e.b3, .int .i64 e.b4, .int .i64 e.b5, .int .i64 e.b6, .int .i64 e.lo, .int .i64 e.hi, .int .i64 e.ct], .int .i64 now] w fun en w' => en = .returned (.bool (timB L di ev e now)) ∧ Below w.heap.size w w' := by
  have HB := hide (below2 (w := w) (.cells #[.slice p n c, .int .i64 di, .int .i64 ev] 24) (.cells #[.string e.a1, .string e.a2, .string e.a3, .string e.a4, .int .i64 e.t1, .int .i64 e.t2, .int .i64 e.t3, .int .i64 e.am, .int .i64 e.po, .slice e.p e.n e.c, .int .i64 e.x, .int .i64 e.y, .int .i64 e.z, .int .i64 e.tm, .int .i64 e.mf, .int .i64 e.lw, .int .i64 e.b1, .int .i64 e.b2, .int .i64 e.b3, .int .i64 e.b4, .int .i64 e.b5, .int .i64 e.b6, .int .i64 e.lo, .int .i64 e.hi, .int .i64 e.ct] 43))
  have G0 := hide (pair_alloc (heap_alloc_new w (.cells #[.slice p n c, .int .i64 di, .int .i64 ev] 24)) (.cells #[.string e.a1, .string e.a2, .string e.a3, .string e.a4, .int .i64 e.t1, .int .i64 e.t2, .int .i64 e.t3, .int .i64 e.am, .int .i64 e.po, .slice e.p e.n e.c, .int .i64 e.x, .int .i64 e.y, .int .i64 e.z, .int .i64 e.tm, .int .i64 e.mf, .int .i64 e.lw, .int .i64 e.b1, .int .i64 e.b2, .int .i64 e.b3, .int .i64 e.b4, .int .i64 e.b5, .int .i64 e.b6, .int .i64 e.lo, .int .i64 e.hi, .int .i64 e.ct] 43))
  have G1 := hide (new_at (w := w.alloc (.cells #[.slice p n c, .int .i64 di, .int .i64 ev] 24)) (.cells #[.string e.a1, .string e.a2, .string e.a3, .string e.a4, .int .i64 e.t1, .int .i64 e.t2, .int .i64 e.t3, .int .i64 e.am, .int .i64 e.po, .slice e.p e.n e.c, .int .i64 e.x, .int .i64 e.y, .int .i64 e.z, .int .i64 e.tm, .int .i64 e.mf, .int .i64 e.lw, .int .i64 e.b1, .int .i64 e.b2, .int .i64 e.b3, .int .i64 e.b4, .int .i64 e.b5, .int .i64 e.b6, .int .i64 e.lo, .int .i64 e.hi, .int .i64 e.ct] 43) (g := w.heap.size + 1) (by simp))
  have HR := hide (hr.keep HB.out)
  have HN := hide hr.1
  have Q := hide (fun (V : World) (hV : RlRow V p n L) => rr_level L di ev p n c hn e V hV)
  have hle := levF_le L di ev e
  have HT := hide (fun (h : ¬ (levF L di ev e ≠ 0 ∧ 0 ≤ wrap64 (now - e.tm) ∧ wrap64 (now - e.tm) ≤ (L[levF L di ev e - 1]?.getD rl0).d)) => (show Ending.returned (.bool false) = .returned (.bool (timB L di ev e now)) from by unfold timB; rw [decide_eq_false h]))
  have HY := hide (fun (h : levF L di ev e ≠ 0 ∧ 0 ≤ wrap64 (now - e.tm) ∧ wrap64 (now - e.tm) ≤ (L[levF L di ev e - 1]?.getD rl0).d) => (show Ending.returned (.bool true) = .returned (.bool (timB L di ev e now)) from by unfold timB; rw [decide_eq_true h]))
  obtain ⟨lv, hlv⟩ : ∃ lv, levF L di ev e = lv := ⟨_, rfl⟩
  rw [hlv] at Q HT HY hle
  clear hlv
  clear hr
  go_enter Try.func22, Try.ntmps22
  go_upto_region 1 with fail
  generalize (w.alloc (.cells #[.slice p n c, .int .i64 di, .int .i64 ev] 24)).alloc (.cells #[.string e.a1, .string e.a2, .string e.a3, .string e.a4, .int .i64 e.t1, .int .i64 e.t2, .int .i64 e.t3, .int .i64 e.am, .int .i64 e.po, .slice e.p e.n e.c, .int .i64 e.x, .int .i64 e.y, .int .i64 e.z, .int .i64 e.tm, .int .i64 e.mf, .int .i64 e.lw, .int .i64 e.b1, .int .i64 e.b2, .int .i64 e.b3, .int .i64 e.b4, .int .i64 e.b5, .int .i64 e.b6, .int .i64 e.lo, .int .i64 e.hi, .int .i64 e.ct] 43) = V at HB G0 G1 HR ⊢
  obtain ⟨c0, c1, c2, -, -, -⟩ := tri_cells G0.out
  obtain ⟨q, hq⟩ : ∃ q, wrap64 (now - e.tm) = q := ⟨_, rfl⟩
  rw [hq] at HT HY
  have hq' : wrap64 (now - e.tm) = q := hq
  clear hq
  rcases Nat.eq_zero_or_pos lv with h0 | h0
  · subst h0
    clear hq'
    go_wp2_with (first
      | (refine wpList_load_row (by rfl) 43 (.tmp 4) (by rfl) (w.heap.size + 1) (by rfl) 43 #[.string e.a1, .string e.a2, .string e.a3, .string e.a4, .int .i64 e.t1, .int .i64 e.t2, .int .i64 e.t3, .int .i64 e.am, .int .i64 e.po, .slice e.p e.n e.c, .int .i64 e.x, .int .i64 e.y, .int .i64 e.z, .int .i64 e.tm, .int .i64 e.mf, .int .i64 e.lw, .int .i64 e.b1, .int .i64 e.b2, .int .i64 e.b3, .int .i64 e.b4, .int .i64 e.b5, .int .i64 e.b6, .int .i64 e.lo, .int .i64 e.hi, .int .i64 e.ct] (0, 0) _ G1.out Try.underlying43 rfl (by kernel_rfl) ?_)
      | (go_at_call 16; (with_reducible refine (Q.out _ HR.out).mono ?_); rintro en w1 ⟨rfl, hb⟩; (have HL := hide (HB.out.trans (hb.mono HB.out.size))); clear hb))
    go_ret
    exact ⟨HT.out (by omega), HL.out⟩
  · obtain ⟨m, rfl⟩ : ∃ m, lv = m + 1 := ⟨lv - 1, by omega⟩
    have HT := hide (fun (h : ¬ (0 ≤ q ∧ q ≤ (L[m]?.getD rl0).d)) => HT.out (fun h' => h ⟨h'.2.1, h'.2.2⟩))
    have HY := hide (fun (h : 0 ≤ q ∧ q ≤ (L[m]?.getD rl0).d) => HY.out ⟨by omega, h.1, h.2⟩)
    have hml : m < L.length := by omega
    have hmn : m < n := by have := HN.out; omega
    have hmI : (m : Int) < (n : Int) := by omega
    have e0 : (((m + 1 : Nat) : Int)) = (m : Int) + 1 := by omega
    rw [e0] at Q
    have dm : ((m : Int) + 1 == 0) = false := by simp; omega
    obtain ⟨r, hrr⟩ : ∃ r, L[m] = r := ⟨_, rfl⟩
    have hr0 : L[m]?.getD rl0 = r := by rw [List.getElem?_eq_getElem hml]; exact hrr
    rw [hr0] at HT HY
    obtain ⟨-, h0 | ⟨b, off, rfl, hc⟩⟩ := HR.out
    · omega
    obtain ⟨-, -, -, x3⟩ := hc m hml
    rw [hrr] at x3
    have X3 := hide x3
    clear x3 hc h0 hle e0 hr0 hrr hml
    have m13 := boxed_at G1.out (i := 13) rfl
    clear m13
    have ARM := True.intro
    cases hq0 : decide (0 ≤ q) <;> cases hq1 : decide (q ≤ r.d) <;> simp only [decide_eq_true_eq, decide_eq_false_iff_not] at hq0 hq1
    all_goals
      first
        | have d1 : decide (0 ≤ q) = true := by simpa using hq0
        | have d1 : decide (0 ≤ q) = false := by simpa using hq0
      first
        | have d2 : decide (q ≤ r.d) = true := by simpa using hq1
        | have d2 : decide (q ≤ r.d) = false := by simpa using hq1
      have HT := hide (fun h => HT.out h)
      have HQ0 := hide hq0
      have HQ1 := hide hq1
      clear hq0 hq1
      go_wp2_with (first
        | (refine wpList_load_row (by rfl) 43 (.tmp 4) (by rfl) (w.heap.size + 1) (by rfl) 43 #[.string e.a1, .string e.a2, .string e.a3, .string e.a4, .int .i64 e.t1, .int .i64 e.t2, .int .i64 e.t3, .int .i64 e.am, .int .i64 e.po, .slice e.p e.n e.c, .int .i64 e.x, .int .i64 e.y, .int .i64 e.z, .int .i64 e.tm, .int .i64 e.mf, .int .i64 e.lw, .int .i64 e.b1, .int .i64 e.b2, .int .i64 e.b3, .int .i64 e.b4, .int .i64 e.b5, .int .i64 e.b6, .int .i64 e.lo, .int .i64 e.hi, .int .i64 e.ct] (0, 0) _ G1.out Try.underlying43 rfl (by kernel_rfl) ?_)
        | (go_at_call 16; (with_reducible refine (Q.out _ HR.out).mono ?_); rintro en w1 ⟨rfl, hb⟩; (have G0 := hide ((hb.block _ (Array.getElem?_eq_some_iff.1 G0.out).1).trans G0.out)); (have G1 := hide ((hb.block _ (Array.getElem?_eq_some_iff.1 G1.out).1).trans G1.out)); (have HL := hide (HB.out.trans (hb.mono HB.out.size))); (have x3 : w1.cell? ⟨b, off + m * 4 + 3, none⟩ = some (.int .i64 r.d) := (by rw [hb.cell (block_lt_of_cell X3.out)]; exact X3.out)); (have m0 := boxed_at G0.out (i := 0) rfl); (have m13 := boxed_at G1.out (i := 13) rfl); clear hb))
      go_ret
      first
        | exact ⟨HT.out (by have h1 := HQ0.out; have h2 := HQ1.out; omega), HL.out⟩
        | exact ⟨HY.out (by have h1 := HQ0.out; have h2 := HQ1.out; exact ⟨h1, h2⟩), HL.out⟩

end Go.Proofs.Ytlhphhiodckaaaa
