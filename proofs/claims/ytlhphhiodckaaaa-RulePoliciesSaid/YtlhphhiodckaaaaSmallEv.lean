/- SmallEvent of package keep. (written by gen_small.py) -/
import Derived.Test.YtlhphhiodckaaaaMovedC
namespace Go.Proofs.Ytlhphhiodckaaaa
open Go.RowKit
set_option linter.unusedVariables false
set_option linter.unusedSimpArgs false
def smallB (e : Ev) : Bool := decide ((e.n : Int) ≤ 20 ∧ -1152921504606846976 < e.tm ∧ e.tm < 1152921504606846976)
set_option maxHeartbeats 4000000 in
set_option maxRecDepth 100000 in
theorem keep_small (e : Ev) (w : World) :
    Calls Try.prog 7 #[.agg #[.string e.a1, .string e.a2, .string e.a3, .string e.a4, .int .i64 e.t1, .int .i64 e.t2, .int .i64 e.t3, .int .i64 e.am, .int .i64 e.po, .slice e.p e.n e.c, .int .i64 e.x, .int .i64 e.y, .int .i64 e.z, .int .i64 e.tm, .int .i64 e.mf, .int .i64 e.lw, .int .i64 e.b1, .int .i64 e.b2, .int .i64 e.b3, .int .i64 e.b4, .int .i64 e.b5, .int .i64 e.b6, .int .i64 e.lo, .int .i64 e.hi, .int .i64 e.ct]] w fun en w' => en = .returned (.bool (smallB e)) ∧ Below w.heap.size w w' := by
  have HF := hide (fun (h : ¬ ((e.n : Int) ≤ 20 ∧ -1152921504606846976 < e.tm ∧ e.tm < 1152921504606846976)) => (show Ending.returned (.bool false) = .returned (.bool (smallB e)) from by unfold smallB; rw [decide_eq_false h]))
  have HT := hide (fun (h : ((e.n : Int) ≤ 20 ∧ -1152921504606846976 < e.tm ∧ e.tm < 1152921504606846976)) => (show Ending.returned (.bool true) = .returned (.bool (smallB e)) from by unfold smallB; rw [decide_eq_true h]))
  have HB := hide (below1 (w := w) (.cells #[.string e.a1, .string e.a2, .string e.a3, .string e.a4, .int .i64 e.t1, .int .i64 e.t2, .int .i64 e.t3, .int .i64 e.am, .int .i64 e.po, .slice e.p e.n e.c, .int .i64 e.x, .int .i64 e.y, .int .i64 e.z, .int .i64 e.tm, .int .i64 e.mf, .int .i64 e.lw, .int .i64 e.b1, .int .i64 e.b2, .int .i64 e.b3, .int .i64 e.b4, .int .i64 e.b5, .int .i64 e.b6, .int .i64 e.lo, .int .i64 e.hi, .int .i64 e.ct] 43))
  have G0 := hide (heap_alloc_new w (.cells #[.string e.a1, .string e.a2, .string e.a3, .string e.a4, .int .i64 e.t1, .int .i64 e.t2, .int .i64 e.t3, .int .i64 e.am, .int .i64 e.po, .slice e.p e.n e.c, .int .i64 e.x, .int .i64 e.y, .int .i64 e.z, .int .i64 e.tm, .int .i64 e.mf, .int .i64 e.lw, .int .i64 e.b1, .int .i64 e.b2, .int .i64 e.b3, .int .i64 e.b4, .int .i64 e.b5, .int .i64 e.b6, .int .i64 e.lo, .int .i64 e.hi, .int .i64 e.ct] 43))
  go_enter Try.func7, Try.ntmps7
  go_upto_region 1 with fail
  have HSZ := hide (show (w.alloc (.cells #[.string e.a1, .string e.a2, .string e.a3, .string e.a4, .int .i64 e.t1, .int .i64 e.t2, .int .i64 e.t3, .int .i64 e.am, .int .i64 e.po, .slice e.p e.n e.c, .int .i64 e.x, .int .i64 e.y, .int .i64 e.z, .int .i64 e.tm, .int .i64 e.mf, .int .i64 e.lw, .int .i64 e.b1, .int .i64 e.b2, .int .i64 e.b3, .int .i64 e.b4, .int .i64 e.b5, .int .i64 e.b6, .int .i64 e.lo, .int .i64 e.hi, .int .i64 e.ct] 43)).heap.size = w.heap.size + 1 from by simp)
  generalize w.alloc (.cells #[.string e.a1, .string e.a2, .string e.a3, .string e.a4, .int .i64 e.t1, .int .i64 e.t2, .int .i64 e.t3, .int .i64 e.am, .int .i64 e.po, .slice e.p e.n e.c, .int .i64 e.x, .int .i64 e.y, .int .i64 e.z, .int .i64 e.tm, .int .i64 e.mf, .int .i64 e.lw, .int .i64 e.b1, .int .i64 e.b2, .int .i64 e.b3, .int .i64 e.b4, .int .i64 e.b5, .int .i64 e.b6, .int .i64 e.lo, .int .i64 e.hi, .int .i64 e.ct] 43) = V at HB G0 HSZ ⊢
  have HRA := hide (show V.rangeAt w.heap.size 10 [.int .i64 e.x, .int .i64 e.y, .int .i64 e.z, .int .i64 e.tm, .int .i64 e.mf, .int .i64 e.lw, .int .i64 e.b1, .int .i64 e.b2, .int .i64 e.b3, .int .i64 e.b4, .int .i64 e.b5, .int .i64 e.b6] from row_range G0.out (sub_get rfl))
  have GN := hide (heap_alloc_new V (.cells #[.int .i64 0, .int .i64 0, .int .i64 0, .int .i64 0, .int .i64 0, .int .i64 0, .int .i64 0, .int .i64 0, .int .i64 0, .int .i64 0, .int .i64 0, .int .i64 0] 37))
  have HVS := hide (below1 (w := V) (.cells #[.int .i64 0, .int .i64 0, .int .i64 0, .int .i64 0, .int .i64 0, .int .i64 0, .int .i64 0, .int .i64 0, .int .i64 0, .int .i64 0, .int .i64 0, .int .i64 0] 37))
  go_upto_region 2 with (first
    | (refine wpList_load_mid (by rfl) 37 (.tmp 5) (by rfl) w.heap.size 10 (by rfl) [.int .i64 e.x, .int .i64 e.y, .int .i64 e.z, .int .i64 e.tm, .int .i64 e.mf, .int .i64 e.lw, .int .i64 e.b1, .int .i64 e.b2, .int .i64 e.b3, .int .i64 e.b4, .int .i64 e.b5, .int .i64 e.b6] _ ?_ Try.underlying37 rfl (by kernel_rfl) ?_; (focus exact HRA.out))
    | (refine wpList_store_mid (by rfl) 37 (.tmp 3) (.tmp 6) (by rfl) V.heap.size 0 #[.int .i64 e.x, .int .i64 e.y, .int .i64 e.z, .int .i64 e.tm, .int .i64 e.mf, .int .i64 e.lw, .int .i64 e.b1, .int .i64 e.b2, .int .i64 e.b3, .int .i64 e.b4, .int .i64 e.b5, .int .i64 e.b6] (by rfl) (by rfl) ?_ (by kernel_rfl) (by simp [Value.oneCell']) ?_; (focus exact there_row GN.out 0 12 (by simp))))
  simp only [Act.put]
  have HL := hide (HB.out.trans ((HVS.out.trans ((sets_below (g := V.heap.size) [.int .i64 e.x, .int .i64 e.y, .int .i64 e.z, .int .i64 e.tm, .int .i64 e.mf, .int .i64 e.lw, .int .i64 e.b1, .int .i64 e.b2, .int .i64 e.b3, .int .i64 e.b4, .int .i64 e.b5, .int .i64 e.b6] (V.alloc (.cells #[.int .i64 0, .int .i64 0, .int .i64 0, .int .i64 0, .int .i64 0, .int .i64 0, .int .i64 0, .int .i64 0, .int .i64 0, .int .i64 0, .int .i64 0, .int .i64 0] 37)) 0))).mono HB.out.size))
  have G0 := hide ((sets_other (show w.heap.size ≠ V.heap.size by have := HSZ.out; omega) [.int .i64 e.x, .int .i64 e.y, .int .i64 e.z, .int .i64 e.tm, .int .i64 e.mf, .int .i64 e.lw, .int .i64 e.b1, .int .i64 e.b2, .int .i64 e.b3, .int .i64 e.b4, .int .i64 e.b5, .int .i64 e.b6] (V.alloc (.cells #[.int .i64 0, .int .i64 0, .int .i64 0, .int .i64 0, .int .i64 0, .int .i64 0, .int .i64 0, .int .i64 0, .int .i64 0, .int .i64 0, .int .i64 0, .int .i64 0] 37)) 0).trans (pair_alloc G0.out (.cells #[.int .i64 0, .int .i64 0, .int .i64 0, .int .i64 0, .int .i64 0, .int .i64 0, .int .i64 0, .int .i64 0, .int .i64 0, .int .i64 0, .int .i64 0, .int .i64 0] 37)))
  have G3 := hide ((sets_heap [.int .i64 e.x, .int .i64 e.y, .int .i64 e.z, .int .i64 e.tm, .int .i64 e.mf, .int .i64 e.lw, .int .i64 e.b1, .int .i64 e.b2, .int .i64 e.b3, .int .i64 e.b4, .int .i64 e.b5, .int .i64 e.b6] _ _ 0 GN.out).trans (show _ = some (.cells #[.int .i64 e.x, .int .i64 e.y, .int .i64 e.z, .int .i64 e.tm, .int .i64 e.mf, .int .i64 e.lw, .int .i64 e.b1, .int .i64 e.b2, .int .i64 e.b3, .int .i64 e.b4, .int .i64 e.b5, .int .i64 e.b6] 37 (0, 0)) from by kernel_rfl))
  clear HRA GN HVS HSZ HB
  generalize (V.alloc (.cells #[.int .i64 0, .int .i64 0, .int .i64 0, .int .i64 0, .int .i64 0, .int .i64 0, .int .i64 0, .int .i64 0, .int .i64 0, .int .i64 0, .int .i64 0, .int .i64 0] 37)).setCells V.heap.size 0 [.int .i64 e.x, .int .i64 e.y, .int .i64 e.z, .int .i64 e.tm, .int .i64 e.mf, .int .i64 e.lw, .int .i64 e.b1, .int .i64 e.b2, .int .i64 e.b3, .int .i64 e.b4, .int .i64 e.b5, .int .i64 e.b6] = V2 at HL G0 G3 ⊢
  generalize V.heap.size = g3 at G3 ⊢
  have m9 := boxed_at G0.out (i := 9) rfl
  have m3 := boxed_at G3.out (i := 3) rfl
  clear G0 G3
  by_cases h0 : (e.n : Int) ≤ 20
  · have d0 : decide ((e.n : Int) ≤ 20) = true := decide_eq_true h0
    have d0' : decide (e.n ≤ 20) = true := decide_eq_true (by omega)
    by_cases h1 : -1152921504606846976 < e.tm
    · have d1 : decide (-1152921504606846976 < e.tm) = true := decide_eq_true h1
      by_cases h2 : e.tm < 1152921504606846976
      · have d2 : decide (e.tm < 1152921504606846976) = true := decide_eq_true h2
        have HT := hide (HT.out ⟨h0, h1, h2⟩)
        clear h0 h1 h2 HF
        go_wp2_with fail
        go_ret
        exact ⟨HT.out, HL.out⟩
      · have d2 : decide (e.tm < 1152921504606846976) = false := decide_eq_false h2
        have HF := hide (HF.out (fun h => h2 h.2.2))
        clear h0 h1 h2 HT
        go_wp2_with fail
        go_ret
        exact ⟨HF.out, HL.out⟩
    · have d1 : decide (-1152921504606846976 < e.tm) = false := decide_eq_false h1
      have HF := hide (HF.out (fun h => h1 h.2.1))
      clear h0 h1 HT
      go_wp2_with fail
      go_ret
      exact ⟨HF.out, HL.out⟩
  · have d0 : decide ((e.n : Int) ≤ 20) = false := decide_eq_false h0
    have d0' : decide (e.n ≤ 20) = false := decide_eq_false (by omega)
    have HF := hide (HF.out (fun h => h0 h.1))
    clear h0 HT
    go_wp2_with fail
    go_ret
    exact ⟨HF.out, HL.out⟩

end Go.Proofs.Ytlhphhiodckaaaa
