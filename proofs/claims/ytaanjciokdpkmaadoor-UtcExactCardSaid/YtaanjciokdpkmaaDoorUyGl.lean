/- Several texts as one (written by merge.py): UtGl. -/
import Derived.Test.YtaanjciokdpkmaaDoorRows
import Derived.Test.YtaanjciokdpkmaaDoorUyA
import Derived.LaidMore
import Derived.Lay
import Derived.LaidLaws
import Derived.MakeChecks
import Derived.Stop.LaidErr
import Derived.Lib.LaidTab
/- Utc: what the rows say of the tables, for the interpreter. -/
namespace Go.Proofs.YtaanjciokdpkmaaDoor
open Go.RowKit
set_option linter.unusedVariables false
/-- The three tables, as the rows list them. -/
def laid3 : List (String × DataW Unit) := Rows.utcDatesRow.laid
theorem tab_of {W : World} (h : laidMetH Tryd.prog laid3 W) : Lib.TabIs Tryd.prog W "internal/strconv.uint64pow10" .u64 tab10 := by
  rw [MakeChecks.laidMetH_plain _ _ _ (by kernel_rfl)] at h
  have h2 := laidMet.tail (laidMet.tail h)
  exact Lib.tabIs_of_head (g := 0) (t := 80) (e := 74) (n := 20) (by kernel_rfl) (by kernel_rfl) Tryd.underlying80 Tryd.underlying74 (by kernel_rfl) (by kernel_rfl) h2
theorem gl_of {W : World} (h : laidMetH Tryd.prog laid3 W) : GlOk (memOf W) W [] (InT sig0 []) := by
  have ht := tab_of h
  have hn : Tryd.prog.globalNamed "internal/strconv.uint64pow10" = some 0 := by kernel_rfl
  intro g cs hg
  unfold glb at hg
  split at hg
  · rename_i h0
    subst h0
    cases hg
    refine ⟨fun j => ⟨?_, fun hj => ?_⟩, ?_, fun h => (by cases h), fun ⟨t, h, _⟩ => (by cases h)⟩
    · by_cases hj : j < tab10.length
      · rw [List.getD_eq_getElem?_getD, List.getElem?_map, List.getElem?_eq_getElem hj]
        rfl
      · rw [List.getD_eq_getElem?_getD, List.getElem?_eq_none (by simpa using hj)]
        rfl
    · have hj' : j < tab10.length := by simpa using hj
      have := ht.cell hn j hj'
      show W.cell? ⟨0, j, none⟩ = _
      rw [this, List.getD_eq_getElem?_getD, List.getD_eq_getElem?_getD, List.getElem?_map, List.getElem?_eq_getElem hj']
      rfl
    · unfold Lib.TabIs World.var? at ht
      rw [hn] at ht
      have ht : (match W.heap[0]? with | some (Obj.cells cs _ _) => some cs | _ => none) = some (tab10.map fun z => Value.int .u64 z).toArray := ht
      split at ht
      · rename_i c t z hc
        cases ht
        exact ⟨t, z, hc⟩
      · cases ht
  · cases hg
end Go.Proofs.YtaanjciokdpkmaaDoor
