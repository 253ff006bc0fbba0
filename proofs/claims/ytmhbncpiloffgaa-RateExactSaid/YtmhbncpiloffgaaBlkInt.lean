/- Slice literals of ints, their values of no matter. -/
import Derived.Test.YtmhbncpiloffgaaBlk
import Derived.Test.YtmhbncpiloffgaaIntBlk
namespace Go.Proofs.Ytmhbncpiloffgaa
theorem Parts.ints {vs : List Value} {cells : Array Value} (h : Parts 1 vs cells) (hv : vs.all isI64 = true) (w : World) (t : TypeId) : IntBlk (w.alloc (.cells cells t)) w.heap.size t vs.length := by
  obtain ⟨h1, h2⟩ := h
  refine ⟨cells, heap_alloc_new w _, by omega, List.all_eq_true.2 fun u hu => ?_⟩
  obtain ⟨i, hi, rfl⟩ := List.getElem_of_mem hu
  have hi2 : i < vs.length := by simp at hi; omega
  have hm := (List.all_eq_true.1 hv) vs[i] (List.getElem_mem hi2)
  have := h2 i 0 vs[i] vs[i] (List.getElem?_eq_getElem hi2) (by
    generalize vs[i] = v at hm
    match v, hm with
    | .int .i64 x, _ => rfl)
  rw [Nat.mul_one, Nat.add_zero, Array.getElem?_eq_getElem (by simpa using hi)] at this
  injection this with this
  simp only [Array.getElem_toList]
  rw [this]
  exact hm
end Go.Proofs.Ytmhbncpiloffgaa
