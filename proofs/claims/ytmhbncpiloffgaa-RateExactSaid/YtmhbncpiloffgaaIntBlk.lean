/- A block of ints that a literal has laid. -/
import Derived.Test.YtmhbncpiloffgaaLib
namespace Go.Proofs.Ytmhbncpiloffgaa
open Go.RowKit
def isI64 : Value → Bool
  | .int .i64 _ => true
  | _ => false
def IntBlk (w : World) (g : Nat) (t : TypeId) (n : Nat) : Prop := ∃ cs : Array Value, w.heap[g]? = some (.cells cs t (0, 0)) ∧ cs.size = n ∧ cs.toList.all isI64 = true
theorem IntBlk.new (w : World) (cs : Array Value) (t : TypeId) (h : cs.toList.all isI64 = true) : IntBlk (w.alloc (.cells cs t)) w.heap.size t cs.size := ⟨cs, heap_alloc_new w _, rfl, h⟩
theorem IntBlk.keep {w w' : World} {g n : Nat} {t : TypeId} (h : IntBlk w g t n) (hb : Below w.heap.size w w') : IntBlk w' g t n := by
  obtain ⟨cs, h1, h2, h3⟩ := h
  exact ⟨cs, (hb.block g (Array.getElem?_eq_some_iff.1 h1).1).trans h1, h2, h3⟩
theorem IntBlk.cell {w : World} {g n : Nat} {t : TypeId} (h : IntBlk w g t n) {k : Nat} (hk : k < n) : ∃ x : Int, w.cell? ⟨g, k, none⟩ = some (.int .i64 x) := by
  obtain ⟨cs, h1, h2, h3⟩ := h
  have hk' : k < cs.size := by omega
  have hi : isI64 cs[k] = true := (List.all_eq_true.1 h3) _ (by simp)
  rw [cell_of_row w g k _ _ _ h1, Array.getElem?_eq_getElem hk']
  generalize cs[k] = v at hi
  match v, hi with
  | .int .i64 x, _ => exact ⟨x, rfl⟩
end Go.Proofs.Ytmhbncpiloffgaa
