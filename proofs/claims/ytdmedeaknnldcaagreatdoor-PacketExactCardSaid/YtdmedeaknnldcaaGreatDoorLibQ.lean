/- A region that draws its order and whose calls only make new memory: walked once, in the order of the text. -/
import Derived.Test.YtdmedeaknnldcaaGreatDoorLib
import Derived.BigQuiet
namespace Go.Proofs.YtdmedeaknnldcaaGreatDoor
open Go.RowKit

/-- What may have come to a world: draws, and new blocks. -/
structure More where
  d : Nat
  os : Array Obj
  deriving Inhabited
def more (w : World) (p : More) : World := { w with drawn := p.d, heap := w.heap ++ p.os }
theorem below_more (w : World) (p : More) : Below w.heap.size w (more w p) :=
  ⟨rfl, rfl, rfl, by simp [more], fun k hk => by simp [more, Array.getElem?_append, hk]⟩
theorem more_of_below {w w' : World} (h : Below w.heap.size w w') : ∃ p : More, w' = more w p := by
  refine ⟨⟨w'.drawn, w'.heap.extract w.heap.size w'.heap.size⟩, ?_⟩
  obtain ⟨heap', tape', drawn', os', output'⟩ := w'
  have e1 : os' = w.os := h.os
  have e2 : tape' = w.tape := h.tape
  have e3 : output' = w.output := h.output
  have hs : w.heap.size ≤ heap'.size := h.size
  have hb : ∀ k, k < w.heap.size → heap'[k]? = w.heap[k]? := h.block
  subst e1 e2 e3
  have eh : heap' = w.heap ++ heap'.extract w.heap.size heap'.size := by
    apply Array.ext_getElem?
    intro k
    by_cases hk : k < w.heap.size
    · rw [Array.getElem?_append_left hk]; exact hb k hk
    · rw [Array.getElem?_append_right (by omega), Array.getElem?_extract]
      by_cases hk2 : k < heap'.size
      · rw [if_pos (by omega)]; congr 1; omega
      · rw [if_neg (by omega), Array.getElem?_eq_none (by omega)]
  simp only [more]
  congr 1
theorem cell_more {w : World} {a : Addr} {v : Value} (h : w.cell? a = some v) (p : More) : (more w p).cell? a = some v := by
  rw [(below_more w p).cell (block_lt_of_cell h)]; exact h
theorem heap_more {w : World} {g : Nat} {o : Obj} (h : w.heap[g]? = some o) (p : More) : (more w p).heap[g]? = some o := by
  have hlt : g < w.heap.size := (Array.getElem?_eq_some_iff.1 h).1
  rw [(below_more w p).block g hlt]; exact h
/-- A callee's contract, met in a world of the class. -/
theorem more_of {P : Program} {f : FuncId} {args : Array Value} {w : World} {p : More} {v : Value}
    (h : Calls P f args (more w p) fun e w' => e = .returned v ∧ Below (more w p).heap.size (more w p) w') : Calls P f args (more w p) fun e w'' => e = .returned v ∧ ∃ q : More, w'' = more w q :=
  h.mono fun _ _ ⟨he, hb⟩ => ⟨he, more_of_below ((below_more w p).trans (hb.mono (below_more w p).size))⟩
theorem more_of_same {P : Program} {f : FuncId} {args : Array Value} {w : World} {p : More} {v : Value}
    (h : Calls P f args (more w p) fun e w' => e = .returned v ∧ more w p = w') : Calls P f args (more w p) fun e w'' => e = .returned v ∧ ∃ q : More, w'' = more w q :=
  h.mono fun _ _ ⟨he, hb⟩ => ⟨he, p, hb.symm⟩
/-- One walk, in the order of the text; behind it any world that has only grown. -/
theorem wp_region_grown {P : Program} {id : Nat} {Q : Exit → Act → World → Prop} {a : Act} {w : World} {l : List Oper} (hm : P.follows .mixedOrders = true) (hB : Region.lexB .any l.toArray = true)
    (h : wpQuiet P l.toArray (fun w' => ∃ p : More, w' = more w p) (fun a' => ∀ w', Below w.heap.size w w' → Q .normal a' w') l a) : (Code.region id l.toArray true).wp P Q a w := by
  refine wp_region_quiet (C := fun w' => ∃ p : More, w' = more w p) hm hB ⟨⟨w.drawn + 1, #[]⟩, by simp [more]⟩ ?_
  have e : (fun a' : Act => ∀ w', Below w.heap.size w w' → Q .normal a' w') = (fun a' => ∀ w', (∃ p : More, w' = more w p) → Q .normal a' w') := by
    funext a'
    apply propext
    constructor
    · intro h w' ⟨p, hp⟩
      exact h w' (by rw [hp]; exact below_more w p)
    · intro h w' hb
      exact h w' (more_of_below hb)
  rw [← e]
  simpa using h
end Go.Proofs.YtdmedeaknnldcaaGreatDoor
