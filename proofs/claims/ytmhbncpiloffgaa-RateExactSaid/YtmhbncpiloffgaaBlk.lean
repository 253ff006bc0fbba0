/- Slice literals of structs: the new block's cells behind one name. -/
import Derived.Test.YtmhbncpiloffgaaLib
import Derived.Great.BuildSlice
import Derived.Deep.MidRow
namespace Go.Proofs.Ytmhbncpiloffgaa
set_option linter.unusedVariables false
section
variable {P : Program}
theorem vs_cells {vs : List Value} {s : Nat} (hs : 0 < s) (hv : ∀ v ∈ vs, v.cells.size = s) (i j : Nat) (v u : Value) (hi : vs[i]? = some v) (hj : v.cells[j]? = some u) : (vs.flatMap fun v => v.cells.toList).toArray[i * s + j]? = some u := by
  have hjs : j < s := by
    have h1 := hv v (List.mem_of_getElem? hi)
    have h2 := (Array.getElem?_eq_some_iff.1 hj).1
    omega
  have e : (vs.flatMap fun v => v.cells.toList).toArray[i * s + j]? = (vs.flatMap fun v => v.cells.toList)[i * s + j]? := by simp
  rw [e, Great.flat_get hs vs hv]
  have e1 : (i * s + j) / s = i := by rw [Nat.mul_comm, Nat.mul_add_div hs, Nat.div_eq_of_lt hjs]; omega
  have e2 : (i * s + j) % s = j := by rw [Nat.mul_comm, Nat.mul_add_mod, Nat.mod_eq_of_lt hjs]
  rw [e1, e2, hi]
  exact hj
/-- A slice literal: its block, by what its parts are. -/
def Parts (s : Nat) (vs : List Value) (cells : Array Value) : Prop := cells.size = vs.length * s ∧ ∀ (i j : Nat) (v u : Value), vs[i]? = some v → v.cells[j]? = some u → cells[i * s + j]? = some u
theorem flat_size : ∀ (vs : List Value) (s : Nat), (∀ v ∈ vs, v.cells.size = s) → (vs.flatMap fun v => v.cells.toList).length = vs.length * s
  | [], s, _ => by simp
  | v :: vs, s, h => by
    rw [List.flatMap_cons, List.length_append, flat_size vs s (fun u hu => h u (List.mem_cons_of_mem _ hu)), List.length_cons]
    have := h v List.mem_cons_self
    simp only [Array.length_toList, this]
    rw [Nat.add_mul, Nat.one_mul, Nat.add_comm]
theorem wp_buildRows {o : Oper} {a : Act} {w : World} {K : Act → World → Prop} {Q : Exit → Act → World → Prop} (t e : TypeId) (len : Nat) (parts : Array (Nat × Operand)) (ho : o.op = .buildSlice t len parts) (s : Nat) (vs : List Value)
    (hu : P.underlying t = some (.slice e)) (hsz : (P.info? e).map (·.size) = some s) (hz : ((P.info? e).bind (·.zero)).isSome = true) (hlen : len = vs.length) (hs : 0 < s ∧ 0 < len ∧ len * s ≤ 2 ^ 24) (hv : ∀ v ∈ vs, v.cells.size = s)
    (hparts : (parts.map fun (i, x) => (i, a.eval x)).toList = (vs.zipIdx 0).map fun x => (x.2, x.1))
    (h : ∀ cells, Parts s vs cells → K (a.put o.dst (.slice (some ⟨w.heap.size, 0, none⟩) len len)) (w.alloc (.cells cells e))) : o.wp P a w K Q := by
  cases hie : P.info? e with
  | none => simp [hie] at hsz
  | some ie =>
    simp only [hie, Option.map_some, Option.some.injEq, Option.bind_some] at hsz hz
    obtain ⟨z, hzz⟩ := Option.isSome_iff_exists.1 hz
    obtain ⟨h1, h2, h3⟩ := hs
    have hpos : 0 < len * s := Nat.mul_pos h2 h1
    refine wp_buildSlice t e len parts ho _ ie z hu hie hzz (by rw [hsz]; omega) (by rw [hsz]; omega) ?_ (h _ ⟨?_, fun i j v u hi hj => vs_cells h1 hv i j v u hi hj⟩)
    · rw [hparts, hsz]
      exact Great.fill_whole h1 vs _ hv (by simp [hlen])
    · rw [List.size_toArray]; exact flat_size vs s hv
theorem wpList_buildRows {ops : Array Oper} {rest : List Oper} {o : Oper} {a : Act} {w : World} {Q : Exit → Act → World → Prop} (hg : o.guard = none) (t e : TypeId) (len : Nat) (parts : Array (Nat × Operand)) (ho : o.op = .buildSlice t len parts) (s : Nat) (vs : List Value)
    (hu : P.underlying t = some (.slice e)) (hsz : (P.info? e).map (·.size) = some s) (hz : ((P.info? e).bind (·.zero)).isSome = true) (hlen : len = vs.length) (hs : 0 < s ∧ 0 < len ∧ len * s ≤ 2 ^ 24) (hv : ∀ v ∈ vs, v.cells.size = s)
    (hparts : (parts.map fun (i, x) => (i, a.eval x)).toList = (vs.zipIdx 0).map fun x => (x.2, x.1))
    (h : ∀ cells, Parts s vs cells → wpList P ops Q rest (a.put o.dst (.slice (some ⟨w.heap.size, 0, none⟩) len len)) (w.alloc (.cells cells e))) : wpList P ops Q (o :: rest) a w :=
  wpList_plain hg fun _ hK => wp_buildRows t e len parts ho s vs hu hsz hz hlen hs hv hparts fun cells hc => hK _ _ (h cells hc)
theorem Parts.range {s : Nat} {vs : List Value} {cells : Array Value} (h : Parts s vs cells) {w : World} {g : Nat} {t : TypeId} {fr : Nat × Nat} (hg : w.heap[g]? = some (.cells cells t fr)) {i : Nat} {v : Value} (hi : vs[i]? = some v) : w.rangeAt g (i * s) v.cells.toList := fun j u hu => by
  rw [cell_of_row _ _ _ _ _ _ hg]
  exact h.2 i j v u hi (by rw [← Array.getElem?_toList]; exact hu)
end
end Go.Proofs.Ytmhbncpiloffgaa
