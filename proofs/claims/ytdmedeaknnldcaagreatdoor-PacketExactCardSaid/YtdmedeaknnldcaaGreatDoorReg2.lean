/- Regions that draw their order, by an invariant, with closedness; whole structs read in quiet regions. -/
import Derived.Test.YtdmedeaknnldcaaGreatDoorReg
import Derived.Test.YtdmedeaknnldcaaGreatDoorLibQ
import Derived.Deep.MidRow
namespace Go.Proofs.YtdmedeaknnldcaaGreatDoor
set_option linter.unusedVariables false
section
variable {P : Program} {ops : Array Oper} {Q : Exit → Act → World → Prop}
/-- What has come is closed: what an operation that has come waited for has come. -/
def Closed (ops : Array Oper) (L : Nat → Bool) : Prop := ∀ (i : Nat) (o : Oper), ops[i]? = some o → L i = true → Came o L
theorem Came.more {o : Oper} {L : Nat → Bool} {i : Nat} (h : Came o L) : Came o (more1 L i) := fun e he hb => by
  unfold more1; split
  · rfl
  · exact h e he hb
/-- Each operation of the list hands the invariant on; what has come is closed. -/
def Steps2 (P : Program) (ops : Array Oper) (Q : Exit → Act → World → Prop) (I : (Nat → Bool) → Act → World → Prop) : List Oper → Nat → Prop
  | [], _ => True
  | o :: rest, i => (∀ L a w, L i = false → Closed ops L → Came o L → I L a w → ∀ K' : Act → World → Prop, (∀ a' w', I (more1 L i) a' w' → K' a' w') → if Region.wanted o (yielded ops a.tmps) = true then Oper.wp P o a w K' Q else K' (a.put o.dst undef) w) ∧ Steps2 P ops Q I rest (i + 1)
theorem Steps2.cons {I : (Nat → Bool) → Act → World → Prop} {o : Oper} {rest : List Oper} {i : Nat} (h : ∀ L a w, L i = false → Closed ops L → Came o L → I L a w → ∀ K' : Act → World → Prop, (∀ a' w', I (more1 L i) a' w' → K' a' w') → if Region.wanted o (yielded ops a.tmps) = true then Oper.wp P o a w K' Q else K' (a.put o.dst undef) w) (hs : Steps2 P ops Q I rest (i + 1)) : Steps2 P ops Q I (o :: rest) i := ⟨h, hs⟩
theorem Steps2.nil {I : (Nat → Bool) → Act → World → Prop} {i : Nat} : Steps2 P ops Q I [] i := trivial
theorem Steps2.steps {I : (Nat → Bool) → Act → World → Prop} : ∀ (l : List Oper) (i : Nat), (∀ j, l[j]? = ops[i + j]?) → Steps2 P ops Q I l i → Steps P ops Q (fun L a w => Closed ops L ∧ I L a w) l i
  | [], _, _, _ => trivial
  | o :: rest, i, hl, ⟨h, hs⟩ => by
    have h0 : ops[i]? = some o := by simpa using (hl 0).symm
    refine ⟨fun L a w hL hc ⟨hcl, hI⟩ K' hK => h L a w hL hcl hc hI K' fun a' w' hI' => hK a' w' ⟨fun j o' hj hLj => ?_, hI'⟩, Steps2.steps rest (i + 1) (fun j => by have := hl (j + 1); simpa [Nat.add_assoc, Nat.add_comm 1 j] using this) hs⟩
    by_cases hji : j = i
    · subst hji
      rw [h0] at hj
      cases hj
      exact hc.more
    · exact (hcl j o' hj (by simpa [more1, hji] using hLj)).more
/-- THE LAW, with closedness. -/
theorem wp_region_inv2 {id : Nat} {a : Act} {w : World} (I : (Nat → Bool) → Act → World → Prop) (hm : P.follows .mixedOrders = true) (hdown : downB ops = true) (h0 : I (fun _ => false) a w.drew)
    (hs : Steps2 P ops Q I ops.toList 0) (hd : ∀ L a w, (∀ i, i < ops.size → L i = true) → I L a w → Q .normal a w) : (Code.region id ops true).wp P Q a w :=
  wp_region_inv (fun L a w => Closed ops L ∧ I L a w) hm hdown ⟨fun _ _ _ h => Bool.noConfusion h, h0⟩ (Steps2.steps ops.toList 0 (fun j => by simp) hs) fun L a w hall h => hd L a w hall h.2
theorem Closed.edge {ops : Array Oper} {L : Nat → Bool} (h : Closed ops L) (i : Nat) {o : Oper} (ho : ops[i]? = some o) (e : Edge) (he : e ∈ o.after) (hb : Region.binds .any e = true) (hi : L i = true) : L e.on = true := h i o ho hi e he hb
/-- A whole block is read, in a quiet region. -/
theorem wpQuiet_load_row {C : World → Prop} {K : Act → Prop} {a : Act} {o : Oper} {rest : List Oper} (hw : Region.wanted o (yielded ops a.tmps) = true) (ty : TypeId) (x : Operand) (ho : o.op = .load ty x)
    (g : Nat) (hx : a.eval x = .pointer (some ⟨g, 0, none⟩)) (t : TypeId) (cs : Array Value) (fr : Nat × Nat) (d : TypeDesc) (hC : ∀ w, C w → w.heap[g]? = some (.cells cs t fr))
    (hu : P.underlying ty = some d) (hd : (match d with | .struct _ | .array _ _ => true | _ => false) = true) (hi : (P.info? ty).map (·.size) = some cs.size)
    (h : wpQuiet P ops C K rest (a.put o.dst (.agg cs))) : wpQuiet P ops C K (o :: rest) a :=
  BigFrame.wpQuiet_want hw fun K' hK => ⟨.agg cs, fun w hw' => by
    unfold Oper.quietAt execOp
    simp only [ho, hx, Instr.loadAt, Instr.sureAddr, Sem.run_bind, Sem.run_pure, Result.andThen_ok, run_loadVar_row w g t ty cs fr d (hC w hw') hu hd hi]
    exact ⟨rfl, rfl⟩, hK _ h⟩
/-- A struct is read out of the midst of a block, in a quiet region. -/
theorem wpQuiet_load_mid {C : World → Prop} {K : Act → Prop} {a : Act} {o : Oper} {rest : List Oper} (hw : Region.wanted o (yielded ops a.tmps) = true) (ty : TypeId) (x : Operand) (ho : o.op = .load ty x)
    (b off : Nat) (hx : a.eval x = .pointer (some ⟨b, off, none⟩)) (cs : List Value) (d : TypeDesc) (hC : ∀ w, C w → w.rangeAt b off cs)
    (hu : P.underlying ty = some d) (hd : d.isRow = true) (hi : (P.info? ty).map (·.size) = some cs.length)
    (h : wpQuiet P ops C K rest (a.put o.dst (.agg cs.toArray))) : wpQuiet P ops C K (o :: rest) a :=
  BigFrame.wpQuiet_want hw fun K' hK => ⟨.agg cs.toArray, fun w hw' => by
    unfold Oper.quietAt execOp
    simp only [ho, hx, Instr.loadAt, Instr.sureAddr, Sem.run_bind, Sem.run_pure, Result.andThen_ok, run_loadVar_mid w b off ty cs d (hC w hw') hu hd hi]
    exact ⟨rfl, rfl⟩, hK _ h⟩
end
end Go.Proofs.YtdmedeaknnldcaaGreatDoor
