/- Regions that draw their order, by an invariant on what has come: each operation is walked once, whatever the order. -/
import Derived.Orders
import Derived.RegionTactic
import Derived.Test.YtdmedeaknnldcaaGreatDoorProg
namespace Go.Proofs.YtdmedeaknnldcaaGreatDoor
set_option linter.unusedVariables false
section
variable {P : Program} {ops : Array Oper} {Q : Exit → Act → World → Prop}
/-- What an operation waits for has come. -/
def Came (o : Oper) (L : Nat → Bool) : Prop := ∀ e ∈ o.after, Region.binds .any e = true → L e.on = true
/-- Number i has come besides. -/
def more1 (L : Nat → Bool) (i : Nat) : Nat → Bool := fun j => if j = i then true else L j
/-- Each operation of the list hands the invariant on. -/
def Steps (P : Program) (ops : Array Oper) (Q : Exit → Act → World → Prop) (I : (Nat → Bool) → Act → World → Prop) : List Oper → Nat → Prop
  | [], _ => True
  | o :: rest, i => (∀ L a w, L i = false → Came o L → I L a w → ∀ K' : Act → World → Prop, (∀ a' w', I (more1 L i) a' w' → K' a' w') → if Region.wanted o (yielded ops a.tmps) = true then Oper.wp P o a w K' Q else K' (a.put o.dst undef) w) ∧ Steps P ops Q I rest (i + 1)
theorem Steps.cons {I : (Nat → Bool) → Act → World → Prop} {o : Oper} {rest : List Oper} {i : Nat} (h : ∀ L a w, L i = false → Came o L → I L a w → ∀ K' : Act → World → Prop, (∀ a' w', I (more1 L i) a' w' → K' a' w') → if Region.wanted o (yielded ops a.tmps) = true then Oper.wp P o a w K' Q else K' (a.put o.dst undef) w) (hs : Steps P ops Q I rest (i + 1)) : Steps P ops Q I (o :: rest) i := ⟨h, hs⟩
theorem Steps.nil {I : (Nat → Bool) → Act → World → Prop} {i : Nat} : Steps P ops Q I [] i := trivial
theorem Steps.at {I : (Nat → Bool) → Act → World → Prop} : ∀ (l : List Oper) (i j : Nat) (o : Oper), Steps P ops Q I l i → l[j]? = some o →
    ∀ L a w, L (i + j) = false → Came o L → I L a w → ∀ K' : Act → World → Prop, (∀ a' w', I (more1 L (i + j)) a' w' → K' a' w') → if Region.wanted o (yielded ops a.tmps) = true then Oper.wp P o a w K' Q else K' (a.put o.dst undef) w
  | [], _, _, _, _, h => by simp at h
  | o' :: rest, i, 0, o, hs, h => by
    have : o' = o := by simpa using h
    subst this
    exact hs.1
  | o' :: rest, i, j + 1, o, hs, h => by
    have := Steps.at rest (i + 1) j o hs.2 (by simpa using h)
    rw [show i + 1 + j = i + (j + 1) by omega] at this
    exact this
/-- How many of the first n have not come. -/
def left (L : Nat → Bool) : Nat → Nat
  | 0 => 0
  | n + 1 => left L n + (if L n = true then 0 else 1)
theorem left_more {L : Nat → Bool} {i : Nat} (h : L i = false) : ∀ n, left (more1 L i) n + (if i < n then 1 else 0) = left L n
  | 0 => by simp [left]
  | n + 1 => by
    have ih := left_more h n
    unfold left
    by_cases hn : n = i
    · subst hn
      have e1 : ¬ n < n := by omega
      rw [if_neg e1] at ih
      simp only [more1, if_true, h, Bool.false_eq_true, if_false]
      have e2 : n < n + 1 := by omega
      rw [if_pos e2]
      change left (more1 L n) n + 0 + 1 = left L n + 1
      omega
    · have e : more1 L i n = L n := by simp [more1, hn]
      rw [e]
      by_cases hi : i < n
      · rw [if_pos hi] at ih
        have e3 : (if i < n + 1 then 1 else 0) = 1 := if_pos (by omega)
        rw [e3]
        omega
      · rw [if_neg hi] at ih
        have e3 : (if i < n + 1 then 1 else 0) = 0 := if_neg (by omega)
        rw [e3]
        omega
theorem left_zero {L : Nat → Bool} : ∀ n, left L n = 0 → ∀ i, i < n → L i = true
  | 0, _, i, hi => by omega
  | n + 1, h, i, hi => by
    unfold left at h
    by_cases hn : i = n
    · subst hn
      cases hL : L i
      · rw [hL] at h; simp at h
      · rfl
    · exact left_zero n (by omega) i (by omega)
/-- Every edge leads back. -/
def downB (ops : Array Oper) : Bool := (List.range ops.size).all fun i => match ops[i]? with
  | some o => o.after.all fun e => !Region.binds .any e || decide (e.on < i)
  | none => true
theorem downB_spec (h : downB ops = true) {i : Nat} {o : Oper} (ho : ops[i]? = some o) : ∀ e ∈ o.after, Region.binds .any e = true → e.on < i := by
  intro e he hb
  have hi : i < ops.size := (Array.getElem?_eq_some_iff.1 ho).1
  have h1 := (List.all_eq_true.1 h) i (List.mem_range.2 hi)
  rw [ho] at h1
  have h2 := (Array.all_eq_true_iff_forall_mem.1 h1) e he
  rw [hb] at h2
  simpa using h2
def come (listed : Array Bool) : Nat → Bool := fun j => listed.getD j false
theorem come_set {listed : Array Bool} {i : Nat} (hi : i < listed.size) : come (listed.setIfInBounds i true) = more1 (come listed) i := by
  funext j
  unfold come more1
  by_cases h : j = i
  · subst h; simp [hi]
  · rw [if_neg h, getD_set_ne false (Ne.symm h)]
theorem wpAny_inv {I : (Nat → Bool) → Act → World → Prop} (hdown : downB ops = true) (hs : Steps P ops Q I ops.toList 0) (hd : ∀ L a w, (∀ i, i < ops.size → L i = true) → I L a w → Q .normal a w) :
    ∀ (fuel : Nat) (listed : Array Bool) (a : Act) (w : World), listed.size = ops.size → left (come listed) ops.size ≤ fuel → I (come listed) a w → wpAny P .any ops Q fuel listed a w := by
  have hready : ∀ (listed : Array Bool), listed.size = ops.size → Region.ready .any ops listed = [] → ∀ i, i < ops.size → come listed i = true := by
    intro listed hsz hr i
    induction i using Nat.strongRecOn with
    | _ i ih =>
      intro hi
      cases hc : come listed i
      · have hm : i ∈ Region.ready .any ops listed := by
          rw [mem_ready]
          refine ⟨?_, ops[i], Array.getElem?_eq_getElem hi, fun e he hb => ?_⟩
          · have hc' : listed.getD i false = false := hc
            have hi' : i < listed.size := by omega
            rw [Array.getD_eq_getD_getElem?, Array.getElem?_eq_getElem hi'] at hc' ⊢
            simpa using hc'
          · have := downB_spec hdown (Array.getElem?_eq_getElem hi) e he hb
            exact ih e.on this (by omega)
        rw [hr] at hm
        cases hm
      · rfl
  intro fuel
  induction fuel with
  | zero =>
    intro listed a w hsz hl hI
    have hall := left_zero ops.size (by omega : left (come listed) ops.size = 0)
    refine ⟨?_, hd _ a w hall hI⟩
    cases hr : Region.ready .any ops listed with
    | nil => rfl
    | cons i rs =>
      have hm : i ∈ Region.ready .any ops listed := by rw [hr]; exact List.mem_cons_self
      obtain ⟨h1, o, ho, -⟩ := mem_ready.1 hm
      have hi : i < ops.size := (Array.getElem?_eq_some_iff.1 ho).1
      have h2 := hall i hi
      have hi' : i < listed.size := by omega
      unfold come at h2
      rw [Array.getD_eq_getD_getElem?, Array.getElem?_eq_getElem hi'] at h1 h2
      simp at h1 h2
      rw [h1] at h2
      cases h2
  | succ fuel ih =>
    intro listed a w hsz hl hI
    refine ⟨fun hr => hd _ a w (hready listed hsz hr) hI, fun i hi => ?_⟩
    obtain ⟨h1, o, ho, hall⟩ := mem_ready.1 hi
    have hin : i < ops.size := (Array.getElem?_eq_some_iff.1 ho).1
    have hi' : i < listed.size := by omega
    have hLi : come listed i = false := by
      unfold come
      rw [Array.getD_eq_getD_getElem?, Array.getElem?_eq_getElem hi'] at h1 ⊢
      simpa using h1
    refine wpOp_step ho fun K' hK => ?_
    have hst := Steps.at ops.toList 0 i o hs (by simpa using ho)
    rw [Nat.zero_add] at hst
    refine hst (come listed) a w hLi (fun e he hb => hall e he hb) hI K' fun a' w' hI' => hK a' w' ?_
    refine ih (listed.setIfInBounds i true) a' w' (by simpa using hsz) ?_ (by rw [come_set hi']; exact hI')
    rw [come_set hi']
    have := left_more hLi ops.size
    rw [if_pos hin] at this
    omega
theorem come_none (n : Nat) : come (Array.replicate n false) = fun _ => false := by
  funext j
  unfold come
  by_cases h : j < n
  · simp [h]
  · simp [h]
theorem left_none : ∀ n, left (fun _ => false) n = n
  | 0 => rfl
  | n + 1 => by unfold left; rw [left_none n]; simp
/-- THE LAW. -/
theorem wp_region_inv {id : Nat} {a : Act} {w : World} (I : (Nat → Bool) → Act → World → Prop) (hm : P.follows .mixedOrders = true) (hdown : downB ops = true) (h0 : I (fun _ => false) a w.drew)
    (hs : Steps P ops Q I ops.toList 0) (hd : ∀ L a w, (∀ i, i < ops.size → L i = true) → I L a w → Q .normal a w) : (Code.region id ops true).wp P Q a w :=
  wp_region_any hm (wpAny_inv hdown hs hd ops.size _ a _ (by simp) (by rw [come_none, left_none]; exact Nat.le_refl _) (by rw [come_none]; exact h0))
end
end Go.Proofs.YtdmedeaknnldcaaGreatDoor
