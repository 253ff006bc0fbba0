/- One operation, whatever it is: what it writes, and that the model does so. -/
import Derived.Test.YtecoemdhnphmdaaSymI
namespace Go.Proofs.Ytecoemdhnphmdaa
open Go.RowKit
set_option linter.unusedVariables false
set_option linter.unusedSimpArgs false
set_option linter.unnecessarySimpa false
def isSpec : Op → Bool
  | .move _ | .assign _ | .pick .. | .load .. | .nilCheck _ | .fieldAddr .. | .indexAddr .. | .field .. | .extract .. | .makeFunc .. | .slice .. | .index .. | .convert .. => true
  | .binOp .quo .. | .binOp .rem .. | .binOp .add .. => true
  | .call { callee := .builtin .len, .. } => true
  | _ => false
def outV (d : Option Nat) : Option AV → Option (List Wr)
  | some v => some (AS.out d v)
  | none => none
def stepCall (T : Tab) (Γ : Gam) (o : Oper) (s : AS) (c : Call) : Option (List Wr) :=
  match c.callee with
  | .value f => callOp Γ s o.dst f c.args.toList
  | .builtin .append =>
    (match c.args.toList, c.argTypes.toList, o.dst with
    | [x, y], [t, t'], some d => if t = t' then appendOp T s d t x y else none
    | _, _, _ => none)
  | .builtin .copy =>
    (match c.args.toList, c.argTypes.toList with
    | [x, y], [t, t'] => if t = t' then copyOp T s o.dst t x y else none
    | _, _ => none)
  | .builtin _ => outV o.dst ((flatOp o s).map nrm)
  | .invoke _ _ => none
def stepOp (T : Tab) (Γ : Gam) (o : Oper) (s : AS) : Option (List Wr) :=
  if isSpec o.op then outV o.dst (specOp T s o.op) else
  match o.op, o.dst with
  | .alloc t, some d => allocOp T s d t
  | .box t x, some d => boxOp s d x
  | .store t x y, none => storeOp T s t x y
  | .build t parts, d => outV d (buildOp T s t parts.toList)
  | .buildSlice t len parts, some d => buildSliceOp T s d t len parts.toList
  | .call c, _ => stepCall T Γ o s c
  | .makeSlice t l c, some d => makeOp T s d t l c
  | .binOp op t x y _, d => outV d (binV T s o op t x y)
  | .unOp .., d => outV d ((flatOp o s).map nrm)
  | _, _ => none
section
variable {P : Program} {T : Tab} {B : Base} {M : Mem} {ρ : Rho} {σ : Sig} {s : AS} {a : Act} {w : World}
theorem call_ok {Γ : Gam} (hG : GOk P Γ) (h : SimW B M ρ σ s a w) {o : Oper} {fv : Operand} {args : Array Operand} {ats : Array TypeId} (ho : o.op = .call { callee := .value fv, args, argTypes := ats }) {W : List Wr} (hs : callOp Γ s o.dst fv args.toList = some W) (K : Act → World → Prop) (Q : Exit → Act → World → Prop) (hK : ∀ a' w', Sim B (s.aps W) a' w' → K a' w') : o.wp P a w K Q := by
  unfold callOp at hs
  have hf := h.ev fv
  split at hs
  · rename_i f first captured hfe
    rw [hfe] at hf
    split at hs
    · rename_i bs hbs
      split at hs
      · rename_i r hr
        split at hs
        · rename_i W' hW
          cases hs
          obtain ⟨⟨fn, q1, q2, q3⟩, call⟩ := hG _ _ _ _ hr
          generalize hq : a.eval fv = fvv at hf
          cases hf with
          | @fn _ _ _ fs cs _ _ l1 r1 l2 r2 =>
          obtain ⟨b1, b2⟩ := boxesOf_spec s _ _ hbs
          have hn := ptrs_nodup (first ++ args.toList.map s.ev ++ captured)
          obtain ⟨l, hl⟩ : ∃ l, ptrs (first ++ args.toList.map s.ev ++ captured) = l := ⟨_, rfl⟩
          rw [hl] at hbs hr call hK b1 b2 hn
          have hrho : ∀ b ∈ l, ∃ g, ρ b = some g := fun b hb => by
            obtain ⟨k, hk, rfl⟩ := List.getElem_of_mem hb
            obtain ⟨cs, c1, -⟩ := b2 k hk (by omega)
            obtain ⟨g, g1, -⟩ := h.box _ _ c1
            exact ⟨g, g1⟩
          let gs : List Nat := l.map fun b => (ρ b).getD 0
          have hgl : gs.length = l.length := by simp [gs]
          have hgk : ∀ k (h1 : k < l.length) (h2 : k < gs.length), ρ l[k] = some gs[k] := fun k h1 h2 => by
            obtain ⟨g, hg⟩ := hrho _ (List.getElem_mem h1)
            simp [gs, hg]
          have hgn : gs.Nodup := by
            unfold List.Nodup at hn ⊢
            rw [List.pairwise_iff_getElem] at hn ⊢
            intro i j hi hj hij e
            have e1 := hgk i (by omega) hi
            have e2 := hgk j (by omega) hj
            rw [e] at e1
            exact hn i j (by omega) (by omega) hij (h.inj _ _ _ e1 e2)
          have hgs : ∀ (k b : Nat), l[k]? = some b → ρ b ≠ none → gs[k]? = ρ b := fun k b hk _ => by
            obtain ⟨hlt, e⟩ := List.getElem?_eq_some_iff.1 hk
            rw [List.getElem?_eq_getElem (by omega), ← e, hgk k hlt (by omega)]
          have hall : ∀ i (h1 : i < ((fs ++ args.map a.eval) ++ cs).size) (h2 : i < (first ++ args.toList.map s.ev ++ captured).length), Rd M ρ σ ((fs ++ args.map a.eval) ++ cs)[i] (first ++ args.toList.map s.ev ++ captured)[i] := fun i h1 h2 => by
            simp at h1 h2
            rw [Array.getElem_append, List.getElem_append]
            by_cases c1 : i < (fs ++ args.map a.eval).size
            · have c1' : i < (first ++ args.toList.map s.ev).length := by simp at c1 ⊢; omega
              rw [dif_pos c1, dif_pos c1', Array.getElem_append, List.getElem_append]
              by_cases c2 : i < fs.size
              · rw [dif_pos c2, dif_pos (by omega)]; exact r1 _ _ _
              · rw [dif_neg c2, dif_neg (by omega)]
                simp only [Array.getElem_map, List.getElem_map, Array.getElem_toList, l1]
                exact h.ev _
            · have c1' : ¬ i < (first ++ args.toList.map s.ev).length := by simp at c1 ⊢; omega
              rw [dif_neg c1, dif_neg c1']
              have e : i - (fs ++ args.map a.eval).size = i - (first ++ args.toList.map s.ev).length := by simp; omega
              simp only [e]
              exact r2 _ _ _
          have C := call M w ((fs ++ args.map a.eval) ++ cs) gs h.mem hgn (by omega) (by simp; omega) (fun i h1 h2 => by
            have := Rd.argv (l := l) (gs := gs) hgs (hall i h1 (by simpa using h2))
            rw [List.getElem_map]; exact this) (fun k h1 h2 => by
            obtain ⟨cs, c1, c2⟩ := b2 k (by omega) h2
            obtain ⟨g, g1, ⟨ccs, t, g2, g3, g4, g5⟩, g6, g7⟩ := h.box _ _ c1
            rw [hgk k (by omega) h1] at g1
            rw [c2, Option.some.inj g1]
            exact ⟨⟨ccs, t, g2, Pw.dat0 ⟨g3, g4, g5⟩ _ _⟩, g6⟩)
          unfold Oper.wp
          have ex : (execOp a.eval o).run P w = .ok (.enter f ((fs ++ args.map a.eval) ++ cs)) w := by
            unfold execOp
            simp only [ho, resolve, hq, Deferred.ofValue, Sem.run_bind, Sem.run_pure, Result.andThen_ok, invoke, callFunc]
            have q2' : ¬ (fn.name = "runtime.NumGoroutine") := fun e => by rw [e] at q2; simp at q2
            have q3' : ¬ (fn.body = none) := fun e => by rw [e] at q3; simp at q3
            simp [q1, q2', q3']
          rw [ex, Oper.upon_enter]
          refine C.mono fun e w' ⟨c, M', he, left⟩ => ?_
          subst he
          refine hK _ _ ?_
          have haft := h.after (os := r.outs) hn hgl (by rw [left.olen, hgl]) hgk left.sub left.mem left.same left.frm left.outs
          obtain ⟨e0, e1, e2, e3, e4, e5⟩ := boxWr_bx s l r.outs hn (by rw [left.olen, hgl]) (fun b hb => by
            obtain ⟨k, hk, rfl⟩ := List.getElem_of_mem hb
            obtain ⟨cs, c1, -⟩ := b2 k hk (by omega)
            exact AS.bx_lt c1)
          have ew : s.aps (boxWr l r.outs ++ W') = (s.aps (boxWr l r.outs)).aps W' := by simp [AS.aps, List.foldl_append]
          rw [ew]
          have holdt : ∀ t sp, (s.aps (boxWr l r.outs)).tk t = some true → σ t = some sp → sp.g < w.heap.size := fun t sp ht hs' => by
            have : s.tk t = some true := by unfold AS.tk at ht ⊢; rw [e2] at ht; exact ht
            obtain ⟨-, ⟨_, _, h4, -⟩, -⟩ := h.tok t sp this hs'
            exact heap_lt h4
          have hW' : retWr (s.aps (boxWr l r.outs)) o.dst r = some W' := by
            revert hW
            unfold retWr
            have etk : ∀ t, (s.aps (boxWr l r.outs)).tk t = s.tk t := fun t => by unfold AS.tk; rw [e2]
            have ebx : ∀ d, s.bx d = none → (s.aps (boxWr l r.outs)).bx d = none := fun d hd => by
              rw [e4 d (fun hm => by
                obtain ⟨k, hk, rfl⟩ := List.getElem_of_mem hm
                obtain ⟨cs, c1, -⟩ := b2 k hk (by omega)
                rw [hd] at c1; cases c1)]
              exact hd
            split
            · exact id
            · simp only [etk]; exact id
            · rename_i cs' d _ hnew
              rw [e3, e0]
              split
              · rename_i hb; rw [ebx d hb]; exact id
              · intro hx; cases hx
            · exact id
          exact retWr_ok haft h.size (fun b g hb => (h.blk hb).1) holdt o.dst r W' hW' c left.val left.new
        · cases hs
      · cases hs
    · cases hs
  · cases hs
theorem outV_ok (h : SimW B M ρ σ s a w) {o : Oper} {W : List Wr} {v : Option AV} (hs : outV o.dst v = some W) (hy : ∀ x, v = some x → Yields P M ρ σ a w o x) (K : Act → World → Prop) (Q : Exit → Act → World → Prop) (hK : ∀ a' w', Sim B (s.aps W) a' w' → K a' w') : o.wp P a w K Q := by
  cases v with
  | none => cases hs
  | some x =>
    cases hs
    obtain ⟨c, h1, h2⟩ := hy x rfl
    exact wp_val h1 (hK _ _ ⟨M, ρ, σ, h.out h2 o.dst⟩)
theorem flat_yields (h : SimW B M ρ σ s a w) {o : Oper} {x : AV} (hx : (flatOp o s).map nrm = some x) : Yields P M ρ σ a w o x := by
  obtain ⟨v, h1, h2⟩ := Option.map_eq_some_iff.1 hx
  subst h2
  exact ⟨v, flat_ok h h1, Rd.nrm v⟩
/-- One operation. -/
theorem step_ok (hT : TabOk P T) {Γ : Gam} (hG : GOk P Γ) (hS : Sim B s a w) {o : Oper} {W : List Wr} (hs : stepOp T Γ o s = some W) (K : Act → World → Prop) (Q : Exit → Act → World → Prop) (hK : ∀ a' w', Sim B (s.aps W) a' w' → K a' w') : o.wp P a w K Q := by
  obtain ⟨M, ρ, σ, h⟩ := hS
  unfold stepOp at hs
  split at hs
  · exact outV_ok h hs (fun x hx => spec_ok hT h hx) K Q hK
  · split at hs
    · rename_i t d ho hd; exact alloc_ok hT h ho hd hs K Q hK
    · rename_i t x d ho hd; exact box_ok h ho hd hs K Q hK
    · rename_i t x y ho hd; exact store_ok hT h ho hd hs K Q hK
    · rename_i t parts ho; exact outV_ok h hs (fun x hx => build_ok hT h ho hx) K Q hK
    · rename_i t len parts d ho hd; exact buildSlice_ok hT h ho hd hs K Q hK
    · rename_i c ho
      unfold stepCall at hs
      obtain ⟨callee, args, ats⟩ := c
      split at hs
      · rename_i f hc; dsimp only at hc hs; subst hc; exact call_ok hG h ho hs K Q hK
      · rename_i hc
        dsimp only at hc hs
        subst hc
        split at hs
        · rename_i x y t t' d e1 e2 hd
          have ea : args = #[x, y] := by rw [← Array.toList_inj]; exact e1
          have et : ats = #[t, t'] := by rw [← Array.toList_inj]; exact e2
          subst ea et
          split at hs
          · rename_i ht; subst ht; exact append_ok hT h ho hd hs K Q hK
          · cases hs
        · cases hs
      · rename_i hc
        dsimp only at hc hs
        subst hc
        split at hs
        · rename_i x y t t' e1 e2
          have ea : args = #[x, y] := by rw [← Array.toList_inj]; exact e1
          have et : ats = #[t, t'] := by rw [← Array.toList_inj]; exact e2
          subst ea et
          split at hs
          · rename_i ht; subst ht; exact copy_ok hT h ho hs K Q hK
          · cases hs
        · cases hs
      · exact outV_ok h hs (fun x hx => flat_yields h hx) K Q hK
      · cases hs
    · rename_i t l c d ho hd; exact make_ok hT h ho hd hs K Q hK
    · rename_i op t x y t2 ho; exact outV_ok h hs (fun x hx => bin_yields hT h ho hx) K Q hK
    · exact outV_ok h hs (fun x hx => flat_yields h hx) K Q hK
    · cases hs
end
end Go.Proofs.Ytecoemdhnphmdaa
