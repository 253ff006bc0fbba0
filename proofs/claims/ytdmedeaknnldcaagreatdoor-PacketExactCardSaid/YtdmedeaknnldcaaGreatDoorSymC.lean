/- The operations on values without memory, and that they say what the model does. -/
import Derived.Test.YtdmedeaknnldcaaGreatDoorSymB
import Derived.Orders
import Derived.ArgAppend
namespace Go.Proofs.YtdmedeaknnldcaaGreatDoor
open Go.RowKit
set_option linter.unusedVariables false
set_option linter.unusedSimpArgs false
set_option linter.unnecessarySimpa false
/-- What asks of nothing, run. -/
def runP {α : Type} : Sem α → Option α
  | .pure a => some a
  | .mark _ k => runP k
  | _ => none
theorem runP_ok {P : Program} {α : Type} : ∀ (m : Sem α) (x : α) (w : World), runP m = some x → m.run P w = .ok x w
  | .pure a, x, w, h => by cases h; rfl
  | .mark _ k, x, w, h => runP_ok k x w h
def AV.flat : AV → Option Value
  | .v x => some x
  | _ => none
def AS.fv (s : AS) (x : Operand) : Value := ((s.ev x).flat).getD undef
def isSelect : Op → Bool
  | .select .. => true
  | _ => false
def flatOp (o : Oper) (s : AS) : Option Value :=
  if isSelect o.op then none else
  if o.op.operands.toList.all (fun x => (s.ev x).flat.isSome) then
    match runP (execOp s.fv o) with
    | some (.value v) => some v
    | _ => none
  else none
def cellsOf : AV → Option (List AV)
  | .agg cs => some cs
  | .v x => if x.oneCell' then some [.v x] else none
  | .list n xs t => some [.list n xs t]
  | .ptr b off => some [.ptr b off]
  | .ref cs => some [.ref cs]
  | .fn f as bs => some [.fn f as bs]
  | .vs b off len n => some [.vs b off len n]
  | _ => none
def force (d : TypeDesc) (x : AV) : Option AV :=
  match d with
  | .int k => (match x with | .v (.int k' n) => if k' = k then some (.v (.int k n)) else none | _ => none)
  | .bool => (match x with | .v (.bool b) => some (.v (.bool b)) | _ => none)
  | .string => (match x with | .v (.string s) => some (.v (.string s)) | _ => none)
  | .slice _ => (match x with | .list n xs t => some (.list n xs t) | .v (.slice a l c) => some (.v (.slice a l c)) | .vs b off len n => some (.vs b off len n) | _ => none)
  | _ => some x
theorem force_eq {d : TypeDesc} {x y : AV} (h : force d x = some y) : y = x := by
  unfold force at h
  repeat' split at h
  all_goals first | (cases h; done) | (cases h; rfl) | (rename_i hk; cases h; rw [hk]) | skip
def isRowT : TypeDesc → Bool
  | .struct _ | .array _ _ => true
  | _ => false
/-- What is asked of the types. -/
structure Tab where
  u : TypeId → Option TypeDesc
  i : TypeId → Option (Nat × Nat)
  z : TypeId → Option (List AV)
  q : TypeId → Bool
  bm : Nat → Bool
/-- Cells read one by one. -/
def Pw (M : Mem) (ρ : Rho) (σ : Sig) (cc : Array Value) (cs : List AV) : Prop := cc.size = cs.length ∧ (∀ i (h : i < cc.size), (cc[i]).oneCell' = true) ∧ ∀ i (h : i < cc.size) (h' : i < cs.length), Rd M ρ σ cc[i] cs[i]
structure TabOk (P : Program) (T : Tab) : Prop where
  u : ∀ t d, T.u t = some d → P.underlying t = some d
  i : ∀ t p, T.i t = some p → ∃ i, P.info? t = some i ∧ i.size = p.1 ∧ i.bytes = p.2
  z : ∀ t z, T.z t = some z → ∃ i v, P.info? t = some i ∧ i.zero = some v ∧ ∀ M ρ σ, Pw M ρ σ v.cells z
  q : ∀ t, T.q t = true → P.stoodInHeld t = false ∧ P.eqGuardType P.depth t = false
def ld (T : Tab) (t : TypeId) (cs : List AV) (off : Nat) : Option AV :=
  match T.u t with
  | some d =>
    if isRowT d then
      match T.i t with
      | some i => if off + i.1 ≤ cs.length then some (.agg ((cs.drop off).take i.1)) else none
      | none => none
    else
      match cs[off]? with
      | some x => force d x
      | none => none
  | none => none
def AS.out (d : Option Nat) (v : AV) : List Wr := match d with
  | some d => [.env d v]
  | none => []
section
variable {P : Program} {T : Tab} {B : Base} {M : Mem} {ρ : Rho} {σ : Sig} {s : AS} {a : Act} {w : World}
theorem wp_val {o : Oper} {K : Act → World → Prop} {Q : Exit → Act → World → Prop} {v : Value} {w' : World} (h : (execOp a.eval o).run P w = .ok (.value v) w') (hk : K (a.put o.dst v) w') : o.wp P a w K Q := by
  unfold Oper.wp; rw [h]; exact hk
theorem wp_skip' {o : Oper} {K : Act → World → Prop} {Q : Exit → Act → World → Prop} {w' : World} (h : (execOp a.eval o).run P w = .ok .skip w') (hk : K (a.put o.dst undef) w') : o.wp P a w K Q := by
  unfold Oper.wp; rw [h]; exact hk
/-- An operation whose value is known is put. -/
theorem SimW.out (h : SimW B M ρ σ s a w) {c : Value} {v : AV} (hr : Rd M ρ σ c v) (d : Option Nat) : SimW B M ρ σ (s.aps (AS.out d v)) (a.put d c) w := by
  cases d with
  | none => exact h
  | some d => exact h.put hr d
theorem SimW.flat (h : SimW B M ρ σ s a w) {x : Operand} (hx : (s.ev x).flat.isSome = true) : a.eval x = s.fv x := by
  have := h.ev x
  unfold AS.fv
  generalize a.eval x = c at this ⊢
  cases he : s.ev x with
  | v c => rw [he] at this; cases this; rfl
  | _ => rw [he] at hx; simp [AV.flat] at hx
theorem flat_ok (h : SimW B M ρ σ s a w) {o : Oper} {v : Value} (hf : flatOp o s = some v) : (execOp a.eval o).run P w = .ok (.value v) w := by
  unfold flatOp at hf
  split at hf
  · cases hf
  · rename_i hsel
    split at hf
    · rename_i hall
      have e : execOp a.eval o = execOp s.fv o := execOp_congr o (fun cs b hc => hsel (by rw [hc]; rfl)) fun x hx => h.flat (List.all_eq_true.1 hall x (by simpa using hx))
      rw [e]
      split at hf
      · rename_i v' hr
        cases hf
        exact runP_ok _ _ w hr
      · cases hf
    · cases hf
theorem run_underlying' {t : TypeId} {d : TypeDesc} (hu : P.underlying t = some d) (w : World) : (underlying t).run P w = .ok d w := by
  simp [underlying, hu]
theorem run_typeInfo' {t : TypeId} {i : TypeInfo} (hi : P.info? t = some i) (w : World) : (typeInfo t).run P w = .ok i w := by
  simp [typeInfo, hi]
theorem run_sizeOf' {t : TypeId} {i : TypeInfo} (hi : P.info? t = some i) (w : World) : (sizeOf t).run P w = .ok i.size w := by
  simp [sizeOf, run_typeInfo' hi]
theorem run_isAgg' {t : TypeId} {d : TypeDesc} (hu : P.underlying t = some d) (w : World) : (isAgg t).run P w = .ok (isRowT d) w := by
  unfold isAgg
  simp only [Sem.run_bind, run_underlying' hu, Result.andThen_ok]
  cases d <;> rfl
/-- Cells that lie in a row and are known. -/
def Lies (M : Mem) (ρ : Rho) (σ : Sig) (w : World) (g off : Nat) (cs : List AV) : Prop := ∃ cf : Nat → Value, (∀ j, j < cs.length → w.cell? ⟨g, off + j, none⟩ = some (cf j)) ∧ (∀ j, j < cs.length → (cf j).oneCell' = true) ∧ ∀ j (h : j < cs.length), Rd M ρ σ (cf j) cs[j]
theorem ld_ok (hT : TabOk P T) {t : TypeId} {g off0 off : Nat} {cs : List AV} {y : AV} (hl : Lies M ρ σ w g off0 cs) (h : ld T t cs off = some y) : ∃ c, (loadVar t ⟨g, off0 + off, none⟩).run P w = .ok c w ∧ Rd M ρ σ c y := by
  obtain ⟨cf, h1, h2, h3⟩ := hl
  unfold ld at h
  split at h
  · rename_i d hu
    replace hu := hT.u _ _ hu
    split at h
    · rename_i hrow
      split at h
      · rename_i p hi
        obtain ⟨i, hi, hp1, hp2⟩ := hT.i _ _ hi
        rw [← hp1] at h
        split at h
        · rename_i hle
          cases h
          have hc := run_loadCells (P := P) w ⟨g, off0 + off, none⟩ i.size (fun j => cf (off + j)) (fun j hj => by rw [Addr.add_mid, Nat.add_assoc]; exact h1 (off + j) (by omega))
          refine ⟨.agg ((List.range i.size).map fun j => cf (off + j)).toArray, ?_, ?_⟩
          · unfold loadVar
            simp only [Sem.run_bind, run_isAgg' hu, Result.andThen_ok, hrow, if_true, run_sizeOf' hi, hc, Sem.run_pure]
          · refine .agg (by simp; omega) (fun j hj => ?_) (fun j hj hj' => ?_)
            · simp at hj; simpa using h2 (off + j) (by omega)
            · simp at hj; simpa using h3 (off + j) (by omega)
        · cases h
      · cases h
    · rename_i hrow
      split at h
      · rename_i x hx
        obtain rfl := force_eq h
        obtain ⟨hlt, hx'⟩ := List.getElem?_eq_some_iff.1 hx
        refine ⟨cf off, ?_, by rw [← hx']; exact h3 off hlt⟩
        have hrow' : isRowT d = false := by cases hq : isRowT d <;> simp_all
        unfold loadVar
        simp only [Sem.run_bind, run_isAgg' hu, Result.andThen_ok, hrow', Bool.false_eq_true, if_false]
        simp [load, Sem.run, h1 off hlt]
      · cases h
  · cases h
theorem SimW.lies (h : SimW B M ρ σ s a w) {b g : Nat} {cs : List AV} (hb : s.bx b = some cs) (hg : ρ b = some g) : Lies M ρ σ w g 0 cs := by
  rcases h.box b cs hb with ⟨-, e⟩ | ⟨g', hg', ⟨ccs, t, h1, h2, h3, h4⟩, -⟩
  · rw [hg] at e; cases e
  rw [hg] at hg'
  cases hg'
  refine ⟨fun j => ccs.getD j undef, fun j hj => ?_, fun j hj => ?_, fun j hj => ?_⟩
  · have hj' : j < ccs.size := by omega
    rw [cell_row h1, Nat.zero_add]; simp [Array.getD, hj']
  · have hj' : j < ccs.size := by omega
    simpa [Array.getD, hj'] using h3 j (by omega) hj
  · have hj' : j < ccs.size := by omega
    simpa [Array.getD, hj'] using h4 j (by omega) hj
theorem cells_ok {c : Value} {v : AV} {l : List AV} (hr : Rd M ρ σ c v) (hc : cellsOf v = some l) : c.cells.size = l.length ∧ (∀ i (h : i < c.cells.size), (c.cells[i]).oneCell' = true) ∧ ∀ i (h : i < c.cells.size) (h' : i < l.length), Rd M ρ σ c.cells[i] l[i] := by
  cases hr with
  | agg hl h1 hr => cases hc; exact ⟨hl, h1, hr⟩
  | v =>
    simp only [cellsOf] at hc
    split at hc
    · rename_i h1
      cases hc
      have e : c.cells = #[c] := by cases c <;> first | rfl | (simp [Value.oneCell'] at h1)
      rw [e]
      exact ⟨rfl, fun i hi => by simpa using h1, fun i hi hi' => by simpa using Rd.v⟩
    · cases hc
  | nil => cases hc; exact ⟨rfl, fun i hi => by simp [Value.cells, Value.oneCell'], fun i hi hi' => by simpa [Value.cells] using Rd.nil⟩
  | list cf hl hcap hn hm ho hr ht => cases hc; exact ⟨rfl, fun i hi => by simp [Value.cells, Value.oneCell'], fun i hi hi' => by simpa [Value.cells] using Rd.list cf hl hcap hn hm ho hr ht⟩
  | ptr hp => cases hc; exact ⟨rfl, fun i hi => by simp [Value.cells, Value.oneCell'], fun i hi hi' => by simpa [Value.cells] using Rd.ptr hp⟩
  | ref cf hm ho hr => cases hc; exact ⟨rfl, fun i hi => by simp [Value.cells, Value.oneCell'], fun i hi hi' => by simpa [Value.cells] using Rd.ref cf hm ho hr⟩
  | fn h1 h2 h3 h4 => cases hc; exact ⟨rfl, fun i hi => by simp [Value.cells, Value.oneCell'], fun i hi hi' => by simpa [Value.cells] using Rd.fn h1 h2 h3 h4⟩
  | vs h1 h2 h3 => cases hc; exact ⟨rfl, fun i hi => by simp [Value.cells, Value.oneCell'], fun i hi hi' => by simpa [Value.cells] using Rd.vs h1 h2 h3⟩
  | vsn => cases hc; exact ⟨rfl, fun i hi => by simp [Value.cells, Value.oneCell'], fun i hi hi' => by simpa [Value.cells] using Rd.vsn⟩
  | vse => cases hc; exact ⟨rfl, fun i hi => by simp [Value.cells, Value.oneCell'], fun i hi hi' => by simpa [Value.cells] using Rd.vse⟩
  | any => cases hc
  | ub => cases hc
  | tup => cases hc
end
end Go.Proofs.YtdmedeaknnldcaaGreatDoor
