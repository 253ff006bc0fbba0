/- The operations that make or change memory: variables, rows, appends. -/
import Derived.Test.YtdmedeaknnldcaaGreatDoorSymE
namespace Go.Proofs.YtdmedeaknnldcaaGreatDoor
open Go.RowKit
set_option linter.unusedVariables false
set_option linter.unusedSimpArgs false
set_option linter.unnecessarySimpa false
def afill (place : Nat → Option (Nat × Nat)) (cells : List AV) : List (Nat × AV) → Option (List AV)
  | [] => some cells
  | (i, v) :: rest =>
    match place i, cellsOf v with
    | some (off, size), some new => if new.length = size ∧ off + new.length ≤ cells.length then afill place (splice cells off new) rest else none
    | _, _ => none
/-- The fields' places. -/
def places (T : Tab) : List Field → Option (List (Nat × Nat))
  | [] => some []
  | f :: fs =>
    match T.i f.type, places T fs with
    | some i, some l => some ((f.offset, i.1) :: l)
    | _, _ => none
def buildOp (T : Tab) (s : AS) (t : TypeId) (parts : List (Nat × Operand)) : Option AV :=
  match T.u t, T.z t with
  | some (.struct fs), some z =>
    (match places T fs.toList with
    | some pl => (match afill (fun i => pl[i]?) z (parts.map fun p => (p.1, s.ev p.2)) with | some cs => some (.agg cs) | none => none)
    | none => none)
  | some (.array n e), some z =>
    (match T.i e with
    | some i => (match afill (fun k => some (k * i.1, i.1)) z (parts.map fun p => (p.1, s.ev p.2)) with | some cs => some (.agg cs) | none => none)
    | none => none)
  | _, _ => none
def chunks (cs : List AV) (sz : Nat) : Nat → List (List AV)
  | 0 => []
  | n + 1 => ((cs.take sz).map dat0) :: chunks (cs.drop sz) sz n
section
variable {P : Program} {T : Tab} {B : Base} {M : Mem} {ρ : Rho} {σ : Sig} {s : AS} {a : Act} {w : World}
theorem foldl_fill : ∀ (l : List Value) (k off : Nat) (cc : Array Value), off + k + l.length ≤ cc.size →
    ((l.zipIdx k).foldl (fun cs (p : Value × Nat) => cs.setIfInBounds (off + p.2) p.1) cc).size = cc.size ∧ ∀ j, ((l.zipIdx k).foldl (fun cs (p : Value × Nat) => cs.setIfInBounds (off + p.2) p.1) cc)[j]? = if off + k ≤ j ∧ j < off + k + l.length then l[j - (off + k)]? else cc[j]?
  | [], k, off, cc, _ => ⟨rfl, fun j => by
      have n1 : ¬ (off + k ≤ j ∧ j < off + k + ([] : List Value).length) := by simp
      rw [if_neg n1]; rfl⟩
  | v :: r, k, off, cc, h => by
    simp only [List.length_cons] at h
    obtain ⟨h1, h2⟩ := foldl_fill r (k + 1) off (cc.setIfInBounds (off + k) v) (by simp; omega)
    simp only [List.zipIdx_cons, List.foldl_cons]
    refine ⟨by rw [h1]; simp, fun j => ?_⟩
    rw [h2 j]
    by_cases hj : off + (k + 1) ≤ j ∧ j < off + (k + 1) + r.length
    · have n1 : off + k ≤ j ∧ j < off + k + (v :: r).length := by simp only [List.length_cons]; omega
      rw [if_pos hj, if_pos n1, show j - (off + k) = (j - (off + (k + 1))) + 1 by omega]
      rfl
    · rw [if_neg hj, Array.getElem?_setIfInBounds]
      by_cases ho : off + k = j
      · have n1 : off + k ≤ j ∧ j < off + k + (v :: r).length := by simp only [List.length_cons]; omega
        rw [if_pos ho, if_pos n1, if_pos (by omega), show j - (off + k) = 0 by omega]
        rfl
      · have n1 : ¬ (off + k ≤ j ∧ j < off + k + (v :: r).length) := by simp only [List.length_cons]; omega
        rw [if_neg ho, if_neg n1]
theorem Pw.splice {cc : Array Value} {cs : List AV} (h : Pw M ρ σ cc cs) {new : Array Value} {anew : List AV} (hn : Pw M ρ σ new anew) (off : Nat) (hf : off + anew.length ≤ cs.length) (r : Array Value) (hs : r.size = cc.size)
    (hg : ∀ j, r[j]? = if off ≤ j ∧ j < off + new.size then new[j - off]? else cc[j]?) : Pw M ρ σ r (splice cs off anew) := by
  obtain ⟨h1, h2, h3⟩ := h
  obtain ⟨n1, n2, n3⟩ := hn
  refine ⟨by rw [splice_length]; omega, fun i hi => ?_, fun i hi hi' => ?_⟩
  · have e := hg i
    rw [Array.getElem?_eq_getElem hi] at e
    split at e
    · rw [Array.getElem?_eq_getElem (by omega)] at e
      rw [Option.some.inj e]; exact n2 _ _
    · rw [Array.getElem?_eq_getElem (by omega)] at e
      rw [Option.some.inj e]; exact h2 _ _
  · have e := hg i
    have e2 := splice_get anew cs off hf i
    rw [Array.getElem?_eq_getElem hi] at e
    rw [List.getElem?_eq_getElem hi'] at e2
    split at e
    · rw [if_pos (by omega)] at e2
      rw [Array.getElem?_eq_getElem (by omega)] at e
      rw [List.getElem?_eq_getElem (by omega)] at e2
      rw [Option.some.inj e, Option.some.inj e2]; exact n3 _ _ _
    · rw [if_neg (by omega)] at e2
      rw [Array.getElem?_eq_getElem (by omega)] at e
      rw [List.getElem?_eq_getElem (by omega)] at e2
      rw [Option.some.inj e, Option.some.inj e2]; exact h3 _ _ _
theorem afill_ok (place : Nat → Option (Nat × Nat)) : ∀ (parts : List (Nat × Operand)) (cs r : List AV) (cc : Array Value), (∀ x, Rd M ρ σ (a.eval x) (s.ev x)) → Pw M ρ σ cc cs → afill place cs (parts.map fun p => (p.1, s.ev p.2)) = some r →
    ∃ cr, Instr.fill place cc (parts.map fun p => (p.1, a.eval p.2)) = some cr ∧ Pw M ρ σ cr r
  | [], cs, r, cc, hev, hp, h => by cases h; exact ⟨cc, rfl, hp⟩
  | (i, x) :: rest, cs, r, cc, hev, hp, h => by
    simp only [List.map_cons, afill] at h
    split at h
    · rename_i off size new hpl hnew
      split at h
      · rename_i hc
        obtain ⟨c1, c2⟩ := hc
        obtain ⟨n1, n2, n3⟩ := cells_ok (hev x) hnew
        have hpw := hp.1
        obtain ⟨f1, f2⟩ := foldl_fill (a.eval x).cells.toList 0 off cc (by simp; omega)
        have e0 : ((a.eval x).cells.zipIdx.foldl (fun cs (p : Value × Nat) => cs.setIfInBounds (off + p.2) p.1) cc) = (((a.eval x).cells.toList.zipIdx 0).foldl (fun cs (p : Value × Nat) => cs.setIfInBounds (off + p.2) p.1) cc) := by
          rw [← Array.foldl_toList, Array.toList_zipIdx]
        obtain ⟨cr, h1, h2⟩ := afill_ok place rest (splice cs off new) r (((a.eval x).cells.toList.zipIdx 0).foldl (fun cs (p : Value × Nat) => cs.setIfInBounds (off + p.2) p.1) cc) hev
          (hp.splice (new := (a.eval x).cells) ⟨n1, n2, n3⟩ off (by omega) _ f1 (fun j => by rw [f2 j]; simp)) h
        refine ⟨cr, ?_, h2⟩
        simp only [List.map_cons, Instr.fill, hpl]
        have g1 : ((a.eval x).cells.size ≠ size || decide (off + (a.eval x).cells.size > cc.size)) = false := by
          have : (a.eval x).cells.size = size := by omega
          simp [this]; omega
        simp only [g1, Bool.false_eq_true, if_false]
        have e1 := e0
        rw [show (fun (cs : Array Value) (p : Value × Nat) => cs.setIfInBounds (off + p.2) p.1) = (fun cs x => match x with | (c, j) => cs.setIfInBounds (off + j) c) from rfl] at e1
        rw [e1]
        exact h1
      · cases h
    · cases h
theorem zeroCells_ok (hT : TabOk P T) {t : TypeId} {z : List AV} (h : T.z t = some z) : ∃ v : Value, (∀ w, (zeroValue t).run P w = .ok v w) ∧ (∀ M ρ σ, Pw M ρ σ v.cells z) ∧ ∃ i, P.info? t = some i ∧ i.zero = some v := by
  obtain ⟨i, v, h1, h2, h3⟩ := hT.z _ _ h
  exact ⟨v, fun w => by simp [zeroValue, run_typeInfo' h1, h2], h3, i, h1, h2⟩
theorem places_ok (hT : TabOk P T) : ∀ (fs : List Field) (l : List (Nat × Nat)) (w : World), places T fs = some l → (fs.mapM (fun f => (do pure (f.offset, ← sizeOf f.type) : Sem (Nat × Nat)))).run P w = .ok l w
  | [], l, w, h => by cases h; rfl
  | f :: fs, l, w, h => by
    unfold places at h
    split at h
    · rename_i p l' hi hl
      obtain ⟨i, hi, hp1, hp2⟩ := hT.i _ _ hi
      cases h
      rw [← hp1]
      have ih := places_ok hT fs l' w hl
      simp only [List.mapM_cons, Sem.run_bind, run_sizeOf' hi, Result.andThen_ok, Sem.run_pure, ih]
    · cases h
theorem build_ok (hT : TabOk P T) (h : SimW B M ρ σ s a w) {o : Oper} {t : TypeId} {parts : Array (Nat × Operand)} (ho : o.op = .build t parts) {v : AV} (hs : buildOp T s t parts.toList = some v) : Yields P M ρ σ a w o v := by
  unfold buildOp at hs
  split at hs
  · rename_i fs z hu hz
    replace hu := hT.u _ _ hu
    split at hs
    · rename_i pl hpl
      split at hs
      · rename_i cs hf
        cases hs
        obtain ⟨zv, z1, z2, -⟩ := zeroCells_ok hT hz
        obtain ⟨cr, h1, h2, h3, h4⟩ := afill_ok (a := a) (s := s) (M := M) (ρ := ρ) (σ := σ) (fun i => pl[i]?) parts.toList z cs zv.cells h.ev (z2 M ρ σ) hf
        refine ⟨.agg cr, ?_, .agg h2 h3 h4⟩
        have hm := places_ok hT fs.toList pl w hpl
        have hm2 : (fs.mapM (fun f => (do pure (f.offset, ← sizeOf f.type) : Sem (Nat × Nat)))).run P w = .ok pl.toArray w := by
          rw [Array.mapM_eq_mapM_toList]
          show Sem.run P ((fs.toList.mapM _) >>= fun l => pure l.toArray) w = _
          rw [Sem.run_bind, hm]
          rfl
        unfold execOp
        simp only [ho, Instr.build, Sem.run_bind, Sem.run_pure, Result.andThen_ok, z1, run_underlying' hu]
        simp only [hm2, Result.andThen_ok]
        have e : (fun (x : Nat) => pl.toArray[x]?) = (fun (i : Nat) => pl[i]?) := by funext i; simp
        simp only [e, Array.toList_map, h1]
        rfl
      · cases hs
    · cases hs
  · rename_i n e z hu hz
    replace hu := hT.u _ _ hu
    split at hs
    · rename_i p hi
      obtain ⟨i, hi, hp1, hp2⟩ := hT.i _ _ hi
      rw [← hp1] at hs
      split at hs
      · rename_i cs hf
        cases hs
        obtain ⟨zv, z1, z2, -⟩ := zeroCells_ok hT hz
        obtain ⟨cr, h1, h2, h3, h4⟩ := afill_ok (a := a) (s := s) (M := M) (ρ := ρ) (σ := σ) (fun k => some (k * i.size, i.size)) parts.toList z cs zv.cells h.ev (z2 M ρ σ) hf
        refine ⟨.agg cr, ?_, .agg h2 h3 h4⟩
        unfold execOp
        simp only [ho, Instr.build, Sem.run_bind, Sem.run_pure, Result.andThen_ok, z1, run_underlying' hu, run_sizeOf' hi, Array.toList_map, h1]
      · cases hs
    · cases hs
  · cases hs
end
end Go.Proofs.YtdmedeaknnldcaaGreatDoor
