/- The operations that make or change memory: variables, rows, appends (second part). -/
import Derived.Test.YtdmedeaknnldcaaGreatDoorSymF
import Derived.Lib.ConvBytes
namespace Go.Proofs.YtdmedeaknnldcaaGreatDoor
open Go.RowKit
set_option linter.unusedVariables false
set_option linter.unusedSimpArgs false
set_option linter.unnecessarySimpa false
def maxBytes : Nat := 140737488351232
def allocOp (T : Tab) (s : AS) (d : Nat) (t : TypeId) : Option (List Wr) :=
  match T.z t, s.bx d, s.tk (vk d) with
  | some z, none, none => if s.nin ≤ d then some [.box d (some z), .env d (.ptr d 0)] else none
  | _, _, _ => none
def boxOp (s : AS) (d : Nat) (x : Operand) : Option (List Wr) :=
  match cellsOf (s.ev x), s.bx d, s.tk (vk d) with
  | some z, none, none => if s.nin ≤ d then some [.box d (some z), .env d (.ptr d 0)] else none
  | _, _, _ => none
def storeOp (T : Tab) (s : AS) (t : TypeId) (x y : Operand) : Option (List Wr) :=
  match s.ev x, T.i t with
  | .ptr b off, some i =>
    (match s.bx b, cellsOf (s.ev y) with
    | some cs, some new => if new.length = i.1 then (if off + new.length ≤ cs.length then some [.box b (some (splice cs off new))] else none) else none
    | _, _ => none)
  | _, _ => none
def buildSliceOp (T : Tab) (s : AS) (d : Nat) (t : TypeId) (len : Nat) (parts : List (Nat × Operand)) : Option (List Wr) :=
  match T.u t with
  | some (.slice e) =>
    (match T.i e, T.z e, s.tk (tD d 0) with
    | some i, some z, none =>
      if z.length = i.1 ∧ 0 < i.1 ∧ len * i.1 ≤ 16777216 then
        (match afill (fun k => some (k * i.1, i.1)) ((List.range (len * i.1)).map fun k => (z[k % i.1]?).getD .any) (parts.map fun p => (p.1, s.ev p.2)) with
        | some cs =>
          bif T.bm d then
            (match s.bx d, s.tk (vk d) with
            | none, none => if s.nin ≤ d then some [.box d (some cs), .tok (vk d) false, .tok (vm d) false, .env d (.vs d 0 len i.1)] else none
            | _, _ => none)
          else some [.tok (tD d 0) true, .env d (.list i.1 (chunks cs i.1 len) (some (tD d 0)))]
        | none => none)
      else none
    | _, _, _ => none)
  | _ => none
/-- An append onto a slice over a variable of its own. -/
def appendB (s : AS) (d : Nat) (i : Nat × Nat) (x : AV) (ys : List (List AV)) : Option (List Wr) :=
  match s.bx d, s.tk (vk d) with
  | none, none =>
    if s.nin ≤ d then
      (match x with
      | .v z => (match z with
        | .slice none 0 0 => if ys.length * i.2 ≤ maxBytes then some [.box d (some ys.flatten), .tok (vk d) false, .tok (vm d) false, .env d (.vs d 0 ys.length i.1)] else none
        | _ => none)
      | .vs b off len n =>
        if off = 0 ∧ n = i.1 ∧ s.nin ≤ b ∧ b ≠ d then
          (match s.bx b, s.tk (vk b) with
          | some cs, some _ => if len * n ≤ cs.length ∧ (len + ys.length) * i.2 ≤ maxBytes then some [.box b none, .box d (some (cs.take (len * n) ++ ys.flatten)), .tok (vk d) false, .tok (vm d) false, .env d (.vs d 0 (len + ys.length) i.1)] else none
          | _, _ => none)
        else none
      | _ => none)
    else none
  | _, _ => none
def appendOp (T : Tab) (s : AS) (d : Nat) (t : TypeId) (x y : Operand) : Option (List Wr) :=
  match T.u t with
  | some (.slice e) =>
    (match T.i e, T.z e, s.tk (tD d 0) with
    | some i, some z, none =>
      if z.length = i.1 ∧ 0 < i.1 ∧ 0 < i.2 then
        (match s.ev y with
        | .list m ys _ =>
          if m = i.1 then
            bif T.bm d then appendB s d i (s.ev x) ys else
            (match s.ev x with
            | .v (.slice none 0 0) => if ys.length * i.2 ≤ maxBytes then some [.tok (tD d 0) true, .env d (.list i.1 ys (some (tD d 0)))] else none
            | .list n xs (some k) =>
              if n = i.1 then
                (match s.tk k with
                | some true => if (xs.length + ys.length) * i.2 ≤ maxBytes then some [.tok k false, .tok (tD d 0) true, .env d (.list i.1 (xs ++ ys) (some (tD d 0)))] else none
                | _ => none)
              else none
            | _ => none)
          else none
        | _ => none)
      else none
    | _, _, _ => none)
  | _ => none
section
variable {P : Program} {T : Tab} {B : Base} {M : Mem} {ρ : Rho} {σ : Sig} {s : AS} {a : Act} {w : World}
theorem run_newVar' {t : TypeId} {v : Value} (w : World) : (newVar t v).run P w = .ok ⟨w.heap.size, 0, none⟩ (w.alloc (.cells v.cells t)) := by
  simp [newVar, newRow]
theorem newbox_put (h : SimW B M ρ σ s a w) (d : Nat) (hd : s.nin ≤ d) (hf : s.bx d = none) (ht : s.tk (vk d) = none) (ccs : Array Value) (t : TypeId) (cs : List AV) (hp : Pw M ρ σ ccs cs) :
    Sim B (s.aps [.box d (some cs), .env d (.ptr d 0)]) (a.put (some d) (.pointer (some ⟨w.heap.size, 0, none⟩))) (w.alloc (.cells ccs t)) :=
  ⟨M, _, σ, (h.newbox d hd hf ht ccs t cs (Nat.le_of_eq hp.1.symm) (fun i hi _ => hp.2.1 i hi) hp.2.2).put (.ptr (by simp [updR])) d⟩
/-- A slice over a new variable. -/
theorem newvs_put (h : SimW B M ρ σ s a w) (d : Nat) (hd : s.nin ≤ d) (hf : s.bx d = none) (ht : s.tk (vk d) = none) (ccs : Array Value) (t : TypeId) (cs : List AV) (hl : cs.length ≤ ccs.size) (h1 : ∀ i (h : i < ccs.size), i < cs.length → (ccs[i]).oneCell' = true) (hr : ∀ i (h : i < ccs.size) (h' : i < cs.length), Rd M ρ σ ccs[i] cs[i]) (len cap n : Nat) (hlc : len ≤ cap) (hcap : cap * n = ccs.size) :
    Sim B (s.aps [.box d (some cs), .tok (vk d) false, .tok (vm d) false, .env d (.vs d 0 len n)]) (a.put (some d) (.slice (some ⟨w.heap.size, 0, none⟩) len cap)) (w.alloc (.cells ccs t)) := by
  have h2 := h.newbox d hd hf ht ccs t cs hl h1 hr
  have h3 := h2.setcap (vk d) ht ⟨w.heap.size, 0, ccs.size⟩ ⟨ccs, t, At.new w _ _, Nat.le_refl _⟩
  refine ⟨M, _, _, (h3.tokdead (vm d)).put (v := .vs d 0 len n) ?_ d⟩
  have := Rd.vs (M := M) (ρ := updR ρ d w.heap.size) (σ := updS σ (vk d) ⟨w.heap.size, 0, ccs.size⟩) (b := d) (g := w.heap.size) (off := 0) (len := len) (cap := cap) (n := n) (by simp [updR]) hlc ⟨⟨w.heap.size, 0, ccs.size⟩, by simp [updS], rfl, by simpa using hcap⟩
  simpa using this
theorem alloc_ok (hT : TabOk P T) (h : SimW B M ρ σ s a w) {o : Oper} {d : Nat} {t : TypeId} (ho : o.op = .alloc t) (hd : o.dst = some d) {W : List Wr} (hs : allocOp T s d t = some W) (K : Act → World → Prop) (Q : Exit → Act → World → Prop) (hK : ∀ a' w', Sim B (s.aps W) a' w' → K a' w') : o.wp P a w K Q := by
  unfold allocOp at hs
  split at hs
  · rename_i z hz hb ht
    split at hs
    · rename_i hlt
      cases hs
      obtain ⟨zv, z1, z2, -⟩ := zeroCells_ok hT hz
      refine wp_val (v := .pointer (some ⟨w.heap.size, 0, none⟩)) (w' := w.alloc (.cells zv.cells t)) ?_ (hK _ _ ?_)
      · unfold execOp
        simp only [ho, Instr.alloc, Sem.run_bind, z1, Result.andThen_ok, run_newVar', Sem.run_pure]
      · rw [hd]; exact newbox_put h d hlt hb ht zv.cells t z (z2 M ρ σ)
    · cases hs
  · cases hs
theorem box_ok (h : SimW B M ρ σ s a w) {o : Oper} {d : Nat} {t : TypeId} {x : Operand} (ho : o.op = .box t x) (hd : o.dst = some d) {W : List Wr} (hs : boxOp s d x = some W) (K : Act → World → Prop) (Q : Exit → Act → World → Prop) (hK : ∀ a' w', Sim B (s.aps W) a' w' → K a' w') : o.wp P a w K Q := by
  unfold boxOp at hs
  split at hs
  · rename_i z hz hb ht
    split at hs
    · rename_i hlt
      cases hs
      refine wp_val (v := .pointer (some ⟨w.heap.size, 0, none⟩)) (w' := w.alloc (.cells (a.eval x).cells t)) ?_ (hK _ _ ?_)
      · unfold execOp
        simp only [ho, Instr.box, Sem.run_bind, Result.andThen_ok, run_newVar', Sem.run_pure]
      · rw [hd]; exact newbox_put h d hlt hb ht _ t z (cells_ok (h.ev x) hz)
    · cases hs
  · cases hs
theorem store_ok (hT : TabOk P T) (h : SimW B M ρ σ s a w) {o : Oper} {t : TypeId} {x y : Operand} (ho : o.op = .store t x y) (hd : o.dst = none) {W : List Wr} (hs : storeOp T s t x y = some W) (K : Act → World → Prop) (Q : Exit → Act → World → Prop) (hK : ∀ a' w', Sim B (s.aps W) a' w' → K a' w') : o.wp P a w K Q := by
  unfold storeOp at hs
  have hx := h.ev x
  split at hs
  · rename_i b off p hxe hi
    obtain ⟨i, hi, hp1, hp2⟩ := hT.i _ _ hi
    rw [← hp1] at hs
    rw [hxe] at hx
    split at hs
    · rename_i cs new hb hn
      split at hs
      · rename_i hsz
        split at hs
        · rename_i hfit
          cases hs
          generalize hq : a.eval x = xv at hx
          cases hx with
          | @ptr _ _ _ _ g hg =>
            obtain ⟨c1, c2, c3⟩ := cells_ok (h.ev y) hn
            rcases h.box b cs hb with ⟨-, e⟩ | ⟨g', hg', ⟨ccs, ty, r1, r2, r3, r4⟩, r5, r6⟩
            · rw [hg] at e; cases e
            rw [hg] at hg'
            cases hg'
            refine wp_skip' (w' := w.setCells g off (a.eval y).cells.toList) ?_ (hK _ _ ?_)
            · have hst := run_storeCells_cells (P := P) g off (a.eval y).cells.toList 0 w (fun j hj => by
                rw [cell_row r1, Array.getElem?_eq_getElem (by simp at hj; omega)]; rfl) (fun j hj => r1.frz (by simp at hj; omega)) (fun v hv => by
                obtain ⟨j, hj, e⟩ := List.getElem_of_mem hv
                rw [← e]; simpa using c2 j (by simpa using hj))
              unfold execOp
              simp only [ho, hq, Instr.storeAt, Instr.sureAddr, storeVar, Sem.run_bind, Sem.run_pure, Result.andThen_ok, run_sizeOf' hi]
              have e1 : ¬ ((a.eval y).cells.size ≠ i.size) := by omega
              simp only [e1, if_false, Sem.run_bind, Sem.run_pure, Result.andThen_ok]
              simp only [Nat.add_zero] at hst
              simp [hst]
            · rw [hd]
              refine ⟨M, ρ, σ, h.store b g cs hb hg off (a.eval y).cells.toList new (by simpa using c1) hfit (fun j hj => by simpa using c2 j (by simpa using hj)) (fun j hj hj' => by simpa using c3 j (by simpa using hj) hj')⟩
        · cases hs
      · cases hs
    · cases hs
  · cases hs
theorem chunks_length (sz : Nat) : ∀ (n : Nat) (cs : List AV), (chunks cs sz n).length = n
  | 0, _ => rfl
  | n + 1, cs => by simp [chunks, chunks_length sz n]
theorem chunks_get (sz : Nat) : ∀ (n : Nat) (cs : List AV) (i : Nat) (h : i < (chunks cs sz n).length), cs.length = n * sz → ((chunks cs sz n)[i]).length = sz ∧ ∀ j (h2 : j < ((chunks cs sz n)[i]).length) (h3 : i * sz + j < cs.length), ((chunks cs sz n)[i])[j] = dat0 cs[i * sz + j]
  | 0, cs, i, h, _ => by simp [chunks] at h
  | n + 1, cs, 0, h, hl => by
    rw [Nat.add_mul] at hl
    refine ⟨by simp [chunks]; omega, fun j h2 h3 => by simp [chunks]⟩
  | n + 1, cs, i + 1, h, hl => by
    rw [Nat.add_mul] at hl
    have hi : i < (chunks (cs.drop sz) sz n).length := by rw [chunks_length] at h ⊢; omega
    obtain ⟨h1, h2⟩ := chunks_get sz n (cs.drop sz) i hi (by simp; omega)
    refine ⟨by simpa [chunks] using h1, fun j h3 h4 => ?_⟩
    have := h2 j (by simpa [chunks] using h3) (by simp [Nat.add_mul] at h4 ⊢; omega)
    simp only [chunks, List.getElem_cons_succ, this, List.getElem_drop]
    congr 2
    rw [Nat.add_mul]; omega
theorem buildSlice_ok (hT : TabOk P T) (h : SimW B M ρ σ s a w) {o : Oper} {d : Nat} {t : TypeId} {len : Nat} {parts : Array (Nat × Operand)} (ho : o.op = .buildSlice t len parts) (hd : o.dst = some d) {W : List Wr} (hs : buildSliceOp T s d t len parts.toList = some W) (K : Act → World → Prop) (Q : Exit → Act → World → Prop) (hK : ∀ a' w', Sim B (s.aps W) a' w' → K a' w') : o.wp P a w K Q := by
  unfold buildSliceOp at hs
  split at hs
  · rename_i e hu
    replace hu := hT.u _ _ hu
    split at hs
    · rename_i p z hi hz htk
      obtain ⟨i, hi, hp1, hp2⟩ := hT.i _ _ hi
      rw [← hp1] at hs
      split at hs
      · rename_i hc
        obtain ⟨c1, c2, c3⟩ := hc
        split at hs
        · rename_i cs hf
          obtain ⟨zv, z1, z2, -⟩ := zeroCells_ok hT hz
          obtain ⟨p1, p2, p3⟩ := z2 M ρ σ
          have hbase : Pw M ρ σ ((Array.range (len * i.size)).map (zv.cells[· % zv.cells.size]!)) ((List.range (len * i.size)).map fun k => (z[k % i.size]?).getD .any) := by
            have e1 : zv.cells.size = i.size := by omega
            refine ⟨by simp, fun j hj => ?_, fun j hj hj' => ?_⟩
            · have : j % i.size < zv.cells.size := by rw [e1]; exact Nat.mod_lt _ c2
              simp only [Array.getElem_map, Array.getElem_range, e1]
              rw [getElem!_pos zv.cells (j % i.size) this]; exact p2 _ _
            · have q1 : j % i.size < zv.cells.size := by rw [e1]; exact Nat.mod_lt _ c2
              have q2 : j % i.size < z.length := by omega
              simp only [Array.getElem_map, Array.getElem_range, e1, List.getElem_map, List.getElem_range]
              rw [getElem!_pos zv.cells (j % i.size) q1, List.getElem?_eq_getElem q2]
              exact p3 _ _ _
          obtain ⟨cr, f1, f2⟩ := afill_ok (a := a) (s := s) (M := M) (ρ := ρ) (σ := σ) (fun k => some (k * i.size, i.size)) parts.toList _ cs _ h.ev hbase hf
          have hcl : cs.length = len * i.size := by
            have : ∀ (parts : List (Nat × AV)) (x y : List AV), afill (fun k => some (k * i.size, i.size)) x parts = some y → y.length = x.length := by
              intro parts
              induction parts with
              | nil => intro x y h; cases h; rfl
              | cons p r ih =>
                intro x y h
                simp only [afill] at h
                split at h
                · split at h
                  · rw [ih _ _ h, splice_length]
                  · cases h
                · cases h
            rw [this _ _ _ hf]; simp
          have hcr : cr.size = len * i.size := by rw [f2.1, hcl]
          have fin : Sim B (s.aps W) (a.put (some d) (.slice (some ⟨w.heap.size, 0, none⟩) len len)) (w.alloc (.cells cr e)) → o.wp P a w K Q := fun hfin => by
            refine wp_val (v := .slice (some ⟨w.heap.size, 0, none⟩) len len) (w' := w.alloc (.cells cr e)) ?_ (hK _ _ (by rw [hd]; exact hfin))
            unfold execOp
            have g1 : ¬ (16777216 < len * i.size) := by omega
            simp only [ho, Instr.buildSlice, Sem.run_bind, Sem.run_pure, Result.andThen_ok, run_underlying' hu, run_sizeOf' hi, gt_iff_lt, show (2 : Nat) ^ 24 = 16777216 from rfl, g1, if_false]
            by_cases h0 : len * i.size = 0
            · simp only [h0, if_true, Sem.run_bind, Sem.run_pure, Result.andThen_ok, Array.toList_map]
              rw [h0] at f1
              have e0 : ∀ (f g : Nat → Value), (Array.range 0).map f = (Array.range 0).map g := fun f g => by simp
              rw [e0 _ (zv.cells[· % zv.cells.size]!), f1]
              simp [newRow]
            · simp only [h0, if_false, Sem.run_bind, z1, Sem.run_pure, Result.andThen_ok, Array.toList_map, f1]
              simp [newRow]
          refine fin ?_
          cases hbm : T.bm d with
          | true =>
            rw [hbm] at hs
            simp only [cond_true] at hs
            split at hs
            · rename_i hb hv
              split at hs
              · rename_i hni
                cases hs
                exact newvs_put h d hni hb hv cr e cs (Nat.le_of_eq f2.1.symm) (fun i hi _ => f2.2.1 i hi) f2.2.2 len len i.size (Nat.le_refl _) hcr.symm
              · cases hs
            · cases hs
          | false =>
            rw [hbm] at hs
            simp only [cond_false] at hs
            cases hs
            have nr := h.newrow (tD d 0) htk cr e cr.size (Nat.le_refl _)
            have et : cr.toList.take cr.size = cr.toList := by rw [List.take_of_length_le (by simp)]
            rw [et] at nr
            refine ⟨_, ρ, _, nr.put (v := .list i.size (chunks cs i.size len) (some (tD d 0))) ?_ d⟩
            have hone : ∀ i' j, ((cr[i' * i.size + j]?).getD (.bool true)).oneCell' = true := fun i' j => by
              cases hq : cr[i' * i.size + j]? with
              | none => rfl
              | some v =>
                obtain ⟨q1, q2⟩ := Array.getElem?_eq_some_iff.1 hq
                simp only [Option.getD_some]; rw [← q2]; exact f2.2.1 _ _
            have hidx : ∀ i' j, i' < len → j < i.size → i' * i.size + j < len * i.size := fun i' j h1 h2 => by
              have := Nat.mul_le_mul_right i.size (Nat.succ_le_of_lt h1)
              rw [Nat.succ_mul] at this; omega
            refine .list (fun i' j => (cr[i' * i.size + j]?).getD (.bool true)) (chunks_length _ _ _) (Nat.le_refl _) (fun i' hi' => (chunks_get _ _ _ _ hi' hcl).1) (fun i' j h1 h2 => ?_) hone (fun i' j h1 h2 => ?_) (fun k hk => .inl rfl)
            · rw [chunks_length] at h1
              have hx := hidx i' j h1 h2
              unfold addC
              rw [if_pos ⟨rfl, by omega, by simp; omega⟩]
              rw [show 0 + i' * i.size + j - 0 = i' * i.size + j by omega]
              rw [Array.getElem?_eq_getElem (by omega)]
              simp
            · obtain ⟨q1, q2⟩ := chunks_get _ _ _ _ h1 hcl
              have h1' := h1
              rw [chunks_length] at h1'
              have hx := hidx i' j h1' (by rw [← q1]; exact h2)
              rw [q2 j h2 (by omega), Array.getElem?_eq_getElem (by omega)]
              refine Rd.dat0 (ρ := ρ) (σ := σ) ?_
              exact (f2.2.2 _ _ _).mono (addC_sub fun o _ _ => h.free (Nat.le_refl _) o) _ _ (fun _ _ h => h) (fun _ _ h => h)
        · cases hs
      · cases hs
    · cases hs
  · cases hs
end
end Go.Proofs.YtdmedeaknnldcaaGreatDoor
