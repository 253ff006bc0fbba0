/- The state of a call: what each change of memory does to it. -/
import Derived.Test.YtecoemdhnphmdaaSymA
import Derived.Deep.MidRow
namespace Go.Proofs.Ytecoemdhnphmdaa
open Go.RowKit
set_option linter.unusedVariables false
set_option linter.unusedSimpArgs false
set_option linter.unnecessarySimpa false
def updR (ρ : Rho) (d g : Nat) : Rho := fun b => if b = d then some g else ρ b
def updS (σ : Sig) (d : Nat) (sp : Spare) : Sig := fun b => if b = d then some sp else σ b
def addC (M : Mem) (g lo : Nat) (vs : List Value) : Mem := fun g' o => if g' = g ∧ lo ≤ o ∧ o < lo + vs.length then vs[o - lo]? else M g' o
def splice {α : Type} (cs : List α) (off : Nat) : List α → List α
  | [] => cs
  | v :: r => splice (cs.set off v) (off + 1) r
theorem splice_length {α : Type} : ∀ (new cs : List α) (off : Nat), (splice cs off new).length = cs.length
  | [], _, _ => rfl
  | v :: r, cs, off => by unfold splice; rw [splice_length r]; simp
theorem splice_get {α : Type} : ∀ (new cs : List α) (off : Nat), off + new.length ≤ cs.length → ∀ j,
    (splice cs off new)[j]? = if off ≤ j ∧ j < off + new.length then new[j - off]? else cs[j]?
  | [], cs, off, _, j => by
      have n1 : ¬ (off ≤ j ∧ j < off + ([] : List α).length) := by simp
      rw [if_neg n1]; rfl
  | v :: r, cs, off, h, j => by
    simp only [List.length_cons] at h
    unfold splice
    rw [splice_get r (cs.set off v) (off + 1) (by simp; omega) j]
    by_cases hj : off + 1 ≤ j ∧ j < off + 1 + r.length
    · have n1 : off ≤ j ∧ j < off + (v :: r).length := by simp only [List.length_cons]; omega
      rw [if_pos hj, if_pos n1, show j - off = (j - (off + 1)) + 1 by omega]
      rfl
    · rw [if_neg hj, List.getElem?_set]
      by_cases ho : off = j
      · subst ho
        have n1 : off ≤ off ∧ off < off + (v :: r).length := by simp only [List.length_cons]; omega
        rw [if_pos rfl, if_pos n1, Nat.sub_self, if_pos (by omega)]
        rfl
      · have n1 : ¬ (off ≤ j ∧ j < off + (v :: r).length) := by simp only [List.length_cons]; omega
        rw [if_neg ho, if_neg n1]
theorem heap_lt {w : World} {g : Nat} {o : Obj} (h : w.heap[g]? = some o) : g < w.heap.size := (Array.getElem?_eq_some_iff.1 h).1
theorem cell_lt {w : World} {g o : Nat} {c : Value} (h : w.cell? ⟨g, o, none⟩ = some c) : g < w.heap.size := by
  unfold World.cell? at h
  cases hg : w.heap[g]? with
  | none => simp [hg] at h
  | some x => exact heap_lt hg
theorem heap_set_row {w : World} {g : Nat} {cs : Array Value} {t : TypeId} {fr : Nat × Nat} (i : Nat) (v : Value) (hg : w.heap[g]? = some (.cells cs t fr)) :
    (w.setCell ⟨g, i, none⟩ v).heap[g]? = some (.cells (cs.setIfInBounds i v) t fr) := by
  simp [World.setCell, Array.getElem?_modify, hg]
/-- Many cells of a row are written. -/
theorem row_setCells (g : Nat) (t : TypeId) (fr : Nat × Nat) : ∀ (vs : List Value) (o : Nat) (w : World) (cs : Array Value), w.heap[g]? = some (.cells cs t fr) → o + vs.length ≤ cs.size →
    ∃ cs' : Array Value, (w.setCells g o vs).heap[g]? = some (.cells cs' t fr) ∧ cs'.size = cs.size ∧ ∀ j, cs'[j]? = if o ≤ j ∧ j < o + vs.length then vs[j - o]? else cs[j]?
  | [], o, w, cs, h, _ => ⟨cs, h, rfl, fun j => by
      have n1 : ¬ (o ≤ j ∧ j < o + ([] : List Value).length) := by simp
      rw [if_neg n1]⟩
  | v :: r, o, w, cs, h, hl => by
    simp only [List.length_cons] at hl
    obtain ⟨cs', h1, h2, h3⟩ := row_setCells g t fr r (o + 1) (w.setCell ⟨g, o, none⟩ v) (cs.setIfInBounds o v) (heap_set_row o v h) (by simp; omega)
    refine ⟨cs', h1, by simpa using h2, fun j => ?_⟩
    rw [h3 j]
    by_cases hj : o + 1 ≤ j ∧ j < o + 1 + r.length
    · have n1 : o ≤ j ∧ j < o + (v :: r).length := by simp only [List.length_cons]; omega
      rw [if_pos hj, if_pos n1, show j - o = (j - (o + 1)) + 1 by omega]
      rfl
    · rw [if_neg hj, Array.getElem?_setIfInBounds]
      by_cases ho : o = j
      · subst ho
        have n1 : o ≤ o ∧ o < o + (v :: r).length := by simp only [List.length_cons]; omega
        rw [if_pos rfl, if_pos n1, Nat.sub_self, if_pos (by omega)]
        rfl
      · have n1 : ¬ (o ≤ j ∧ j < o + (v :: r).length) := by simp only [List.length_cons]; omega
        rw [if_neg ho, if_neg n1]
theorem heap_setCells_ne (g : Nat) : ∀ (vs : List Value) (o : Nat) (w : World) (k : Nat), k ≠ g → (w.setCells g o vs).heap[k]? = w.heap[k]?
  | [], _, _, _, _ => rfl
  | v :: r, o, w, k, h => by
    show ((w.setCell ⟨g, o, none⟩ v).setCells g (o + 1) r).heap[k]? = _
    rw [heap_setCells_ne g r (o + 1) _ k h, Below.heap_setCell _ _ _ _ h]
theorem setCells_fields (g : Nat) : ∀ (vs : List Value) (o : Nat) (w : World), (w.setCells g o vs).os = w.os ∧ (w.setCells g o vs).tape = w.tape ∧ (w.setCells g o vs).output = w.output ∧ (w.setCells g o vs).heap.size = w.heap.size
  | [], _, _ => ⟨rfl, rfl, rfl, rfl⟩
  | v :: r, o, w => by
    obtain ⟨h1, h2, h3, h4⟩ := setCells_fields g r (o + 1) (w.setCell ⟨g, o, none⟩ v)
    exact ⟨h1, h2, h3, h4.trans (by simp [World.setCell])⟩
theorem cell_of_heap {w w' : World} {g : Nat} (h : w'.heap[g]? = w.heap[g]?) (o : Nat) : w'.cell? ⟨g, o, none⟩ = w.cell? ⟨g, o, none⟩ := World.cell?_of_block (w := w) h
theorem cell_row {w : World} {g o : Nat} {cs : Array Value} {t : TypeId} {fr : Nat × Nat} (h : w.heap[g]? = some (.cells cs t fr)) : w.cell? ⟨g, o, none⟩ = cs[o]? := by
  simp [World.cell?, h]
theorem AS.bx_set (s : AS) (b b' : Nat) (cs : List AV) : (s.ap (.box b cs)).bx b' = if b' = b ∧ b < s.box.length then some cs else s.bx b' := by
  unfold AS.ap AS.bx
  exact getD_set_at _ _ _ _ _
theorem AS.tk_set (s : AS) (t t' : Nat) (x : Bool) : (s.ap (.tok t x)).tk t' = if t' = t then some x else s.tk t' := by
  unfold AS.ap AS.tk
  rw [List.lookup_cons]
  by_cases h : t' = t
  · subst h; simp
  · have e : (t' == t) = false := by simp [h]
    rw [e, if_neg h]
theorem AS.bx_lt {s : AS} {b : Nat} {cs : List AV} (h : s.bx b = some cs) : b < s.box.length := by
  unfold AS.bx at h
  cases hb : s.box[b]? with
  | none => simp [hb] at h
  | some x => exact (List.getElem?_eq_some_iff.1 hb).1
section
variable {B : Base} {M : Mem} {ρ : Rho} {σ : Sig} {s : AS} {a : Act} {w : World}
theorem SimW.free (h : SimW B M ρ σ s a w) {g : Nat} (hg : w.heap.size ≤ g) (o : Nat) : M g o = none := by
  cases hm : M g o with
  | none => rfl
  | some c => have := cell_lt (h.mem g o c hm); omega
theorem SimW.blk (h : SimW B M ρ σ s a w) {b g : Nat} (hb : ρ b = some g) : g < w.heap.size ∧ ∀ o, M g o = none := by
  obtain ⟨cs, hcs⟩ := h.rho b g hb
  obtain ⟨g', h1, ⟨ccs, t, h2, -⟩, h3, -⟩ := h.box b cs hcs
  rw [hb] at h1
  cases h1
  exact ⟨heap_lt h2, h3⟩
theorem SimW.drew (h : SimW B M ρ σ s a w) : SimW B M ρ σ s a w.drew :=
  { h with mem := h.mem, os := h.os, tape := h.tape, output := h.output, size := h.size, block := h.block, box := h.box, tok := h.tok }
theorem addC_sub {M : Mem} {g lo : Nat} {vs : List Value} (h : ∀ o, lo ≤ o → o < lo + vs.length → M g o = none) (g' o : Nat) (c : Value) (hm : M g' o = some c) : addC M g lo vs g' o = some c := by
  unfold addC
  split
  · rename_i hc
    obtain ⟨rfl, h1, h2⟩ := hc
    rw [h o h1 h2] at hm
    cases hm
  · exact hm
theorem updR_own (h : SimW B M ρ σ s a w) {d g0 : Nat} (hni : s.nin ≤ d) (k g g' : Nat) (hk : B.opn[k]? = some g) (hr : updR ρ d g0 k = some g') : g' = g := by
  unfold updR at hr
  split at hr
  · rename_i e
    have := (List.getElem?_eq_some_iff.1 hk).1
    rw [h.nin] at hni
    omega
  · exact h.own k g g' hk hr
theorem updR_fresh (h : SimW B M ρ σ s a w) {d g0 : Nat} (hg : B.w0.heap.size ≤ g0) (b g : Nat) (hn : s.nin ≤ b) (hr : updR ρ d g0 b = some g) : B.w0.heap.size ≤ g := by
  unfold updR at hr
  split at hr
  · cases hr; exact hg
  · exact h.fresh b g hn hr
/-- A new variable. -/
theorem SimW.newbox (h : SimW B M ρ σ s a w) (d : Nat) (hd : d < s.box.length) (hni : s.nin ≤ d) (hf : s.bx d = none) (ccs : Array Value) (t : TypeId) (cs : List AV) (hl : ccs.size = cs.length)
    (h1 : ∀ i (h : i < ccs.size), (ccs[i]).oneCell' = true) (hr : ∀ i (h : i < ccs.size) (h' : i < cs.length), Rd M ρ σ ccs[i] cs[i]) :
    SimW B M (updR ρ d w.heap.size) σ (s.ap (.box d cs)) a (w.alloc (.cells ccs t)) := by
  have hrd : ρ d = none := by
    cases hq : ρ d with
    | none => rfl
    | some g => obtain ⟨cs', h2⟩ := h.rho d g hq; rw [hf] at h2; cases h2
  have up : ∀ b g, ρ b = some g → updR ρ d w.heap.size b = some g := fun b g hb => by
    unfold updR; split
    · rename_i e; subst e; rw [hrd] at hb; cases hb
    · exact hb
  have old : ∀ k, k < w.heap.size → (w.alloc (.cells ccs t)).heap[k]? = w.heap[k]? := fun k hk => Below.heap_alloc w _ k hk
  refine { h with blen := by simpa [AS.ap] using h.blen, own := fun k g g' hk hr' => updR_own h hni k g g' hk hr', fresh := fun b g hn hr' => updR_fresh h h.size b g hn hr', env := fun t => (h.env t).up up fun _ _ h => h, mem := fun g o c hm => ?_, size := Nat.le_trans h.size (by simp), block := fun k h1 h2 => ?_, box := fun b cs' hb => ?_, rho := fun b g hb => ?_, inj := fun b b' g hb hb' => ?_, tok := fun t' sp ht hs => ?_ }
  · rw [cell_of_heap (old g (cell_lt (h.mem g o c hm)))]; exact h.mem g o c hm
  · rw [old k (Nat.lt_of_lt_of_le h1 h.size)]; exact h.block k h1 h2
  · rw [AS.bx_set] at hb
    by_cases hbd : b = d
    · subst hbd
      rw [if_pos ⟨rfl, hd⟩] at hb
      cases hb
      refine ⟨w.heap.size, by simp [updR], ⟨ccs, t, heap_alloc_new w _, hl, h1, fun i h2 h3 => (hr i h2 h3).up up fun _ _ h => h⟩, fun o => h.free (Nat.le_refl _) o, .inl h.size⟩
    · rw [if_neg (fun e => hbd e.1)] at hb
      obtain ⟨g, h2, ⟨ccs', t', h3, h4, h5, h6⟩, h7, h8⟩ := h.box b cs' hb
      exact ⟨g, up b g h2, ⟨ccs', t', by rw [old g (heap_lt h3)]; exact h3, h4, h5, fun i x y => (h6 i x y).up up fun _ _ h => h⟩, h7, h8⟩
  · unfold updR at hb
    split at hb
    · rename_i e; subst e; exact ⟨cs, by rw [AS.bx_set, if_pos ⟨rfl, hd⟩]⟩
    · rename_i e
      obtain ⟨cs', h2⟩ := h.rho b g hb
      exact ⟨cs', by rw [AS.bx_set, if_neg (fun x => e x.1)]; exact h2⟩
  · unfold updR at hb hb'
    split at hb
    · rename_i e
      split at hb'
      · rename_i e'; rw [e, e']
      · cases hb; have := (h.blk hb').1; omega
    · split at hb'
      · cases hb'; have := (h.blk hb).1; omega
      · exact h.inj b b' g hb hb'
  · obtain ⟨h3, ⟨ccs', ty, h4, h5, h6⟩, h7, h8⟩ := h.tok t' sp ht hs
    refine ⟨h3, ⟨ccs', ty, by rw [old sp.g (heap_lt h4)]; exact h4, h5, h6⟩, h7, fun b hb => ?_⟩
    unfold updR at hb
    split at hb
    · have e := Option.some.inj hb; have := heap_lt h4; omega
    · exact h8 b hb
/-- A new row that is known up to a place, and has room behind it. -/
theorem SimW.newrow (h : SimW B M ρ σ s a w) (d : Nat) (hu : s.tk d = none) (ccs : Array Value) (t : TypeId) (f : Nat) (hf : f ≤ ccs.size) :
    SimW B (addC M w.heap.size 0 (ccs.toList.take f)) ρ (updS σ d ⟨w.heap.size, f, ccs.size⟩) (s.ap (.tok d true)) a (w.alloc (.cells ccs t)) := by
  have hsd : σ d = none := by
    cases hq : σ d with
    | none => rfl
    | some sp => exact absurd hu (h.sig d sp hq)
  have ups : ∀ k sp, σ k = some sp → updS σ d ⟨w.heap.size, f, ccs.size⟩ k = some sp := fun k sp hk => by
    unfold updS; split
    · rename_i e; subst e; rw [hsd] at hk; cases hk
    · exact hk
  have hlen : (ccs.toList.take f).length = f := by simp; omega
  have sub : ∀ g o c, M g o = some c → addC M w.heap.size 0 (ccs.toList.take f) g o = some c := addC_sub fun o _ _ => h.free (Nat.le_refl _) o
  have ne : ∀ g o, g ≠ w.heap.size → addC M w.heap.size 0 (ccs.toList.take f) g o = M g o := fun g o hg => by unfold addC; rw [if_neg (fun e => hg e.1)]
  have old : ∀ k, k < w.heap.size → (w.alloc (.cells ccs t)).heap[k]? = w.heap[k]? := fun k hk => Below.heap_alloc w _ k hk
  have new : (w.alloc (.cells ccs t)).heap[w.heap.size]? = some (.cells ccs t (0, 0)) := heap_alloc_new w _
  refine { h with env := fun t => (h.env t).mono sub _ _ (fun _ _ h => h) ups, mem := fun g o c hm => ?_, memB := fun g o hg => ?_, size := Nat.le_trans h.size (by simp), block := fun k h1 h2 => ?_, box := fun b cs' hb => ?_, tok := fun t' sp ht hs => ?_, sig := fun t' sp ht => ?_, tinj := fun t1 t2 sp sp' ht1 ht2 hs1 hs2 hg => ?_ }
  · unfold addC at hm
    split at hm
    · rename_i hc
      obtain ⟨rfl, -, h2⟩ := hc
      rw [cell_row new]
      rw [hlen] at h2
      rw [Nat.sub_zero, List.getElem?_take_of_lt (by omega)] at hm
      simpa using hm
    · rw [cell_of_heap (old g (cell_lt (h.mem g o c hm)))]; exact h.mem g o c hm
  · rw [ne g o (by have := h.size; omega)]; exact h.memB g o hg
  · rw [old k (Nat.lt_of_lt_of_le h1 h.size)]; exact h.block k h1 h2
  · obtain ⟨g, h2, ⟨ccs', t', h3, h4, h5, h6⟩, h7, h8⟩ := h.box b cs' hb
    exact ⟨g, h2, ⟨ccs', t', by rw [old g (heap_lt h3)]; exact h3, h4, h5, fun i x y => (h6 i x y).mono sub _ _ (fun _ _ h => h) ups⟩, fun o => by rw [ne g o (by have := heap_lt h3; omega)]; exact h7 o, h8⟩
  · rw [AS.tk_set] at ht
    by_cases htd : t' = d
    · subst htd
      have hs' : sp = ⟨w.heap.size, f, ccs.size⟩ := by simp [updS] at hs; exact hs.symm
      subst hs'
      refine ⟨h.size, ⟨ccs, t, new, hf, Nat.le_refl _⟩, fun o h1 h2 => ?_, fun b hb => ?_⟩
      · unfold addC
        have n1 : ¬ (w.heap.size = w.heap.size ∧ 0 ≤ o ∧ o < 0 + (ccs.toList.take f).length) := by rw [hlen]; dsimp only at h1; omega
        rw [if_neg n1]
        exact h.free (Nat.le_refl _) o
      · exact Nat.lt_irrefl _ (h.blk hb).1
    · rw [if_neg htd] at ht
      unfold updS at hs
      rw [if_neg htd] at hs
      obtain ⟨h3, ⟨ccs', ty, h4, h5, h6⟩, h7, h8⟩ := h.tok t' sp ht hs
      exact ⟨h3, ⟨ccs', ty, by rw [old sp.g (heap_lt h4)]; exact h4, h5, h6⟩, fun o x y => by rw [ne _ o (by have := heap_lt h4; omega)]; exact h7 o x y, h8⟩
  · rw [AS.tk_set]
    split
    · simp
    · rename_i hc
      unfold updS at ht
      split at ht
      · rename_i e; exact absurd e hc
      · exact h.sig t' sp ht
  · rw [AS.tk_set] at ht1 ht2
    unfold updS at hs1 hs2
    have key : ∀ t' sp', s.tk t' = some true → σ t' = some sp' → sp'.g ≠ w.heap.size := fun t' sp' h1 h2 => by
      obtain ⟨-, ⟨_, _, h4, -⟩, -⟩ := h.tok t' sp' h1 h2
      have := heap_lt h4; omega
    by_cases e1 : t1 = d
    · by_cases e2 : t2 = d
      · rw [e1, e2]
      · rw [if_pos e1] at hs1
        rw [if_neg e2] at ht2
        rw [if_neg e2] at hs2
        cases hs1
        exact absurd hg.symm (key _ _ ht2 hs2)
    · rw [if_neg e1] at ht1
      rw [if_neg e1] at hs1
      by_cases e2 : t2 = d
      · rw [if_pos e2] at hs2
        cases hs2
        exact absurd hg (key _ _ ht1 hs1)
      · rw [if_neg e2] at ht2
        rw [if_neg e2] at hs2
        exact h.tinj t1 t2 sp sp' ht1 ht2 hs1 hs2 hg
/-- The room behind a slice is filled. -/
theorem SimW.inplace (h : SimW B M ρ σ s a w) (t d : Nat) (ht : s.tk t = some true) (sp : Spare) (hsp : σ t = some sp) (vs : List Value) (hfit : sp.lo + vs.length ≤ sp.hi) (hu : s.tk d = none) :
    SimW B (addC M sp.g sp.lo vs) ρ (updS σ d ⟨sp.g, sp.lo + vs.length, sp.hi⟩) ((s.ap (.tok t false)).ap (.tok d true)) a (w.setCells sp.g sp.lo vs) := by
  have hsd : σ d = none := by
    cases hq : σ d with
    | none => rfl
    | some sp => exact absurd hu (h.sig d sp hq)
  have htd : t ≠ d := fun e => by rw [e, hu] at ht; cases ht
  obtain ⟨hbase, ⟨ccs, ty, hrow, hlo, hhi⟩, hnone, hrho⟩ := h.tok t sp ht hsp
  have ups : ∀ k sp', σ k = some sp' → updS σ d ⟨sp.g, sp.lo + vs.length, sp.hi⟩ k = some sp' := fun k sp' hk => by
    unfold updS; split
    · rename_i e; subst e; rw [hsd] at hk; cases hk
    · exact hk
  have sub : ∀ g o c, M g o = some c → addC M sp.g sp.lo vs g o = some c := addC_sub fun o h1 h2 => hnone o h1 (by omega)
  have ne : ∀ g o, g ≠ sp.g → addC M sp.g sp.lo vs g o = M g o := fun g o hg => by unfold addC; rw [if_neg (fun e => hg e.1)]
  have old : ∀ k, k ≠ sp.g → (w.setCells sp.g sp.lo vs).heap[k]? = w.heap[k]? := fun k hk => heap_setCells_ne _ _ _ _ _ hk
  obtain ⟨ccs', hrow', hsz, hget⟩ := row_setCells sp.g ty (0, 0) vs sp.lo w ccs hrow (by omega)
  obtain ⟨f1, f2, f3, f4⟩ := setCells_fields sp.g vs sp.lo w
  have tkq : ∀ t', ((s.ap (.tok t false)).ap (.tok d true)).tk t' = if t' = d then some true else if t' = t then some false else s.tk t' := fun t' => by
    rw [AS.tk_set, AS.tk_set]
  refine { h with env := fun t => (h.env t).mono sub _ _ (fun _ _ h => h) ups, mem := fun g o c hm => ?_, memB := fun g o hg => ?_, os := f1.trans h.os, tape := f2.trans h.tape, output := f3.trans h.output, size := by rw [f4]; exact h.size, block := fun k h1 h2 => ?_, box := fun b cs' hb => ?_, tok := fun t' sp' ht' hs' => ?_, sig := fun t' sp' ht' => ?_, tinj := fun t1 t2 sp1 sp2 ht1 ht2 hs1 hs2 hg => ?_ }
  · unfold addC at hm
    split at hm
    · rename_i hc
      obtain ⟨rfl, h1, h2⟩ := hc
      rw [cell_row hrow', hget, if_pos ⟨h1, h2⟩]; exact hm
    · rename_i hc
      by_cases hg : g = sp.g
      · subst hg
        rw [cell_row hrow', hget, if_neg (fun e => hc ⟨rfl, e⟩), ← cell_row hrow]; exact h.mem _ o c hm
      · rw [cell_of_heap (old g hg)]; exact h.mem g o c hm
  · rw [ne g o (by omega)]; exact h.memB g o hg
  · rw [old k (by omega)]; exact h.block k h1 h2
  · obtain ⟨g, h2, ⟨ccs2, t', h3, h4, h5, h6⟩, h7, h8⟩ := h.box b cs' hb
    have hne : g ≠ sp.g := fun e => hrho b (e ▸ h2)
    exact ⟨g, h2, ⟨ccs2, t', by rw [old g hne]; exact h3, h4, h5, fun i x y => (h6 i x y).mono sub _ _ (fun _ _ h => h) ups⟩, fun o => by rw [ne g o hne]; exact h7 o, h8⟩
  · rw [tkq] at ht'
    by_cases e1 : t' = d
    · subst e1
      have hs2 : sp' = ⟨sp.g, sp.lo + vs.length, sp.hi⟩ := by simp [updS] at hs'; exact hs'.symm
      subst hs2
      refine ⟨hbase, ⟨ccs', ty, hrow', hfit, by dsimp only; omega⟩, fun o h1 h2 => ?_, hrho⟩
      unfold addC
      have n1 : ¬ (sp.g = sp.g ∧ sp.lo ≤ o ∧ o < sp.lo + vs.length) := by dsimp only at h1; omega
      rw [if_neg n1]
      exact hnone o (by dsimp only at h1; omega) h2
    · rw [if_neg e1] at ht'
      by_cases e2 : t' = t
      · rw [if_pos e2] at ht'; cases ht'
      · rw [if_neg e2] at ht'
        unfold updS at hs'
        rw [if_neg e1] at hs'
        obtain ⟨h3, ⟨ccs2, ty2, h4, h5, h6⟩, h7, h8⟩ := h.tok t' sp' ht' hs'
        have hne : sp'.g ≠ sp.g := fun e => e2 (h.tinj t' t sp' sp ht' ht hs' hsp e)
        exact ⟨h3, ⟨ccs2, ty2, by rw [old _ hne]; exact h4, h5, h6⟩, fun o x y => by rw [ne _ o hne]; exact h7 o x y, h8⟩
  · rw [tkq]
    unfold updS at ht'
    split at ht'
    · rename_i e; rw [if_pos e]; simp
    · rename_i e
      rw [if_neg e]
      split
      · simp
      · exact h.sig t' sp' ht'
  · rw [tkq] at ht1 ht2
    unfold updS at hs1 hs2
    have key : ∀ t', t' ≠ t → ∀ sp', s.tk t' = some true → σ t' = some sp' → sp'.g ≠ sp.g := fun t' hne sp' h1 h2 e => hne (h.tinj t' t sp' sp h1 ht h2 hsp e)
    by_cases e1 : t1 = d
    · by_cases e2 : t2 = d
      · rw [e1, e2]
      · rw [if_pos e1] at hs1
        rw [if_neg e2] at ht2 hs2
        by_cases e3 : t2 = t
        · rw [if_pos e3] at ht2; cases ht2
        · rw [if_neg e3] at ht2
          cases hs1
          exact absurd hg.symm (key _ e3 _ ht2 hs2)
    · rw [if_neg e1] at ht1 hs1
      by_cases e3 : t1 = t
      · rw [if_pos e3] at ht1; cases ht1
      · rw [if_neg e3] at ht1
        by_cases e2 : t2 = d
        · rw [if_pos e2] at hs2
          cases hs2
          exact absurd hg (key _ e3 _ ht1 hs1)
        · rw [if_neg e2] at ht2 hs2
          by_cases e4 : t2 = t
          · rw [if_pos e4] at ht2; cases ht2
          · rw [if_neg e4] at ht2
            exact h.tinj t1 t2 sp1 sp2 ht1 ht2 hs1 hs2 hg
/-- A variable is written. -/
theorem SimW.store (h : SimW B M ρ σ s a w) (b g : Nat) (cs : List AV) (hb : s.bx b = some cs) (hg : ρ b = some g) (off : Nat) (vs : List Value) (news : List AV) (hl : vs.length = news.length) (hfit : off + news.length ≤ cs.length)
    (h1 : ∀ i (h : i < vs.length), (vs[i]).oneCell' = true) (hr : ∀ i (h : i < vs.length) (h' : i < news.length), Rd M ρ σ vs[i] news[i]) :
    SimW B M ρ σ (s.ap (.box b (splice cs off news))) a (w.setCells g off vs) := by
  obtain ⟨g0, hg0, ⟨ccs, ty, hrow, hsz, hone, hrd⟩, hnone, hbase⟩ := h.box b cs hb
  rw [hg] at hg0
  cases hg0
  have old : ∀ k, k ≠ g → (w.setCells g off vs).heap[k]? = w.heap[k]? := fun k hk => heap_setCells_ne _ _ _ _ _ hk
  obtain ⟨ccs', hrow', hsz', hget⟩ := row_setCells g ty (0, 0) vs off w ccs hrow (by omega)
  obtain ⟨f1, f2, f3, f4⟩ := setCells_fields g vs off w
  have hbl := AS.bx_lt hb
  refine { h with blen := by simpa [AS.ap] using h.blen, mem := fun g' o c hm => ?_, os := f1.trans h.os, tape := f2.trans h.tape, output := f3.trans h.output, size := by rw [f4]; exact h.size, block := fun k h1 h2 => ?_, box := fun b' cs' hb' => ?_, rho := fun b' g' hb' => ?_, tok := fun t' sp' ht' hs' => ?_ }
  · have hne : g' ≠ g := fun e => by rw [e, hnone] at hm; cases hm
    rw [cell_of_heap (old g' hne)]; exact h.mem g' o c hm
  · have hne : k ≠ g := fun e => by
      subst e
      rcases hbase with x | x
      · omega
      · exact h2 x
    rw [old k hne]; exact h.block k h1 h2
  · rw [AS.bx_set] at hb'
    by_cases e : b' = b
    · subst e
      rw [if_pos ⟨rfl, hbl⟩] at hb'
      cases hb'
      refine ⟨g, hg, ⟨ccs', ty, hrow', by rw [splice_length]; omega, fun i hi => ?_, fun i hi hi' => ?_⟩, hnone, hbase⟩
      · have e1 := hget i
        rw [Array.getElem?_eq_getElem hi] at e1
        split at e1
        · rename_i hc
          rw [List.getElem?_eq_getElem (by omega)] at e1
          rw [Option.some.inj e1]; exact h1 _ _
        · rw [Array.getElem?_eq_getElem (by omega)] at e1
          rw [Option.some.inj e1]; exact hone _ _
      · have e1 := hget i
        have e2 := splice_get news cs off hfit i
        rw [Array.getElem?_eq_getElem hi] at e1
        rw [List.getElem?_eq_getElem hi'] at e2
        split at e1
        · rename_i hc
          rw [if_pos (by omega)] at e2
          rw [List.getElem?_eq_getElem (by omega)] at e1 e2
          rw [Option.some.inj e1, Option.some.inj e2]; exact hr _ _ _
        · rename_i hc
          rw [if_neg (by omega)] at e2
          rw [Array.getElem?_eq_getElem (by omega)] at e1
          rw [List.getElem?_eq_getElem (by omega)] at e2
          rw [Option.some.inj e1, Option.some.inj e2]; exact hrd _ _ _
    · rw [if_neg (fun x => e x.1)] at hb'
      obtain ⟨g', h2, ⟨ccs2, t', h3, h4, h5, h6⟩, h7, h8⟩ := h.box b' cs' hb'
      have hne : g' ≠ g := fun e' => e (h.inj b' b g (e' ▸ h2) hg)
      exact ⟨g', h2, ⟨ccs2, t', by rw [old g' hne]; exact h3, h4, h5, h6⟩, h7, h8⟩
  · obtain ⟨cs', h2⟩ := h.rho b' g' hb'
    rw [AS.bx_set]
    split
    · exact ⟨_, rfl⟩
    · exact ⟨cs', h2⟩
  · obtain ⟨h3, ⟨ccs2, ty2, h4, h5, h6⟩, h7, h8⟩ := h.tok t' sp' ht' hs'
    have hne : sp'.g ≠ g := fun e => h8 b (e ▸ hg)
    exact ⟨h3, ⟨ccs2, ty2, by rw [old _ hne]; exact h4, h5, h6⟩, h7, h8⟩
/-- A token is given up; a token without room is made. -/
theorem SimW.tokdead (h : SimW B M ρ σ s a w) (k : Nat) : SimW B M ρ σ (s.ap (.tok k false)) a w :=
  { h with
    tok := fun t sp ht hs => by
      rw [AS.tk_set] at ht
      split at ht
      · cases ht
      · exact h.tok t sp ht hs
    sig := fun t sp hs => by
      rw [AS.tk_set]
      split
      · simp
      · exact h.sig t sp hs
    tinj := fun t t' sp sp' ht ht' hs hs' hg => by
      rw [AS.tk_set] at ht ht'
      split at ht
      · cases ht
      · split at ht'
        · cases ht'
        · exact h.tinj t t' sp sp' ht ht' hs hs' hg }
theorem SimW.tokfree (h : SimW B M ρ σ s a w) (d : Nat) (hu : s.tk d = none) : SimW B M ρ σ (s.ap (.tok d true)) a w := by
  have hsd : σ d = none := by
    cases hq : σ d with
    | none => rfl
    | some sp => exact absurd hu (h.sig d sp hq)
  exact { h with
    tok := fun t sp ht hs => by
      rw [AS.tk_set] at ht
      split at ht
      · rename_i e; rw [e, hsd] at hs; cases hs
      · exact h.tok t sp ht hs
    sig := fun t sp hs => by
      rw [AS.tk_set]
      split
      · simp
      · exact h.sig t sp hs
    tinj := fun t t' sp sp' ht ht' hs hs' hg => by
      rw [AS.tk_set] at ht ht'
      split at ht
      · rename_i e; rw [e, hsd] at hs; cases hs
      · split at ht'
        · rename_i e; rw [e, hsd] at hs'; cases hs'
        · exact h.tinj t t' sp sp' ht ht' hs hs' hg }
end
end Go.Proofs.Ytecoemdhnphmdaa
