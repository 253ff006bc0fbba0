/- The state of a call: what each change of memory does to it. -/
import Derived.Test.YtdmedeaknnldcaaGreatDoorSymA
import Derived.Deep.MidRow
namespace Go.Proofs.YtdmedeaknnldcaaGreatDoor
open Go.RowKit
set_option linter.unusedVariables false
set_option linter.unusedSimpArgs false
set_option linter.unnecessarySimpa false
def updR (ρ : Rho) (d g : Nat) : Rho := fun b => if b = d then some g else ρ b
def updS (σ : Sig) (d : Nat) (sp : Spare) : Sig := fun b => if b = d then some sp else σ b
def addC (M : Mem) (g lo : Nat) (vs : List Value) : Mem := fun g' o => if g' = g ∧ lo ≤ o ∧ o < lo + vs.length then vs[o - lo]? else M g' o
def splice {α : Type} (cs : List α) (off : Nat) : List α → List α
  | [] => cs
  | v :: r => splice (cs.set off v) (off + 1) r
theorem splice_length {α : Type} : ∀ (new cs : List α) (off : Nat), (splice cs off new).length = cs.length
  | [], _, _ => rfl
  | v :: r, cs, off => by unfold splice; rw [splice_length r]; simp
theorem splice_get {α : Type} : ∀ (new cs : List α) (off : Nat), off + new.length ≤ cs.length → ∀ j,
    (splice cs off new)[j]? = if off ≤ j ∧ j < off + new.length then new[j - off]? else cs[j]?
  | [], cs, off, _, j => by
      have n1 : ¬ (off ≤ j ∧ j < off + ([] : List α).length) := by simp
      rw [if_neg n1]; rfl
  | v :: r, cs, off, h, j => by
    simp only [List.length_cons] at h
    unfold splice
    rw [splice_get r (cs.set off v) (off + 1) (by simp; omega) j]
    by_cases hj : off + 1 ≤ j ∧ j < off + 1 + r.length
    · have n1 : off ≤ j ∧ j < off + (v :: r).length := by simp only [List.length_cons]; omega
      rw [if_pos hj, if_pos n1, show j - off = (j - (off + 1)) + 1 by omega]
      rfl
    · rw [if_neg hj, List.getElem?_set]
      by_cases ho : off = j
      · subst ho
        have n1 : off ≤ off ∧ off < off + (v :: r).length := by simp only [List.length_cons]; omega
        rw [if_pos rfl, if_pos n1, Nat.sub_self, if_pos (by omega)]
        rfl
      · have n1 : ¬ (off ≤ j ∧ j < off + (v :: r).length) := by simp only [List.length_cons]; omega
        rw [if_neg ho, if_neg n1]
theorem heap_lt {w : World} {g : Nat} {o : Obj} (h : w.heap[g]? = some o) : g < w.heap.size := (Array.getElem?_eq_some_iff.1 h).1
theorem cell_lt {w : World} {g o : Nat} {c : Value} (h : w.cell? ⟨g, o, none⟩ = some c) : g < w.heap.size := by
  unfold World.cell? at h
  cases hg : w.heap[g]? with
  | none => simp [hg] at h
  | some x => exact heap_lt hg
theorem heap_set_row {w : World} {g : Nat} {cs : Array Value} {t : TypeId} {fr : Nat × Nat} (i : Nat) (v : Value) (hg : w.heap[g]? = some (.cells cs t fr)) :
    (w.setCell ⟨g, i, none⟩ v).heap[g]? = some (.cells (cs.setIfInBounds i v) t fr) := by
  simp [World.setCell, Array.getElem?_modify, hg]
/-- Many cells of a row are written. -/
theorem row_setCells (g : Nat) (t : TypeId) (fr : Nat × Nat) : ∀ (vs : List Value) (o : Nat) (w : World) (cs : Array Value), w.heap[g]? = some (.cells cs t fr) → o + vs.length ≤ cs.size →
    ∃ cs' : Array Value, (w.setCells g o vs).heap[g]? = some (.cells cs' t fr) ∧ cs'.size = cs.size ∧ ∀ j, cs'[j]? = if o ≤ j ∧ j < o + vs.length then vs[j - o]? else cs[j]?
  | [], o, w, cs, h, _ => ⟨cs, h, rfl, fun j => by
      have n1 : ¬ (o ≤ j ∧ j < o + ([] : List Value).length) := by simp
      rw [if_neg n1]⟩
  | v :: r, o, w, cs, h, hl => by
    simp only [List.length_cons] at hl
    obtain ⟨cs', h1, h2, h3⟩ := row_setCells g t fr r (o + 1) (w.setCell ⟨g, o, none⟩ v) (cs.setIfInBounds o v) (heap_set_row o v h) (by simp; omega)
    refine ⟨cs', h1, by simpa using h2, fun j => ?_⟩
    rw [h3 j]
    by_cases hj : o + 1 ≤ j ∧ j < o + 1 + r.length
    · have n1 : o ≤ j ∧ j < o + (v :: r).length := by simp only [List.length_cons]; omega
      rw [if_pos hj, if_pos n1, show j - o = (j - (o + 1)) + 1 by omega]
      rfl
    · rw [if_neg hj, Array.getElem?_setIfInBounds]
      by_cases ho : o = j
      · subst ho
        have n1 : o ≤ o ∧ o < o + (v :: r).length := by simp only [List.length_cons]; omega
        rw [if_pos rfl, if_pos n1, Nat.sub_self, if_pos (by omega)]
        rfl
      · have n1 : ¬ (o ≤ j ∧ j < o + (v :: r).length) := by simp only [List.length_cons]; omega
        rw [if_neg ho, if_neg n1]
theorem heap_setCells_ne (g : Nat) : ∀ (vs : List Value) (o : Nat) (w : World) (k : Nat), k ≠ g → (w.setCells g o vs).heap[k]? = w.heap[k]?
  | [], _, _, _, _ => rfl
  | v :: r, o, w, k, h => by
    show ((w.setCell ⟨g, o, none⟩ v).setCells g (o + 1) r).heap[k]? = _
    rw [heap_setCells_ne g r (o + 1) _ k h, Below.heap_setCell _ _ _ _ h]
theorem setCells_fields (g : Nat) : ∀ (vs : List Value) (o : Nat) (w : World), (w.setCells g o vs).os = w.os ∧ (w.setCells g o vs).tape = w.tape ∧ (w.setCells g o vs).output = w.output ∧ (w.setCells g o vs).heap.size = w.heap.size
  | [], _, _ => ⟨rfl, rfl, rfl, rfl⟩
  | v :: r, o, w => by
    obtain ⟨h1, h2, h3, h4⟩ := setCells_fields g r (o + 1) (w.setCell ⟨g, o, none⟩ v)
    exact ⟨h1, h2, h3, h4.trans (by simp [World.setCell])⟩
theorem cell_of_heap {w w' : World} {g : Nat} (h : w'.heap[g]? = w.heap[g]?) (o : Nat) : w'.cell? ⟨g, o, none⟩ = w.cell? ⟨g, o, none⟩ := World.cell?_of_block (w := w) h
theorem cell_row {w : World} {g o : Nat} {cs : Array Value} {t : TypeId} (h : At w g cs t) : w.cell? ⟨g, o, none⟩ = cs[o]? := by
  obtain ⟨z, h, -⟩ := h
  simp [World.cell?, h]
theorem At.lt {w : World} {g : Nat} {cs : Array Value} {t : TypeId} (h : At w g cs t) : g < w.heap.size := by
  obtain ⟨z, h, -⟩ := h
  exact heap_lt h
theorem At.uniq {w : World} {g : Nat} {c1 c2 : Array Value} {t1 t2 : TypeId} (h1 : At w g c1 t1) (h2 : At w g c2 t2) : c1 = c2 ∧ t1 = t2 := by
  obtain ⟨z1, h1, -⟩ := h1
  obtain ⟨z2, h2, -⟩ := h2
  rw [h1] at h2
  cases h2
  exact ⟨rfl, rfl⟩
theorem At.of_heap {w w' : World} {g : Nat} {cs : Array Value} {t : TypeId} (h : At w g cs t) (e : w'.heap[g]? = w.heap[g]?) : At w' g cs t := by
  obtain ⟨z, h, hz⟩ := h
  exact ⟨z, by rw [e]; exact h, hz⟩
theorem At.new (w : World) (ccs : Array Value) (t : TypeId) : At (w.alloc (.cells ccs t)) w.heap.size ccs t := ⟨_, heap_alloc_new w _, .inr rfl⟩
theorem At.frz {w : World} {g o : Nat} {ccs : Array Value} {ty : TypeId} (h : At w g ccs ty) (ho : o < ccs.size) : w.frozen? ⟨g, o, none⟩ = false := by
  obtain ⟨⟨z1, z2⟩, h, hz⟩ := h
  simp only [World.frozen?, h]
  rcases hz with q | q
  · have : ¬ z1 ≤ o := by dsimp only at q; omega
    simp [this]
  · cases q; simp
theorem at_setCells (g : Nat) (t : TypeId) (vs : List Value) (o : Nat) (w : World) (cs : Array Value) (h : At w g cs t) (hl : o + vs.length ≤ cs.size) :
    ∃ cs' : Array Value, At (w.setCells g o vs) g cs' t ∧ cs'.size = cs.size ∧ ∀ j, cs'[j]? = if o ≤ j ∧ j < o + vs.length then vs[j - o]? else cs[j]? := by
  obtain ⟨z, h, hz⟩ := h
  obtain ⟨cs', h1, h2, h3⟩ := row_setCells g t z vs o w cs h hl
  exact ⟨cs', ⟨z, h1, by rw [h2]; exact hz⟩, h2, h3⟩
theorem AS.bx_set (s : AS) (b b' : Nat) (cs : Option (List AV)) : (s.ap (.box b cs)).bx b' = if b' = b then cs else s.bx b' := by
  unfold AS.ap AS.bx
  simp only [List.lookup_cons]
  by_cases h : b' = b
  · subst h; simp
  · have e : (b' == b) = false := by simp [h]
    rw [e, if_neg h]
theorem AS.tk_set (s : AS) (t t' : Nat) (x : Bool) : (s.ap (.tok t x)).tk t' = if t' = t then some x else s.tk t' := by
  unfold AS.ap AS.tk
  rw [List.lookup_cons]
  by_cases h : t' = t
  · subst h; simp
  · have e : (t' == t) = false := by simp [h]
    rw [e, if_neg h]
theorem Row.of_heap {w w' : World} {g n : Nat} (h : Row w g n) (e : w'.heap[g]? = w.heap[g]?) : Row w' g n := by
  obtain ⟨ccs, t, h1, h2⟩ := h
  exact ⟨ccs, t, h1.of_heap e, h2⟩
theorem Row.lt {w : World} {g n : Nat} (h : Row w g n) : g < w.heap.size := by
  obtain ⟨ccs, t, h1, -⟩ := h
  exact h1.lt
theorem Hold.of_heap {M M' : Mem} {ρ ρ' : Rho} {σ σ' : Sig} {w w' : World} {g : Nat} {cs : List AV} (h : Hold M ρ σ w g cs) (e : w'.heap[g]? = w.heap[g]?) (up : ∀ c v, Rd M ρ σ c v → Rd M' ρ' σ' c v) : Hold M' ρ' σ' w' g cs := by
  obtain ⟨ccs, t, h1, h2, h3, h4⟩ := h
  exact ⟨ccs, t, h1.of_heap e, h2, h3, fun i x y => up _ _ (h4 i x y)⟩
theorem Hold.lt {M : Mem} {ρ : Rho} {σ : Sig} {w : World} {g : Nat} {cs : List AV} (h : Hold M ρ σ w g cs) : g < w.heap.size := by
  obtain ⟨ccs, t, h1, -⟩ := h
  exact h1.lt
section
variable {B : Base} {M : Mem} {ρ : Rho} {σ : Sig} {s : AS} {a : Act} {w : World}
theorem SimW.free (h : SimW B M ρ σ s a w) {g : Nat} (hg : w.heap.size ≤ g) (o : Nat) : M g o = none := by
  cases hm : M g o with
  | none => rfl
  | some c => have := cell_lt (h.mem g o c hm); omega
theorem SimW.drew (h : SimW B M ρ σ s a w) : SimW B M ρ σ s a w.drew :=
  { h with mem := h.mem, os := h.os, tape := h.tape, output := h.output, size := h.size, block := h.block, box := h.box, rws := h.rws, rlt := h.rlt, cap := h.cap }
theorem addC_sub {M : Mem} {g lo : Nat} {vs : List Value} (h : ∀ o, lo ≤ o → o < lo + vs.length → M g o = none) (g' o : Nat) (c : Value) (hm : M g' o = some c) : addC M g lo vs g' o = some c := by
  unfold addC
  split
  · rename_i hc
    obtain ⟨rfl, h1, h2⟩ := hc
    rw [h o h1 h2] at hm
    cases hm
  · exact hm
theorem SimW.rnone (h : SimW B M ρ σ s a w) {d : Nat} (hb : s.bx d = none) (ht : s.tk (vk d) = none) : ρ d = none := by
  cases hq : ρ d with
  | none => rfl
  | some g => exact absurd (h.rho d g hq) (by simp [hb, ht])
theorem SimW.snone (h : SimW B M ρ σ s a w) {d : Nat} (hu : s.tk d = none) : σ d = none := by
  cases hq : σ d with
  | none => rfl
  | some sp => exact absurd hu (h.sig d sp hq)
theorem updR_up {ρ : Rho} {d g : Nat} (hrd : ρ d = none) (b g' : Nat) (hb : ρ b = some g') : updR ρ d g b = some g' := by
  unfold updR; split
  · rename_i e; subst e; rw [hrd] at hb; cases hb
  · exact hb
theorem updS_up {σ : Sig} {d : Nat} {sp : Spare} (hsd : σ d = none) (k : Nat) (sp' : Spare) (hk : σ k = some sp') : updS σ d sp k = some sp' := by
  unfold updS; split
  · rename_i e; subst e; rw [hsd] at hk; cases hk
  · exact hk
theorem bx_ne {s : AS} {b : Nat} {cs : List AV} (h : s.bx b = some cs) : s.bx b ≠ none := by rw [h]; simp
/-- A variable that is known to lie in its own block is taken over. -/
theorem SimW.adopt (h : SimW B M ρ σ s a w) (d : Nat) (hni : s.nin ≤ d) (hb : s.bx d = none) (ht : s.tk (vk d) = none) (g : Nat) (cs : List AV) (hh : Hold M ρ σ w g cs) (hn : ∀ o, M g o = none) (hbase : B.w0.heap.size ≤ g) (hr : ∀ b, s.bx b ≠ none → ρ b ≠ some g) (htk : ∀ t sp, s.tk t = some true → σ t = some sp → sp.g ≠ g) :
    SimW B M (updR ρ d g) σ (s.ap (.box d (some cs))) a w := by
  have hrd := h.rnone hb ht
  have up := updR_up (g := g) hrd
  have upR : ∀ c v, Rd M ρ σ c v → Rd M (updR ρ d g) σ c v := fun c v hr' => hr'.up up fun _ _ h => h
  refine { h with own := fun k hk hbk => ?_, fresh := fun b g' hn' hr' => ?_, env := fun t => upR _ _ (h.env t), box := fun b cs' hb' => ?_, rlt := fun b g' hr' => ?_, rho := fun b g' hr' => ?_, inj := fun b b' g' h1 h2 h3 h4 => ?_, tok := fun t sp h1 h2 => ?_ }
  · have hk' : k < s.nin := hk
    rw [AS.bx_set, if_neg (by omega)] at hbk
    unfold updR
    rw [if_neg (by omega)]
    exact h.own k hk' hbk
  · unfold updR at hr'
    split at hr'
    · cases hr'; exact hbase
    · exact h.fresh b g' hn' hr'
  · rw [AS.bx_set] at hb'
    by_cases hbd : b = d
    · subst hbd
      rw [if_pos rfl] at hb'
      cases hb'
      exact .inr ⟨g, by simp [updR], hh.of_heap rfl upR, hn, .inl hbase⟩
    · rw [if_neg hbd] at hb'
      rcases h.box b cs' hb' with ⟨e1, e2⟩ | ⟨g', q1, q2, q3, q4⟩
      · exact .inl ⟨e1, by unfold updR; rw [if_neg hbd]; exact e2⟩
      · exact .inr ⟨g', up b g' q1, q2.of_heap rfl upR, q3, q4⟩
  · unfold updR at hr'
    split at hr'
    · cases hr'; exact hh.lt
    · exact h.rlt b g' hr'
  · rw [AS.bx_set]
    unfold updR at hr'
    split at hr'
    · rename_i e; rw [if_pos e]; simp
    · rename_i e; rw [if_neg e]; exact h.rho b g' hr'
  · rw [AS.bx_set] at h1 h2
    unfold updR at h3 h4
    by_cases e1 : b = d
    · by_cases e2 : b' = d
      · rw [e1, e2]
      · rw [if_pos e1] at h3
        rw [if_neg e2] at h4 h2
        cases h3
        exact absurd h4 (hr _ h2)
    · rw [if_neg e1] at h3 h1
      by_cases e2 : b' = d
      · rw [if_pos e2] at h4
        cases h4
        exact absurd h3 (hr _ h1)
      · rw [if_neg e2] at h4 h2
        exact h.inj b b' g' h1 h2 h3 h4
  · obtain ⟨q1, q2, q3, q4⟩ := h.tok t sp h1 h2
    refine ⟨q1, q2, q3, fun b hbb e => ?_⟩
    rw [AS.bx_set] at hbb
    unfold updR at e
    split at e
    · exact htk t sp h1 h2 (Option.some.inj e).symm
    · rename_i hne; rw [if_neg hne] at hbb; exact q4 b hbb e
/-- A variable that holds nothing. -/
theorem SimW.ghost (h : SimW B M ρ σ s a w) (d : Nat) (hni : s.nin ≤ d) (hb : s.bx d = none) (ht : s.tk (vk d) = none) : SimW B M ρ σ (s.ap (.box d (some []))) a w := by
  have hrd := h.rnone hb ht
  refine { h with own := fun k hk hbk => ?_, box := fun b cs' hb' => ?_, rho := fun b g' hr' => ?_, inj := fun b b' g' h1 h2 h3 h4 => ?_, tok := fun t sp h1 h2 => ?_ }
  · have hk' : k < s.nin := hk
    rw [AS.bx_set, if_neg (by omega)] at hbk
    exact h.own k hk' hbk
  · rw [AS.bx_set] at hb'
    by_cases hbd : b = d
    · subst hbd
      rw [if_pos rfl] at hb'
      cases hb'
      exact .inl ⟨rfl, hrd⟩
    · rw [if_neg hbd] at hb'
      exact h.box b cs' hb'
  · rw [AS.bx_set]
    by_cases e : b = d
    · subst e; rw [hrd] at hr'; cases hr'
    · rw [if_neg e]; exact h.rho b g' hr'
  · rw [AS.bx_set] at h1 h2
    by_cases e1 : b = d
    · subst e1; rw [hrd] at h3; cases h3
    · by_cases e2 : b' = d
      · subst e2; rw [hrd] at h4; cases h4
      · rw [if_neg e1] at h1; rw [if_neg e2] at h2; exact h.inj b b' g' h1 h2 h3 h4
  · obtain ⟨q1, q2, q3, q4⟩ := h.tok t sp h1 h2
    refine ⟨q1, q2, q3, fun b hbb e => ?_⟩
    rw [AS.bx_set] at hbb
    by_cases hbd : b = d
    · subst hbd; rw [hrd] at e; cases e
    · rw [if_neg hbd] at hbb; exact q4 b hbb e
/-- A variable is given up. -/
theorem SimW.drop (h : SimW B M ρ σ s a w) (d : Nat) (ht : s.tk (vk d) ≠ none) : SimW B M ρ σ (s.ap (.box d none)) a w := by
  have hne : ∀ b, (s.ap (.box d none)).bx b ≠ none → b ≠ d ∧ s.bx b ≠ none := fun b hb => by
    rw [AS.bx_set] at hb
    by_cases e : b = d
    · rw [if_pos e] at hb; exact absurd rfl hb
    · rw [if_neg e] at hb; exact ⟨e, hb⟩
  refine { h with own := fun k hk hbk => h.own k hk (hne k hbk).2, box := fun b cs' hb' => ?_, rho := fun b g' hr' => ?_, inj := fun b b' g' h1 h2 h3 h4 => h.inj b b' g' (hne b h1).2 (hne b' h2).2 h3 h4, tok := fun t sp h1 h2 => ?_ }
  · have := hne b (bx_ne hb')
    rw [AS.bx_set, if_neg this.1] at hb'
    exact h.box b cs' hb'
  · by_cases e : b = d
    · subst e; exact .inr ht
    · rw [AS.bx_set, if_neg e]; exact h.rho b g' hr'
  · obtain ⟨q1, q2, q3, q4⟩ := h.tok t sp h1 h2
    exact ⟨q1, q2, q3, fun b hbb => q4 b (hne b hbb).2⟩
/-- A block is laid behind all. -/
theorem SimW.alloc (h : SimW B M ρ σ s a w) (o : Obj) : SimW B M ρ σ s a (w.alloc o) := by
  have old : ∀ k, k < w.heap.size → (w.alloc o).heap[k]? = w.heap[k]? := fun k hk => Below.heap_alloc w _ k hk
  have hs : w.heap.size ≤ (w.alloc o).heap.size := by simp
  have h_rws : ∀ g n, Row B.w0 g n → Row (w.alloc o) g n := fun g n hr => by
    have := h.rws g n hr
    exact this.of_heap (old _ this.lt)
  refine { h with mem := fun g o c hm => ?_, size := Nat.le_trans h.size hs, block := fun k h1 h2 h3 => ?_, box := fun b cs' hb => ?_, rws := h_rws, rlt := fun b g hr => Nat.lt_of_lt_of_le (h.rlt b g hr) hs, cap := fun t sp hs' => ?_ }
  · rw [cell_of_heap (old g (cell_lt (h.mem g o c hm)))]; exact h.mem g o c hm
  · rw [old k (Nat.lt_of_lt_of_le h1 h.size)]; exact h.block k h1 h2 h3
  · rcases h.box b cs' hb with e | ⟨g, q1, q2, q3, q4⟩
    · exact .inl e
    · exact .inr ⟨g, q1, q2.of_heap (old g q2.lt) fun _ _ h => h, q3, q4⟩
  · have := h.cap t sp hs'
    exact this.of_heap (old _ this.lt)
/-- A mark. -/
theorem SimW.mark (h : SimW B M ρ σ s a w) (t : Nat) (ht : s.tk t = none) : SimW B M ρ σ (s.ap (.tok t false)) a w := by
  have e : ∀ t', (s.ap (.tok t false)).tk t' = if t' = t then some false else s.tk t' := fun t' => AS.tk_set s t t' false
  have ne : ∀ t', (s.ap (.tok t false)).tk t' = some true → s.tk t' = some true := fun t' h' => by
    rw [e] at h'
    split at h'
    · cases h'
    · exact h'
  have h_nink : ∀ k, k < s.nin → (s.ap (.tok t false)).tk (vk k) ≠ none := fun k hk => by
    rw [e]
    split
    · simp
    · exact h.nink k hk
  refine { h with nink := h_nink, rho := fun b g hr => ?_, tok := fun t' sp h1 h2 => h.tok t' sp (ne t' h1) h2, sig := fun t' sp hs => ?_, tinj := fun t1 t2 sp sp' h1 h2 => h.tinj t1 t2 sp sp' (ne _ h1) (ne _ h2) }
  · rcases h.rho b g hr with q | q
    · exact .inl q
    · refine .inr ?_
      rw [e]
      split
      · simp
      · exact q
  · rw [e]
    split
    · simp
    · exact h.sig t' sp hs
/-- The end of a variable over which slices lie. -/
theorem SimW.setcap (h : SimW B M ρ σ s a w) (t : Nat) (ht : s.tk t = none) (sp : Spare) (hr : Row w sp.g sp.hi) : SimW B M ρ (updS σ t sp) (s.ap (.tok t false)) a w := by
  have h' := h.mark t ht
  have hst := h.snone ht
  have ups := updS_up (sp := sp) hst
  have upR : ∀ c v, Rd M ρ σ c v → Rd M ρ (updS σ t sp) c v := fun c v hr' => hr'.up (fun _ _ h => h) ups
  have e : ∀ t', (s.ap (.tok t false)).tk t' = if t' = t then some false else s.tk t' := fun t' => AS.tk_set s t t' false
  have ne : ∀ t' sp', (s.ap (.tok t false)).tk t' = some true → updS σ t sp t' = some sp' → σ t' = some sp' := fun t' sp' h1 h2 => by
    rw [e] at h1
    unfold updS at h2
    split at h1
    · cases h1
    · rename_i hne; rw [if_neg hne] at h2; exact h2
  have h_capB : ∀ k, k < s.nin → ∀ sp', (updS σ t sp) (vk k) = some sp' → B.cap0 k = some sp' := fun k hk sp' hs' => by
    unfold updS at hs'
    split at hs'
    · rename_i e0; exact absurd ht (e0 ▸ h.nink k hk)
    · exact h.capB k hk sp' hs'
  refine { h' with capB := h_capB, env := fun t => upR _ _ (h.env t), box := fun b cs' hb => ?_, tok := fun t' sp' h1 h2 => h'.tok t' sp' h1 (ne _ _ h1 h2), cap := fun t' sp' h2 => ?_, sig := fun t' sp' h2 => ?_, tinj := fun t1 t2 sp1 sp2 h1 h2 q1 q2 => h'.tinj t1 t2 sp1 sp2 h1 h2 (ne _ _ h1 q1) (ne _ _ h2 q2) }
  · rcases h.box b cs' hb with e | ⟨g, q1, q2, q3, q4⟩
    · exact .inl e
    · exact .inr ⟨g, q1, q2.of_heap rfl upR, q3, q4⟩
  · unfold updS at h2
    split at h2
    · cases h2; exact hr
    · exact h.cap t' sp' h2
  · unfold updS at h2
    split at h2
    · rename_i e2; rw [e, if_pos e2]; simp
    · exact h'.sig t' sp' h2
/-- A new variable. -/
theorem SimW.newbox (h : SimW B M ρ σ s a w) (d : Nat) (hni : s.nin ≤ d) (hf : s.bx d = none) (ht : s.tk (vk d) = none) (ccs : Array Value) (t : TypeId) (cs : List AV) (hl : cs.length ≤ ccs.size)
    (h1 : ∀ i (h : i < ccs.size), i < cs.length → (ccs[i]).oneCell' = true) (hr : ∀ i (h : i < ccs.size) (h' : i < cs.length), Rd M ρ σ ccs[i] cs[i]) :
    SimW B M (updR ρ d w.heap.size) σ (s.ap (.box d (some cs))) a (w.alloc (.cells ccs t)) :=
  (h.alloc (.cells ccs t)).adopt d hni hf ht w.heap.size cs ⟨ccs, t, At.new w _ _, hl, h1, hr⟩ (fun o => h.free (Nat.le_refl _) o) h.size (fun b _ e => Nat.lt_irrefl _ (h.rlt b _ e)) (fun t sp _ h2 e => by have := (h.cap t sp h2).lt; omega)
/-- The cells of a block that nobody knows become known up to a place, with a token for the room behind it. -/
theorem SimW.know (h : SimW B M ρ σ s a w) (d : Nat) (hu : s.tk d = none) (g : Nat) (ccs : Array Value) (t : TypeId) (hg : At w g ccs t) (hbase : B.w0.heap.size ≤ g) (hn : ∀ o, M g o = none) (hr : ∀ b, s.bx b ≠ none → ρ b ≠ some g) (htk : ∀ t sp, s.tk t = some true → σ t = some sp → sp.g ≠ g) (f hi : Nat) (hf : f ≤ hi) (hhi : hi ≤ ccs.size) :
    SimW B (addC M g 0 (ccs.toList.take f)) ρ (updS σ d ⟨g, f, hi⟩) (s.ap (.tok d true)) a w := by
  have hsd := h.snone hu
  have ups := updS_up (sp := ⟨g, f, hi⟩) hsd
  have hlen : (ccs.toList.take f).length = f := by simp; omega
  have sub : ∀ g' o c, M g' o = some c → addC M g 0 (ccs.toList.take f) g' o = some c := addC_sub fun o _ _ => hn o
  have ne : ∀ g' o, g' ≠ g → addC M g 0 (ccs.toList.take f) g' o = M g' o := fun g' o hg' => by unfold addC; rw [if_neg (fun e => hg' e.1)]
  have upR : ∀ c v, Rd M ρ σ c v → Rd (addC M g 0 (ccs.toList.take f)) ρ (updS σ d ⟨g, f, hi⟩) c v := fun c v hr' => hr'.mono sub _ _ (fun _ _ h => h) ups
  have e : ∀ t', (s.ap (.tok d true)).tk t' = if t' = d then some true else s.tk t' := fun t' => AS.tk_set s d t' true
  have h_capB : ∀ k, k < s.nin → ∀ sp', (updS σ d ⟨g, f, hi⟩) (vk k) = some sp' → B.cap0 k = some sp' := fun k hk sp' hs' => by
    unfold updS at hs'
    split at hs'
    · rename_i e0; exact absurd hu (e0 ▸ h.nink k hk)
    · exact h.capB k hk sp' hs'
  have h_nink : ∀ k, k < s.nin → (s.ap (.tok d true)).tk (vk k) ≠ none := fun k hk => by
    rw [e]
    split
    · simp
    · exact h.nink k hk
  refine { h with capB := h_capB, nink := h_nink, env := fun t => upR _ _ (h.env t), mem := fun g' o c hm => ?_, memB := fun g' o hg' h2 => ?_, memS := fun g' o c hm => sub _ _ _ (h.memS g' o c hm), box := fun b cs' hb => ?_, rho := fun b g' hr' => ?_, tok := fun t' sp ht hs => ?_, cap := fun t' sp hs => ?_, sig := fun t' sp ht => ?_, tinj := fun t1 t2 sp sp' ht1 ht2 hs1 hs2 hgg => ?_ }
  · unfold addC at hm
    split at hm
    · rename_i hc
      obtain ⟨rfl, -, h2⟩ := hc
      rw [cell_row hg]
      rw [hlen] at h2
      rw [Nat.sub_zero, List.getElem?_take_of_lt (by omega)] at hm
      simpa using hm
    · exact h.mem g' o c hm
  · rw [ne g' o (by omega)]; exact h.memB g' o hg' h2
  · rcases h.box b cs' hb with e | ⟨g', q1, q2, q3, q4⟩
    · exact .inl e
    · have : g' ≠ g := fun e => hr b (bx_ne hb) (e ▸ q1)
      exact .inr ⟨g', q1, q2.of_heap rfl upR, fun o => by rw [ne g' o this]; exact q3 o, q4⟩
  · rcases h.rho b g' hr' with q | q
    · exact .inl q
    · refine .inr ?_
      rw [e]
      split
      · simp
      · exact q
  · rw [e] at ht
    unfold updS at hs
    by_cases htd : t' = d
    · rw [if_pos htd] at hs
      cases hs
      refine ⟨.inl hbase, hf, fun o h1 h2 => ?_, hr⟩
      unfold addC
      have n1 : ¬ (g = g ∧ 0 ≤ o ∧ o < 0 + (ccs.toList.take f).length) := by rw [hlen]; dsimp only at h1; omega
      rw [if_neg n1]
      exact hn o
    · rw [if_neg htd] at ht hs
      obtain ⟨h3, h4, h7, h8⟩ := h.tok t' sp ht hs
      have := htk t' sp ht hs
      exact ⟨h3, h4, fun o x y => by rw [ne _ o this]; exact h7 o x y, h8⟩
  · unfold updS at hs
    split at hs
    · cases hs; exact ⟨ccs, t, hg, hhi⟩
    · exact h.cap t' sp hs
  · rw [e]
    split
    · simp
    · rename_i hc
      unfold updS at ht
      rw [if_neg hc] at ht
      exact h.sig t' sp ht
  · rw [e] at ht1 ht2
    unfold updS at hs1 hs2
    by_cases e1 : t1 = d
    · by_cases e2 : t2 = d
      · rw [e1, e2]
      · rw [if_pos e1] at hs1
        rw [if_neg e2] at ht2 hs2
        cases hs1
        exact absurd hgg.symm (htk _ _ ht2 hs2)
    · rw [if_neg e1] at ht1 hs1
      by_cases e2 : t2 = d
      · rw [if_pos e2] at hs2
        cases hs2
        exact absurd hgg (htk _ _ ht1 hs1)
      · rw [if_neg e2] at ht2 hs2
        exact h.tinj t1 t2 sp sp' ht1 ht2 hs1 hs2 hgg
/-- A new row that is known up to a place, and has room behind it. -/
theorem SimW.newrow (h : SimW B M ρ σ s a w) (d : Nat) (hu : s.tk d = none) (ccs : Array Value) (t : TypeId) (f : Nat) (hf : f ≤ ccs.size) :
    SimW B (addC M w.heap.size 0 (ccs.toList.take f)) ρ (updS σ d ⟨w.heap.size, f, ccs.size⟩) (s.ap (.tok d true)) a (w.alloc (.cells ccs t)) :=
  (h.alloc (.cells ccs t)).know d hu w.heap.size ccs t (At.new w _ _) h.size (fun o => h.free (Nat.le_refl _) o) (fun b _ e => Nat.lt_irrefl _ (h.rlt b _ e)) (fun t sp _ h2 e => by have := (h.cap t sp h2).lt; omega) f ccs.size hf (Nat.le_refl _)
/-- The room behind a slice is filled. -/
theorem SimW.inplace (h : SimW B M ρ σ s a w) (t d : Nat) (ht : s.tk t = some true) (sp : Spare) (hsp : σ t = some sp) (vs : List Value) (hfit : sp.lo + vs.length ≤ sp.hi) (hu : s.tk d = none) :
    SimW B (addC M sp.g sp.lo vs) ρ (updS σ d ⟨sp.g, sp.lo + vs.length, sp.hi⟩) ((s.ap (.tok t false)).ap (.tok d true)) a (w.setCells sp.g sp.lo vs) := by
  have hsd := h.snone hu
  have htd : t ≠ d := fun e => by rw [e, hu] at ht; cases ht
  obtain ⟨hbase, hlo, hnone, hrho⟩ := h.tok t sp ht hsp
  obtain ⟨ccs, ty, hrow, hhi⟩ := h.cap t sp hsp
  have ups := updS_up (sp := ⟨sp.g, sp.lo + vs.length, sp.hi⟩) hsd
  have sub : ∀ g o c, M g o = some c → addC M sp.g sp.lo vs g o = some c := addC_sub fun o h1 h2 => hnone o h1 (by omega)
  have ne : ∀ g o, g ≠ sp.g → addC M sp.g sp.lo vs g o = M g o := fun g o hg => by unfold addC; rw [if_neg (fun e => hg e.1)]
  have old : ∀ k, k ≠ sp.g → (w.setCells sp.g sp.lo vs).heap[k]? = w.heap[k]? := fun k hk => heap_setCells_ne _ _ _ _ _ hk
  obtain ⟨ccs', hrow', hsz, hget⟩ := at_setCells sp.g ty vs sp.lo w ccs hrow (by omega)
  obtain ⟨f1, f2, f3, f4⟩ := setCells_fields sp.g vs sp.lo w
  have upR : ∀ c v, Rd M ρ σ c v → Rd (addC M sp.g sp.lo vs) ρ (updS σ d ⟨sp.g, sp.lo + vs.length, sp.hi⟩) c v := fun c v hr' => hr'.mono sub _ _ (fun _ _ h => h) ups
  have rowold : ∀ g n, Row w g n → Row (w.setCells sp.g sp.lo vs) g n := fun g n hr => by
    by_cases e : g = sp.g
    · subst e
      obtain ⟨c2, t2, q1, q2⟩ := hr
      obtain ⟨rfl, rfl⟩ := hrow.uniq q1
      exact ⟨ccs', ty, hrow', by omega⟩
    · exact hr.of_heap (old g e)
  have tkq : ∀ t', ((s.ap (.tok t false)).ap (.tok d true)).tk t' = if t' = d then some true else if t' = t then some false else s.tk t' := fun t' => by
    rw [AS.tk_set, AS.tk_set]
  have h_capB : ∀ k, k < s.nin → ∀ sp', (updS σ d ⟨sp.g, sp.lo + vs.length, sp.hi⟩) (vk k) = some sp' → B.cap0 k = some sp' := fun k hk sp' hs' => by
    unfold updS at hs'
    split at hs'
    · rename_i e0; exact absurd hu (e0 ▸ h.nink k hk)
    · exact h.capB k hk sp' hs'
  have h_nink : ∀ k, k < s.nin → ((s.ap (.tok t false)).ap (.tok d true)).tk (vk k) ≠ none := fun k hk => by
    rw [tkq]
    split
    · simp
    · split
      · simp
      · exact h.nink k hk
  refine { h with capB := h_capB, nink := h_nink, env := fun t => upR _ _ (h.env t), mem := fun g o c hm => ?_, memB := fun g o hg h2 => ?_, memS := fun g o c hm => sub _ _ _ (h.memS g o c hm), os := f1.trans h.os, tape := f2.trans h.tape, output := f3.trans h.output, size := by rw [f4]; exact h.size, block := fun k h1 h2 h3 => ?_, box := fun b cs' hb => ?_, rws := fun g n hr => rowold g n (h.rws g n hr), rlt := fun b g hr => by rw [f4]; exact h.rlt b g hr, rho := fun b g' hr' => ?_, tok := fun t' sp' ht' hs' => ?_, cap := fun t' sp' hs' => ?_, sig := fun t' sp' ht' => ?_, tinj := fun t1 t2 sp1 sp2 ht1 ht2 hs1 hs2 hg => ?_ }
  · unfold addC at hm
    split at hm
    · rename_i hc
      obtain ⟨rfl, h1, h2⟩ := hc
      rw [cell_row hrow', hget, if_pos ⟨h1, h2⟩]; exact hm
    · rename_i hc
      by_cases hg : g = sp.g
      · subst hg
        rw [cell_row hrow', hget, if_neg (fun e => hc ⟨rfl, e⟩), ← cell_row hrow]; exact h.mem _ o c hm
      · rw [cell_of_heap (old g hg)]; exact h.mem g o c hm
  · have : g ≠ sp.g := fun e => by
      subst e
      rcases hbase with q | q
      · omega
      · exact h2 q
    rw [ne g o this]; exact h.memB g o hg h2
  · have : k ≠ sp.g := fun e => by
      subst e
      rcases hbase with q | q
      · omega
      · exact h3 q
    rw [old k this]; exact h.block k h1 h2 h3
  · rcases h.box b cs' hb with e | ⟨g, q1, q2, q3, q4⟩
    · exact .inl e
    · have hne : g ≠ sp.g := fun e => hrho b (bx_ne hb) (e ▸ q1)
      exact .inr ⟨g, q1, q2.of_heap (old g hne) upR, fun o => by rw [ne g o hne]; exact q3 o, q4⟩
  · rcases h.rho b g' hr' with q | q
    · exact .inl q
    · refine .inr ?_
      rw [tkq]
      split
      · simp
      · split
        · simp
        · exact q
  · rw [tkq] at ht'
    by_cases e1 : t' = d
    · subst e1
      have hs2 : sp' = ⟨sp.g, sp.lo + vs.length, sp.hi⟩ := by simp [updS] at hs'; exact hs'.symm
      subst hs2
      refine ⟨hbase, hfit, fun o h1 h2 => ?_, hrho⟩
      unfold addC
      have n1 : ¬ (sp.g = sp.g ∧ sp.lo ≤ o ∧ o < sp.lo + vs.length) := by dsimp only at h1; omega
      rw [if_neg n1]
      exact hnone o (by dsimp only at h1; omega) h2
    · rw [if_neg e1] at ht'
      by_cases e2 : t' = t
      · rw [if_pos e2] at ht'; cases ht'
      · rw [if_neg e2] at ht'
        unfold updS at hs'
        rw [if_neg e1] at hs'
        obtain ⟨h3, h4, h7, h8⟩ := h.tok t' sp' ht' hs'
        have hne : sp'.g ≠ sp.g := fun e => e2 (h.tinj t' t sp' sp ht' ht hs' hsp e)
        exact ⟨h3, h4, fun o x y => by rw [ne _ o hne]; exact h7 o x y, h8⟩
  · unfold updS at hs'
    split at hs'
    · cases hs'; exact ⟨ccs', ty, hrow', by dsimp only; omega⟩
    · exact rowold _ _ (h.cap t' sp' hs')
  · rw [tkq]
    unfold updS at ht'
    split at ht'
    · rename_i e; rw [if_pos e]; simp
    · rename_i e
      rw [if_neg e]
      split
      · simp
      · exact h.sig t' sp' ht'
  · rw [tkq] at ht1 ht2
    unfold updS at hs1 hs2
    have key : ∀ t', t' ≠ t → ∀ sp', s.tk t' = some true → σ t' = some sp' → sp'.g ≠ sp.g := fun t' hne sp' h1 h2 e => hne (h.tinj t' t sp' sp h1 ht h2 hsp e)
    by_cases e1 : t1 = d
    · by_cases e2 : t2 = d
      · rw [e1, e2]
      · rw [if_pos e1] at hs1
        rw [if_neg e2] at ht2 hs2
        by_cases e3 : t2 = t
        · rw [if_pos e3] at ht2; cases ht2
        · rw [if_neg e3] at ht2
          cases hs1
          exact absurd hg.symm (key _ e3 _ ht2 hs2)
    · rw [if_neg e1] at ht1 hs1
      by_cases e3 : t1 = t
      · rw [if_pos e3] at ht1; cases ht1
      · rw [if_neg e3] at ht1
        by_cases e2 : t2 = d
        · rw [if_pos e2] at hs2
          cases hs2
          exact absurd hg (key _ e3 _ ht1 hs1)
        · rw [if_neg e2] at ht2 hs2
          by_cases e4 : t2 = t
          · rw [if_pos e4] at ht2; cases ht2
          · rw [if_neg e4] at ht2
            exact h.tinj t1 t2 sp1 sp2 ht1 ht2 hs1 hs2 hg
/-- A variable is written. -/
theorem SimW.store (h : SimW B M ρ σ s a w) (b g : Nat) (cs : List AV) (hb : s.bx b = some cs) (hg : ρ b = some g) (off : Nat) (vs : List Value) (news : List AV) (hl : vs.length = news.length) (hfit : off + news.length ≤ cs.length)
    (h1 : ∀ i (h : i < vs.length), (vs[i]).oneCell' = true) (hr : ∀ i (h : i < vs.length) (h' : i < news.length), Rd M ρ σ vs[i] news[i]) :
    SimW B M ρ σ (s.ap (.box b (some (splice cs off news)))) a (w.setCells g off vs) := by
  have hbn := bx_ne hb
  rcases h.box b cs hb with ⟨-, e⟩ | ⟨g0, hg0, ⟨ccs, ty, hrow, hsz, hone, hrd⟩, hnone, hbase⟩
  · rw [hg] at e; cases e
  rw [hg] at hg0
  cases hg0
  have old : ∀ k, k ≠ g → (w.setCells g off vs).heap[k]? = w.heap[k]? := fun k hk => heap_setCells_ne _ _ _ _ _ hk
  obtain ⟨ccs', hrow', hsz', hget⟩ := at_setCells g ty vs off w ccs hrow (by omega)
  obtain ⟨f1, f2, f3, f4⟩ := setCells_fields g vs off w
  have hne' : ∀ b', (s.ap (.box b (some (splice cs off news)))).bx b' ≠ none → s.bx b' ≠ none := fun b' hb' => by
    rw [AS.bx_set] at hb'
    split at hb'
    · rename_i e; rw [e]; exact hbn
    · exact hb'
  have rowold : ∀ g' n, Row w g' n → Row (w.setCells g off vs) g' n := fun g' n hr => by
    by_cases e : g' = g
    · subst e
      obtain ⟨c2, t2, q1, q2⟩ := hr
      obtain ⟨rfl, rfl⟩ := hrow.uniq q1
      exact ⟨ccs', ty, hrow', by omega⟩
    · exact hr.of_heap (old g' e)
  refine { h with own := fun k hk hbk => h.own k hk (hne' k hbk), mem := fun g' o c hm => ?_, os := f1.trans h.os, tape := f2.trans h.tape, output := f3.trans h.output, size := by rw [f4]; exact h.size, block := fun k h1 h2 h3 => ?_, box := fun b' cs' hb' => ?_, rws := fun g n hr => rowold g n (h.rws g n hr), rlt := fun b' g' hr' => by rw [f4]; exact h.rlt b' g' hr', rho := fun b' g' hb' => ?_, inj := fun b1 b2 g' q1 q2 q3 q4 => h.inj b1 b2 g' (hne' _ q1) (hne' _ q2) q3 q4, tok := fun t' sp' ht' hs' => ?_, cap := fun t sp hs => rowold _ _ (h.cap t sp hs) }
  · have hne : g' ≠ g := fun e => by rw [e, hnone] at hm; cases hm
    rw [cell_of_heap (old g' hne)]; exact h.mem g' o c hm
  · have hne : k ≠ g := fun e => by
      subst e
      rcases hbase with x | x
      · omega
      · exact h2 x
    rw [old k hne]; exact h.block k h1 h2 h3
  · rw [AS.bx_set] at hb'
    by_cases e : b' = b
    · subst e
      rw [if_pos rfl] at hb'
      cases hb'
      refine .inr ⟨g, hg, ⟨ccs', ty, hrow', by rw [splice_length]; omega, fun i hi hi' => ?_, fun i hi hi' => ?_⟩, hnone, hbase⟩
      · rw [splice_length] at hi'
        have e1 := hget i
        rw [Array.getElem?_eq_getElem hi] at e1
        split at e1
        · rename_i hc
          rw [List.getElem?_eq_getElem (by omega)] at e1
          rw [Option.some.inj e1]; exact h1 _ _
        · rw [Array.getElem?_eq_getElem (by omega)] at e1
          rw [Option.some.inj e1]; exact hone _ _ hi'
      · have e1 := hget i
        have e2 := splice_get news cs off hfit i
        rw [Array.getElem?_eq_getElem hi] at e1
        rw [List.getElem?_eq_getElem hi'] at e2
        rw [splice_length] at hi'
        split at e1
        · rename_i hc
          rw [if_pos (by omega)] at e2
          rw [List.getElem?_eq_getElem (by omega)] at e1 e2
          rw [Option.some.inj e1, Option.some.inj e2]; exact hr _ _ _
        · rename_i hc
          rw [if_neg (by omega)] at e2
          rw [Array.getElem?_eq_getElem (by omega)] at e1
          rw [List.getElem?_eq_getElem (by omega)] at e2
          rw [Option.some.inj e1, Option.some.inj e2]; exact hrd _ _ _
    · rw [if_neg e] at hb'
      rcases h.box b' cs' hb' with q | ⟨g', q1, q2, q3, q4⟩
      · exact .inl q
      · have hne : g' ≠ g := fun e' => e (h.inj b' b g (bx_ne hb') hbn (e' ▸ q1) hg)
        exact .inr ⟨g', q1, q2.of_heap (old g' hne) fun _ _ h => h, q3, q4⟩
  · rw [AS.bx_set]
    split
    · exact .inl (by simp)
    · exact h.rho b' g' hb'
  · obtain ⟨h3, h4, h7, h8⟩ := h.tok t' sp' ht' hs'
    exact ⟨h3, h4, h7, fun b' hb' => h8 b' (hne' b' hb')⟩
/-- A variable is read otherwise. -/
theorem SimW.rebox (h : SimW B M ρ σ s a w) {b : Nat} {cs0 : List AV} (hb : s.bx b = some cs0) (cs : List AV) (hh : (cs = [] ∧ ρ b = none) ∨ ∃ g, ρ b = some g ∧ Hold M ρ σ w g cs) : SimW B M ρ σ (s.ap (.box b (some cs))) a w := by
  have hbn := bx_ne hb
  have hne' : ∀ b', (s.ap (.box b (some cs))).bx b' ≠ none → s.bx b' ≠ none := fun b' hb' => by
    rw [AS.bx_set] at hb'
    split at hb'
    · rename_i e; rw [e]; exact hbn
    · exact hb'
  refine { h with own := fun k hk hbk => h.own k hk (hne' k hbk), box := fun b' cs' hb' => ?_, rho := fun b' g' hb' => ?_, inj := fun b1 b2 g' q1 q2 q3 q4 => h.inj b1 b2 g' (hne' _ q1) (hne' _ q2) q3 q4, tok := fun t' sp' ht' hs' => ?_ }
  · rw [AS.bx_set] at hb'
    by_cases e : b' = b
    · subst e
      rw [if_pos rfl] at hb'
      cases hb'
      rcases hh with q | ⟨g, q1, q2⟩
      · exact .inl q
      · rcases h.box b' cs0 hb with ⟨-, q⟩ | ⟨g', p1, -, p3, p4⟩
        · rw [q1] at q; cases q
        · rw [q1] at p1; cases p1
          exact .inr ⟨g, q1, q2, p3, p4⟩
    · rw [if_neg e] at hb'
      exact h.box b' cs' hb'
  · rw [AS.bx_set]
    split
    · exact .inl (by simp)
    · exact h.rho b' g' hb'
  · obtain ⟨h3, h4, h7, h8⟩ := h.tok t' sp' ht' hs'
    exact ⟨h3, h4, h7, fun b' hb' => h8 b' (hne' b' hb')⟩
theorem SimW.samebox (h : SimW B M ρ σ s a w) {b : Nat} {cs : List AV} (hb : s.bx b = some cs) : SimW B M ρ σ (s.ap (.box b (some cs))) a w :=
  h.rebox hb cs ((h.box b cs hb).imp id fun ⟨g, q1, q2, _⟩ => ⟨g, q1, q2⟩)
/-- A slot is read otherwise. -/
theorem SimW.reread (h : SimW B M ρ σ s a w) (t : Nat) (v : AV) (hr : Rd M ρ σ (a.tmps.getD t undef) v) : SimW B M ρ σ (s.ap (.env t v)) a w :=
  { h with
    len := by simp [AS.ap, h.len]
    env := fun t' => by
      rw [AS.at_set]
      split
      · rename_i e; rw [e.1]; exact hr
      · exact h.env t' }
/-- A token is given up; a token without room is made. -/
theorem SimW.tokdead (h : SimW B M ρ σ s a w) (k : Nat) : SimW B M ρ σ (s.ap (.tok k false)) a w := by
  have e : ∀ t', (s.ap (.tok k false)).tk t' = if t' = k then some false else s.tk t' := fun t' => AS.tk_set s k t' false
  have ne : ∀ t', (s.ap (.tok k false)).tk t' = some true → s.tk t' = some true := fun t' h' => by
    rw [e] at h'
    split at h'
    · cases h'
    · exact h'
  have h_nink : ∀ j, j < s.nin → (s.ap (.tok k false)).tk (vk j) ≠ none := fun j hj => by
    rw [e]
    split
    · simp
    · exact h.nink j hj
  refine { h with nink := h_nink, rho := fun b g hr => ?_, tok := fun t' sp h1 h2 => h.tok t' sp (ne t' h1) h2, sig := fun t' sp hs => ?_, tinj := fun t1 t2 sp sp' h1 h2 => h.tinj t1 t2 sp sp' (ne _ h1) (ne _ h2) }
  · rcases h.rho b g hr with q | q
    · exact .inl q
    · refine .inr ?_
      rw [e]
      split
      · simp
      · exact q
  · rw [e]
    split
    · simp
    · exact h.sig t' sp hs
/-- A token of a slice that came from elsewhere. -/
theorem SimW.ownTok (h : SimW B M ρ σ s a w) (d : Nat) (hu : s.tk d = none) (so : Option Spare) (hso : ∀ sp, so = some sp → (B.w0.heap.size ≤ sp.g ∨ B.tgs sp.g) ∧ sp.lo ≤ sp.hi ∧ (∀ o, sp.lo ≤ o → o < sp.hi → M sp.g o = none) ∧ (∀ b, s.bx b ≠ none → ρ b ≠ some sp.g) ∧ Row w sp.g sp.hi ∧ ∀ t sp', s.tk t = some true → σ t = some sp' → sp'.g ≠ sp.g) :
    SimW B M ρ (fun t => if t = d then so else σ t) (s.ap (.tok d true)) a w := by
  have hsd := h.snone hu
  have ups : ∀ k sp', σ k = some sp' → (if k = d then so else σ k) = some sp' := fun k sp' hk => by
    split
    · rename_i e; subst e; rw [hsd] at hk; cases hk
    · exact hk
  have upR : ∀ c v, Rd M ρ σ c v → Rd M ρ (fun t => if t = d then so else σ t) c v := fun c v hr' => hr'.up (fun _ _ h => h) ups
  have e : ∀ t', (s.ap (.tok d true)).tk t' = if t' = d then some true else s.tk t' := fun t' => AS.tk_set s d t' true
  have h_capB : ∀ k, k < s.nin → ∀ sp', ((fun t => if t = d then so else σ t)) (vk k) = some sp' → B.cap0 k = some sp' := fun k hk sp' hs' => by
    dsimp only at hs'
    split at hs'
    · rename_i e0; exact absurd hu (e0 ▸ h.nink k hk)
    · exact h.capB k hk sp' hs'
  have h_nink : ∀ k, k < s.nin → (s.ap (.tok d true)).tk (vk k) ≠ none := fun k hk => by
    rw [e]
    split
    · simp
    · exact h.nink k hk
  refine { h with capB := h_capB, nink := h_nink, env := fun t => upR _ _ (h.env t), box := fun b cs hb => ?_, rho := fun b g' hr' => ?_, tok := fun t sp' ht' hs => ?_, cap := fun t sp hs => ?_, sig := fun t sp' hs => ?_, tinj := fun t t' sp1 sp2 h1 h2 hs1 hs2 hg => ?_ }
  · rcases h.box b cs hb with q | ⟨g, q1, q2, q3, q4⟩
    · exact .inl q
    · exact .inr ⟨g, q1, q2.of_heap rfl upR, q3, q4⟩
  · rcases h.rho b g' hr' with q | q
    · exact .inl q
    · refine .inr ?_
      rw [e]
      split
      · simp
      · exact q
  · rw [e] at ht'
    by_cases hd : t = d
    · rw [if_pos hd] at hs
      obtain ⟨q1, q2, q3, q4, -⟩ := hso _ hs
      exact ⟨q1, q2, q3, q4⟩
    · rw [if_neg hd] at hs ht'
      exact h.tok t sp' ht' hs
  · split at hs
    · exact (hso _ hs).2.2.2.2.1
    · exact h.cap t sp hs
  · rw [e]
    by_cases hd : t = d
    · rw [if_pos hd]; simp
    · rw [if_neg hd] at hs ⊢; exact h.sig t sp' hs
  · rw [e] at h1 h2
    by_cases e1 : t = d
    · by_cases e2 : t' = d
      · rw [e1, e2]
      · rw [if_pos e1] at hs1
        rw [if_neg e2] at h2 hs2
        exact absurd hg.symm ((hso _ hs1).2.2.2.2.2 _ _ h2 hs2)
    · rw [if_neg e1] at h1 hs1
      by_cases e2 : t' = d
      · rw [if_pos e2] at hs2
        exact absurd hg ((hso _ hs2).2.2.2.2.2 _ _ h1 hs1)
      · rw [if_neg e2] at h2 hs2
        exact h.tinj t t' sp1 sp2 h1 h2 hs1 hs2 hg
theorem SimW.tokfree (h : SimW B M ρ σ s a w) (d : Nat) (hu : s.tk d = none) : SimW B M ρ σ (s.ap (.tok d true)) a w := by
  have hsd := h.snone hu
  have h2 := h.ownTok d hu none (fun sp e => by cases e)
  have : (fun t => if t = d then none else σ t) = σ := by
    funext t
    split
    · rename_i e; rw [e, hsd]
    · rfl
  rw [this] at h2
  exact h2
end
end Go.Proofs.YtdmedeaknnldcaaGreatDoor
