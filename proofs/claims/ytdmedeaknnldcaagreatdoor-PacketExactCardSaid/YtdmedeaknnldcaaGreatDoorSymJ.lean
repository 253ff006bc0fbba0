/- One operation, whatever it is: what it writes, and that the model does so. -/
import Derived.Test.YtdmedeaknnldcaaGreatDoorSymI
namespace Go.Proofs.YtdmedeaknnldcaaGreatDoor
open Go.RowKit
set_option linter.unusedVariables false
set_option linter.unusedSimpArgs false
set_option linter.unnecessarySimpa false
def isSpec : Op → Bool
  | .move _ | .assign _ | .pick .. | .load .. | .nilCheck _ | .fieldAddr .. | .indexAddr .. | .field .. | .extract .. | .makeFunc .. | .slice .. | .index .. => true
  | .binOp .quo .. | .binOp .rem .. | .binOp .add .. | .binOp .shl .. | .binOp .shr .. => true
  | .call { callee := .builtin .len, .. } => true
  | _ => false
def outV (d : Option Nat) : Option AV → Option (List Wr)
  | some v => some (AS.out d v)
  | none => none
def stepCall (T : Tab) (Γ : Gam) (o : Oper) (s : AS) (c : Call) : Option (List Wr) :=
  match c.callee with
  | .value f => callOp Γ s o.dst (match o.dst with | some d => T.bm d | none => false) f c.args.toList
  | .builtin .append =>
    (match c.args.toList, c.argTypes.toList, o.dst with
    | [x, y], [t, t'], some d => if t = t' then appendOp T s d t x y else none
    | _, _, _ => none)
  | .builtin .copy =>
    (match c.args.toList, c.argTypes.toList with
    | [x, y], [t, t'] => if t = t' then copyOp T s o.dst t x y else none
    | _, _ => none)
  | .builtin _ => outV o.dst ((flatOp o s).map nrm)
  | .invoke _ _ => none
def convOp (T : Tab) (s : AS) (d : Option Nat) (src dst : TypeId) (x : Operand) : Option (List Wr) :=
  match outV d (specOp T s (.convert src dst x)) with
  | some W => some W
  | none => (match d with
    | some d => bytesOp T s d src dst x
    | none => none)
def stepOp (T : Tab) (Γ : Gam) (o : Oper) (s : AS) : Option (List Wr) :=
  if isSpec o.op then outV o.dst (specOp T s o.op) else
  match o.op, o.dst with
  | .alloc t, some d => allocOp T s d t
  | .box t x, some d => boxOp s d x
  | .store t x y, none => storeOp T s t x y
  | .build t parts, d => outV d (buildOp T s t parts.toList)
  | .buildSlice t len parts, some d => buildSliceOp T s d t len parts.toList
  | .call c, _ => stepCall T Γ o s c
  | .makeSlice t l c, some d => makeOp T s d t l c
  | .binOp op t x y _, d => outV d (binV T s o op t x y)
  | .unOp .., d => outV d ((flatOp o s).map nrm)
  | .convert src dst x, d => convOp T s d src dst x
  | _, _ => none
section
variable {P : Program} {T : Tab} {B : Base} {M : Mem} {ρ : Rho} {σ : Sig} {s : AS} {a : Act} {w : World}
theorem tkT_mem {t' : Nat} {v : AV} {p : Nat × Nat} (h : p ∈ tkT s t' v) : p.1 = t' ∧ s.tk p.2 = some true := by
  unfold tkT at h
  split at h
  · rename_i n xs t
    split at h
    · rename_i hk
      simp at h; subst h; exact ⟨rfl, hk⟩
    · cases h
  · cases h
theorem tkT_of {t' t n : Nat} {xs : List (List AV)} (hk : s.tk t = some true) : (t', t) ∈ tkT s t' (.list n xs (some t)) := by
  simp [tkT, hk]
theorem argsT_live : ∀ (vs : List AV) (i : Nat) (p : Nat × Nat), p ∈ argsT s i vs → s.tk p.2 = some true
  | [], i, p, h => by cases h
  | v :: r, i, p, h => by
    rcases List.mem_append.1 h with h | h
    · exact (tkT_mem h).2
    · exact argsT_live r _ p h
theorem cellsT_live (k : Nat) : ∀ (vs : List AV) (i : Nat) (p : Nat × Nat), p ∈ cellsT s k i vs → s.tk p.2 = some true
  | [], i, p, h => by cases h
  | v :: r, i, p, h => by
    rcases List.mem_append.1 h with h | h
    · exact (tkT_mem h).2
    · exact cellsT_live k r _ p h
theorem boxesT_live : ∀ (l : List Nat) (k : Nat) (p : Nat × Nat), p ∈ boxesT s k l → s.tk p.2 = some true
  | [], k, p, h => by cases h
  | b :: l, k, p, h => by
    rcases List.mem_append.1 h with h | h
    · split at h
      · cases h
      · split at h
        · exact cellsT_live k _ _ p h
        · cases h
    · exact boxesT_live l _ p h
theorem argsT_of : ∀ (vs : List AV) (i0 i : Nat) (h : i < vs.length) (p : Nat × Nat), p ∈ tkT s (tI (i0 + i)) vs[i] → p ∈ argsT s i0 vs
  | v :: r, i0, 0, h, p, hp => List.mem_append_left _ hp
  | v :: r, i0, i + 1, h, p, hp => by
    refine List.mem_append_right _ (argsT_of r (i0 + 1) i (by simpa using h) p ?_)
    rw [show i0 + 1 + i = i0 + (i + 1) by omega]; exact hp
theorem cellsT_of (k : Nat) : ∀ (vs : List AV) (i0 i : Nat) (h : i < vs.length) (p : Nat × Nat), p ∈ tkT s (tC k (i0 + i) 0) vs[i] → p ∈ cellsT s k i0 vs
  | v :: r, i0, 0, h, p, hp => List.mem_append_left _ hp
  | v :: r, i0, i + 1, h, p, hp => by
    refine List.mem_append_right _ (cellsT_of k r (i0 + 1) i (by simpa using h) p ?_)
    rw [show i0 + 1 + i = i0 + (i + 1) by omega]; exact hp
theorem boxesT_of : ∀ (l : List Nat) (k0 k : Nat) (h : k < l.length) (cs : List AV), s.tk (vm l[k]) = none → s.bx l[k] = some cs → ∀ p, p ∈ cellsT s (k0 + k) 0 cs → p ∈ boxesT s k0 l
  | b :: l, k0, 0, h, cs, h1, h2, p, hp => by
    refine List.mem_append_left _ ?_
    simp only [List.getElem_cons_zero] at h1 h2
    simp only [h1, h2]
    exact hp
  | b :: l, k0, k + 1, h, cs, h1, h2, p, hp => by
    refine List.mem_append_right _ (boxesT_of l (k0 + 1) k (by simpa using h) cs (by simpa using h1) (by simpa using h2) p ?_)
    rw [show k0 + 1 + k = k0 + (k + 1) by omega]; exact hp
theorem caps_of : ∀ (l : List Nat) (k0 k : Nat) (h : k < l.length), (vk (k0 + k), vk l[k]) ∈ caps k0 l
  | b :: l, k0, 0, h => List.mem_cons_self
  | b :: l, k0, k + 1, h => by
    refine List.mem_cons_of_mem _ ?_
    have := caps_of l (k0 + 1) k (by simpa using h)
    rw [show k0 + 1 + k = k0 + (k + 1) by omega] at this
    simpa using this
theorem distinct_lookup {α : Type} : ∀ (l : List (Nat × α)), distinct (l.map (·.1)) = true → ∀ t x, (t, x) ∈ l → l.lookup t = some x
  | [], _, t, x, h => by cases h
  | (t0, x0) :: r, hd, t, x, h => by
    rw [List.map_cons] at hd
    simp only [distinct, Bool.and_eq_true, Bool.not_eq_true'] at hd
    rw [List.lookup_cons]
    rcases List.mem_cons.1 h with e | e
    · cases e; simp
    · have : t ≠ t0 := fun e2 => by
        subst e2
        have h1 := hd.1
        rw [← Bool.not_eq_true, List.contains_iff_mem] at h1
        exact h1 (List.mem_map_of_mem (f := (·.1)) e)
      have e2 : (t == t0) = false := by simp [this]
      rw [e2]
      exact distinct_lookup r hd.2 t x e
theorem lookup_mem {κ α : Type} [BEq κ] [LawfulBEq κ] : ∀ (l : List (κ × α)) (t : κ) (p : α), l.lookup t = some p → (t, p) ∈ l
  | (t0, p0) :: r, t, p, h => by
    rw [List.lookup_cons] at h
    by_cases e : t = t0
    · subst e; simp at h; subst h; exact List.mem_cons_self
    · have e2 : (t == t0) = false := by simp [e]
      rw [e2] at h
      exact List.mem_cons_of_mem _ (lookup_mem r t p h)
theorem usedT_spec (tab : List (Nat × Nat)) : ∀ (use : List Nat), ∀ t ∈ use, ∀ t', tab.lookup t = some t' → t' ∈ usedT tab use
  | [], t, ht => by cases ht
  | u :: use, t, ht => fun t' hl => by
    unfold usedT
    rcases List.mem_cons.1 ht with e | e
    · subst e; rw [hl]; exact List.mem_cons_self
    · have := usedT_spec tab use t e t' hl
      split
      · exact List.mem_cons_of_mem _ this
      · exact this
theorem usedT_inj (tab : List (Nat × Nat)) : ∀ (use : List Nat), (usedT tab use).Nodup → ∀ t ∈ use, ∀ t' ∈ use, ∀ x, tab.lookup t = some x → tab.lookup t' = some x → t = t'
  | [], _, t, ht, _, _, _, _, _ => by cases ht
  | u :: use, hn, t, ht, t', ht', x, h1, h2 => by
    unfold usedT at hn
    have hn2 : (usedT tab use).Nodup := by
      split at hn
      · exact (List.nodup_cons.1 hn).2
      · exact hn
    rcases List.mem_cons.1 ht with e | e <;> rcases List.mem_cons.1 ht' with e' | e'
    · rw [e, e']
    · subst e
      rw [h1] at hn
      exact absurd (usedT_spec tab use t' e' x h2) (List.nodup_cons.1 hn).1
    · subst e'
      rw [h2] at hn
      exact absurd (usedT_spec tab use t e x h1) (List.nodup_cons.1 hn).1
    · exact usedT_inj tab use hn2 t e t' e' x h1 h2
theorem usedT_live (tab : List (Nat × Nat)) : ∀ (use : List Nat), (∀ p ∈ tab, s.tk p.2 = some true) → ∀ t ∈ usedT tab use, s.tk t = some true
  | [], _, t, ht => by cases ht
  | u :: use, hl, t, ht => by
    unfold usedT at ht
    split at ht
    · rename_i x hx
      rcases List.mem_cons.1 ht with e | e
      · subst e; exact hl _ (lookup_mem _ _ _ hx)
      · exact usedT_live tab use hl t e
    · exact usedT_live tab use hl t ht
theorem lookup_none {κ α : Type} [BEq κ] [LawfulBEq κ] : ∀ (l : List (κ × α)) (t : κ) (p : α), l.lookup t = none → (t, p) ∈ l → False
  | (t0, p0) :: r, t, p, h, hm => by
    rw [List.lookup_cons] at h
    by_cases e : t = t0
    · subst e; simp at h
    · have e2 : (t == t0) = false := by simp [e]
      rw [e2] at h
      rcases List.mem_cons.1 hm with q | q
      · cases q; exact e rfl
      · exact lookup_none r t p h q
theorem zip_lookup : ∀ (ts ns : List Nat) (t n : Nat), (ts.zip ns).lookup t = some n → ∃ i, ∃ (h1 : i < ts.length) (h2 : i < ns.length), ts[i] = t ∧ ns[i] = n
  | [], ns, t, n, h => by simp at h
  | x :: ts, [], t, n, h => by simp at h
  | x :: ts, y :: ns, t, n, h => by
    rw [List.zip_cons_cons, List.lookup_cons] at h
    by_cases e : t = x
    · subst e
      simp at h
      exact ⟨0, by simp, by simp, rfl, h⟩
    · have e2 : (t == x) = false := by simp [e]
      rw [e2] at h
      obtain ⟨i, h1, h2, h3, h4⟩ := zip_lookup ts ns t n h
      exact ⟨i + 1, by simpa using h1, by simpa using h2, by simpa using h3, by simpa using h4⟩
theorem Hold.back {M : Mem} {ρ ρ' : Rho} {σ σ' : Sig} {w : World} {g : Nat} {cs : List AV} {f g' : Nat → Option Nat} (R : Ren f g' ρ σ ρ' σ') (h : Hold M ρ σ w g cs) (x : Bool) : Hold M ρ' σ' w g (bif x then cs.map dat0 else cs.map (mp0 f g')) := by
  obtain ⟨ccs, t, h1, h2, h3, h4⟩ := h
  cases x with
  | true => exact ⟨ccs, t, h1, by simpa using h2, fun i a b => h3 i a (by simpa using b), fun i a b => by simpa using (h4 i a (by simpa using b)).dat0.of0⟩
  | false => exact ⟨ccs, t, h1, by simpa using h2, fun i a b => h3 i a (by simpa using b), fun i a b => by simpa using (h4 i a (by simpa using b)).mp0 R⟩
theorem backC_eq (s : AS) (l sl : List Nat) (f g : Nat → Option Nat) (b : Nat) (cs : List AV) : (∃ k ∈ sl, l[k]? = some b ∧ backC s l sl f g b cs = cs) ∨ ∃ x : Bool, backC s l sl f g b cs = (bif x then cs.map dat0 else cs.map (mp0 f g)) := by
  unfold backC
  split
  · rename_i hx
    split at hx
    · rename_i k hk
      exact .inl ⟨k, List.contains_iff_mem.1 hx, idx_get l b k hk, rfl⟩
    · cases hx
  · split
    · exact .inr ⟨true, rfl⟩
    · exact .inr ⟨false, rfl⟩
theorem nil_back {f g' : Nat → Option Nat} (x : Bool) : (bif x then ([] : List AV).map dat0 else ([] : List AV).map (mp0 f g')) = [] := by cases x <;> rfl
set_option maxHeartbeats 1000000 in
theorem call_ok {Γ : Gam} (hG : GOk P Γ) (h : SimW B M ρ σ s a w) {o : Oper} {m : Bool} {fv : Operand} {args : Array Operand} {ats : Array TypeId} (ho : o.op = .call { callee := .value fv, args, argTypes := ats }) {W : List Wr} (hs : callOp Γ s o.dst m fv args.toList = some W) (K : Act → World → Prop) (Q : Exit → Act → World → Prop) (hK : ∀ a' w', Sim B (s.aps W) a' w' → K a' w') : o.wp P a w K Q := by
  unfold callOp at hs
  have hf := h.ev fv
  split at hs
  · rename_i f first captured hfe
    rw [hfe] at hf
    split at hs
    · rename_i bs hbs
      split at hs
      · rename_i r hr
        obtain ⟨⟨fn, q1, q2, q3⟩, call⟩ := hG _ _ _ _ _ hr
        generalize hq : a.eval fv = fvv at hf
        cases hf with
        | @fn _ _ _ fs cs _ _ l1 r1 l2 r2 =>
        obtain ⟨vs, hvs⟩ : ∃ vs, first ++ args.toList.map s.ev ++ captured = vs := ⟨_, rfl⟩
        have hall : ∀ i (h1 : i < ((fs ++ args.map a.eval) ++ cs).size) (h2 : i < vs.length), Rd M ρ σ ((fs ++ args.map a.eval) ++ cs)[i] vs[i] := fun i h1 h2 => by
          subst hvs
          simp at h1 h2
          rw [Array.getElem_append, List.getElem_append]
          by_cases c1 : i < (fs ++ args.map a.eval).size
          · have c1' : i < (first ++ args.toList.map s.ev).length := by simp at c1 ⊢; omega
            rw [dif_pos c1, dif_pos c1', Array.getElem_append, List.getElem_append]
            by_cases c2 : i < fs.size
            · rw [dif_pos c2, dif_pos (by omega)]; exact r1 _ _ _
            · rw [dif_neg c2, dif_neg (by omega)]
              simp only [Array.getElem_map, List.getElem_map, Array.getElem_toList, l1]
              exact h.ev _
          · have c1' : ¬ i < (first ++ args.toList.map s.ev).length := by simp at c1 ⊢; omega
            rw [dif_neg c1, dif_neg c1']
            have e : i - (fs ++ args.map a.eval).size = i - (first ++ args.toList.map s.ev).length := by simp; omega
            simp only [e]
            exact r2 _ _ _
        have hvl : ((fs ++ args.map a.eval) ++ cs).size = vs.length := by subst hvs; simp; omega
        rw [hvs] at hbs hr hs call
        have hn := boxL_nodup s vs
        obtain ⟨l, hl⟩ : ∃ l, boxL s vs = l := ⟨_, rfl⟩
        rw [hl] at hbs hr hs call hn
        obtain ⟨b1, b2⟩ := boxesV_spec s _ _ _ _ hbs
        have hbl : ∀ b ∈ l, s.bx b ≠ none := fun b hb => by
          obtain ⟨k, hk, rfl⟩ := List.getElem_of_mem hb
          obtain ⟨cs, c1, -⟩ := b2 k hk (by omega)
          rw [c1]; simp
        obtain ⟨tab, htab⟩ : ∃ tab, argsT s 0 vs ++ boxesT s 0 l = tab := ⟨_, rfl⟩
        rw [htab] at hs
        have hlive : ∀ p ∈ tab, s.tk p.2 = some true := fun p hp => by
          rw [← htab] at hp
          rcases List.mem_append.1 hp with hp | hp
          · exact argsT_live vs 0 p hp
          · exact boxesT_live l 0 p hp
        unfold retWr at hs
        obtain ⟨us, hus⟩ : ∃ us, usedT tab r.use = us := ⟨_, rfl⟩
        rw [hus] at hs
        · unfold retWr2 at hs
          obtain ⟨ns, hns⟩ : ∃ ns, newN s l o.dst r.toks.length = ns := ⟨_, rfl⟩
          rw [hns] at hs
          split at hs
          · rename_i hcond
            simp only [Bool.and_eq_true] at hcond
            obtain ⟨duse, dsl, d0, d1, d2, d3, -, d4, d5, d6⟩ := hcond
            have d5' : ns.length = r.toks.length := by simpa using d5
            have d6' : r.outs.length = l.length := by simpa using d6
            have us_nd := distinct_nodup us d1
            have ns_nd := distinct_nodup ns d2
            have tk_nd := distinct_nodup r.toks d3
            have ns_fr : ∀ t ∈ ns, s.tk t = none := fun t ht => by
              have := List.all_eq_true.1 d4 t ht
              simpa using this
            -- the tokens that the call sees
            let σ0 : Sig := fun t => match (tab ++ caps 0 l).lookup t with | some t' => σ t' | none => none
            have hσ0 : ∀ t t', (t, t') ∈ tab ++ caps 0 l → σ0 t = σ t' := fun t t' hm => by
              show (match (tab ++ caps 0 l).lookup t with | some t' => σ t' | none => none) = _
              rw [distinct_lookup _ d0 t t' hm]
            have hσ0' : ∀ t sp, σ0 t = some sp → ∃ t', σ t' = some sp := fun t sp hsp => by
              have hsp' : (match (tab ++ caps 0 l).lookup t with | some t' => σ t' | none => none) = some sp := hsp
              split at hsp'
              · exact ⟨_, hsp'⟩
              · cases hsp'
            have tab_lookup : ∀ t t', tab.lookup t = some t' → σ0 t = σ t' := fun t t' hm => hσ0 t t' (List.mem_append_left _ (lookup_mem _ _ _ hm))
            have R0 : Ren (idx l) no1 ρ σ (gsR (l.map ρ)) σ0 := by
              refine ⟨fun b k g hk hb => ?_, fun t t' sp ht => ?_, fun b k sp hk hsp => ?_⟩
              · have := idx_get l b k hk
                show ((l.map ρ)[k]?).getD none = some g
                rw [List.getElem?_map, this]
                exact hb
              · cases ht
              · have := idx_get l b k hk
                obtain ⟨hlt, e⟩ := List.getElem?_eq_some_iff.1 this
                have hm := caps_of l 0 k hlt
                rw [Nat.zero_add, e] at hm
                rw [hσ0 _ _ (List.mem_append_right _ hm)]
                exact hsp
            have useOf : ∀ t ∈ r.use, ∀ sp, σ0 t = some sp → ∃ t' ∈ us, tab.lookup t = some t' ∧ s.tk t' = some true ∧ σ0 t = σ t' := fun t ht sp hsp => by
              have hc := List.all_eq_true.1 duse t ht
              cases hl1 : tab.lookup t with
              | some t' => exact ⟨t', hus ▸ usedT_spec tab r.use t ht t' hl1, rfl, hlive _ (lookup_mem _ _ _ hl1), tab_lookup _ _ hl1⟩
              | none =>
                rw [hl1] at hc
                have hc' : (caps 0 l).lookup t = none := by simpa using hc
                have hsp' : (match (tab ++ caps 0 l).lookup t with | some t' => σ t' | none => none) = some sp := hsp
                split at hsp'
                · rename_i t' hl2
                  rcases List.mem_append.1 (lookup_mem _ _ _ hl2) with hm | hm
                  · exact (lookup_none _ _ _ hl1 hm).elim
                  · exact (lookup_none _ _ _ hc' hm).elim
                · cases hsp'
            have tokgs : ∀ t' sp, s.tk t' = some true → σ t' = some sp → some sp.g ∉ l.map ρ := fun t' sp ht hsp hin => by
              obtain ⟨b, hb1, hb2⟩ := List.mem_map.1 hin
              exact (h.tok t' sp ht hsp).2.2.2 b (hbl b hb1) hb2
            have hglob : GlOk M w (l.map ρ) (InT σ0 r.use) := fun g cs hg => by
              obtain ⟨q1, ⟨ty, z, q2⟩, q3, q4⟩ := h.gl g cs hg
              have hlt : g < B.w0.heap.size := (Array.getElem?_eq_some_iff.1 q2).1
              refine ⟨fun j => ⟨(q1 j).1, fun hj => h.memS _ _ _ ((q1 j).2 hj)⟩, ⟨ty, z, (h.block g hlt q3 q4).trans q2⟩, fun hin => ?_, fun hin => ?_⟩
              · obtain ⟨b, hb1, hb2⟩ := List.mem_map.1 hin
                cases hq : s.bx b with
                | none => exact hbl b hb1 hq
                | some cs' =>
                  rcases h.box b cs' hq with ⟨-, e⟩ | ⟨g', q5, -, -, q6⟩
                  · rw [hb2] at e; cases e
                  · rw [hb2] at q5
                    cases q5
                    rcases q6 with q6 | q6
                    · omega
                    · exact q3 q6
              · obtain ⟨t, ht, sp, hsp, e⟩ := hin
                obtain ⟨t', -, -, hlv, e2⟩ := useOf t ht sp hsp
                rcases (h.tok t' sp hlv (e2 ▸ hsp)).1 with q6 | q6
                · omega
                · exact q4 (e ▸ q6)
            have C := call M w ((fs ++ args.map a.eval) ++ cs) (l.map ρ) σ0 hglob h.mem (fun k g hk => by
              rw [List.getElem?_map] at hk
              obtain ⟨b, hb1, hb2⟩ := Option.map_eq_some_iff.1 hk
              exact h.rlt b g hb2) (fun i j g hi hj => by
              rw [List.getElem?_map] at hi hj
              obtain ⟨b, hb1, hb2⟩ := Option.map_eq_some_iff.1 hi
              obtain ⟨b', hb1', hb2'⟩ := Option.map_eq_some_iff.1 hj
              obtain ⟨hi1, hi2⟩ := List.getElem?_eq_some_iff.1 hb1
              obtain ⟨hj1, hj2⟩ := List.getElem?_eq_some_iff.1 hb1'
              have e : b = b' := h.inj b b' g (hbl b (hi2 ▸ List.getElem_mem _)) (hbl b' (hj2 ▸ List.getElem_mem _)) hb2 hb2'
              have hnd := List.pairwise_iff_getElem.1 hn
              rcases Nat.lt_trichotomy i j with hlt | heq | hlt
              · exact absurd (hi2.trans (e.trans hj2.symm)) (hnd i j hi1 hj1 hlt)
              · exact heq
              · exact absurd (hj2.trans (e.symm.trans hi2.symm)) (hnd j i hj1 hi1 hlt)) (by rw [List.length_map]; exact b1.symm) (by rw [(argsV_get s _ vs 0).1]; exact hvl) (fun i h1 h2 => by
              obtain ⟨z1, z2⟩ := argsV_get s (idx l) vs 0
              have h2' : i < vs.length := by omega
              rw [z2 i h2 h2', Nat.zero_add]
              refine Rd.tkV R0 (hall i h1 h2') (fun n xs t sp e hk hsp => ?_)
              have hm := argsT_of (s := s) vs 0 i h2' (tI i, t) (by rw [Nat.zero_add, e]; exact tkT_of hk)
              rw [hσ0 (tI i) t (List.mem_append_left _ (htab ▸ List.mem_append_left _ hm))]
              exact hsp) (fun k h1 h2 => by
              have h1' : k < l.length := by simpa using h1
              obtain ⟨cs, c1, c2⟩ := b2 k h1' h2
              rw [Nat.zero_add] at c2
              rw [List.getElem_map, c2]
              rcases h.box _ _ c1 with ⟨e1, e2⟩ | ⟨g, g1, ⟨ccs, t, g2, g3, g4, g5⟩, g6, g7⟩
              · subst e1
                refine .inl ⟨?_, e2⟩
                split <;> rfl
              · refine .inr ⟨g, g1, ?_, g6⟩
                split
                · exact ⟨ccs, t, g2, by simpa using g3, fun i a b => g4 i a (by simpa using b), fun i a b => by simpa using (g5 i a (by simpa using b)).dat0.of0⟩
                · rename_i hvm
                  obtain ⟨z1, z2⟩ := cellsV_get s (idx l) k cs 0
                  refine ⟨ccs, t, g2, by rw [z1]; exact g3, fun i a b => g4 i a (by omega), fun i a b => ?_⟩
                  have b' : i < cs.length := by omega
                  rw [z2 i b b', Nat.zero_add]
                  refine Rd.tkV R0 (g5 i a b') (fun n xs t sp e hk hsp => ?_)
                  have hm := cellsT_of (s := s) k cs 0 i b' (tC k i 0, t) (by rw [Nat.zero_add, e]; exact tkT_of hk)
                  have hm2 := boxesT_of (s := s) l 0 k h1' cs hvm c1 (tC k i 0, t) (by rw [Nat.zero_add]; exact hm)
                  rw [hσ0 (tC k i 0) t (List.mem_append_left _ (htab ▸ List.mem_append_right _ hm2))]
                  exact hsp) (fun k hk h1 h2 => by
              have h1' : k < l.length := by simpa using h1
              obtain ⟨cs, c1, c2⟩ := b2 k h1' h2
              rw [Nat.zero_add] at c2
              have hm := List.all_eq_true.1 dsl k hk
              rw [List.getElem?_eq_getElem h1'] at hm
              simp only at hm
              rw [List.getElem_map, c2]
              cases hvm : s.tk (vm l[k]) with
              | none => rw [hvm] at hm; cases hm
              | some x =>
                simp only
                rcases h.box _ _ c1 with ⟨e1, e2⟩ | ⟨g, g1, ⟨ccs, t, g2, g3, g4, g5⟩, g6, g7⟩
                · subst e1; exact .inl ⟨rfl, e2⟩
                · exact .inr ⟨g, g1, ⟨ccs, t, g2, by simpa using g3, fun i a b => g4 i a (by simpa using b), fun i a b => by simpa using (g5 i a (by simpa using b)).dat0⟩, g6⟩) (by
              refine ⟨fun t ht sp hsp => ?_, fun t sp hsp => ?_, fun t ht t2 ht2 sp sp2 hsp hsp2 hg => ?_⟩
              · obtain ⟨t', z1, z2, z3, z4⟩ := useOf t ht sp hsp
                rw [z4] at hsp
                obtain ⟨p1, p2, p3, p4⟩ := h.tok t' sp z3 hsp
                exact ⟨p2, p3, tokgs t' sp z3 hsp⟩
              · obtain ⟨t', z⟩ := hσ0' t sp hsp
                exact h.cap t' sp z
              · obtain ⟨t', z1, z2, z3, z4⟩ := useOf t ht sp hsp
                obtain ⟨t2', y1, y2, y3, y4⟩ := useOf t2 ht2 sp2 hsp2
                rw [z4] at hsp
                rw [y4] at hsp2
                have e := h.tinj t' t2' sp sp2 z3 y3 hsp hsp2 hg
                rw [← e] at y2
                exact usedT_inj tab r.use (hus ▸ us_nd) t ht t2 ht2 t' z2 y2)
            unfold Oper.wp
            have ex : (execOp a.eval o).run P w = .ok (.enter f ((fs ++ args.map a.eval) ++ cs)) w := by
              unfold execOp
              simp only [ho, resolve, hq, Deferred.ofValue, Sem.run_bind, Sem.run_pure, Result.andThen_ok, invoke, callFunc]
              have q2' : ¬ (fn.name = "runtime.NumGoroutine") := fun e => by rw [e] at q2; simp at q2
              have q3' : ¬ (fn.body = none) := fun e => by rw [e] at q3; simp at q3
              simp [q1, q2', q3']
            rw [ex, Oper.upon_enter]
            refine C.mono fun e w' ⟨c, M', σ', gn, he, left⟩ => ?_
            subst he
            refine hK _ _ ?_
            -- the used tokens are given up
            have hd := SimW.deads us _ h
            have dtk := deads_tk us s
            obtain ⟨dk1, dk2, dk3⟩ := toks_keep false us s
            have dbx : ∀ b, (s.aps (us.map fun t => Wr.tok t false)).bx b = s.bx b := fun b => by unfold AS.bx; rw [dk3]
            have hT : ∀ g, InT σ0 r.use g → ∃ t', s.tk t' = some true ∧ t' ∈ us ∧ ∃ sp, σ t' = some sp ∧ sp.g = g := fun g ⟨t, ht, sp, hsp, hg⟩ => by
              obtain ⟨t', z1, z2, z3, z4⟩ := useOf t ht sp hsp
              exact ⟨t', z3, z1, sp, by rw [← z4]; exact hsp, hg⟩
            have stk : ∀ t sp, (s.aps (us.map fun t => Wr.tok t false)).tk t = some true → σ t = some sp → s.tk t = some true ∧ sp.g < w.heap.size ∧ ¬ InT σ0 r.use sp.g := fun t sp ht hsp => by
              rw [dtk] at ht
              split at ht
              · cases ht
              · rename_i hnu
                refine ⟨ht, (h.cap t sp hsp).lt, fun hin => ?_⟩
                obtain ⟨t', z1, z2, sp', z3, z4⟩ := hT _ hin
                have := h.tinj t t' sp sp' ht z1 hsp z3 z4.symm
                exact hnu (this ▸ z2)
            have hlr : l.length = r.outs.length := d6'.symm
            have haf := hd.after (l := l) (T := InT σ0 r.use) (fun b hb => by rw [dbx]; exact hbl b hb) left.sub left.mem left.same left.frm (fun g hin => by
              obtain ⟨t', z1, z2, sp, z3, z4⟩ := hT g hin
              obtain ⟨p1, p2, p3, p4⟩ := h.tok t' sp z1 z3
              rw [z4] at p1 p4
              exact ⟨z4 ▸ (h.cap t' sp z3).lt, p1, fun b hb => p4 b (by rw [← dbx]; exact hb), fun t sp' ht hsp e => (stk t sp' ht hsp).2.2 (e ▸ hin)⟩) left.rows (fun b hb g hg => by
              cases hbx : s.bx b with
              | none => exact absurd hbx (hbl b hb)
              | some cs0 =>
                rcases h.box b cs0 hbx with ⟨-, e⟩ | ⟨g', g1, ⟨ccs, t, g2, g3, -⟩, -⟩
                · rw [hg] at e; cases e
                · rw [hg] at g1; cases g1
                  obtain ⟨ccs', t', e1, -⟩ := left.rows g 0 ⟨ccs, t, g2, Nat.zero_le _⟩
                  exact ⟨ccs', t', e1⟩) r.outs hlr hn
            obtain ⟨f0, f1, f2, f4, f5⟩ := boxWr_facts (fun _ _ => []) l r.outs (s.aps (us.map fun t => Wr.tok t false)) hn hlr
            obtain ⟨s2, hs2⟩ : ∃ s2, (s.aps (us.map fun t => Wr.tok t false)).aps (boxWr (fun _ _ => []) l r.outs) = s2 := ⟨_, rfl⟩
            rw [hs2] at haf f0 f1 f2 f4 f5
            have tk2' : ∀ t, s2.tk t = if t ∈ us then some false else s.tk t := fun t => by
              rw [← dtk]; unfold AS.tk; rw [f2]
            have usl : ∀ t ∈ us, s.tk t = some true := fun t ht => usedT_live tab r.use hlive t (hus ▸ ht)
            have tk2n : ∀ t, s.tk t = none → s2.tk t = none := fun t ht => by
              rw [tk2', if_neg (fun hm => by rw [usl t hm] at ht; cases ht)]; exact ht
            have stk2 : ∀ t sp, s2.tk t = some true → σ t = some sp → s.tk t = some true ∧ sp.g < w.heap.size ∧ ¬ InT σ0 r.use sp.g := fun t sp ht hsp => stk t sp (by rw [dtk, ← tk2']; exact ht) hsp
            have bx2 : ∀ b, s2.bx b ≠ none → s.bx b ≠ none := fun b hb => by
              by_cases hm : b ∈ l
              · exact hbl b hm
              · rw [f4 b hm, dbx] at hb; exact hb
            have tokg : ∀ t ∈ r.toks, ∀ sp, σ' t = some sp → (B.w0.heap.size ≤ sp.g ∨ B.tgs sp.g) ∧ (∀ b, s.bx b ≠ none → ρ b ≠ some sp.g) ∧ ∀ t' sp', s2.tk t' = some true → σ t' = some sp' → sp'.g ≠ sp.g := fun t ht sp hsp => by
              obtain ⟨z1, z2, z3, z4⟩ := left.tok t ht sp hsp
              rcases z1 with z1 | z1
              · refine ⟨.inl (Nat.le_trans h.size z1), fun b hb e => ?_, fun t' sp' ht' hs' e => ?_⟩
                · have := h.rlt b _ e; omega
                · have := (stk2 t' sp' ht' hs').2.1; omega
              · obtain ⟨t', y1, y2, sp', y3, y4⟩ := hT _ z1
                obtain ⟨p1, p2, p3, p4⟩ := h.tok t' sp' y1 y3
                rw [y4] at p1 p4
                exact ⟨p1, p4, fun t2 sp2 ht2 hs2 e => (stk2 t2 sp2 ht2 hs2).2.2 (e ▸ z1)⟩
            obtain ⟨σ1, hown, up1, at1, else1⟩ := SimW.owns ns (r.toks.map σ') s2 σ haf (by rw [List.length_map]; exact d5') ns_nd (fun t ht => tk2n t (ns_fr t ht)) (fun sp hsp => by
              obtain ⟨t, ht, e⟩ := List.mem_map.1 hsp
              obtain ⟨z1, z2, z3, z4⟩ := left.tok t ht sp e
              obtain ⟨y1, y2, y3⟩ := tokg t ht sp e
              exact ⟨y1, z2, z3, fun b hb => y2 b (bx2 b hb), left.cap t sp e, y3⟩) (fun i j sp sp' hi hj hg => by
              rw [List.getElem?_map] at hi hj
              obtain ⟨t, hi1, hi2⟩ := Option.map_eq_some_iff.1 hi
              obtain ⟨t', hj1, hj2⟩ := Option.map_eq_some_iff.1 hj
              obtain ⟨i1, i2⟩ := List.getElem?_eq_some_iff.1 hi1
              obtain ⟨j1, j2⟩ := List.getElem?_eq_some_iff.1 hj1
              have e := left.inj t (i2 ▸ List.getElem_mem _) t' (j2 ▸ List.getElem_mem _) sp sp' hi2 hj2 hg
              have hnd := List.pairwise_iff_getElem.1 tk_nd
              rcases Nat.lt_trichotomy i j with hlt | heq | hlt
              · exact absurd (i2.trans (e.trans j2.symm)) (hnd i j i1 j1 hlt)
              · exact heq
              · exact absurd (j2.trans (e.symm.trans i2.symm)) (hnd j i j1 i1 hlt))
            obtain ⟨k1, k2, k3⟩ := toks_keep true ns s2
            have k4 := toks_tk true ns s2
            obtain ⟨s3, hs3⟩ : ∃ s3, s2.aps (ns.map fun t => Wr.tok t true) = s3 := ⟨_, rfl⟩
            rw [hs3] at hown k1 k2 k3 k4
            have bx3 : ∀ b, s3.bx b = s2.bx b := fun b => by unfold AS.bx; rw [k3]
            have tk3n : ∀ t, t ∉ ns → s.tk t = none → s3.tk t = none := fun t hn' ht => by
              rw [k4, if_neg hn']; exact tk2n t ht
            have nin3 : s3.nin = s.nin := k1.trans (f0.trans dk1)
            have ren : ∀ (ρ4 : Rho) (σ5 : Sig), (∀ b ∈ l, ρ4 b = ρ b) → (∀ t sp, σ1 t = some sp → σ5 t = some sp) → (∀ d, r.new ≠ none → o.dst = some d → ∀ go, gn = [go] → ρ4 d = go ∧ ∀ sp, σ' (vk l.length) = some sp → σ5 (vk d) = some sp) → Ren (fB l o.dst r) (fun t => (r.toks.zip ns).lookup t) (gsR (l.map ρ ++ gn)) σ' ρ4 σ5 := fun ρ4 σ5 h1 h2 h3 => by
              have fBin : ∀ k b', fB l o.dst r k = some b' → (∃ hk : k < l.length, l[k] = b') ∨ (k = l.length ∧ o.dst = some b' ∧ ∃ cs, r.new = some cs) := fun k b' hk => by
                unfold fB at hk
                split at hk
                · rename_i b hb
                  cases hk
                  obtain ⟨hlt, e⟩ := List.getElem?_eq_some_iff.1 hb
                  exact .inl ⟨hlt, e⟩
                · split at hk
                  · rename_i cs d hnew hdst
                    split at hk
                    · rename_i e; cases hk; exact .inr ⟨e, hdst, cs, hnew⟩
                    · cases hk
                  · cases hk
              refine ⟨fun k b' x hk hx => ?_, fun t t' sp ht hsp => ?_, fun k b' sp hk hsp => ?_⟩
              · rcases fBin k b' hk with ⟨hlt, e⟩ | ⟨e, hdst, cs, hnew⟩
                · subst e
                  rw [h1 _ (List.getElem_mem _)]
                  have hx' : ((l.map ρ ++ gn)[k]?).getD none = some x := hx
                  rw [List.getElem?_append_left (by simpa using hlt), List.getElem?_map, List.getElem?_eq_getElem hlt] at hx'
                  exact hx'
                · obtain ⟨go, hgn, -⟩ := left.new cs hnew
                  obtain ⟨e1, -⟩ := h3 b' (by rw [hnew]; simp) hdst go hgn
                  have hx' : ((l.map ρ ++ gn)[k]?).getD none = some x := hx
                  rw [e, hgn, List.getElem?_append_right (by simp), List.length_map, Nat.sub_self] at hx'
                  rw [e1]
                  exact hx'
              · obtain ⟨i, i1, i2, e1, e2⟩ := zip_lookup _ _ _ _ ht
                have := at1 i i2 (by simpa using i1)
                rw [List.getElem_map, e1, e2] at this
                exact h2 _ _ (this.trans hsp)
              · rcases fBin k b' hk with ⟨hlt, e⟩ | ⟨e, hdst, cs, hnew⟩
                · subst e
                  have q := left.capin k (by simpa using hlt) sp hsp
                  have hm := caps_of l 0 k hlt
                  rw [Nat.zero_add] at hm
                  rw [hσ0 _ _ (List.mem_append_right _ hm)] at q
                  exact h2 _ _ (up1 _ _ q)
                · obtain ⟨go, hgn, -⟩ := left.new cs hnew
                  obtain ⟨-, e1⟩ := h3 b' (by rw [hnew]; simp) hdst go hgn
                  rw [e] at hsp
                  exact e1 sp hsp
            have fin : ∀ (s5 : AS) (ρ4 : Rho) (σ5 : Sig), SimW B M' ρ4 σ5 s5 a w' → Ren (fB l o.dst r) (fun t => (r.toks.zip ns).lookup t) (gsR (l.map ρ ++ gn)) σ' ρ4 σ5 → (∀ b ∈ l, ρ4 b = ρ b) → (∀ b ∈ l, s5.bx b = some []) → SimW B M' ρ4 σ5 (s5.aps (boxWr (backC s l r.sl (fB l o.dst r) (fun t => (r.toks.zip ns).lookup t)) l r.outs)) a w' := fun s5 ρ4 σ5 h5 R h1 h2 => by
              refine h5.reboxes _ _ _ _ hn (fun k hk hk' => ⟨_, h2 _ (List.getElem_mem _), ?_⟩)
              have ho := left.outs k (by simpa using hk) hk'
              rw [List.getElem_map] at ho
              rw [h1 _ (List.getElem_mem _)]
              rcases backC_eq s l r.sl (fB l o.dst r) (fun t => (r.toks.zip ns).lookup t) l[k] r.outs[k] with ⟨k', e1, e2, e⟩ | ⟨x, e⟩
              · obtain ⟨hlt', e3⟩ := List.getElem?_eq_some_iff.1 e2
                have hkk : k' = k := by
                  have hnd := List.pairwise_iff_getElem.1 hn
                  rcases Nat.lt_trichotomy k' k with hlt | heq | hlt
                  · exact absurd e3 (hnd k' k hlt' hk hlt)
                  · exact heq
                  · exact absurd e3.symm (hnd k k' hk hlt' hlt)
                subst hkk
                have hda := left.data k' e1 (by simpa using hk) hk'
                rw [List.getElem_map] at hda
                rw [e]
                rcases hda with q | ⟨g, q1, ⟨ccs, t, z1, z2, z3, z4⟩, q3⟩
                · exact .inl q
                · exact .inr ⟨g, q1, ccs, t, z1, z2, z3, fun i a b => (z4 i a b).of0⟩
              rw [e]
              rcases ho with ⟨q1, q2⟩ | ⟨g, q1, q2, q3⟩
              · exact .inl ⟨by rw [q1]; exact nil_back x, q2⟩
              · exact .inr ⟨g, q1, q2.back R x⟩
            have bxl3 : ∀ b ∈ l, s3.bx b = some [] := fun b hb => by
              obtain ⟨k, hk, rfl⟩ := List.getElem_of_mem hb
              rw [bx3]
              exact f5 k hk (by omega)
            split at hs
            · rename_i cs d hnew hdst
              split at hs
              · rename_i hbd htd
                split at hs
                · rename_i hc
                  obtain ⟨hnid, hvk⟩ := hc
                  cases hs
                  obtain ⟨go, hgn, hbox, hfresh⟩ := left.new cs hnew
                  have hdl : d ∉ l := fun hm => hbl d hm hbd
                  have b3 : s3.bx d = none := by rw [bx3, f4 d hdl, dbx]; exact hbd
                  have t3 : s3.tk (vk d) = none := tk3n _ (fun hm => by
                    rw [← List.contains_iff_mem, hvk] at hm; cases hm) htd
                  have n3 : s3.nin ≤ d := by rw [nin3]; exact hnid
                  -- the new variable
                  have h4 : ∃ ρ4, SimW B M' ρ4 σ1 (s3.ap (.box d (some []))) a w' ∧ ρ4 d = go ∧ ∀ b, b ≠ d → ρ4 b = ρ b := by
                    rcases hbox with ⟨q1, q2⟩ | ⟨g, q1, q2, q3⟩
                    · exact ⟨ρ, hown.ghost d n3 b3 t3, by rw [q2]; exact hown.rnone b3 t3, fun _ _ => rfl⟩
                    · have hg := hfresh g q1
                      refine ⟨updR ρ d g, hown.adopt d n3 b3 t3 g [] ?_ q3 (Nat.le_trans h.size hg) (fun b hb e => by have := h.rlt b g e; omega) (fun t sp ht hsp e => ?_), by simp [updR, q1], fun b hb => by simp [updR, hb]⟩
                      · obtain ⟨ccs, ty, z1, z2, -⟩ := q2
                        exact ⟨ccs, ty, z1, Nat.zero_le _, (fun i _ h => by cases h), (fun i _ h => by cases h)⟩
                      · rw [k4] at ht
                        by_cases hm : t ∈ ns
                        · obtain ⟨i, hi, e2⟩ := List.getElem_of_mem hm
                          have := at1 i hi (by rw [List.length_map]; omega)
                          rw [List.getElem_map, e2, hsp] at this
                          have := (left.tok _ (List.getElem_mem _) sp this.symm).2.2.2
                          refine this ?_
                          rw [hgn, e, ← q1]
                          simp
                        · rw [if_neg hm] at ht
                          rw [else1 t hm] at hsp
                          have := (stk2 t sp ht hsp).2.1
                          omega
                  obtain ⟨ρ4, h4, r1', r2'⟩ := h4
                  have h5 : ∃ σ5, SimW B M' ρ4 σ5 ((s3.ap (.box d (some []))).ap (.tok (vk d) false)) a w' ∧ (∀ t sp, σ1 t = some sp → σ5 t = some sp) ∧ ∀ sp, σ' (vk l.length) = some sp → σ5 (vk d) = some sp := by
                    have t4 : (s3.ap (.box d (some []))).tk (vk d) = none := t3
                    cases hq : σ' (vk l.length) with
                    | none => exact ⟨σ1, h4.mark (vk d) t4, fun _ _ h => h, fun sp e => by cases e⟩
                    | some sp =>
                      exact ⟨_, h4.setcap (vk d) t4 sp (left.cap _ sp hq), updS_up (h4.snone t4), fun sp' e => by cases e; simp [updS]⟩
                  obtain ⟨σ5, h5, u5, v5⟩ := h5
                  have h6 : SimW B M' ρ4 σ5 (((s3.ap (.box d (some []))).ap (.tok (vk d) false)).aps (bif hasVs r.val then [.tok (vm d) false] else [])) a w' := by
                    cases hasVs r.val
                    · exact h5
                    · exact h5.tokdead (vm d)
                  have hld : ∀ b ∈ l, b ≠ d := fun b hb e => hdl (e ▸ hb)
                  have R := ren ρ4 σ5 (fun b hb => r2' b (hld b hb)) u5 (fun d' _ hd' go' hg' => by
                    rw [hdst] at hd'
                    cases hd'
                    rw [hgn] at hg'
                    cases hg'
                    exact ⟨r1', v5⟩)
                  have bx6 : ∀ b, ((((s3.ap (.box d (some []))).ap (.tok (vk d) false)).aps (bif hasVs r.val then [.tok (vm d) false] else []))).bx b = if b = d then some [] else s3.bx b := fun b => by
                    have e : ∀ x : Bool, ((((s3.ap (.box d (some []))).ap (.tok (vk d) false)).aps (bif x then [.tok (vm d) false] else []))).bx b = (s3.ap (.box d (some []))).bx b := fun x => by cases x <;> rfl
                    rw [e, AS.bx_set]
                  have h7 := fin _ ρ4 σ5 h6 R (fun b hb => r2' b (hld b hb)) (fun b hb => by rw [bx6, if_neg (hld b hb)]; exact bxl3 b hb)
                  obtain ⟨g0, g1, g2, g4, g5⟩ := boxWr_facts (backC s l r.sl (fB l o.dst r) (fun t => (r.toks.zip ns).lookup t)) l r.outs (((s3.ap (.box d (some []))).ap (.tok (vk d) false)).aps (bif hasVs r.val then [.tok (vm d) false] else [])) hn hlr
                  have h8 := h7.rebox (b := d) (cs0 := []) (by rw [g4 d hdl, bx6, if_pos rfl]) (newC r.val (fB l o.dst r) (fun t => (r.toks.zip ns).lookup t) cs) (by
                    unfold newC
                    rcases hbox with ⟨q1, q2⟩ | ⟨g, q1, q2, q3⟩
                    · exact .inl ⟨by rw [q1]; exact nil_back _, by rw [r1', q2]⟩
                    · exact .inr ⟨g, by rw [r1', q1], q2.back R _⟩)
                  have h9 := h8.put (left.val.mp2 R) d
                  rw [hdst]
                  refine ⟨M', ρ4, σ5, ?_⟩
                  simp only [aps_append]
                  rw [hs2, hs3]
                  rw [hdst] at h9
                  exact h9
                · cases hs
              · cases hs
            · cases hs
            · rename_i hnew
              have hgn := left.newn hnew
              have R := ren ρ σ1 (fun _ _ => rfl) (fun _ _ h => h) (fun d h1 => absurd hnew h1)
              have h7 := fin s3 ρ σ1 hown R (fun _ _ => rfl) bxl3
              cases hs
              simp only [aps_append]
              rw [hs2, hs3]
              refine ⟨M', ρ, σ1, ?_⟩
              cases hdst : o.dst with
              | none => rw [hdst] at h7; exact h7
              | some d =>
                have h9 := h7.put (left.val.mp2 R) d
                rw [hdst] at h9
                exact h9
          · cases hs
      · cases hs
    · cases hs
  · cases hs
theorem outV_ok (h : SimW B M ρ σ s a w) {o : Oper} {W : List Wr} {v : Option AV} (hs : outV o.dst v = some W) (hy : ∀ x, v = some x → Yields P M ρ σ a w o x) (K : Act → World → Prop) (Q : Exit → Act → World → Prop) (hK : ∀ a' w', Sim B (s.aps W) a' w' → K a' w') : o.wp P a w K Q := by
  cases v with
  | none => cases hs
  | some x =>
    cases hs
    obtain ⟨c, h1, h2⟩ := hy x rfl
    exact wp_val h1 (hK _ _ ⟨M, ρ, σ, h.out h2 o.dst⟩)
theorem flat_yields (h : SimW B M ρ σ s a w) {o : Oper} {x : AV} (hx : (flatOp o s).map nrm = some x) : Yields P M ρ σ a w o x := by
  obtain ⟨v, h1, h2⟩ := Option.map_eq_some_iff.1 hx
  subst h2
  exact ⟨v, flat_ok h h1, Rd.nrm v⟩
/-- One operation. -/
theorem step_ok (hT : TabOk P T) {Γ : Gam} (hG : GOk P Γ) (hS : Sim B s a w) {o : Oper} {W : List Wr} (hs : stepOp T Γ o s = some W) (K : Act → World → Prop) (Q : Exit → Act → World → Prop) (hK : ∀ a' w', Sim B (s.aps W) a' w' → K a' w') : o.wp P a w K Q := by
  obtain ⟨M, ρ, σ, h⟩ := hS
  unfold stepOp at hs
  split at hs
  · exact outV_ok h hs (fun x hx => spec_ok hT h hx) K Q hK
  · split at hs
    · rename_i t d ho hd; exact alloc_ok hT h ho hd hs K Q hK
    · rename_i t x d ho hd; exact box_ok h ho hd hs K Q hK
    · rename_i t x y ho hd; exact store_ok hT h ho hd hs K Q hK
    · rename_i t parts ho; exact outV_ok h hs (fun x hx => build_ok hT h ho hx) K Q hK
    · rename_i t len parts d ho hd; exact buildSlice_ok hT h ho hd hs K Q hK
    · rename_i c ho
      unfold stepCall at hs
      obtain ⟨callee, args, ats⟩ := c
      split at hs
      · rename_i f hc; dsimp only at hc hs; subst hc; exact call_ok hG h ho hs K Q hK
      · rename_i hc
        dsimp only at hc hs
        subst hc
        split at hs
        · rename_i x y t t' d e1 e2 hd
          have ea : args = #[x, y] := by rw [← Array.toList_inj]; exact e1
          have et : ats = #[t, t'] := by rw [← Array.toList_inj]; exact e2
          subst ea et
          split at hs
          · rename_i ht; subst ht; exact append_ok hT h ho hd hs K Q hK
          · cases hs
        · cases hs
      · rename_i hc
        dsimp only at hc hs
        subst hc
        split at hs
        · rename_i x y t t' e1 e2
          have ea : args = #[x, y] := by rw [← Array.toList_inj]; exact e1
          have et : ats = #[t, t'] := by rw [← Array.toList_inj]; exact e2
          subst ea et
          split at hs
          · rename_i ht; subst ht; exact copy_ok hT h ho hs K Q hK
          · cases hs
        · cases hs
      · exact outV_ok h hs (fun x hx => flat_yields h hx) K Q hK
      · cases hs
    · rename_i t l c d ho hd; exact make_ok hT h ho hd hs K Q hK
    · rename_i op t x y t2 ho; exact outV_ok h hs (fun x hx => bin_yields hT h ho hx) K Q hK
    · exact outV_ok h hs (fun x hx => flat_yields h hx) K Q hK
    · rename_i src dst x ho
      unfold convOp at hs
      split at hs
      · rename_i W' hv
        cases hs
        exact outV_ok h hv (fun y hy => spec_convert hT h ho hy) K Q hK
      · split at hs
        · rename_i d hd
          exact bytes_ok hT h ho hd hs K Q hK
        · cases hs
    · cases hs
end
end Go.Proofs.YtdmedeaknnldcaaGreatDoor
