/- Code without memory: what is kept at a loop, loops, whole bodies. -/
import Derived.Test.YtecoemdhnphmdaaSymN
namespace Go.Proofs.Ytecoemdhnphmdaa
open Go.RowKit
set_option linter.unusedVariables false
set_option linter.unusedSimpArgs false
set_option linter.unnecessarySimpa false
section
variable {P : Program} {T : Tab} {Γ : GamK} {B : Base} {M : Mem} {ρ ρ' : Rho} {σ σ' : Sig} {s s' : AS} {a : Act} {w : World} {Q : Exit → Act → World → Prop}
theorem Rd.kv0 {kb : List Nat} (hr : ∀ b g, kb.contains b = true → ρ b = some g → ρ' b = some g) {c : Value} {v : AV} (h : Rd M ρ σ c v) : Rd M ρ' σ' c (kv0 kb v) := by
  cases h with
  | @ptr _ _ b off g hb =>
    show Rd M ρ' σ' _ (if kb.contains b then .ptr b off else .any)
    split
    · rename_i hc; exact .ptr (hr b g hc hb)
    · exact .any
  | any => exact .any
  | v => exact Rd.of0 (Rd.dat0 (ρ := ρ) (σ := σ) .v)
  | nil => exact .nil
  | list cf h1 h2 h3 h4 h5 h6 h7 => exact Rd.of0 (Rd.dat0 (ρ := ρ) (σ := σ) (.list cf h1 h2 h3 h4 h5 h6 h7))
  | agg => exact .any
  | tup => exact .any
  | ref cf h1 h2 h3 => exact Rd.of0 (Rd.dat0 (ρ := ρ) (σ := σ) (.ref cf h1 h2 h3))
  | fn h1 h2 h3 h4 => exact Rd.of0 (Rd.dat0 (ρ := ρ) (σ := σ) (.fn h1 h2 h3 h4))
  | vs => exact .any
theorem Rd.kv {kb : List Nat} (hr : ∀ b g, kb.contains b = true → ρ b = some g → ρ' b = some g) {c : Value} {v : AV} (h : Rd M ρ σ c v) : Rd M ρ' σ' c (kv kb v) := by
  cases h with
  | ptr hb => exact Rd.kv0 (σ := σ) hr (.ptr hb)
  | @vs _ _ b g len cap n hb hl =>
    show Rd M ρ' σ' _ (if kb.contains b then .vs b len n else .any)
    split
    · rename_i hc; exact .vs (hr b g hc hb) hl
    · exact .any
  | fn h1 h2 h3 h4 => exact .fn (by simpa using h1) (fun i x y => by simpa using Rd.kv0 hr (h2 i x (by simpa using y))) (by simpa using h3) (fun i x y => by simpa using Rd.kv0 hr (h4 i x (by simpa using y)))
  | any => exact .any
  | v => exact Rd.of0 (Rd.dat2 (ρ := ρ) (σ := σ) .v)
  | nil => exact .nil
  | list cf h1 h2 h3 h4 h5 h6 h7 => exact Rd.of0 (Rd.dat2 (ρ := ρ) (σ := σ) (.list cf h1 h2 h3 h4 h5 h6 h7))
  | agg h1 h2 h3 => exact Rd.of0 (Rd.dat2 (ρ := ρ) (σ := σ) (.agg h1 h2 h3))
  | tup h1 h2 => exact Rd.of0 (Rd.dat2 (ρ := ρ) (σ := σ) (.tup h1 h2))
  | ref cf h1 h2 h3 => exact Rd.of0 (Rd.dat2 (ρ := ρ) (σ := σ) (.ref cf h1 h2 h3))
theorem Rd.nilL {n : Nat} {c : Value} {v : AV} (h : Rd M ρ σ c v) : Rd M ρ' σ' c (nilL n v) := by
  unfold Go.Proofs.Ytecoemdhnphmdaa.nilL
  split
  · rw [h.v_inv]; exact .nil
  · exact h.dat2.of0
theorem accV_rd {v : AV} {n t : Nat} {xs : List (List AV)} {k : Option Nat} {c : Value} (h1 : accV s v n = some (xs, k)) (hr : Rd M ρ σ c v) (hσ : ∀ k', k = some k' → ∀ sp, σ k' = some sp → σ' t = some sp) : Rd M ρ' σ' c (.list n xs (some t)) := by
  unfold accV at h1
  split at h1
  · rename_i n' xs' k'
    split at h1
    · rename_i hn
      subst hn
      split at h1
      · cases h1
        cases hr with
        | nil => exact .nil
        | list cf q1 q2 q3 q4 q5 q6 q7 =>
          refine .list cf q1 q2 q3 q4 q5 q6 (fun k0 hk0 => ?_)
          cases hk0
          exact (q7 k' rfl).imp id fun ⟨sp, w1, w2⟩ => ⟨sp, hσ k' rfl sp w1, w2⟩
      · cases h1
    · cases h1
  · cases h1
    rw [hr.v_inv]
    exact .nil
  · cases h1
theorem accV_tk {v : AV} {n k : Nat} {xs : List (List AV)} (h1 : accV s v n = some (xs, some k)) : s.tk k = some true := by
  unfold accV at h1
  split at h1
  · split at h1
    · split at h1
      · rename_i hq; cases h1; exact hq
      · cases h1
    · cases h1
  · cases h1
  · cases h1
theorem accsOf_mem (s : AS) : ∀ (l : List (Nat × Nat)) (al : List (Nat × (AV × Option Nat))), accsOf s l = some al → ∀ t p, (t, p) ∈ al → ∃ n xs k, accV s (s.at t) n = some (xs, k) ∧ p = (.list n xs (some t), k)
  | [], al, h, t, p, hl => by cases h; cases hl
  | (t0, n0) :: r, al, h, t, p, hl => by
    unfold accsOf at h
    split at h
    · rename_i xs k l h1 h2
      cases h
      rcases List.mem_cons.1 hl with e | e
      · cases e; exact ⟨n0, xs, k, h1, rfl⟩
      · exact accsOf_mem s r l h2 t p e
    · cases h
theorem baccsOf_mem (s : AS) : ∀ (l : List ((Nat × Nat) × Nat)) (al : List ((Nat × Nat) × (AV × Option Nat))), baccsOf s l = some al → ∀ t p, (t, p) ∈ al → ∃ n xs k, accV s (s.cell t) n = some (xs, k) ∧ p = (.list n xs (some (tb t)), k)
  | [], al, h, t, p, hl => by cases h; cases hl
  | (t0, n0) :: r, al, h, t, p, hl => by
    unfold baccsOf at h
    split at h
    · rename_i xs k l h1 h2
      cases h
      rcases List.mem_cons.1 hl with e | e
      · cases e; exact ⟨n0, xs, k, h1, rfl⟩
      · exact baccsOf_mem s r l h2 t p e
    · cases h
theorem lookup_mem {κ α : Type} [BEq κ] [LawfulBEq κ] : ∀ (l : List (κ × α)) (t : κ) (p : α), l.lookup t = some p → (t, p) ∈ l
  | (t0, p0) :: r, t, p, h => by
    rw [List.lookup_cons] at h
    by_cases e : t = t0
    · subst e; simp at h; subst h; exact List.mem_cons_self
    · have e2 : (t == t0) = false := by simp [e]
      rw [e2] at h
      exact List.mem_cons_of_mem _ (lookup_mem r t p h)
theorem distinct_lookup {α : Type} : ∀ (l : List (Nat × α)), distinct (l.map (·.1)) = true → ∀ t x, (t, x) ∈ l → l.lookup t = some x
  | [], _, t, x, h => by cases h
  | (t0, x0) :: r, hd, t, x, h => by
    rw [List.map_cons] at hd
    simp only [distinct, Bool.and_eq_true, Bool.not_eq_true'] at hd
    rw [List.lookup_cons]
    rcases List.mem_cons.1 h with e | e
    · cases e; simp
    · have : t ≠ t0 := fun e2 => by
        subst e2
        have h1 := hd.1
        rw [← Bool.not_eq_true, List.contains_iff_mem] at h1
        exact h1 (List.mem_map_of_mem (f := (·.1)) e)
      have e2 : (t == t0) = false := by simp [this]
      rw [e2]
      exact distinct_lookup r hd.2 t x e
theorem keepB_spec {kp : Keep} {bl : List ((Nat × Nat) × (AV × Option Nat))} {b : Nat} {cs : List AV} : (keepB kp bl b cs).length = cs.length ∧ ∀ i (h : i < (keepB kp bl b cs).length) (h' : i < cs.length), (keepB kp bl b cs)[i] = (match bl.lookup (b, i) with | some p => p.1 | none => kv0 kp.boxes cs[i]) := by
  unfold keepB
  cases hq : bl.any fun q => q.1.1 == b with
  | true => exact ⟨by simp, fun i h h' => by simp only [cond_true, List.getElem_mapIdx]; rfl⟩
  | false =>
    refine ⟨by simp, fun i h h' => ?_⟩
    have : bl.lookup (b, i) = none := by
      cases hl : bl.lookup (b, i) with
      | none => rfl
      | some p =>
        have := lookup_mem _ _ _ hl
        rw [List.any_eq_false] at hq
        have := hq _ this
        simp at this
    rw [this]
    simp
theorem distinct_filterMap {α : Type} (f : α → Option Nat) : ∀ (l : List α), distinct (l.filterMap f) = true → ∀ x y k, x ∈ l → y ∈ l → f x = some k → f y = some k → x = y
  | [], _, x, y, k, hx, _, _, _ => by cases hx
  | z :: r, h, x, y, k, hx, hy, fx, fy => by
    have notin : ∀ q, q ∈ r → f q = some k → f z = some k → False := fun q hq fq fz => by
      rw [List.filterMap_cons, fz] at h
      simp only [distinct, Bool.and_eq_true, Bool.not_eq_true'] at h
      have : k ∈ r.filterMap f := List.mem_filterMap.2 ⟨q, hq, fq⟩
      have h1 := h.1
      rw [← Bool.not_eq_true, List.contains_iff_mem] at h1
      exact h1 this
    have hr : distinct (r.filterMap f) = true := by
      rw [List.filterMap_cons] at h
      split at h
      · exact h
      · simp only [distinct, Bool.and_eq_true] at h; exact h.2
    rcases List.mem_cons.1 hx with ex | ex <;> rcases List.mem_cons.1 hy with ey | ey
    · rw [ex, ey]
    · subst ex; exact (notin y ey fy fx).elim
    · subst ey; exact (notin x ex fx fy).elim
    · exact distinct_filterMap f r hr x y k ex ey fx fy
theorem lookup_map_true {α : Type} : ∀ (l : List (Nat × α)) (t : Nat), (l.map fun p => (p.1, true)).lookup t = (l.lookup t).map fun _ => true
  | [], t => rfl
  | (t0, p) :: r, t => by
    rw [List.map_cons, List.lookup_cons, List.lookup_cons]
    cases t == t0
    · exact lookup_map_true r t
    · rfl
theorem range_map_at {α : Type} (f : Nat → α) (n t : Nat) (d : α) : (((List.range n).map f)[t]?).getD d = if t < n then f t else d := by
  rw [List.getElem?_map]
  by_cases h : t < n
  · rw [List.getElem?_range h, if_pos h]; rfl
  · rw [List.getElem?_eq_none (by simp; omega), if_neg h]; rfl
/-- What is forgotten does no harm. -/
theorem keep_ok {kp : Keep} (hS : Sim B s a w) (hk : keep kp s = some s') : Sim B s' a w := by
  obtain ⟨M, ρ, σ, h⟩ := hS
  unfold keep at hk
  split at hk
  · rename_i al bl hal hbl
    split at hk
    · rename_i hd
      rw [Bool.and_eq_true] at hd
      obtain ⟨d1, d2⟩ := hd
      cases hk
      have acc := accsOf_mem s _ _ hal
      have bacc := baccsOf_mem s _ _ hbl
      obtain ⟨cl, hcl⟩ : ∃ cl : List (Nat × Option Nat), cl = al.map (fun p => (p.1, p.2.2)) ++ bl.map (fun p => (tb p.1, p.2.2)) := ⟨_, rfl⟩
      have k1 : cl.map (·.1) = al.map (·.1) ++ bl.map fun p => tb p.1 := by rw [hcl]; simp [Function.comp_def]
      have k2 : cl.filterMap (·.2) = (al.filterMap fun p => p.2.2) ++ (bl.filterMap fun p => p.2.2) := by rw [hcl]; simp [List.filterMap_append, List.filterMap_map, Function.comp_def]
      rw [← k1] at d1
      rw [← k2] at d2
      have clk : ∀ t k, (t, some k) ∈ cl → s.tk k = some true := fun t k hm => by
        rw [hcl] at hm
        rcases List.mem_append.1 hm with hm | hm
        · obtain ⟨⟨t', p⟩, m1, m2⟩ := List.mem_map.1 hm
          obtain ⟨n, xs, k', h1, h2⟩ := acc t' p m1
          subst h2
          cases m2
          exact accV_tk h1
        · obtain ⟨⟨t', p⟩, m1, m2⟩ := List.mem_map.1 hm
          obtain ⟨n, xs, k', h1, h2⟩ := bacc t' p m1
          subst h2
          cases m2
          exact accV_tk h1
      refine ⟨M, fun b => if kp.boxes.contains b then (match s.bx b with | some _ => ρ b | none => none) else none, fun t => match cl.lookup t with | some (some k) => σ k | _ => none, ?_⟩
      have hrho : ∀ b g, (if kp.boxes.contains b then (match s.bx b with | some _ => ρ b | none => none) else none) = some g → kp.boxes.contains b = true ∧ ρ b = some g ∧ ∃ cs, s.bx b = some cs := fun b g hb => by
        split at hb
        · rename_i hc
          split at hb
          · rename_i cs hcs; exact ⟨hc, hb, cs, hcs⟩
          · cases hb
        · cases hb
      have hup : ∀ b g, kp.boxes.contains b = true → ρ b = some g → (if kp.boxes.contains b then (match s.bx b with | some _ => ρ b | none => none) else none) = some g := fun b g hc hb => by
        obtain ⟨cs, hcs⟩ := h.rho b g hb
        rw [if_pos hc, hcs]; exact hb
      have hbx : ∀ b, AS.bx (keepS kp al bl s) b = if b < s.env.length then (if kp.boxes.contains b then (match s.bx b with | some cs => some (keepB kp bl b cs) | none => none) else none) else none := fun b => by
        unfold AS.bx keepS
        exact range_map_at _ _ _ _
      have htk : ∀ t, AS.tk (keepS kp al bl s) t = (cl.lookup t).map fun _ => true := fun t => by
        unfold AS.tk keepS
        dsimp only
        rw [← k1]
        have := lookup_map_true cl t
        rw [← this]
        simp [Function.comp_def]
      have hsig : ∀ t sp, (match cl.lookup t with | some (some k) => σ k | _ => none) = some sp → ∃ k, (t, some k) ∈ cl ∧ cl.lookup t = some (some k) ∧ σ k = some sp ∧ s.tk k = some true := fun t sp ht => by
        split at ht
        · rename_i k hl
          exact ⟨k, lookup_mem _ _ _ hl, hl, ht, clk t k (lookup_mem _ _ _ hl)⟩
        · cases ht
      refine { nin := h.nin, own := fun k g g' hk hr => h.own k g g' hk (hrho k g' hr).2.1, fresh := fun b g hn hr => h.fresh b g hn (hrho b g hr).2.1, len := by simp [h.len, keepS], blen := by simp [keepS], env := fun t => ?_, defers := h.defers, mem := h.mem, memB := h.memB, os := h.os, tape := h.tape, output := h.output, size := h.size, block := h.block, box := fun b cs hb => ?_, rho := fun b g hb => ?_, inj := fun b b' g hb hb' => h.inj b b' g (hrho b g hb).2.1 (hrho b' g hb').2.1, tok := fun t sp ht hs => ?_, sig := fun t sp hs => ?_, tinj := fun t t' sp sp' ht ht' hs hs' hg => ?_ }
      · have e : AS.at (keepS kp al bl s) t = if t < s.env.length then (match al.lookup t with | some p => p.1 | none => (match kp.lists.lookup t with | some n => nilL n (s.at t) | none => if kp.plain.contains t then kv kp.boxes (s.at t) else .any)) else .any := by
          unfold AS.at keepS
          exact range_map_at _ _ _ _
        rw [e]
        split
        · split
          · rename_i p hl
            have hm := lookup_mem _ _ _ hl
            obtain ⟨n, xs, k, h1, h2⟩ := acc t _ hm
            subst h2
            refine accV_rd h1 (h.env t) fun k' hk' sp hsp => ?_
            subst hk'
            have : cl.lookup t = some (some k') := distinct_lookup cl d1 t _ (by rw [hcl]; exact List.mem_append_left _ (List.mem_map.2 ⟨_, hm, rfl⟩))
            rw [this]
            exact hsp
          · split
            · exact Rd.nilL (h.env t)
            · split
              · exact Rd.kv hup (h.env t)
              · exact .any
        · exact .any
      · rw [hbx] at hb
        split at hb
        · split at hb
          · rename_i hc
            split at hb
            · rename_i cs0 hcs
              cases hb
              obtain ⟨g, q1, ⟨ccs, t, r1, r2, r3, r4⟩, q3, q4⟩ := h.box b cs0 hcs
              obtain ⟨z1, z2⟩ := keepB_spec (kp := kp) (bl := bl) (b := b) (cs := cs0)
              refine ⟨g, (by first | exact hup b g hc q1 | (rw [if_pos hc]; exact q1)), ⟨ccs, t, r1, by rw [z1]; exact r2, r3, fun i x y => ?_⟩, q3, q4⟩
              have y' : i < cs0.length := by omega
              rw [z2 i y y']
              split
              · rename_i p hl
                have hm := lookup_mem _ _ _ hl
                obtain ⟨n, xs, k, h1, h2⟩ := bacc (b, i) _ hm
                subst h2
                have ecell : s.cell (b, i) = cs0[i] := by
                  unfold AS.cell
                  simp only [hcs]
                  rw [List.getElem?_eq_getElem y']; rfl
                rw [ecell] at h1
                refine accV_rd h1 (r4 i x y') fun k' hk' sp hsp => ?_
                subst hk'
                have : cl.lookup (tb (b, i)) = some (some k') := distinct_lookup cl d1 _ _ (by rw [hcl]; exact List.mem_append_right _ (List.mem_map.2 ⟨_, hm, rfl⟩))
                rw [this]
                exact hsp
              · exact Rd.kv0 hup (r4 i x y')
            · cases hb
          · cases hb
        · cases hb
      · obtain ⟨h1, h2, cs, h3⟩ := hrho b g hb
        have : b < s.env.length := by rw [← h.blen]; exact AS.bx_lt h3
        exact ⟨_, by rw [hbx, if_pos this, if_pos h1, h3]⟩
      · obtain ⟨k, h0, h1, h2, h3⟩ := hsig t sp hs
        obtain ⟨q1, q2, q3, q4⟩ := h.tok k sp h3 h2
        exact ⟨q1, q2, q3, fun b hb => q4 b (hrho b _ hb).2.1⟩
      · obtain ⟨k, h0, h1, h2, h3⟩ := hsig t sp hs
        rw [htk, h1]; simp
      · obtain ⟨k, h0, h1, h2, h3⟩ := hsig t sp hs
        obtain ⟨k', h0', h1', h2', h3'⟩ := hsig t' sp' hs'
        have hkk := h.tinj k k' sp sp' h3 h3' h2 h2' hg
        subst hkk
        exact congrArg Prod.fst (distinct_filterMap (fun p : Nat × Option Nat => p.2) cl d2 _ _ k h0 h0' rfl rfl)
    · cases hk
  · cases hk
theorem baccsOf_fst (s : AS) : ∀ (l : List ((Nat × Nat) × Nat)) (al : List ((Nat × Nat) × (AV × Option Nat))), baccsOf s l = some al → al.map (·.1) = l.map (·.1)
  | [], al, h => by cases h; rfl
  | (t0, n0) :: r, al, h => by
    unfold baccsOf at h
    split at h
    · rename_i xs k l h1 h2
      cases h
      simp [baccsOf_fst s r l h2]
    · cases h
theorem accsOf_fst (s : AS) : ∀ (l : List (Nat × Nat)) (al : List (Nat × (AV × Option Nat))), accsOf s l = some al → al.map (·.1) = l.map (·.1)
  | [], al, h => by cases h; rfl
  | (t0, n0) :: r, al, h => by
    unfold accsOf at h
    split at h
    · rename_i xs k l h1 h2
      cases h
      simp [accsOf_fst s r l h2]
    · cases h
theorem lookup_contains {α : Type} : ∀ (l : List (Nat × α)) (t : Nat), (l.lookup t).isSome = (l.map (·.1)).contains t
  | [], t => rfl
  | (t0, p) :: r, t => by
    rw [List.lookup_cons, List.map_cons, List.contains_cons]
    cases h : t == t0
    · simp [lookup_contains r t]
    · rfl
theorem keep_canon {kp : Keep} {s0 s : AS} (h : keep kp s0 = some s) : s = canon kp s := by
  unfold keep at h
  split at h
  · rename_i al bl hal hbl
    split at h
    · cases h
      have hf := accsOf_fst s0 _ _ hal
      have hf2 := baccsOf_fst s0 _ _ hbl
      have hat : ∀ t, (keepS kp al bl s0).at t = if t < s0.env.length then (match al.lookup t with | some p => p.1 | none => (match kp.lists.lookup t with | some n => nilL n (s0.at t) | none => if kp.plain.contains t then kv kp.boxes (s0.at t) else .any)) else .any := fun t => by
        unfold AS.at keepS; exact range_map_at _ _ _ _
      have hbx : ∀ b, (keepS kp al bl s0).bx b = if b < s0.env.length then (if kp.boxes.contains b then (match s0.bx b with | some cs => some (keepB kp bl b cs) | none => none) else none) else none := fun b => by
        unfold AS.bx keepS; exact range_map_at _ _ _ _
      have hlen : (keepS kp al bl s0).env.length = s0.env.length := by simp [keepS]
      have e1 : (keepS kp al bl s0).env = (canon kp (keepS kp al bl s0)).env := by
        show _ = (List.range (keepS kp al bl s0).env.length).map _
        rw [hlen]
        show (List.range s0.env.length).map _ = _
        refine List.map_congr_left fun t ht => ?_
        have hlt : t < s0.env.length := by simpa using ht
        rw [hat t, if_pos hlt]
        have hc := lookup_contains al t
        rw [hf] at hc
        cases hl : al.lookup t with
        | some p => rw [hl] at hc; simp only [Option.isSome_some] at hc; rw [← hc]; rfl
        | none =>
          rw [hl] at hc
          simp only [Option.isSome_none] at hc
          rw [← hc]
          simp only [Bool.false_or]
          have hc2 := lookup_contains kp.lists t
          cases hl2 : kp.lists.lookup t with
          | some n => rw [hl2] at hc2; simp only [Option.isSome_some] at hc2; rw [← hc2]; rfl
          | none =>
            rw [hl2] at hc2
            simp only [Option.isSome_none] at hc2
            rw [← hc2]
            simp only [Bool.false_or]
            split <;> rfl
      have e2 : (keepS kp al bl s0).box = (canon kp (keepS kp al bl s0)).box := by
        show _ = (List.range (keepS kp al bl s0).env.length).map _
        rw [hlen]
        show (List.range s0.env.length).map _ = _
        refine List.map_congr_left fun b hb => ?_
        have hlt : b < s0.env.length := by simpa using hb
        rw [hbx b, if_pos hlt]
        split <;> rfl
      have e3 : (keepS kp al bl s0).tok = (canon kp (keepS kp al bl s0)).tok := by
        show (al.map (·.1) ++ bl.map fun p => tb p.1).map (fun t => (t, true)) = (kp.accs.map (·.1) ++ kp.baccs.map fun p => tb p.1).map (fun t => (t, true))
        have e4 : (bl.map fun p => tb p.1) = kp.baccs.map fun p => tb p.1 := by
          have := congrArg (List.map tb) hf2
          simpa [Function.comp_def] using this
        rw [hf, e4]
      have ext : ∀ x y : AS, x.env = y.env → x.box = y.box → x.tok = y.tok → x.nin = y.nin → x = y := fun x y a b c d => by cases x; cases y; simp_all
      exact ext _ _ e1 e2 e3 rfl
    · cases h
  · cases h
/-- What a loop does, said of the model. -/
def LoopSem (P : Program) (c : Code) (s : AS) (o : Out) : Prop := ∀ (B : Base) (a : Act) (w : World) (Q : Exit → Act → World → Prop), Sim B s a w → (∀ a' w', Sim B o.2 a' w' → Q o.1 a' w') → (Code.loop c).wp P Q a w
/-- Whole bodies. -/
theorem aexec_ok (hT : TabOk P T) (hG : GOk P Γ.v) (hm : P.follows .mixedOrders = true) (An : Nat → Keep × Keep) (Λ : LoopK) : ∀ (c : Code) (n : Nat) (hL : ∀ p ∈ loopsOf c n, ∀ s o, s = canon (An p.1).1 s → Λ.v p.1 s = some o → LoopSem P p.2 s o) (α : Type) (s : AS) (K : Exit → AS → Option α) (x : α) (B : Base) (a : Act) (w : World) (Q : Exit → Act → World → Prop),
    aexec T Γ An Λ c n s K = some x → Sim B s a w → (∀ e s' a' w', K e s' = some x → Sim B s' a' w' → Q e a' w') → c.wp P Q a w := by
  intro c
  induction c with
  | skip => intro n hL α s K x B a w Q h hS hQ; exact wp_skip (hQ _ _ _ _ h hS)
  | label l => intro n hL α s K x B a w Q h hS hQ; exact wp_label (hQ _ _ _ _ h hS)
  | region id ops draw => intro n hL α s K x B a w Q h hS hQ; exact aregion_ok hT hG hm h hS (fun s' a' w' hk => hQ _ s' a' w' hk)
  | seq c1 c2 ih1 ih2 =>
    intro n hL α s K x B a w Q h hS hQ
    refine wp_seq (ih1 n (fun p hp => hL p (List.mem_append_left _ hp)) α s _ x B a w _ h hS fun e s' a' w' hk hS' => ?_)
    cases e with
    | normal => exact ih2 _ (fun p hp => hL p (List.mem_append_right _ hp)) α s' K x B a' w' Q hk hS' hQ
    | _ => exact hQ _ s' a' w' hk hS'
  | cond c x1 y1 ih1 ih2 =>
    intro n hL α s K x B a w Q h hS hQ
    unfold aexec at h
    split at h
    · rename_i b hb
      obtain ⟨M, ρ, σ, hs⟩ := hS
      have he := hs.ev c
      rw [hb] at he
      have hc := he.v_inv
      cases b
      · rw [knownO_eq hb] at h
        exact wp_cond_false hc (ih2 _ (fun p hp => hL p (List.mem_append_right _ hp)) α s K x B a w Q h ⟨M, ρ, σ, hs⟩ hQ)
      · rw [knownO_eq hb] at h
        exact wp_cond_true hc (ih1 _ (fun p hp => hL p (List.mem_append_left _ hp)) α s K x B a w Q h ⟨M, ρ, σ, hs⟩ hQ)
    · cases h
  | block id c ih =>
    intro n hL α s K x B a w Q h hS hQ
    refine wp_block (ih n hL α s _ x B a w _ h hS fun e s' a' w' hk hS' => ?_)
    cases e with
    | exit i =>
      simp only at hk
      show (if i = id then Q .normal a' w' else Q (.exit i) a' w')
      split at hk
      · rename_i hi; rw [if_pos hi]; exact hQ _ s' a' w' hk hS'
      · rename_i hi; rw [if_neg hi]; exact hQ _ s' a' w' hk hS'
    | _ => exact hQ _ s' a' w' hk hS'
  | loop c ih =>
    intro n hL α s K x B a w Q h hS hQ
    unfold aexec at h
    split at h
    · rename_i s' hk
      obtain ⟨o, h1, h2⟩ := Λ.eq _ _ _ _ _ h
      exact hL (n, c) List.mem_cons_self s' o (keep_canon hk) h1 B a w Q (keep_ok hS hk) fun a' w' hS' => hQ _ _ a' w' h2 hS'
    · cases h
  | exit id => intro n hL α s K x B a w Q h hS hQ; exact wp_exit (hQ _ _ _ _ h hS)
  | ret => intro n hL α s K x B a w Q h hS hQ; exact wp_ret (hQ _ _ _ _ h hS)
  | _ => intro n hL α s K x B a w Q h hS hQ; cases h
/-- A loop does what its equation says: V N says what it does in at most N rounds. -/
theorem loop_rule (hT : TabOk P T) (hG : GOk P Γ.v) (hm : P.follows .mixedOrders = true) (An : Nat → Keep × Keep) (Λ : LoopK) (n : Nat) (c : Code) (hL : ∀ p ∈ loopsOf c (n + 1), ∀ s o, s = canon (An p.1).1 s → Λ.v p.1 s = some o → LoopSem P p.2 s o) (V : Nat → AS → Option Out)
    (hstep : ∀ N s o, s = canon (An n).1 s → V N s = some o → ∃ M, M < N ∧ around T Γ An Λ n c s (V M) some = some o) : ∀ N s o, s = canon (An n).1 s → V N s = some o → LoopSem P c s o := by
  intro N0 s0 o hc0 h0 B a0 w0 Q hS0 hQ
  let G : Nat → Act → World → Prop := fun m a w => ∃ s, Sim B s a w ∧ s = canon (An n).1 s ∧ V m s = some o
  have dec : ∀ a w, (∃ m, G m a w) → ∃ m, G m a w ∧ ∀ m', m' < m → ¬ G m' a w := fun a w ⟨m, hm⟩ => by
    induction m using Nat.strongRecOn with
    | _ m ih =>
      by_cases hx : ∃ m', m' < m ∧ G m' a w
      · obtain ⟨m', h1, h2⟩ := hx; exact ih m' h1 h2
      · exact ⟨m, hm, fun m' h1 h2 => hx ⟨m', h1, h2⟩⟩
  have μx : ∃ ν : Act → World → Nat, ∀ a w, (∃ m, G m a w) → G (ν a w) a w ∧ ∀ m', m' < ν a w → ¬ G m' a w :=
    ⟨fun a w => open Classical in if hx : ∃ m, G m a w then Classical.choose (dec a w hx) else 0, fun a w hx => by
      simp only [dif_pos hx]
      exact Classical.choose_spec (dec a w hx)⟩
  obtain ⟨ν, hν⟩ := μx
  refine wp_loop (fun a w => ∃ m, G m a w) ν ⟨N0, s0, hS0, hc0, h0⟩ fun a w hI => ?_
  obtain ⟨⟨s1, hS1, hc1, hv1⟩, hmin⟩ := hν a w hI
  obtain ⟨M, hM, hr⟩ := hstep _ s1 o hc1 hv1
  unfold around at hr
  refine aexec_ok hT hG hm An Λ c (n + 1) hL Out s1 _ o B a w _ hr hS1 fun e s' a' w' hk hS' => ?_
  have notNormal : ∀ e : Exit, (match keep (An n).2 s' with | some s3 => some (e, s3) | none => none) = some o → Q e a' w' := fun e hk => by
    split at hk
    · rename_i s3 hk3
      cases hk
      exact hQ a' w' (keep_ok hS' hk3)
    · cases hk
  cases e with
  | normal =>
    simp only at hk
    split at hk
    · rename_i s2 hk2
      have hg : G M a' w' := ⟨s2, keep_ok hS' hk2, keep_canon hk2, hk⟩
      refine ⟨⟨_, hg⟩, ?_⟩
      obtain ⟨-, hmin'⟩ := hν a' w' ⟨_, hg⟩
      have : ¬ M < ν a' w' := fun hlt => hmin' _ hlt hg
      omega
    · cases hk
  | exit i => exact notNormal _ hk
  | goto i => exact notNormal _ hk
  | ret => exact notNormal _ hk
  | panic i => exact notNormal _ hk
  | outgrown => exact notNormal _ hk
end
end Go.Proofs.Ytecoemdhnphmdaa
