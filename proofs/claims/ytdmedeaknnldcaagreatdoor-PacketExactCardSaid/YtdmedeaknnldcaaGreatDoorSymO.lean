/- Code without memory: what is kept at a loop, loops, whole bodies. -/
import Derived.Test.YtdmedeaknnldcaaGreatDoorSymN
namespace Go.Proofs.YtdmedeaknnldcaaGreatDoor
open Go.RowKit
set_option linter.unusedVariables false
set_option linter.unusedSimpArgs false
set_option linter.unnecessarySimpa false
section
variable {P : Program} {T : Tab} {Γ : GamK} {B : Base} {M : Mem} {ρ ρ' : Rho} {σ σ' : Sig} {s s' : AS} {a : Act} {w : World} {Q : Exit → Act → World → Prop}
theorem Rd.nilL {n : Nat} {c : Value} {v : AV} (h : Rd M ρ σ c v) : Rd M ρ' σ' c (nilL n v) := by
  unfold Go.Proofs.YtdmedeaknnldcaaGreatDoor.nilL
  split
  · rw [h.v_inv]; exact .nil
  · exact h.dat2.of0
theorem accV_rd {v : AV} {n t : Nat} {xs : List (List AV)} {k : Option Nat} {c : Value} (h1 : accV s v n = some (xs, k)) (hr : Rd M ρ σ c v) (hσ : ∀ k', k = some k' → ∀ sp, σ k' = some sp → σ' t = some sp) : Rd M ρ' σ' c (.list n xs (some t)) := by
  unfold accV at h1
  split at h1
  · rename_i n' xs' k'
    split at h1
    · rename_i hn
      subst hn
      split at h1
      · cases h1
        cases hr with
        | nil => exact .nil
        | list cf q1 q2 q3 q4 q5 q6 q7 =>
          refine .list cf q1 q2 q3 q4 q5 q6 (fun k0 hk0 => ?_)
          cases hk0
          exact (q7 k' rfl).imp id fun ⟨sp, w1, w2⟩ => ⟨sp, hσ k' rfl sp w1, w2⟩
      · cases h1
    · cases h1
  · cases h1
    rw [hr.v_inv]
    exact .nil
  · cases h1
theorem accV_tk {v : AV} {n k : Nat} {xs : List (List AV)} (h1 : accV s v n = some (xs, some k)) : s.tk k = some true := by
  unfold accV at h1
  split at h1
  · split at h1
    · split at h1
      · rename_i hq; cases h1; exact hq
      · cases h1
    · cases h1
  · cases h1
  · cases h1
theorem accsOf_mem (s : AS) : ∀ (l : List (Nat × Nat)) (al : List (Nat × (AV × Option Nat))), accsOf s l = some al → ∀ t p, (t, p) ∈ al → ∃ n xs k, accV s (s.at t) n = some (xs, k) ∧ p = (.list n xs (some (tA t)), k)
  | [], al, h, t, p, hl => by cases h; cases hl
  | (t0, n0) :: r, al, h, t, p, hl => by
    unfold accsOf at h
    split at h
    · rename_i xs k l h1 h2
      cases h
      rcases List.mem_cons.1 hl with e | e
      · cases e; exact ⟨n0, xs, k, h1, rfl⟩
      · exact accsOf_mem s r l h2 t p e
    · cases h
theorem baccsOf_mem (s : AS) : ∀ (l : List ((Nat × Nat) × Nat)) (al : List ((Nat × Nat) × (AV × Option Nat))), baccsOf s l = some al → ∀ t p, (t, p) ∈ al → ∃ n xs k, accV s (s.cell t) n = some (xs, k) ∧ p = (.list n xs (some (tb t)), k)
  | [], al, h, t, p, hl => by cases h; cases hl
  | (t0, n0) :: r, al, h, t, p, hl => by
    unfold baccsOf at h
    split at h
    · rename_i xs k l h1 h2
      cases h
      rcases List.mem_cons.1 hl with e | e
      · cases e; exact ⟨n0, xs, k, h1, rfl⟩
      · exact baccsOf_mem s r l h2 t p e
    · cases h
theorem distinct_filterMap {α : Type} (f : α → Option Nat) : ∀ (l : List α), distinct (l.filterMap f) = true → ∀ x y k, x ∈ l → y ∈ l → f x = some k → f y = some k → x = y
  | [], _, x, y, k, hx, _, _, _ => by cases hx
  | z :: r, h, x, y, k, hx, hy, fx, fy => by
    have notin : ∀ q, q ∈ r → f q = some k → f z = some k → False := fun q hq fq fz => by
      rw [List.filterMap_cons, fz] at h
      simp only [distinct, Bool.and_eq_true, Bool.not_eq_true'] at h
      have : k ∈ r.filterMap f := List.mem_filterMap.2 ⟨q, hq, fq⟩
      have h1 := h.1
      rw [← Bool.not_eq_true, List.contains_iff_mem] at h1
      exact h1 this
    have hr : distinct (r.filterMap f) = true := by
      rw [List.filterMap_cons] at h
      split at h
      · exact h
      · simp only [distinct, Bool.and_eq_true] at h; exact h.2
    rcases List.mem_cons.1 hx with ex | ex <;> rcases List.mem_cons.1 hy with ey | ey
    · rw [ex, ey]
    · subst ex; exact (notin y ey fy fx).elim
    · subst ey; exact (notin x ex fx fy).elim
    · exact distinct_filterMap f r hr x y k ex ey fx fy
theorem range_map_at {α : Type} (f : Nat → α) (n t : Nat) (d : α) : (((List.range n).map f)[t]?).getD d = if t < n then f t else d := by
  rw [List.getElem?_map]
  by_cases h : t < n
  · rw [List.getElem?_range h, if_pos h]; rfl
  · rw [List.getElem?_eq_none (by simp; omega), if_neg h]; rfl
theorem lookup_contains {α : Type} : ∀ (l : List (Nat × α)) (t : Nat), (l.lookup t).isSome = (l.map (·.1)).contains t
  | [], t => rfl
  | (t0, p) :: r, t => by
    rw [List.lookup_cons, List.map_cons, List.contains_cons]
    cases h : t == t0
    · simp [lookup_contains r t]
    · rfl
theorem accsOf_fst (s : AS) : ∀ (l : List (Nat × Nat)) (al : List (Nat × (AV × Option Nat))), accsOf s l = some al → al.map (·.1) = l.map (·.1)
  | [], al, h => by cases h; rfl
  | (t0, n0) :: r, al, h => by
    unfold accsOf at h
    split at h
    · rename_i xs k l h1 h2
      cases h
      simp [accsOf_fst s r l h2]
    · cases h

theorem baccsOf_fst (s : AS) : ∀ (l : List ((Nat × Nat) × Nat)) (al : List ((Nat × Nat) × (AV × Option Nat))), baccsOf s l = some al → al.map (·.1) = l.map (·.1)
  | [], al, h => by cases h; rfl
  | (t0, n0) :: r, al, h => by
    unfold baccsOf at h
    split at h
    · rename_i xs k l h1 h2
      cases h
      simp [baccsOf_fst s r l h2]
    · cases h

theorem vOf_spec {v : AV} {n name : Nat} {e : VE} (h : vOf s v n name = some e) : e.name = name ∧ ((∃ b off len, v = .vs b off len n ∧ s.nin ≤ b ∧ s.bx b = some e.cs ∧ e.act = some b ∧ e.val = .vs name off len n) ∨ (v = .v (.slice none 0 0) ∧ e.act = none ∧ e.val = .vs name 0 0 n ∧ e.cs = [])) := by
  unfold vOf at h
  split at h
  · rename_i b off len n'
    split at h
    · rename_i hc
      obtain ⟨rfl, hc⟩ := hc
      split at h
      · rename_i cs hcs
        cases h
        exact ⟨rfl, .inl ⟨b, off, len, rfl, hc, hcs, rfl, rfl⟩⟩
      · cases h
    · cases h
  · cases h
    exact ⟨rfl, .inr ⟨rfl, rfl, rfl, rfl⟩⟩
  · cases h
theorem vaccsOf_mem (s : AS) : ∀ (l : List (Nat × Nat)) (al : List (Nat × VE)), vaccsOf s l = some al → ∀ t e, (t, e) ∈ al → ∃ n, vOf s (s.at t) n (vA t) = some e
  | [], al, h, t, e, hl => by cases h; cases hl
  | (t0, n0) :: r, al, h, t, e, hl => by
    unfold vaccsOf at h
    split at h
    · rename_i e' l h1 h2
      cases h
      rcases List.mem_cons.1 hl with q | q
      · cases q; exact ⟨n0, h1⟩
      · exact vaccsOf_mem s r l h2 t e q
    · cases h
theorem vcellsOf_mem (s : AS) : ∀ (l : List ((Nat × Nat) × Nat)) (al : List ((Nat × Nat) × VE)), vcellsOf s l = some al → ∀ t e, (t, e) ∈ al → ∃ n, vOf s (s.cell t) n (vB t.1 t.2) = some e
  | [], al, h, t, e, hl => by cases h; cases hl
  | (t0, n0) :: r, al, h, t, e, hl => by
    unfold vcellsOf at h
    split at h
    · rename_i e' l h1 h2
      cases h
      rcases List.mem_cons.1 hl with q | q
      · cases q; exact ⟨n0, h1⟩
      · exact vcellsOf_mem s r l h2 t e q
    · cases h
theorem vaccsOf_fst (s : AS) : ∀ (l : List (Nat × Nat)) (al : List (Nat × VE)), vaccsOf s l = some al → al.map (·.1) = l.map (·.1) ∧ al.map (fun p => p.2.name) = l.map fun p => vA p.1
  | [], al, h => by cases h; exact ⟨rfl, rfl⟩
  | (t0, n0) :: r, al, h => by
    unfold vaccsOf at h
    split at h
    · rename_i e l h1 h2
      cases h
      obtain ⟨q1, q2⟩ := vaccsOf_fst s r l h2
      obtain ⟨e1, -⟩ := vOf_spec h1
      exact ⟨by simp [q1], by simp only [List.map_cons, q2, e1]⟩
    · cases h
theorem vcellsOf_fst (s : AS) : ∀ (l : List ((Nat × Nat) × Nat)) (al : List ((Nat × Nat) × VE)), vcellsOf s l = some al → al.map (·.1) = l.map (·.1) ∧ al.map (fun p => p.2.name) = l.map fun p => vB p.1.1 p.1.2
  | [], al, h => by cases h; exact ⟨rfl, rfl⟩
  | (t0, n0) :: r, al, h => by
    unfold vcellsOf at h
    split at h
    · rename_i e l h1 h2
      cases h
      obtain ⟨q1, q2⟩ := vcellsOf_fst s r l h2
      obtain ⟨e1, -⟩ := vOf_spec h1
      exact ⟨by simp [q1], by simp only [List.map_cons, q2, e1]⟩
    · cases h
theorem nodup_lookup {κ α : Type} [BEq κ] [LawfulBEq κ] : ∀ (l : List (κ × α)), (l.map (·.1)).Nodup → ∀ t x, (t, x) ∈ l → l.lookup t = some x
  | [], _, t, x, h => by cases h
  | (t0, x0) :: r, hd, t, x, h => by
    rw [List.map_cons] at hd
    obtain ⟨h1, h2⟩ := List.nodup_cons.1 hd
    rw [List.lookup_cons]
    rcases List.mem_cons.1 h with e | e
    · cases e; simp
    · have : t ≠ t0 := fun e2 => h1 (by subst e2; exact List.mem_map_of_mem (f := (·.1)) e)
      have e2 : (t == t0) = false := by simp [this]
      rw [e2]
      exact nodup_lookup r h2 t x e
theorem keepB_spec {kp : Keep} {bl : List ((Nat × Nat) × (AV × Option Nat))} {vc : List ((Nat × Nat) × VE)} {f : Nat → Option Nat} {b : Nat} {cs : List AV} : (keepB kp bl vc f b cs).length = cs.length ∧ ∀ i (h : i < (keepB kp bl vc f b cs).length) (h' : i < cs.length), (keepB kp bl vc f b cs)[i] = dat0 cs[i] ∨ (keepB kp bl vc f b cs)[i] = mp0 f no1 cs[i] ∨ (∃ p, bl.lookup (b, i) = some p ∧ (keepB kp bl vc f b cs)[i] = p.1) ∨ ∃ e, vc.lookup (b, i) = some e ∧ (keepB kp bl vc f b cs)[i] = e.val := by
  unfold keepB
  cases kp.sl.contains b with
  | true => exact ⟨by simp, fun i h h' => .inl (by simp)⟩
  | false =>
    simp only [cond_false]
    cases bl.any (fun q => q.1.1 == b) || vc.any (fun q => q.1.1 == b) with
    | false => exact ⟨by simp, fun i h h' => .inr (.inl (by simp))⟩
    | true =>
      refine ⟨by simp, fun i h h' => .inr ?_⟩
      simp only [cond_true, List.getElem_mapIdx]
      cases h1 : bl.lookup (b, i) with
      | some p => exact .inr (.inl ⟨p, rfl, rfl⟩)
      | none =>
        cases h2 : vc.lookup (b, i) with
        | some e => exact .inr (.inr ⟨e, rfl, rfl⟩)
        | none => exact .inl rfl
/-- What is forgotten does no harm. -/
theorem keep_ok {kp : Keep} (hS : Sim B s a w) (hk : keep kp s = some s') : Sim B s' a w := by
  obtain ⟨M, ρ, σ, h⟩ := hS
  unfold keep at hk
  split at hk
  · rename_i al bl va vc hal hbl hva hvc
    split at hk
    · rename_i hd
      simp only [Bool.and_eq_true] at hd
      obtain ⟨d1, d2, d3, d4, d5, d6⟩ := hd
      cases hk
      have acc := accsOf_mem s _ _ hal
      have bacc := baccsOf_mem s _ _ hbl
      have vacc := vaccsOf_mem s _ _ hva
      have vcell := vcellsOf_mem s _ _ hvc
      have nm1 := (vaccsOf_fst s _ _ hva).2
      have nm2 := (vcellsOf_fst s _ _ hvc).2
      obtain ⟨ves, hves⟩ : ∃ ves, va.map (·.2) ++ vc.map (·.2) = ves := ⟨_, rfl⟩
      rw [hves] at d4 d6
      have vesM : ∀ e ∈ ves, (∃ t, (t, e) ∈ va) ∨ ∃ p, (p, e) ∈ vc := fun e he => by
        rw [← hves] at he
        rcases List.mem_append.1 he with he | he
        · obtain ⟨⟨t, e'⟩, m1, rfl⟩ := List.mem_map.1 he; exact .inl ⟨t, m1⟩
        · obtain ⟨⟨t, e'⟩, m1, rfl⟩ := List.mem_map.1 he; exact .inr ⟨t, m1⟩
      have hnames : kp.names = kp.boxes ++ ves.map (·.name) := by
        rw [← hves]
        simp only [Keep.names, List.map_append, List.map_map, ← nm1, ← nm2, Function.comp_def]
      have names_nd := distinct_nodup _ d3
      -- what is known of the slices that get names
      have vesOk : ∀ e ∈ ves, s.nin ≤ e.name ∧ ((∃ b, s.nin ≤ b ∧ s.bx b = some e.cs ∧ e.act = some b) ∨ (e.act = none ∧ e.cs = [])) := fun e he => by
        refine ⟨of_decide_eq_true (List.all_eq_true.1 d6 e he), ?_⟩
        rcases vesM e he with ⟨t, ht⟩ | ⟨p, hp⟩
        · obtain ⟨n, hv⟩ := vacc t e ht
          rcases (vOf_spec hv).2 with ⟨b, off, len, -, q1, q2, q3, -⟩ | ⟨-, q1, -, q2⟩
          · exact .inl ⟨b, q1, q2, q3⟩
          · exact .inr ⟨q1, q2⟩
        · obtain ⟨n, hv⟩ := vcell p e hp
          rcases (vOf_spec hv).2 with ⟨b, off, len, -, q1, q2, q3, -⟩ | ⟨-, q1, -, q2⟩
          · exact .inl ⟨b, q1, q2, q3⟩
          · exact .inr ⟨q1, q2⟩
      -- the names and what they stand for
      obtain ⟨rt, hrt⟩ : ∃ rt : List (Nat × Option Nat), rt = kp.boxes.map (fun b => (b, some b)) ++ ves.map fun e => (e.name, e.act) := ⟨_, rfl⟩
      have rt1 : rt.map (·.1) = kp.names := by rw [hrt, hnames]; simp [Function.comp_def]
      have rtM : ∀ b x, (b, x) ∈ rt → (b ∈ kp.boxes ∧ x = some b) ∨ ∃ e ∈ ves, b = e.name ∧ x = e.act := fun b x hm => by
        rw [hrt] at hm
        rcases List.mem_append.1 hm with hm | hm
        · obtain ⟨b', m1, m2⟩ := List.mem_map.1 hm; cases m2; exact .inl ⟨m1, rfl⟩
        · obtain ⟨e, m1, m2⟩ := List.mem_map.1 hm; cases m2; exact .inr ⟨e, m1, rfl, rfl⟩
      have rtL : ∀ b x, (b, x) ∈ rt → rt.lookup b = some x := nodup_lookup rt (by rw [rt1]; exact names_nd)
      have act_nd := distinct_nodup _ d4
      -- tokens
      obtain ⟨ct, hct⟩ : ∃ ct : List (Nat × Option Nat), ct = al.map (fun p => (tA p.1, p.2.2)) ++ (bl.map (fun p => (tb p.1, p.2.2)) ++ rt.map fun p => (vk p.1, p.2.map vk)) := ⟨_, rfl⟩
      have ct1 : ct.map (·.1) = al.map (fun p => tA p.1) ++ (bl.map (fun p => tb p.1) ++ kp.names.map vk) := by
        rw [hct, ← rt1]; simp [Function.comp_def]
      have ct_nd : (ct.map (·.1)).Nodup := by rw [ct1]; exact distinct_nodup _ d1
      have ctL : ∀ t x, (t, x) ∈ ct → ct.lookup t = some x := nodup_lookup ct ct_nd
      have ctA : ∀ t p, (t, p) ∈ al → (tA t, p.2) ∈ ct := fun t p hm => by
        rw [hct]; exact List.mem_append_left _ (List.mem_map.2 ⟨_, hm, rfl⟩)
      have ctB : ∀ t p, (t, p) ∈ bl → (tb t, p.2) ∈ ct := fun t p hm => by
        rw [hct]; exact List.mem_append_right _ (List.mem_append_left _ (List.mem_map.2 ⟨_, hm, rfl⟩))
      have ctV : ∀ b x, (b, x) ∈ rt → (vk b, x.map vk) ∈ ct := fun b x hm => by
        rw [hct]; exact List.mem_append_right _ (List.mem_append_right _ (List.mem_map.2 ⟨_, hm, rfl⟩))
      let ρ' : Rho := fun b => match rt.lookup b with | some (some a) => ρ a | _ => none
      let σ' : Sig := fun t => match ct.lookup t with | some (some k) => σ k | _ => none
      have hρ' : ∀ b a, (b, some a) ∈ rt → ρ' b = ρ a := fun b a hm => by
        show (match rt.lookup b with | some (some a) => ρ a | _ => none) = _
        rw [rtL b _ hm]
      have hρn : ∀ b, (b, none) ∈ rt → ρ' b = none := fun b hm => by
        show (match rt.lookup b with | some (some a) => ρ a | _ => none) = _
        rw [rtL b _ hm]
      have hρ2 : ∀ b g, ρ' b = some g → ∃ a, (b, some a) ∈ rt ∧ ρ a = some g := fun b g hb => by
        have hb' : (match rt.lookup b with | some (some a) => ρ a | _ => none) = some g := hb
        split at hb'
        · rename_i a hl; exact ⟨a, lookup_mem _ _ _ hl, hb'⟩
        · cases hb'
      have hσ' : ∀ t k, (t, some k) ∈ ct → σ' t = σ k := fun t k hm => by
        show (match ct.lookup t with | some (some k) => σ k | _ => none) = _
        rw [ctL t _ hm]
      have hσ2 : ∀ t sp, σ' t = some sp → ∃ k, (t, some k) ∈ ct ∧ σ k = some sp := fun t sp ht => by
        have ht' : (match ct.lookup t with | some (some k) => σ k | _ => none) = some sp := ht
        split at ht'
        · rename_i k hl; exact ⟨k, lookup_mem _ _ _ hl, ht'⟩
        · cases ht'
      -- the new state
      obtain ⟨f, hf⟩ : ∃ f : Nat → Option Nat, f = fun b => (fmOf kp ves).lookup b := ⟨_, rfl⟩
      have hfm : ∀ b b', f b = some b' → (b', some b) ∈ rt := fun b b' hb => by
        rw [hf] at hb
        have hm := lookup_mem _ _ _ hb
        unfold fmOf at hm
        rw [hrt]
        rcases List.mem_append.1 hm with hm | hm
        · obtain ⟨x, m1, m2⟩ := List.mem_map.1 hm; cases m2
          exact List.mem_append_left _ (List.mem_map.2 ⟨b, m1, rfl⟩)
        · obtain ⟨e, m1, m2⟩ := List.mem_filterMap.1 hm
          split at m2
          · rename_i x hx
            cases m2
            exact List.mem_append_right _ (List.mem_map.2 ⟨e, m1, by rw [hx]⟩)
          · cases m2
      have R : Ren f no1 ρ σ ρ' σ' := ⟨fun b b' x hb hx => by rw [hρ' b' b (hfm b b' hb)]; exact hx, fun t t' sp ht => (by cases ht), fun b b' sp hb hsp => by
        have := ctV _ _ (hfm b b' hb)
        rw [hσ' _ _ this]; exact hsp⟩
      have bxN : ∀ b cs', (keepS kp al bl va vc s).bx b = some cs' → (b ∈ kp.boxes ∧ ∃ cs, s.bx b = some cs ∧ cs' = keepB kp bl vc f b cs) ∨ ∃ e ∈ ves, b = e.name ∧ cs' = e.cs.map dat0 := fun b cs' hb => by
        unfold AS.bx keepS at hb
        dsimp only at hb
        rw [hves, ← hf] at hb
        split at hb
        · rename_i x hx
          subst hb
          rcases List.mem_append.1 (lookup_mem _ _ _ hx) with hm | hm
          · obtain ⟨b', m1, m2⟩ := List.mem_map.1 hm
            have e1 : b' = b := congrArg Prod.fst m2
            subst e1
            have e2 := congrArg Prod.snd m2
            dsimp only at e2
            split at e2
            · rename_i cs hcs; exact .inl ⟨m1, cs, hcs, (Option.some.inj e2).symm⟩
            · cases e2
          · obtain ⟨e, m1, m2⟩ := List.mem_map.1 hm
            cases m2
            exact .inr ⟨e, m1, rfl, rfl⟩
        · cases hb
      have bxP : ∀ b, (keepS kp al bl va vc s).bx b ≠ none → ∃ x, (b, x) ∈ rt ∧ ∀ a, x = some a → s.bx a ≠ none := fun b hb => by
        cases hq : (keepS kp al bl va vc s).bx b with
        | none => exact absurd hq hb
        | some cs' =>
          rcases bxN b cs' hq with ⟨m1, cs, m2, -⟩ | ⟨e, m1, m2, -⟩
          · exact ⟨some b, by rw [hrt]; exact List.mem_append_left _ (List.mem_map.2 ⟨b, m1, rfl⟩), fun a ha => by cases ha; rw [m2]; simp⟩
          · refine ⟨e.act, by rw [hrt, m2]; exact List.mem_append_right _ (List.mem_map.2 ⟨e, m1, rfl⟩), fun a ha => ?_⟩
            rcases (vesOk e m1).2 with ⟨b', -, q2, q3⟩ | ⟨q1, -⟩
            · rw [ha] at q3; cases q3; rw [q2]; simp
            · rw [ha] at q1; cases q1
      have actInj : ∀ b b' a, (b, some a) ∈ rt → (b', some a) ∈ rt → b = b' := fun b b' a h1 h2 => by
        have key : ∀ (l1 : List Nat) (l2 : List VE), (l1 ++ l2.filterMap (·.act)).Nodup → ∀ b b' a, (b, some a) ∈ l1.map (fun b => (b, some b)) ++ l2.map (fun e => (e.name, e.act)) → (b', some a) ∈ l1.map (fun b => (b, some b)) ++ l2.map (fun e => (e.name, e.act)) → b = b' := by
          intro l1 l2 hnd
          have hnd2 := List.nodup_append.1 hnd
          have inj2 : ∀ (l : List VE), (l.filterMap (·.act)).Nodup → ∀ e ∈ l, ∀ e' ∈ l, ∀ a, e.act = some a → e'.act = some a → e.name = e'.name := by
            intro l
            induction l with
            | nil => intro _ e he; cases he
            | cons z r ih =>
              intro hn e he e' he' a ha ha'
              have hr : (r.filterMap (·.act)).Nodup := by
                rw [List.filterMap_cons] at hn
                split at hn
                · exact hn
                · exact (List.nodup_cons.1 hn).2
              have nz : ∀ q ∈ r, q.act = some a → z.act = some a → False := fun q hq qa za => by
                rw [List.filterMap_cons, za] at hn
                exact (List.nodup_cons.1 hn).1 (List.mem_filterMap.2 ⟨q, hq, qa⟩)
              rcases List.mem_cons.1 he with e1 | e1 <;> rcases List.mem_cons.1 he' with e2 | e2
              · rw [e1, e2]
              · subst e1; exact (nz e' e2 ha' ha).elim
              · subst e2; exact (nz e e1 ha ha').elim
              · exact ih hr e e1 e' e2 a ha ha'
          have cases1 : ∀ b a, (b, some a) ∈ l1.map (fun b => (b, some b)) ++ l2.map (fun e => (e.name, e.act)) → (a = b ∧ b ∈ l1) ∨ ∃ e ∈ l2, e.name = b ∧ e.act = some a := fun b a hm => by
            rcases List.mem_append.1 hm with hm | hm
            · obtain ⟨x, m1, m2⟩ := List.mem_map.1 hm; cases m2; exact .inl ⟨rfl, m1⟩
            · obtain ⟨e, m1, m2⟩ := List.mem_map.1 hm
              exact .inr ⟨e, m1, congrArg Prod.fst m2, congrArg Prod.snd m2⟩
          intro b b' a h1 h2
          rcases cases1 b a h1 with ⟨rfl, m1⟩ | ⟨e, m1, rfl, m3⟩ <;> rcases cases1 b' _ h2 with ⟨q, m4⟩ | ⟨e', m4, rfl, m6⟩
          · exact q
          · exact absurd rfl (hnd2.2.2 _ m1 _ (List.mem_filterMap.2 ⟨e', m4, m6⟩))
          · subst q
            exact absurd rfl (hnd2.2.2 _ m4 _ (List.mem_filterMap.2 ⟨e, m1, m3⟩))
          · exact inj2 l2 hnd2.2.1 e m1 e' m4 a m3 m6
        rw [hrt] at h1 h2
        exact key _ _ act_nd b b' a h1 h2
      have tkN : ∀ t, (keepS kp al bl va vc s).tk t = kp.toks.lookup t := fun t => rfl
      have al1 : al.map (·.1) = kp.accs.map (·.1) := accsOf_fst s _ _ hal
      have bl1 : bl.map (·.1) = kp.baccs.map (·.1) := baccsOf_fst s _ _ hbl
      have tkT : ∀ t, kp.toks.lookup t = some true → (∃ p, (t, p) ∈ al.map fun q => (tA q.1, q.2.2)) ∨ ∃ p, (t, p) ∈ bl.map fun q => (tb q.1, q.2.2) := fun t ht => by
        have hm := lookup_mem _ _ _ ht
        unfold Keep.toks at hm
        rcases List.mem_append.1 hm with hm | hm
        · obtain ⟨t', m1, m2⟩ := List.mem_map.1 hm
          cases m2
          rcases List.mem_append.1 m1 with m1 | m1
          · obtain ⟨p, m3, rfl⟩ := List.mem_map.1 m1
            have : p.1 ∈ al.map (·.1) := by rw [al1]; exact List.mem_map_of_mem (f := (·.1)) m3
            obtain ⟨q, m4, m5⟩ := List.mem_map.1 this
            exact .inl ⟨q.2.2, List.mem_map.2 ⟨q, m4, by rw [m5]⟩⟩
          · obtain ⟨p, m3, rfl⟩ := List.mem_map.1 m1
            have : p.1 ∈ bl.map (·.1) := by rw [bl1]; exact List.mem_map_of_mem (f := (·.1)) m3
            obtain ⟨q, m4, m5⟩ := List.mem_map.1 this
            exact .inr ⟨q.2.2, List.mem_map.2 ⟨q, m4, by rw [m5]⟩⟩
        · rcases List.mem_append.1 hm with hm | hm
          · obtain ⟨x, -, m2⟩ := List.mem_map.1 hm; cases m2
          · obtain ⟨x, -, m2⟩ := List.mem_map.1 hm; cases m2
      have tkS : ∀ t, t ∈ ct.map (·.1) → kp.toks.lookup t ≠ none := fun t ht => by
        have hm : t ∈ kp.toks.map (·.1) := by
          unfold Keep.toks
          rw [ct1] at ht
          rcases List.mem_append.1 ht with ht | ht
          · obtain ⟨p, m1, rfl⟩ := List.mem_map.1 ht
            have : p.1 ∈ kp.accs.map (·.1) := by rw [← al1]; exact List.mem_map_of_mem (f := (·.1)) m1
            obtain ⟨q, m2, m3⟩ := List.mem_map.1 this
            refine List.mem_map.2 ⟨(tA p.1, true), List.mem_append_left _ (List.mem_map.2 ⟨_, List.mem_append_left _ (List.mem_map.2 ⟨q, m2, rfl⟩), by rw [m3]⟩), rfl⟩
          · rcases List.mem_append.1 ht with ht | ht
            · obtain ⟨p, m1, rfl⟩ := List.mem_map.1 ht
              have : p.1 ∈ kp.baccs.map (·.1) := by rw [← bl1]; exact List.mem_map_of_mem (f := (·.1)) m1
              obtain ⟨q, m2, m3⟩ := List.mem_map.1 this
              refine List.mem_map.2 ⟨(tb p.1, true), List.mem_append_left _ (List.mem_map.2 ⟨_, List.mem_append_right _ (List.mem_map.2 ⟨q, m2, rfl⟩), by rw [m3]⟩), rfl⟩
            · obtain ⟨p, m1, rfl⟩ := List.mem_map.1 ht
              refine List.mem_map.2 ⟨(vk p, false), List.mem_append_right _ (List.mem_append_left _ (List.mem_map.2 ⟨p, m1, rfl⟩)), rfl⟩
        rw [← Option.isSome_iff_ne_none, lookup_contains, List.contains_iff_mem]
        exact hm
      have live : ∀ t k, (t, some k) ∈ ct → kp.toks.lookup t = some true → s.tk k = some true := fun t k hm ht => by
        have e1 := ctL _ _ hm
        rcases tkT t ht with ⟨p, hp⟩ | ⟨p, hp⟩
        · obtain ⟨⟨t', q⟩, m1, m2⟩ := List.mem_map.1 hp
          cases m2
          rw [ctL _ _ (ctA t' q m1)] at e1
          obtain ⟨n, xs, k', h1, h2⟩ := acc t' q m1
          subst h2
          cases e1
          exact accV_tk h1
        · obtain ⟨⟨t', q⟩, m1, m2⟩ := List.mem_map.1 hp
          cases m2
          rw [ctL _ _ (ctB t' q m1)] at e1
          obtain ⟨n, xs, k', h1, h2⟩ := bacc t' q m1
          subst h2
          cases e1
          exact accV_tk h1
      have tkInj : ∀ t t' k, (t, some k) ∈ ct → (t', some k) ∈ ct → kp.toks.lookup t = some true → kp.toks.lookup t' = some true → t = t' := fun t t' k h1 h2 h3 h4 => by
        obtain ⟨cl, hcl⟩ : ∃ cl : List (Nat × Option Nat), cl = al.map (fun p => (tA p.1, p.2.2)) ++ bl.map (fun p => (tb p.1, p.2.2)) := ⟨_, rfl⟩
        have k2 : cl.filterMap (·.2) = (al.filterMap fun p => p.2.2) ++ (bl.filterMap fun p => p.2.2) := by rw [hcl]; simp [List.filterMap_append, List.filterMap_map, Function.comp_def]
        rw [← k2] at d2
        have inC : ∀ t, (t, some k) ∈ ct → kp.toks.lookup t = some true → (t, some k) ∈ cl := fun t hm ht => by
          have e1 := ctL _ _ hm
          rw [hcl]
          rcases tkT t ht with ⟨p, hp⟩ | ⟨p, hp⟩
          · have : (t, p) ∈ ct := by rw [hct]; exact List.mem_append_left _ hp
            rw [ctL _ _ this] at e1
            cases e1
            exact List.mem_append_left _ hp
          · have : (t, p) ∈ ct := by rw [hct]; exact List.mem_append_right _ (List.mem_append_left _ hp)
            rw [ctL _ _ this] at e1
            cases e1
            exact List.mem_append_right _ hp
        have := distinct_filterMap (·.2) cl d2 _ _ k (inC t h1 h3) (inC t' h2 h4) rfl rfl
        exact congrArg Prod.fst this
      have ninB : ∀ k, k < s.nin → k ∈ kp.boxes := fun k hk => by
        have := List.all_eq_true.1 d5 k (by simpa using hk)
        rwa [List.contains_iff_mem] at this
      have rtK : ∀ b, b ∈ kp.boxes → (b, some b) ∈ rt := fun b hb => by rw [hrt]; exact List.mem_append_left _ (List.mem_map.2 ⟨b, hb, rfl⟩)
      have rtE : ∀ e ∈ ves, (e.name, e.act) ∈ rt := fun e he => by rw [hrt]; exact List.mem_append_right _ (List.mem_map.2 ⟨e, he, rfl⟩)
      have vRd : ∀ v n name e, e ∈ ves → vOf s v n name = some e → ∀ c, Rd M ρ σ c v → Rd M ρ' σ' c e.val := fun v n name e he hv c hr => by
        obtain ⟨e1, hc⟩ := vOf_spec hv
        rcases hc with ⟨b, off, len, rfl, -, -, q3, q4⟩ | ⟨rfl, q1, q2, -⟩
        · have hm := rtE e he
          rw [q3] at hm
          rw [q4, ← e1]
          cases hr with
          | vs p1 p2 p3 =>
            refine .vs (by rw [hρ' _ _ hm]; exact p1) p2 (p3.imp fun sp p4 => ⟨?_, p4.2⟩)
            have := ctV _ _ hm
            rw [hσ' _ _ this]; exact p4.1
          | vsn => exact .vsn
          | vse => exact .vse
        · rw [q2, hr.v_inv]; exact .vsn
      refine ⟨M, ρ', σ', ?_⟩
      refine { nin := h.nin, own := fun k hk hbk => ?_, fresh := fun b g hn hr => ?_, len := by simp [h.len, keepS], env := fun t => ?_, defers := h.defers, mem := h.mem, memB := h.memB, memS := h.memS, gl := h.gl, os := h.os, tape := h.tape, output := h.output, size := h.size, block := h.block, box := fun b cs hb => ?_, rws := h.rws, rlt := fun b g hr => ?_, rho := fun b g hb => ?_, inj := fun b b' g hb hb' hr hr' => ?_, tok := fun t sp ht hs => ?_, cap := fun t sp hs => ?_, sig := fun t sp hs => ?_, capB := fun k hk sp hs => ?_, nink := fun k hk => ?_, tinj := fun t t' sp sp' ht ht' hs hs' hg => ?_ }
      · have e : AS.at (keepS kp al bl va vc s) t = if t < s.env.length then (match al.lookup t with | some p => p.1 | none => (match va.lookup t with | some e => e.val | none => (match kp.lists.lookup t with | some n => nilL n (s.at t) | none => if kp.plain.contains t then mp2 f no1 (s.at t) else .any))) else .any := by
          unfold AS.at keepS
          dsimp only
          rw [hves, ← hf]
          exact range_map_at _ _ _ _
        rw [e]
        split
        · split
          · rename_i p hl
            have hm := lookup_mem _ _ _ hl
            obtain ⟨n, xs, k, h1, h2⟩ := acc t _ hm
            subst h2
            refine accV_rd h1 (h.env t) fun k' hk' sp hsp => ?_
            subst hk'
            rw [hσ' _ _ (ctA t _ hm)]
            exact hsp
          · split
            · rename_i e hl
              have hm := lookup_mem _ _ _ hl
              obtain ⟨n, hv⟩ := vacc t e hm
              exact vRd _ _ _ e (by rw [← hves]; exact List.mem_append_left _ (List.mem_map.2 ⟨_, hm, rfl⟩)) hv _ (h.env t)
            · split
              · exact Rd.nilL (h.env t)
              · split
                · exact (h.env t).mp2 R
                · exact .any
        · exact .any
      · have hk' : k < s.nin := hk
        have hm := ninB k hk'
        rw [hρ' k k (rtK k hm)]
        refine h.own k hk' ?_
        obtain ⟨x, q1, q2⟩ := bxP k hbk
        have := (rtL _ _ q1).symm.trans (rtL _ _ (rtK k hm))
        exact q2 k (Option.some.inj this)
      · obtain ⟨a', m1, m2⟩ := hρ2 b g hr
        rcases rtM _ _ m1 with ⟨-, q⟩ | ⟨e, q1, q2, q3⟩
        · cases q; exact h.fresh _ g hn m2
        · rcases (vesOk e q1).2 with ⟨b', p1, -, p3⟩ | ⟨p1, -⟩
          · rw [← q3] at p3; cases p3; exact h.fresh _ g p1 m2
          · rw [← q3] at p1; cases p1
      · rcases bxN b cs hb with ⟨m1, cs0, m2, m3⟩ | ⟨e, m1, m2, m3⟩
        · subst m3
          obtain ⟨z1, z2⟩ := keepB_spec (kp := kp) (bl := bl) (vc := vc) (f := f) (b := b) (cs := cs0)
          rcases h.box b cs0 m2 with ⟨e1, e2⟩ | ⟨g, q1, ⟨ccs, t, r1, r2, r3, r4⟩, q3, q4⟩
          · refine .inl ⟨List.length_eq_zero_iff.1 (by rw [z1, e1]; rfl), by rw [hρ' b b (rtK b m1)]; exact e2⟩
          · refine .inr ⟨g, by rw [hρ' b b (rtK b m1)]; exact q1, ⟨ccs, t, r1, by rw [z1]; exact r2, fun i x y => r3 i x (by omega), fun i x y => ?_⟩, q3, q4⟩
            have y' : i < cs0.length := by omega
            have hr := r4 i x y'
            have ecell : s.cell (b, i) = cs0[i] := by
              unfold AS.cell
              simp only [m2]
              rw [List.getElem?_eq_getElem y']; rfl
            rcases z2 i y y' with z | z | ⟨p, z3, z⟩ | ⟨e, z3, z⟩
            · rw [z]; exact hr.dat0.of0
            · rw [z]; exact hr.mp0 R
            · rw [z]
              have hm := lookup_mem _ _ _ z3
              obtain ⟨n, xs, k, h1, h2⟩ := bacc (b, i) _ hm
              subst h2
              rw [ecell] at h1
              refine accV_rd h1 hr fun k' hk' sp hsp => ?_
              subst hk'
              rw [hσ' _ _ (ctB (b, i) _ hm)]
              exact hsp
            · rw [z]
              have hm := lookup_mem _ _ _ z3
              obtain ⟨n, hv⟩ := vcell (b, i) e hm
              rw [ecell] at hv
              exact vRd _ _ _ e (by rw [← hves]; exact List.mem_append_right _ (List.mem_map.2 ⟨_, hm, rfl⟩)) hv _ hr
        · subst m2 m3
          rcases (vesOk e m1).2 with ⟨b', p1, p2, p3⟩ | ⟨p1, p2⟩
          · have hm := rtE e m1
            rw [p3] at hm
            rcases h.box b' e.cs p2 with ⟨e1, e2⟩ | ⟨g, q1, ⟨ccs, t, r1, r2, r3, r4⟩, q3, q4⟩
            · exact .inl ⟨by rw [e1]; rfl, by rw [hρ' _ _ hm]; exact e2⟩
            · exact .inr ⟨g, by rw [hρ' _ _ hm]; exact q1, ⟨ccs, t, r1, by simpa using r2, fun i x y => r3 i x (by simpa using y), fun i x y => by simpa using (r4 i x (by simpa using y)).dat0.of0⟩, q3, q4⟩
          · have hm := rtE e m1
            rw [p1] at hm
            exact .inl ⟨by rw [p2]; rfl, hρn _ hm⟩
      · obtain ⟨a', m1, m2⟩ := hρ2 b g hr
        exact h.rlt a' g m2
      · obtain ⟨a', m1, m2⟩ := hρ2 b g hb
        refine .inr ?_
        rw [tkN]
        exact tkS _ (by exact List.mem_map.2 ⟨_, ctV _ _ m1, rfl⟩)
      · obtain ⟨x, p1, p2⟩ := bxP b hb
        obtain ⟨x', p1', p2'⟩ := bxP b' hb'
        obtain ⟨a', m1, m2⟩ := hρ2 b g hr
        obtain ⟨a2, m1', m2'⟩ := hρ2 b' g hr'
        have e1 := Option.some.inj ((rtL _ _ p1).symm.trans (rtL _ _ m1))
        have e2 := Option.some.inj ((rtL _ _ p1').symm.trans (rtL _ _ m1'))
        have := h.inj a' a2 g (p2 a' e1) (p2' a2 e2) m2 m2'
        subst this
        exact actInj b b' a' m1 m1'
      · rw [tkN] at ht
        obtain ⟨k, m1, m2⟩ := hσ2 t sp hs
        obtain ⟨q1, q2, q3, q4⟩ := h.tok k sp (live t k m1 ht) m2
        refine ⟨q1, q2, q3, fun b hb e => ?_⟩
        obtain ⟨x, p1, p2⟩ := bxP b hb
        obtain ⟨a', m1, m2⟩ := hρ2 b _ e
        have e1 := Option.some.inj ((rtL _ _ p1).symm.trans (rtL _ _ m1))
        exact q4 a' (p2 a' e1) m2
      · obtain ⟨k, m1, m2⟩ := hσ2 t sp hs
        exact h.cap k sp m2
      · obtain ⟨k, m1, m2⟩ := hσ2 t sp hs
        rw [tkN]
        exact tkS _ (List.mem_map.2 ⟨_, m1, rfl⟩)
      · have hk' : k < s.nin := hk
        rw [hσ' _ _ (ctV _ _ (rtK k (ninB k hk')))] at hs
        exact h.capB k hk' sp hs
      · have hk' : k < s.nin := hk
        rw [tkN]
        exact tkS _ (List.mem_map.2 ⟨_, ctV _ _ (rtK k (ninB k hk')), rfl⟩)
      · rw [tkN] at ht ht'
        obtain ⟨k, m1, m2⟩ := hσ2 t sp hs
        obtain ⟨k', m1', m2'⟩ := hσ2 t' sp' hs'
        have := h.tinj k k' sp sp' (live t k m1 ht) (live t' k' m1' ht') m2 m2' hg
        subst this
        exact tkInj t t' k m1 m1' ht ht'
    · cases hk
  · cases hk
theorem keep_canon {kp : Keep} {s0 s : AS} (h : keep kp s0 = some s) : s = canon kp s := by
  unfold keep at h
  split at h
  · rename_i al bl va vc hal hbl hva hvc
    split at h
    · rename_i hd
      simp only [Bool.and_eq_true] at hd
      obtain ⟨d1, d2, d3, d4, d5, d6⟩ := hd
      cases h
      have hf := accsOf_fst s0 _ _ hal
      obtain ⟨hv1, nm1⟩ := vaccsOf_fst s0 _ _ hva
      have nm2 := (vcellsOf_fst s0 _ _ hvc).2
      have hat : ∀ t, (keepS kp al bl va vc s0).at t = if t < s0.env.length then (match al.lookup t with | some p => p.1 | none => (match va.lookup t with | some e => e.val | none => (match kp.lists.lookup t with | some n => nilL n (s0.at t) | none => if kp.plain.contains t then mp2 (fun b => (fmOf kp (va.map (·.2) ++ vc.map (·.2))).lookup b) no1 (s0.at t) else .any))) else .any := fun t => by
        unfold AS.at keepS; exact range_map_at _ _ _ _
      have hlen : (keepS kp al bl va vc s0).env.length = s0.env.length := by simp [keepS]
      have e1 : (keepS kp al bl va vc s0).env = (canon kp (keepS kp al bl va vc s0)).env := by
        show _ = (List.range (keepS kp al bl va vc s0).env.length).map _
        rw [hlen]
        show (List.range s0.env.length).map _ = _
        refine List.map_congr_left fun t ht => ?_
        have hlt : t < s0.env.length := by simpa using ht
        rw [hat t, if_pos hlt]
        have hc := lookup_contains al t
        rw [hf] at hc
        cases hl : al.lookup t with
        | some p => rw [hl] at hc; simp only [Option.isSome_some] at hc; rw [← hc]; rfl
        | none =>
          rw [hl] at hc
          simp only [Option.isSome_none] at hc
          rw [← hc]
          simp only [Bool.false_or]
          have hcv := lookup_contains va t
          rw [hv1] at hcv
          cases hlv : va.lookup t with
          | some e => rw [hlv] at hcv; simp only [Option.isSome_some] at hcv; rw [← hcv]; rfl
          | none =>
            rw [hlv] at hcv
            simp only [Option.isSome_none] at hcv
            rw [← hcv]
            simp only [Bool.false_or]
            have hc2 := lookup_contains kp.lists t
            cases hl2 : kp.lists.lookup t with
            | some n => rw [hl2] at hc2; simp only [Option.isSome_some] at hc2; rw [← hc2]; rfl
            | none =>
              rw [hl2] at hc2
              simp only [Option.isSome_none] at hc2
              rw [← hc2]
              simp only [Bool.false_or]
              split <;> rfl
      have e2 : (keepS kp al bl va vc s0).box = (canon kp (keepS kp al bl va vc s0)).box := by
        have k1 : (keepS kp al bl va vc s0).box.map (·.1) = kp.names := by
          simp only [keepS, Keep.names, List.map_append, List.map_map, Function.comp_def, ← nm1, ← nm2, List.map_id']
        have knd : ((keepS kp al bl va vc s0).box.map (·.1)).Nodup := by rw [k1]; exact distinct_nodup _ d3
        show _ = kp.names.map fun b => (b, (keepS kp al bl va vc s0).bx b)
        rw [← k1, List.map_map]
        have : ∀ p ∈ (keepS kp al bl va vc s0).box, p = ((fun b => (b, (keepS kp al bl va vc s0).bx b)) ∘ (·.1)) p := fun p hp => by
          obtain ⟨b, x⟩ := p
          have hl := nodup_lookup _ knd b x hp
          show (b, x) = (b, (keepS kp al bl va vc s0).bx b)
          unfold AS.bx
          rw [hl]
        exact (List.map_id _).symm.trans (List.map_congr_left this)
      have ext : ∀ x y : AS, x.env = y.env → x.box = y.box → x.tok = y.tok → x.nin = y.nin → x = y := fun x y a b c d => by cases x; cases y; simp_all
      exact ext _ _ e1 e2 rfl rfl
    · cases h
  · cases h
/-- What a loop does, said of the model. -/
def LoopSem (P : Program) (c : Code) (s : AS) (o : Out) : Prop := ∀ (B : Base) (a : Act) (w : World) (Q : Exit → Act → World → Prop), Sim B s a w → (∀ a' w', Sim B o.2 a' w' → Q o.1 a' w') → c.wp P Q a w
/-- Whole bodies. -/
theorem aexec_ok (hT : TabOk P T) (hG : GOk P Γ.v) (hm : P.follows .mixedOrders = true) (An : Nat → Keep × Keep) (Λ : LoopK) : ∀ (c : Code) (n : Nat) (hL : ∀ p ∈ loopsOf c n, actB An p = true → ∀ s o, s = canon (An p.1).1 s → Λ.v p.1 s = some o → LoopSem P p.2 s o) (α : Type) (s : AS) (K : Exit → AS → Option α) (x : α) (B : Base) (a : Act) (w : World) (Q : Exit → Act → World → Prop),
    aexec T Γ An Λ c n s K = some x → Sim B s a w → (∀ e s' a' w', K e s' = some x → Sim B s' a' w' → Q e a' w') → c.wp P Q a w := by
  intro c
  induction c with
  | skip => intro n hL α s K x B a w Q h hS hQ; exact wp_skip (hQ _ _ _ _ h hS)
  | label l => intro n hL α s K x B a w Q h hS hQ; exact wp_label (hQ _ _ _ _ h hS)
  | region id ops draw =>
    intro n hL α s K x B a w Q h hS hQ
    obtain ⟨s1, h1, hS1⟩ := fzs_ok _ s h hS
    obtain ⟨s2, h2, hS2⟩ := fzc_ok _ s1 h1 hS1
    exact aregion_ok hT hG hm h2 hS2 (fun s' a' w' hk => hQ _ s' a' w' hk)
  | seq c1 c2 ih1 ih2 =>
    intro n hL α s K x B a w Q h hS hQ
    unfold aexec at h
    split at h
    · rename_i hcut
      split at h
      · rename_i s' hk
        obtain ⟨o, h1, h2⟩ := Λ.eq _ _ _ _ _ h
        exact hL (n, .seq c1 c2) List.mem_cons_self hcut s' o (keep_canon hk) h1 B a w Q (keep_ok hS hk) fun a' w' hS' => hQ _ _ a' w' h2 hS'
      · cases h
    · refine wp_seq (ih1 (n + 1) (fun p hp => hL p (List.mem_cons_of_mem _ (List.mem_append_left _ hp))) α s _ x B a w _ h hS fun e s' a' w' hk hS' => ?_)
      cases e with
      | normal => exact ih2 _ (fun p hp => hL p (List.mem_cons_of_mem _ (List.mem_append_right _ hp))) α s' K x B a' w' Q hk hS' hQ
      | _ => exact hQ _ s' a' w' hk hS'
  | cond c x1 y1 ih1 ih2 =>
    intro n hL α s K x B a w Q h hS hQ
    unfold aexec at h
    split at h
    · rename_i hcut
      split at h
      · rename_i s' hk
        obtain ⟨o, h1, h2⟩ := Λ.eq _ _ _ _ _ h
        exact hL (n, .cond c x1 y1) List.mem_cons_self hcut s' o (keep_canon hk) h1 B a w Q (keep_ok hS hk) fun a' w' hS' => hQ _ _ a' w' h2 hS'
      · cases h
    · have hL1 : ∀ p ∈ loopsOf x1 (n + 1), actB An p = true → ∀ s o, s = canon (An p.1).1 s → Λ.v p.1 s = some o → LoopSem P p.2 s o := fun p hp => hL p (List.mem_cons_of_mem _ (List.mem_append_left _ hp))
      have hL2 : ∀ p ∈ loopsOf y1 (n + 1 + Code.loops x1), actB An p = true → ∀ s o, s = canon (An p.1).1 s → Λ.v p.1 s = some o → LoopSem P p.2 s o := fun p hp => hL p (List.mem_cons_of_mem _ (List.mem_append_right _ hp))
      split at h
      · rename_i b hb
        obtain ⟨M, ρ, σ, hs⟩ := hS
        have he := hs.ev c
        rw [hb] at he
        have hc := he.v_inv
        cases b
        · rw [knownO_eq hb] at h
          exact wp_cond_false hc (ih2 _ hL2 α s K x B a w Q h ⟨M, ρ, σ, hs⟩ hQ)
        · rw [knownO_eq hb] at h
          exact wp_cond_true hc (ih1 _ hL1 α s K x B a w Q h ⟨M, ρ, σ, hs⟩ hQ)
      · rename_i hb
        obtain ⟨hA, hB⟩ := both_spec h
        obtain ⟨M, ρ, σ, hs⟩ := hS
        have he := hs.ev c
        rw [hb] at he
        have kn : ∀ b, a.eval c = .bool b → Sim B (s.knownO c b) a w := fun b hcb => by
          cases c with
          | tmp t =>
            refine ⟨M, ρ, σ, hs.reread t _ ?_⟩
            have : a.tmps.getD t undef = .bool b := hcb
            rw [this]; exact .v
          | _ => exact ⟨M, ρ, σ, hs⟩
        obtain ⟨b, hcb⟩ : ∃ b, a.eval c = .bool b := by
          generalize a.eval c = cv at he
          cases he; exact ⟨_, rfl⟩
        cases b
        · exact wp_cond_false hcb (ih2 _ hL2 α _ K x B a w Q hB (kn false hcb) hQ)
        · exact wp_cond_true hcb (ih1 _ hL1 α _ K x B a w Q hA (kn true hcb) hQ)
      · cases h
  | block id c ih =>
    intro n hL α s K x B a w Q h hS hQ
    unfold aexec at h
    split at h
    · rename_i hcut
      split at h
      · rename_i s' hk
        obtain ⟨o, h1, h2⟩ := Λ.eq _ _ _ _ _ h
        exact hL (n, .block id c) List.mem_cons_self hcut s' o (keep_canon hk) h1 B a w Q (keep_ok hS hk) fun a' w' hS' => hQ _ _ a' w' h2 hS'
      · cases h
    · refine wp_block (ih (n + 1) (fun p hp => hL p (List.mem_cons_of_mem _ hp)) α s _ x B a w _ h hS fun e s' a' w' hk hS' => ?_)
      cases e with
      | exit i =>
        simp only at hk
        show (if i = id then Q .normal a' w' else Q (.exit i) a' w')
        split at hk
        · rename_i hi; rw [if_pos hi]; exact hQ _ s' a' w' hk hS'
        · rename_i hi; rw [if_neg hi]; exact hQ _ s' a' w' hk hS'
      | _ => exact hQ _ s' a' w' hk hS'
  | loop c ih =>
    intro n hL α s K x B a w Q h hS hQ
    unfold aexec at h
    split at h
    · rename_i s' hk
      obtain ⟨o, h1, h2⟩ := Λ.eq _ _ _ _ _ h
      exact hL (n, .loop c) List.mem_cons_self rfl s' o (keep_canon hk) h1 B a w Q (keep_ok hS hk) fun a' w' hS' => hQ _ _ a' w' h2 hS'
    · cases h
  | exit id => intro n hL α s K x B a w Q h hS hQ; exact wp_exit (hQ _ _ _ _ h hS)
  | ret => intro n hL α s K x B a w Q h hS hQ; exact wp_ret (hQ _ _ _ _ h hS)
  | _ => intro n hL α s K x B a w Q h hS hQ; cases h
/-- A loop does what its equation says: V N says what it does in at most N rounds. -/
theorem loop_rule (hT : TabOk P T) (hG : GOk P Γ.v) (hm : P.follows .mixedOrders = true) (An : Nat → Keep × Keep) (Λ : LoopK) (n : Nat) (c : Code) (hL : ∀ p ∈ loopsOf c (n + 1), actB An p = true → ∀ s o, s = canon (An p.1).1 s → Λ.v p.1 s = some o → LoopSem P p.2 s o) (V : Nat → AS → Option Out)
    (hstep : ∀ N s o, s = canon (An n).1 s → V N s = some o → ∃ M, M < N ∧ around T Γ An Λ n c s (V M) some = some o) : ∀ N s o, s = canon (An n).1 s → V N s = some o → LoopSem P (.loop c) s o := by
  intro N0 s0 o hc0 h0 B a0 w0 Q hS0 hQ
  let G : Nat → Act → World → Prop := fun m a w => ∃ s, Sim B s a w ∧ s = canon (An n).1 s ∧ V m s = some o
  have dec : ∀ a w, (∃ m, G m a w) → ∃ m, G m a w ∧ ∀ m', m' < m → ¬ G m' a w := fun a w ⟨m, hm⟩ => by
    induction m using Nat.strongRecOn with
    | _ m ih =>
      by_cases hx : ∃ m', m' < m ∧ G m' a w
      · obtain ⟨m', h1, h2⟩ := hx; exact ih m' h1 h2
      · exact ⟨m, hm, fun m' h1 h2 => hx ⟨m', h1, h2⟩⟩
  have μx : ∃ ν : Act → World → Nat, ∀ a w, (∃ m, G m a w) → G (ν a w) a w ∧ ∀ m', m' < ν a w → ¬ G m' a w :=
    ⟨fun a w => open Classical in if hx : ∃ m, G m a w then Classical.choose (dec a w hx) else 0, fun a w hx => by
      simp only [dif_pos hx]
      exact Classical.choose_spec (dec a w hx)⟩
  obtain ⟨ν, hν⟩ := μx
  refine wp_loop (fun a w => ∃ m, G m a w) ν ⟨N0, s0, hS0, hc0, h0⟩ fun a w hI => ?_
  obtain ⟨⟨s1, hS1, hc1, hv1⟩, hmin⟩ := hν a w hI
  obtain ⟨M, hM, hr⟩ := hstep _ s1 o hc1 hv1
  unfold around at hr
  refine aexec_ok hT hG hm An Λ c (n + 1) hL Out s1 _ o B a w _ hr hS1 fun e s' a' w' hk hS' => ?_
  have notNormal : ∀ e : Exit, (match keep (An n).2 s' with | some s3 => some (e, s3) | none => none) = some o → Q e a' w' := fun e hk => by
    split at hk
    · rename_i s3 hk3
      cases hk
      exact hQ a' w' (keep_ok hS' hk3)
    · cases hk
  cases e with
  | normal =>
    simp only at hk
    split at hk
    · rename_i s2 hk2
      have hg : G M a' w' := ⟨s2, keep_ok hS' hk2, keep_canon hk2, hk⟩
      refine ⟨⟨_, hg⟩, ?_⟩
      obtain ⟨-, hmin'⟩ := hν a' w' ⟨_, hg⟩
      have : ¬ M < ν a' w' := fun hlt => hmin' _ hlt hg
      omega
    · cases hk
  | exit i => exact notNormal _ hk
  | goto i => exact notNormal _ hk
  | ret => exact notNormal _ hk
  | panic i => exact notNormal _ hk
  | outgrown => exact notNormal _ hk
/-- A part does what its equation says. -/
theorem piece_rule (hT : TabOk P T) (hG : GOk P Γ.v) (hm : P.follows .mixedOrders = true) (An : Nat → Keep × Keep) (Λ : LoopK) (n : Nat) (c : Code) (hL : ∀ p ∈ loopsOf c n, actB (uncut An n) p = true → ∀ s o, s = canon (uncut An n p.1).1 s → Λ.v p.1 s = some o → LoopSem P p.2 s o) {s : AS} {o : Out} (h : pieceRun T Γ An Λ n c s some = some o) : LoopSem P c s o := by
  intro B a w Q hS hQ
  unfold pieceRun at h
  refine aexec_ok hT hG hm (uncut An n) Λ c n hL Out s _ o B a w _ h hS fun e s' a' w' hk hS' => ?_
  split at hk
  · rename_i s3 hk3
    cases hk
    exact hQ a' w' (keep_ok hS' hk3)
  · cases hk
end
end Go.Proofs.YtdmedeaknnldcaaGreatDoor
