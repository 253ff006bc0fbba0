/- Several texts as one (written by pack.py). -/
import Derived.Test.YtnnfpoelkdgjdaaAdB
import Derived.Test.YtnnfpoelkdgjdaaProg
import Derived.KernelRfl
import Derived.OpenShut
import Derived.ChangeSlices
import Derived.Deep.RegionLaw
import Derived.Deep.AppendLies
import Derived.Deep.CutRange
import Derived.Deep.LoopGhost
import Derived.Deep.CutBlock
import Derived.RangeFuncBox
import Derived.RangeFuncLeaves
import Derived.Shelf.Abstract
import Derived.WalkKit
import Derived.OwnWalkIn
import Derived.TacticsInMore
import Derived.LoopNIn
import Derived.LoopIn
import Derived.RangeFuncNested
section
namespace Go.Proofs.Ytnnfpoelkdgjdaa
open Go.RowKit
set_option linter.unusedVariables false
set_option linter.unusedSimpArgs false
set_option linter.unnecessarySimpa false
section
variable {P : Program} {T : Tab} {Γ : GamK} {B : Base} {M : Mem} {ρ ρ' : Rho} {σ σ' : Sig} {s s' : AS} {a : Act} {w : World} {Q : Exit → Act → World → Prop}
theorem Rd.nilL {n : Nat} {c : Value} {v : AV} (h : Rd M ρ σ c v) : Rd M ρ' σ' c (nilL n v) := by
  unfold Go.Proofs.Ytnnfpoelkdgjdaa.nilL
  split
  · rw [h.v_inv]; exact .nil
  · exact h.dat2.of0
theorem zj1 {v : AV} {n t : Nat} {xs : List (List AV)} {k : Option Nat} {c : Value} (h1 : accV s v n = some (xs, k)) (hr : Rd M ρ σ c v) (hσ : ∀ k', k = some k' → ∀ sp, σ k' = some sp → σ' t = some sp) : Rd M ρ' σ' c (.list n xs (some t)) := by
  unfold accV at h1
  split at h1
  · rename_i n' xs' k'
    split at h1
    · rename_i hn
      subst hn
      split at h1
      · cases h1
        cases hr with
        | nil => exact .nil
        | list cf q1 q2 q3 q4 q5 q6 q7 =>
          refine .list cf q1 q2 q3 q4 q5 q6 (fun k0 hk0 => ?_)
          cases hk0
          exact (q7 k' rfl).imp id fun ⟨sp, w1, w2⟩ => ⟨sp, hσ k' rfl sp w1, w2⟩
      · cases h1
    · cases h1
  · cases h1
    rw [hr.v_inv]
    exact .nil
  · cases h1
theorem zkf {v : AV} {n k : Nat} {xs : List (List AV)} (h1 : accV s v n = some (xs, some k)) : s.tk k = some true := by
  unfold accV at h1
  split at h1
  · split at h1
    · split at h1
      · rename_i hq; cases h1; exact hq
      · cases h1
    · cases h1
  · cases h1
  · cases h1
theorem zdt (s : AS) : ∀ (l : List (Nat × Nat)) (al : List (Nat × (AV × Option Nat))), zdz s l = some al → ∀ t p, (t, p) ∈ al → ∃ n xs k, accV s (s.at t) n = some (xs, k) ∧ p = (.list n xs (some (tA t)), k)
  | [], al, h, t, p, hl => by cases h; cases hl
  | (t0, n0) :: r, al, h, t, p, hl => by
    unfold zdz at h
    split at h
    · rename_i xs k l h1 h2
      cases h
      rcases List.mem_cons.1 hl with e | e
      · cases e; exact ⟨n0, xs, k, h1, rfl⟩
      · exact zdt s r l h2 t p e
    · cases h
theorem zcm (s : AS) : ∀ (l : List ((Nat × Nat) × Nat)) (al : List ((Nat × Nat) × (AV × Option Nat))), zaD s l = some al → ∀ t p, (t, p) ∈ al → ∃ n xs k, accV s (s.cell t) n = some (xs, k) ∧ p = (.list n xs (some (tb t)), k)
  | [], al, h, t, p, hl => by cases h; cases hl
  | (t0, n0) :: r, al, h, t, p, hl => by
    unfold zaD at h
    split at h
    · rename_i xs k l h1 h2
      cases h
      rcases List.mem_cons.1 hl with e | e
      · cases e; exact ⟨n0, xs, k, h1, rfl⟩
      · exact zcm s r l h2 t p e
    · cases h
theorem Z1 {α : Type} (f : α → Option Nat) : ∀ (l : List α), zZ (l.filterMap f) = true → ∀ x y k, x ∈ l → y ∈ l → f x = some k → f y = some k → x = y
  | [], _, x, y, k, hx, _, _, _ => by cases hx
  | z :: r, h, x, y, k, hx, hy, fx, fy => by
    have notin : ∀ q, q ∈ r → f q = some k → f z = some k → False := fun q hq fq fz => by
      rw [List.filterMap_cons, fz] at h
      simp only [zZ, Bool.and_eq_true, Bool.not_eq_true'] at h
      have : k ∈ r.filterMap f := List.mem_filterMap.2 ⟨q, hq, fq⟩
      have h1 := h.1
      rw [← Bool.not_eq_true, List.contains_iff_mem] at h1
      exact h1 this
    have hr : zZ (r.filterMap f) = true := by
      rw [List.filterMap_cons] at h
      split at h
      · exact h
      · simp only [zZ, Bool.and_eq_true] at h; exact h.2
    rcases List.mem_cons.1 hx with ex | ex <;> rcases List.mem_cons.1 hy with ey | ey
    · rw [ex, ey]
    · subst ex; exact (notin y ey fy fx).elim
    · subst ey; exact (notin x ex fx fy).elim
    · exact Z1 f r hr x y k ex ey fx fy
theorem za1 {α : Type} (f : Nat → α) (n t : Nat) (d : α) : (((List.range n).map f)[t]?).getD d = if t < n then f t else d := by
  rw [List.getElem?_map]
  by_cases h : t < n
  · rw [List.getElem?_range h, if_pos h]; rfl
  · rw [List.getElem?_eq_none (by simp; omega), if_neg h]; rfl
theorem Zb {α : Type} : ∀ (l : List (Nat × α)) (t : Nat), (l.lookup t).isSome = (l.map (·.1)).contains t
  | [], t => rfl
  | (t0, p) :: r, t => by
    rw [List.lookup_cons, List.map_cons, List.contains_cons]
    cases h : t == t0
    · simp [Zb r t]
    · rfl
theorem zaG (s : AS) : ∀ (l : List (Nat × Nat)) (al : List (Nat × (AV × Option Nat))), zdz s l = some al → al.map (·.1) = l.map (·.1)
  | [], al, h => by cases h; rfl
  | (t0, n0) :: r, al, h => by
    unfold zdz at h
    split at h
    · rename_i xs k l h1 h2
      cases h
      simp [zaG s r l h2]
    · cases h
theorem zbR (s : AS) : ∀ (l : List ((Nat × Nat) × Nat)) (al : List ((Nat × Nat) × (AV × Option Nat))), zaD s l = some al → al.map (·.1) = l.map (·.1)
  | [], al, h => by cases h; rfl
  | (t0, n0) :: r, al, h => by
    unfold zaD at h
    split at h
    · rename_i xs k l h1 h2
      cases h
      simp [zbR s r l h2]
    · cases h
theorem zaj {v : AV} {n name : Nat} {e : VE} (h : vOf s v n name = some e) : e.name = name ∧ ((∃ b off len, v = .vs b off len n ∧ s.nin ≤ b ∧ s.bx b = some e.cs ∧ e.act = some b ∧ e.val = .vs name off len n) ∨ (v = .v (.slice none 0 0) ∧ e.act = none ∧ e.val = .vs name 0 0 n ∧ e.cs = [])) := by
  unfold vOf at h
  split at h
  · rename_i b off len n'
    split at h
    · rename_i hc
      obtain ⟨rfl, hc⟩ := hc
      split at h
      · rename_i cs hcs
        cases h
        exact ⟨rfl, .inl ⟨b, off, len, rfl, hc, (AS.cx_some hcs).1, rfl, rfl⟩⟩
      · cases h
    · cases h
  · cases h
    exact ⟨rfl, .inr ⟨rfl, rfl, rfl, rfl⟩⟩
  · cases h
theorem zmw {s : AS} {v : AV} {n name : Nat} {e : VE} (h : vOf s v n name = some e) : ∀ b, e.act = some b → zbi b = false := fun b' hb' => by
  unfold vOf at h
  split at h
  · split at h
    · split at h
      · rename_i cs hcs
        cases h
        cases hb'
        exact (AS.cx_some hcs).2
      · cases h
    · cases h
  · cases h
    cases hb'
  · cases h
theorem zcc (s : AS) : ∀ (l : List (Nat × Nat)) (al : List (Nat × VE)), zaw s l = some al → ∀ t e, (t, e) ∈ al → ∃ n, vOf s (s.at t) n (vA t) = some e
  | [], al, h, t, e, hl => by cases h; cases hl
  | (t0, n0) :: r, al, h, t, e, hl => by
    unfold zaw at h
    split at h
    · rename_i e' l h1 h2
      cases h
      rcases List.mem_cons.1 hl with q | q
      · cases q; exact ⟨n0, h1⟩
      · exact zcc s r l h2 t e q
    · cases h
theorem za2 (s : AS) : ∀ (l : List ((Nat × Nat) × Nat)) (al : List ((Nat × Nat) × VE)), JC s l = some al → ∀ t e, (t, e) ∈ al → ∃ n, vOf s (s.cell t) n (vB t.1 t.2) = some e
  | [], al, h, t, e, hl => by cases h; cases hl
  | (t0, n0) :: r, al, h, t, e, hl => by
    unfold JC at h
    split at h
    · rename_i e' l h1 h2
      cases h
      rcases List.mem_cons.1 hl with q | q
      · cases q; exact ⟨n0, h1⟩
      · exact za2 s r l h2 t e q
    · cases h
theorem zac (s : AS) : ∀ (l : List (Nat × Nat)) (al : List (Nat × VE)), zaw s l = some al → al.map (·.1) = l.map (·.1) ∧ al.map (fun p => p.2.name) = l.map fun p => vA p.1
  | [], al, h => by cases h; exact ⟨rfl, rfl⟩
  | (t0, n0) :: r, al, h => by
    unfold zaw at h
    split at h
    · rename_i e l h1 h2
      cases h
      obtain ⟨q1, q2⟩ := zac s r l h2
      obtain ⟨e1, -⟩ := zaj h1
      exact ⟨by simp [q1], by simp only [List.map_cons, q2, e1]⟩
    · cases h
theorem Jf (s : AS) : ∀ (l : List ((Nat × Nat) × Nat)) (al : List ((Nat × Nat) × VE)), JC s l = some al → al.map (·.1) = l.map (·.1) ∧ al.map (fun p => p.2.name) = l.map fun p => vB p.1.1 p.1.2
  | [], al, h => by cases h; exact ⟨rfl, rfl⟩
  | (t0, n0) :: r, al, h => by
    unfold JC at h
    split at h
    · rename_i e l h1 h2
      cases h
      obtain ⟨q1, q2⟩ := Jf s r l h2
      obtain ⟨e1, -⟩ := zaj h1
      exact ⟨by simp [q1], by simp only [List.map_cons, q2, e1]⟩
    · cases h
theorem jo {κ α : Type} [BEq κ] [LawfulBEq κ] : ∀ (l : List (κ × α)), (l.map (·.1)).Nodup → ∀ t x, (t, x) ∈ l → l.lookup t = some x
  | [], _, t, x, h => by cases h
  | (t0, x0) :: r, hd, t, x, h => by
    rw [List.map_cons] at hd
    obtain ⟨h1, h2⟩ := List.nodup_cons.1 hd
    rw [List.lookup_cons]
    rcases List.mem_cons.1 h with e | e
    · cases e; simp
    · have : t ≠ t0 := fun e2 => h1 (by subst e2; exact List.mem_map_of_mem (f := (·.1)) e)
      have e2 : (t == t0) = false := by simp [this]
      rw [e2]
      exact jo r h2 t x e
theorem zia {kp : Keep} {bl : List ((Nat × Nat) × (AV × Option Nat))} {vc : List ((Nat × Nat) × VE)} {f : Nat → Option Nat} {b : Nat} {cs : List AV} : (keepB kp bl vc f b cs).length = cs.length ∧ ∀ i (h : i < (keepB kp bl vc f b cs).length) (h' : i < cs.length), (keepB kp bl vc f b cs)[i] = dat0 cs[i] ∨ (keepB kp bl vc f b cs)[i] = mp0 f no1 cs[i] ∨ (∃ p, bl.lookup (b, i) = some p ∧ (keepB kp bl vc f b cs)[i] = p.1) ∨ ∃ e, vc.lookup (b, i) = some e ∧ (keepB kp bl vc f b cs)[i] = e.val := by
  unfold keepB
  cases kp.sl.contains b with
  | true => exact ⟨by simp, fun i h h' => .inl (by simp)⟩
  | false =>
    simp only [cond_false]
    cases bl.any (fun q => q.1.1 == b) || vc.any (fun q => q.1.1 == b) with
    | false => exact ⟨by simp, fun i h h' => .inr (.inl (by simp))⟩
    | true =>
      refine ⟨by simp, fun i h h' => .inr ?_⟩
      simp only [cond_true, List.getElem_mapIdx]
      cases h1 : bl.lookup (b, i) with
      | some p => exact .inr (.inl ⟨p, rfl, rfl⟩)
      | none =>
        cases h2 : vc.lookup (b, i) with
        | some e => exact .inr (.inr ⟨e, rfl, rfl⟩)
        | none => exact .inl rfl
theorem J7 {kp : Keep} (hS : Sim B s a w) (hk : keep kp s = some s') : Sim B s' a w := by
  obtain ⟨M, ρ, σ, h⟩ := hS
  unfold keep at hk
  split at hk
  · rename_i al bl va vc hal hbl hva hvc
    split at hk
    · rename_i hd
      simp only [Bool.and_eq_true] at hd
      obtain ⟨d1, d2, d3, d4, d5, d6⟩ := hd
      cases hk
      have acc := zdt s _ _ hal
      have bacc := zcm s _ _ hbl
      have vacc := zcc s _ _ hva
      have vcell := za2 s _ _ hvc
      have nm1 := (zac s _ _ hva).2
      have nm2 := (Jf s _ _ hvc).2
      obtain ⟨ves, hves⟩ : ∃ ves, va.map (·.2) ++ vc.map (·.2) = ves := ⟨_, rfl⟩
      rw [hves] at d4 d6
      have vesM : ∀ e ∈ ves, (∃ t, (t, e) ∈ va) ∨ ∃ p, (p, e) ∈ vc := fun e he => by
        rw [← hves] at he
        rcases List.mem_append.1 he with he | he
        · obtain ⟨⟨t, e'⟩, m1, rfl⟩ := List.mem_map.1 he; exact .inl ⟨t, m1⟩
        · obtain ⟨⟨t, e'⟩, m1, rfl⟩ := List.mem_map.1 he; exact .inr ⟨t, m1⟩
      have hnames : kp.names = kp.boxes ++ ves.map (·.name) := by
        rw [← hves]
        simp only [Keep.names, List.map_append, List.map_map, ← nm1, ← nm2, Function.comp_def]
      have names_nd := zQ _ d3
      -- what is known of the slices that get names
      have vesOk : ∀ e ∈ ves, s.nin ≤ e.name ∧ ((∃ b, s.nin ≤ b ∧ s.bx b = some e.cs ∧ e.act = some b) ∨ (e.act = none ∧ e.cs = [])) := fun e he => by
        refine ⟨of_decide_eq_true (List.all_eq_true.1 d6 e he), ?_⟩
        rcases vesM e he with ⟨t, ht⟩ | ⟨p, hp⟩
        · obtain ⟨n, hv⟩ := vacc t e ht
          rcases (zaj hv).2 with ⟨b, off, len, -, q1, q2, q3, -⟩ | ⟨-, q1, -, q2⟩
          · exact .inl ⟨b, q1, q2, q3⟩
          · exact .inr ⟨q1, q2⟩
        · obtain ⟨n, hv⟩ := vcell p e hp
          rcases (zaj hv).2 with ⟨b, off, len, -, q1, q2, q3, -⟩ | ⟨-, q1, -, q2⟩
          · exact .inl ⟨b, q1, q2, q3⟩
          · exact .inr ⟨q1, q2⟩
      have vesMap : ∀ e ∈ ves, ∀ b, e.act = some b → zbi b = false := fun e he => by
        rcases vesM e he with ⟨t, ht⟩ | ⟨p, hp⟩
        · obtain ⟨n, hv⟩ := vacc t e ht
          exact zmw hv
        · obtain ⟨n, hv⟩ := vcell p e hp
          exact zmw hv
      -- the names and what they stand for
      obtain ⟨rt, hrt⟩ : ∃ rt : List (Nat × Option Nat), rt = kp.boxes.map (fun b => (b, some b)) ++ ves.map fun e => (e.name, e.act) := ⟨_, rfl⟩
      have rt1 : rt.map (·.1) = kp.names := by rw [hrt, hnames]; simp [Function.comp_def]
      have rtM : ∀ b x, (b, x) ∈ rt → (b ∈ kp.boxes ∧ x = some b) ∨ ∃ e ∈ ves, b = e.name ∧ x = e.act := fun b x hm => by
        rw [hrt] at hm
        rcases List.mem_append.1 hm with hm | hm
        · obtain ⟨b', m1, m2⟩ := List.mem_map.1 hm; cases m2; exact .inl ⟨m1, rfl⟩
        · obtain ⟨e, m1, m2⟩ := List.mem_map.1 hm; cases m2; exact .inr ⟨e, m1, rfl, rfl⟩
      have rtL : ∀ b x, (b, x) ∈ rt → rt.lookup b = some x := jo rt (by rw [rt1]; exact names_nd)
      have act_nd := zQ _ d4
      -- tokens
      obtain ⟨ct, hct⟩ : ∃ ct : List (Nat × Option Nat), ct = al.map (fun p => (tA p.1, p.2.2)) ++ (bl.map (fun p => (tb p.1, p.2.2)) ++ rt.map fun p => (vk p.1, p.2.map vk)) := ⟨_, rfl⟩
      have ct1 : ct.map (·.1) = al.map (fun p => tA p.1) ++ (bl.map (fun p => tb p.1) ++ kp.names.map vk) := by
        rw [hct, ← rt1]; simp [Function.comp_def]
      have ct_nd : (ct.map (·.1)).Nodup := by rw [ct1]; exact zQ _ d1
      have ctL : ∀ t x, (t, x) ∈ ct → ct.lookup t = some x := jo ct ct_nd
      have ctA : ∀ t p, (t, p) ∈ al → (tA t, p.2) ∈ ct := fun t p hm => by
        rw [hct]; exact List.mem_append_left _ (List.mem_map.2 ⟨_, hm, rfl⟩)
      have ctB : ∀ t p, (t, p) ∈ bl → (tb t, p.2) ∈ ct := fun t p hm => by
        rw [hct]; exact List.mem_append_right _ (List.mem_append_left _ (List.mem_map.2 ⟨_, hm, rfl⟩))
      have ctV : ∀ b x, (b, x) ∈ rt → (vk b, x.map vk) ∈ ct := fun b x hm => by
        rw [hct]; exact List.mem_append_right _ (List.mem_append_right _ (List.mem_map.2 ⟨_, hm, rfl⟩))
      let ρ' : Rho := fun b => match rt.lookup b with | some (some a) => ρ a | _ => none
      let σ' : Sig := fun t => match ct.lookup t with | some (some k) => σ k | _ => none
      have hρ' : ∀ b a, (b, some a) ∈ rt → ρ' b = ρ a := fun b a hm => by
        show (match rt.lookup b with | some (some a) => ρ a | _ => none) = _
        rw [rtL b _ hm]
      have hρn : ∀ b, (b, none) ∈ rt → ρ' b = none := fun b hm => by
        show (match rt.lookup b with | some (some a) => ρ a | _ => none) = _
        rw [rtL b _ hm]
      have hρ2 : ∀ b g, ρ' b = some g → ∃ a, (b, some a) ∈ rt ∧ ρ a = some g := fun b g hb => by
        have hb' : (match rt.lookup b with | some (some a) => ρ a | _ => none) = some g := hb
        split at hb'
        · rename_i a hl; exact ⟨a, zK _ _ _ hl, hb'⟩
        · cases hb'
      have hσ' : ∀ t k, (t, some k) ∈ ct → σ' t = σ k := fun t k hm => by
        show (match ct.lookup t with | some (some k) => σ k | _ => none) = _
        rw [ctL t _ hm]
      have hσ2 : ∀ t sp, σ' t = some sp → ∃ k, (t, some k) ∈ ct ∧ σ k = some sp := fun t sp ht => by
        have ht' : (match ct.lookup t with | some (some k) => σ k | _ => none) = some sp := ht
        split at ht'
        · rename_i k hl; exact ⟨k, zK _ _ _ hl, ht'⟩
        · cases ht'
      -- the new state
      obtain ⟨f, hf⟩ : ∃ f : Nat → Option Nat, f = fun b => (fmOf kp ves).lookup b := ⟨_, rfl⟩
      have hfm : ∀ b b', f b = some b' → (b', some b) ∈ rt := fun b b' hb => by
        rw [hf] at hb
        have hm := zK _ _ _ hb
        unfold fmOf at hm
        rw [hrt]
        rcases List.mem_append.1 hm with hm | hm
        · obtain ⟨x, m1, m2⟩ := List.mem_map.1 hm; cases m2
          exact List.mem_append_left _ (List.mem_map.2 ⟨b, m1, rfl⟩)
        · obtain ⟨e, m1, m2⟩ := List.mem_filterMap.1 hm
          split at m2
          · rename_i x hx
            cases m2
            exact List.mem_append_right _ (List.mem_map.2 ⟨e, m1, by rw [hx]⟩)
          · cases m2
      have R : Ren f no1 ρ σ ρ' σ' := ⟨fun b b' x hb hx => by rw [hρ' b' b (hfm b b' hb)]; exact hx, fun t t' sp ht => (by cases ht), fun b b' sp hb hsp => by
        have := ctV _ _ (hfm b b' hb)
        rw [hσ' _ _ this]; exact hsp⟩
      have bxN : ∀ b cs', (js kp al bl va vc s).bx b = some cs' → (b ∈ kp.boxes ∧ ∃ cs, s.bx b = some cs ∧ cs' = keepB kp bl vc f b cs) ∨ ∃ e ∈ ves, b = e.name ∧ cs' = e.cs.map dat0 := fun b cs' hb => by
        unfold AS.bx js at hb
        dsimp only at hb
        rw [hves, ← hf] at hb
        split at hb
        · rename_i x hx
          subst hb
          rcases List.mem_append.1 (zK _ _ _ hx) with hm | hm
          · obtain ⟨b', m1, m2⟩ := List.mem_map.1 hm
            have e1 : b' = b := congrArg Prod.fst m2
            subst e1
            have e2 := congrArg Prod.snd m2
            dsimp only at e2
            split at e2
            · rename_i cs hcs; exact .inl ⟨m1, cs, hcs, (Option.some.inj e2).symm⟩
            · cases e2
          · obtain ⟨e, m1, m2⟩ := List.mem_map.1 hm
            cases m2
            exact .inr ⟨e, m1, rfl, rfl⟩
        · cases hb
      have bxP : ∀ b, (js kp al bl va vc s).bx b ≠ none → ∃ x, (b, x) ∈ rt ∧ ∀ a, x = some a → s.bx a ≠ none := fun b hb => by
        cases hq : (js kp al bl va vc s).bx b with
        | none => exact absurd hq hb
        | some cs' =>
          rcases bxN b cs' hq with ⟨m1, cs, m2, -⟩ | ⟨e, m1, m2, -⟩
          · exact ⟨some b, by rw [hrt]; exact List.mem_append_left _ (List.mem_map.2 ⟨b, m1, rfl⟩), fun a ha => by cases ha; rw [m2]; simp⟩
          · refine ⟨e.act, by rw [hrt, m2]; exact List.mem_append_right _ (List.mem_map.2 ⟨e, m1, rfl⟩), fun a ha => ?_⟩
            rcases (vesOk e m1).2 with ⟨b', -, q2, q3⟩ | ⟨q1, -⟩
            · rw [ha] at q3; cases q3; rw [q2]; simp
            · rw [ha] at q1; cases q1
      have actInj : ∀ b b' a, (b, some a) ∈ rt → (b', some a) ∈ rt → b = b' := fun b b' a h1 h2 => by
        have key : ∀ (l1 : List Nat) (l2 : List VE), (l1 ++ l2.filterMap (·.act)).Nodup → ∀ b b' a, (b, some a) ∈ l1.map (fun b => (b, some b)) ++ l2.map (fun e => (e.name, e.act)) → (b', some a) ∈ l1.map (fun b => (b, some b)) ++ l2.map (fun e => (e.name, e.act)) → b = b' := by
          intro l1 l2 hnd
          have hnd2 := List.nodup_append.1 hnd
          have inj2 : ∀ (l : List VE), (l.filterMap (·.act)).Nodup → ∀ e ∈ l, ∀ e' ∈ l, ∀ a, e.act = some a → e'.act = some a → e.name = e'.name := by
            intro l
            induction l with
            | nil => intro _ e he; cases he
            | cons z r ih =>
              intro hn e he e' he' a ha ha'
              have hr : (r.filterMap (·.act)).Nodup := by
                rw [List.filterMap_cons] at hn
                split at hn
                · exact hn
                · exact (List.nodup_cons.1 hn).2
              have nz : ∀ q ∈ r, q.act = some a → z.act = some a → False := fun q hq qa za => by
                rw [List.filterMap_cons, za] at hn
                exact (List.nodup_cons.1 hn).1 (List.mem_filterMap.2 ⟨q, hq, qa⟩)
              rcases List.mem_cons.1 he with e1 | e1 <;> rcases List.mem_cons.1 he' with e2 | e2
              · rw [e1, e2]
              · subst e1; exact (nz e' e2 ha' ha).elim
              · subst e2; exact (nz e e1 ha ha').elim
              · exact ih hr e e1 e' e2 a ha ha'
          have cases1 : ∀ b a, (b, some a) ∈ l1.map (fun b => (b, some b)) ++ l2.map (fun e => (e.name, e.act)) → (a = b ∧ b ∈ l1) ∨ ∃ e ∈ l2, e.name = b ∧ e.act = some a := fun b a hm => by
            rcases List.mem_append.1 hm with hm | hm
            · obtain ⟨x, m1, m2⟩ := List.mem_map.1 hm; cases m2; exact .inl ⟨rfl, m1⟩
            · obtain ⟨e, m1, m2⟩ := List.mem_map.1 hm
              exact .inr ⟨e, m1, congrArg Prod.fst m2, congrArg Prod.snd m2⟩
          intro b b' a h1 h2
          rcases cases1 b a h1 with ⟨rfl, m1⟩ | ⟨e, m1, rfl, m3⟩ <;> rcases cases1 b' _ h2 with ⟨q, m4⟩ | ⟨e', m4, rfl, m6⟩
          · exact q
          · exact absurd rfl (hnd2.2.2 _ m1 _ (List.mem_filterMap.2 ⟨e', m4, m6⟩))
          · subst q
            exact absurd rfl (hnd2.2.2 _ m4 _ (List.mem_filterMap.2 ⟨e, m1, m3⟩))
          · exact inj2 l2 hnd2.2.1 e m1 e' m4 a m3 m6
        rw [hrt] at h1 h2
        exact key _ _ act_nd b b' a h1 h2
      have tkN : ∀ t, (js kp al bl va vc s).tk t = kp.toks.lookup t := fun t => rfl
      have al1 : al.map (·.1) = kp.accs.map (·.1) := zaG s _ _ hal
      have bl1 : bl.map (·.1) = kp.baccs.map (·.1) := zbR s _ _ hbl
      have tkT : ∀ t, kp.toks.lookup t = some true → (∃ p, (t, p) ∈ al.map fun q => (tA q.1, q.2.2)) ∨ ∃ p, (t, p) ∈ bl.map fun q => (tb q.1, q.2.2) := fun t ht => by
        have hm := zK _ _ _ ht
        unfold Keep.toks at hm
        rcases List.mem_append.1 hm with hm | hm
        · obtain ⟨t', m1, m2⟩ := List.mem_map.1 hm
          cases m2
          rcases List.mem_append.1 m1 with m1 | m1
          · obtain ⟨p, m3, rfl⟩ := List.mem_map.1 m1
            have : p.1 ∈ al.map (·.1) := by rw [al1]; exact List.mem_map_of_mem (f := (·.1)) m3
            obtain ⟨q, m4, m5⟩ := List.mem_map.1 this
            exact .inl ⟨q.2.2, List.mem_map.2 ⟨q, m4, by rw [m5]⟩⟩
          · obtain ⟨p, m3, rfl⟩ := List.mem_map.1 m1
            have : p.1 ∈ bl.map (·.1) := by rw [bl1]; exact List.mem_map_of_mem (f := (·.1)) m3
            obtain ⟨q, m4, m5⟩ := List.mem_map.1 this
            exact .inr ⟨q.2.2, List.mem_map.2 ⟨q, m4, by rw [m5]⟩⟩
        · rcases List.mem_append.1 hm with hm | hm
          · obtain ⟨x, -, m2⟩ := List.mem_map.1 hm; cases m2
          · obtain ⟨x, -, m2⟩ := List.mem_map.1 hm; cases m2
      have tkS : ∀ t, t ∈ ct.map (·.1) → kp.toks.lookup t ≠ none := fun t ht => by
        have hm : t ∈ kp.toks.map (·.1) := by
          unfold Keep.toks
          rw [ct1] at ht
          rcases List.mem_append.1 ht with ht | ht
          · obtain ⟨p, m1, rfl⟩ := List.mem_map.1 ht
            have : p.1 ∈ kp.accs.map (·.1) := by rw [← al1]; exact List.mem_map_of_mem (f := (·.1)) m1
            obtain ⟨q, m2, m3⟩ := List.mem_map.1 this
            refine List.mem_map.2 ⟨(tA p.1, true), List.mem_append_left _ (List.mem_map.2 ⟨_, List.mem_append_left _ (List.mem_map.2 ⟨q, m2, rfl⟩), by rw [m3]⟩), rfl⟩
          · rcases List.mem_append.1 ht with ht | ht
            · obtain ⟨p, m1, rfl⟩ := List.mem_map.1 ht
              have : p.1 ∈ kp.baccs.map (·.1) := by rw [← bl1]; exact List.mem_map_of_mem (f := (·.1)) m1
              obtain ⟨q, m2, m3⟩ := List.mem_map.1 this
              refine List.mem_map.2 ⟨(tb p.1, true), List.mem_append_left _ (List.mem_map.2 ⟨_, List.mem_append_right _ (List.mem_map.2 ⟨q, m2, rfl⟩), by rw [m3]⟩), rfl⟩
            · obtain ⟨p, m1, rfl⟩ := List.mem_map.1 ht
              refine List.mem_map.2 ⟨(vk p, false), List.mem_append_right _ (List.mem_append_left _ (List.mem_map.2 ⟨p, m1, rfl⟩)), rfl⟩
        rw [← Option.isSome_iff_ne_none, Zb, List.contains_iff_mem]
        exact hm
      have live : ∀ t k, (t, some k) ∈ ct → kp.toks.lookup t = some true → s.tk k = some true := fun t k hm ht => by
        have e1 := ctL _ _ hm
        rcases tkT t ht with ⟨p, hp⟩ | ⟨p, hp⟩
        · obtain ⟨⟨t', q⟩, m1, m2⟩ := List.mem_map.1 hp
          cases m2
          rw [ctL _ _ (ctA t' q m1)] at e1
          obtain ⟨n, xs, k', h1, h2⟩ := acc t' q m1
          subst h2
          cases e1
          exact zkf h1
        · obtain ⟨⟨t', q⟩, m1, m2⟩ := List.mem_map.1 hp
          cases m2
          rw [ctL _ _ (ctB t' q m1)] at e1
          obtain ⟨n, xs, k', h1, h2⟩ := bacc t' q m1
          subst h2
          cases e1
          exact zkf h1
      have tkInj : ∀ t t' k, (t, some k) ∈ ct → (t', some k) ∈ ct → kp.toks.lookup t = some true → kp.toks.lookup t' = some true → t = t' := fun t t' k h1 h2 h3 h4 => by
        obtain ⟨cl, hcl⟩ : ∃ cl : List (Nat × Option Nat), cl = al.map (fun p => (tA p.1, p.2.2)) ++ bl.map (fun p => (tb p.1, p.2.2)) := ⟨_, rfl⟩
        have k2 : cl.filterMap (·.2) = (al.filterMap fun p => p.2.2) ++ (bl.filterMap fun p => p.2.2) := by rw [hcl]; simp [List.filterMap_append, List.filterMap_map, Function.comp_def]
        rw [← k2] at d2
        have inC : ∀ t, (t, some k) ∈ ct → kp.toks.lookup t = some true → (t, some k) ∈ cl := fun t hm ht => by
          have e1 := ctL _ _ hm
          rw [hcl]
          rcases tkT t ht with ⟨p, hp⟩ | ⟨p, hp⟩
          · have : (t, p) ∈ ct := by rw [hct]; exact List.mem_append_left _ hp
            rw [ctL _ _ this] at e1
            cases e1
            exact List.mem_append_left _ hp
          · have : (t, p) ∈ ct := by rw [hct]; exact List.mem_append_right _ (List.mem_append_left _ hp)
            rw [ctL _ _ this] at e1
            cases e1
            exact List.mem_append_right _ hp
        have := Z1 (·.2) cl d2 _ _ k (inC t h1 h3) (inC t' h2 h4) rfl rfl
        exact congrArg Prod.fst this
      have ninB : ∀ k, k < s.nin → k ∈ kp.boxes := fun k hk => by
        have := List.all_eq_true.1 d5 k (by simpa using hk)
        rwa [List.contains_iff_mem] at this
      have rtK : ∀ b, b ∈ kp.boxes → (b, some b) ∈ rt := fun b hb => by rw [hrt]; exact List.mem_append_left _ (List.mem_map.2 ⟨b, hb, rfl⟩)
      have rtE : ∀ e ∈ ves, (e.name, e.act) ∈ rt := fun e he => by rw [hrt]; exact List.mem_append_right _ (List.mem_map.2 ⟨e, he, rfl⟩)
      have vRd : ∀ v n name e, e ∈ ves → vOf s v n name = some e → ∀ c, Rd M ρ σ c v → Rd M ρ' σ' c e.val := fun v n name e he hv c hr => by
        obtain ⟨e1, hc⟩ := zaj hv
        rcases hc with ⟨b, off, len, rfl, -, -, q3, q4⟩ | ⟨rfl, q1, q2, -⟩
        · have hm := rtE e he
          rw [q3] at hm
          rw [q4, ← e1]
          cases hr with
          | vs p1 p2 p3 =>
            refine .vs (by rw [hρ' _ _ hm]; exact p1) p2 (p3.imp fun sp p4 => ⟨?_, p4.2⟩)
            have := ctV _ _ hm
            rw [hσ' _ _ this]; exact p4.1
          | vsn => exact .vsn
          | vse => exact .vse
        · rw [q2, hr.v_inv]; exact .vsn
      refine ⟨M, ρ', σ', ?_⟩
      refine { nin := h.nin, own := fun k hk hbk => ?_, fresh := fun b g hn hr => ?_, len := by simp [h.len, js], env := fun t => ?_, defers := h.defers, mem := h.mem, memB := h.memB, memS := h.memS, gl := h.gl, os := h.os, tape := h.tape, output := h.output, size := h.size, block := h.block, box := fun b cs hb => ?_, rws := h.rws, rlt := fun b g hr => ?_, rho := fun b g hb => ?_, inj := fun b b' g hb hb' hr hr' => ?_, tok := fun t sp ht hs => ?_, cap := fun t sp hs => ?_, sig := fun t sp hs => ?_, capB := fun k hk sp hs => ?_, nink := fun k hk => ?_, tinj := fun t t' sp sp' ht ht' hs hs' hg => ?_ }
      · have e : AS.at (js kp al bl va vc s) t = if t < s.env.length then (match al.lookup t with | some p => p.1 | none => (match va.lookup t with | some e => e.val | none => (match kp.lists.lookup t with | some n => nilL n (s.at t) | none => if kp.plain.contains t then mp2 f no1 (s.at t) else .any))) else .any := by
          unfold AS.at js
          dsimp only
          rw [hves, ← hf]
          exact za1 _ _ _ _
        rw [e]
        split
        · split
          · rename_i p hl
            have hm := zK _ _ _ hl
            obtain ⟨n, xs, k, h1, h2⟩ := acc t _ hm
            subst h2
            refine zj1 h1 (h.env t) fun k' hk' sp hsp => ?_
            subst hk'
            rw [hσ' _ _ (ctA t _ hm)]
            exact hsp
          · split
            · rename_i e hl
              have hm := zK _ _ _ hl
              obtain ⟨n, hv⟩ := vacc t e hm
              exact vRd _ _ _ e (by rw [← hves]; exact List.mem_append_left _ (List.mem_map.2 ⟨_, hm, rfl⟩)) hv _ (h.env t)
            · split
              · exact Rd.nilL (h.env t)
              · split
                · exact (h.env t).mp2 R
                · exact .any
        · exact .any
      · have hk' : k < s.nin := hk
        have hm := ninB k hk'
        rw [hρ' k k (rtK k hm)]
        refine h.own k hk' ?_
        obtain ⟨x, q1, q2⟩ := bxP k hbk
        have := (rtL _ _ q1).symm.trans (rtL _ _ (rtK k hm))
        exact q2 k (Option.some.inj this)
      · obtain ⟨a', m1, m2⟩ := hρ2 b g hr
        rcases rtM _ _ m1 with ⟨-, q⟩ | ⟨e, q1, q2, q3⟩
        · cases q; exact h.fresh _ g hn m2
        · rcases (vesOk e q1).2 with ⟨b', p1, -, p3⟩ | ⟨p1, -⟩
          · rw [← q3] at p3; cases p3; exact h.fresh _ g p1 m2
          · rw [← q3] at p1; cases p1
      · rcases bxN b cs hb with ⟨m1, cs0, m2, m3⟩ | ⟨e, m1, m2, m3⟩
        · subst m3
          obtain ⟨z1, z2⟩ := zia (kp := kp) (bl := bl) (vc := vc) (f := f) (b := b) (cs := cs0)
          rcases h.box b cs0 m2 with ⟨e1, e2⟩ | ⟨g, q1, ⟨ccs, t, r1, r2, r3, r4⟩ | ⟨hmp, d0, xs0, e0, hma⟩, q3, q4⟩
          rotate_left 2
          · refine .inr ⟨g, by rw [hρ' b b (rtK b m1)]; exact q1, .inr ⟨hmp, d0, xs0, ?_, hma⟩, q3, q4⟩
            subst e0
            have ecell : s.cell (b, 0) = AV.mp d0 xs0 := by
              unfold AS.cell
              simp only [m2]
              rfl
            have hl1 : (keepB kp bl vc f b [AV.mp d0 xs0]).length = 1 := z1
            refine List.ext_getElem (by rw [hl1]; rfl) fun i hi hi' => ?_
            have hi0 : i = 0 := by simpa using hi'
            subst hi0
            rcases z2 0 (by omega) (by simp) with z | z | ⟨p, z3, z⟩ | ⟨e, z3, z⟩
            · rw [z]; rfl
            · rw [z]; rfl
            · have hm := zK _ _ _ z3
              obtain ⟨n, xs, k, h1, h2⟩ := bacc (b, 0) _ hm
              rw [ecell] at h1
              cases h1
            · have hm := zK _ _ _ z3
              obtain ⟨n, hv⟩ := vcell (b, 0) e hm
              rw [ecell] at hv
              cases hv
          · refine .inl ⟨List.length_eq_zero_iff.1 (by rw [z1, e1]; rfl), by rw [hρ' b b (rtK b m1)]; exact e2⟩
          · refine .inr ⟨g, by rw [hρ' b b (rtK b m1)]; exact q1, .inl ⟨ccs, t, r1, by rw [z1]; exact r2, fun i x y => r3 i x (by omega), fun i x y => ?_⟩, q3, q4⟩
            have y' : i < cs0.length := by omega
            have hr := r4 i x y'
            have ecell : s.cell (b, i) = cs0[i] := by
              unfold AS.cell
              simp only [m2]
              rw [List.getElem?_eq_getElem y']; rfl
            rcases z2 i y y' with z | z | ⟨p, z3, z⟩ | ⟨e, z3, z⟩
            · rw [z]; exact hr.dat0.of0
            · rw [z]; exact hr.mp0 R
            · rw [z]
              have hm := zK _ _ _ z3
              obtain ⟨n, xs, k, h1, h2⟩ := bacc (b, i) _ hm
              subst h2
              rw [ecell] at h1
              refine zj1 h1 hr fun k' hk' sp hsp => ?_
              subst hk'
              rw [hσ' _ _ (ctB (b, i) _ hm)]
              exact hsp
            · rw [z]
              have hm := zK _ _ _ z3
              obtain ⟨n, hv⟩ := vcell (b, i) e hm
              rw [ecell] at hv
              exact vRd _ _ _ e (by rw [← hves]; exact List.mem_append_right _ (List.mem_map.2 ⟨_, hm, rfl⟩)) hv _ hr
        · subst m2 m3
          rcases (vesOk e m1).2 with ⟨b', p1, p2, p3⟩ | ⟨p1, p2⟩
          · have hm := rtE e m1
            rw [p3] at hm
            rcases h.box b' e.cs p2 with ⟨e1, e2⟩ | ⟨g, q1, hh0, q3, q4⟩
            rotate_left
            obtain ⟨ccs, t, r1, r2, r3, r4⟩ := hh0.cells (vesMap e m1 b' p3)
            rotate_left
            · exact .inl ⟨by rw [e1]; rfl, by rw [hρ' _ _ hm]; exact e2⟩
            · exact .inr ⟨g, by rw [hρ' _ _ hm]; exact q1, .inl ⟨ccs, t, r1, by simpa using r2, fun i x y => r3 i x (by simpa using y), fun i x y => by simpa using (r4 i x (by simpa using y)).dat0.of0⟩, q3, q4⟩
          · have hm := rtE e m1
            rw [p1] at hm
            exact .inl ⟨by rw [p2]; rfl, hρn _ hm⟩
      · obtain ⟨a', m1, m2⟩ := hρ2 b g hr
        exact h.rlt a' g m2
      · obtain ⟨a', m1, m2⟩ := hρ2 b g hb
        refine .inr ?_
        rw [tkN]
        exact tkS _ (by exact List.mem_map.2 ⟨_, ctV _ _ m1, rfl⟩)
      · obtain ⟨x, p1, p2⟩ := bxP b hb
        obtain ⟨x', p1', p2'⟩ := bxP b' hb'
        obtain ⟨a', m1, m2⟩ := hρ2 b g hr
        obtain ⟨a2, m1', m2'⟩ := hρ2 b' g hr'
        have e1 := Option.some.inj ((rtL _ _ p1).symm.trans (rtL _ _ m1))
        have e2 := Option.some.inj ((rtL _ _ p1').symm.trans (rtL _ _ m1'))
        have := h.inj a' a2 g (p2 a' e1) (p2' a2 e2) m2 m2'
        subst this
        exact actInj b b' a' m1 m1'
      · rw [tkN] at ht
        obtain ⟨k, m1, m2⟩ := hσ2 t sp hs
        obtain ⟨q1, q2, q3, q4⟩ := h.tok k sp (live t k m1 ht) m2
        refine ⟨q1, q2, q3, fun b hb e => ?_⟩
        obtain ⟨x, p1, p2⟩ := bxP b hb
        obtain ⟨a', m1, m2⟩ := hρ2 b _ e
        have e1 := Option.some.inj ((rtL _ _ p1).symm.trans (rtL _ _ m1))
        exact q4 a' (p2 a' e1) m2
      · obtain ⟨k, m1, m2⟩ := hσ2 t sp hs
        exact h.cap k sp m2
      · obtain ⟨k, m1, m2⟩ := hσ2 t sp hs
        rw [tkN]
        exact tkS _ (List.mem_map.2 ⟨_, m1, rfl⟩)
      · have hk' : k < s.nin := hk
        rw [hσ' _ _ (ctV _ _ (rtK k (ninB k hk')))] at hs
        exact h.capB k hk' sp hs
      · have hk' : k < s.nin := hk
        rw [tkN]
        exact tkS _ (List.mem_map.2 ⟨_, ctV _ _ (rtK k (ninB k hk')), rfl⟩)
      · rw [tkN] at ht ht'
        obtain ⟨k, m1, m2⟩ := hσ2 t sp hs
        obtain ⟨k', m1', m2'⟩ := hσ2 t' sp' hs'
        have := h.tinj k k' sp sp' (live t k m1 ht) (live t' k' m1' ht') m2 m2' hg
        subst this
        exact tkInj t t' k m1 m1' ht ht'
    · cases hk
  · cases hk
theorem jV {kp : Keep} {s0 s : AS} (h : keep kp s0 = some s) : s = Zp kp s := by
  unfold keep at h
  split at h
  · rename_i al bl va vc hal hbl hva hvc
    split at h
    · rename_i hd
      simp only [Bool.and_eq_true] at hd
      obtain ⟨d1, d2, d3, d4, d5, d6⟩ := hd
      cases h
      have hf := zaG s0 _ _ hal
      obtain ⟨hv1, nm1⟩ := zac s0 _ _ hva
      have nm2 := (Jf s0 _ _ hvc).2
      have hat : ∀ t, (js kp al bl va vc s0).at t = if t < s0.env.length then (match al.lookup t with | some p => p.1 | none => (match va.lookup t with | some e => e.val | none => (match kp.lists.lookup t with | some n => nilL n (s0.at t) | none => if kp.plain.contains t then mp2 (fun b => (fmOf kp (va.map (·.2) ++ vc.map (·.2))).lookup b) no1 (s0.at t) else .any))) else .any := fun t => by
        unfold AS.at js; exact za1 _ _ _ _
      have hlen : (js kp al bl va vc s0).env.length = s0.env.length := by simp [js]
      have e1 : (js kp al bl va vc s0).env = (Zp kp (js kp al bl va vc s0)).env := by
        show _ = (List.range (js kp al bl va vc s0).env.length).map _
        rw [hlen]
        show (List.range s0.env.length).map _ = _
        refine List.map_congr_left fun t ht => ?_
        have hlt : t < s0.env.length := by simpa using ht
        rw [hat t, if_pos hlt]
        have hc := Zb al t
        rw [hf] at hc
        cases hl : al.lookup t with
        | some p => rw [hl] at hc; simp only [Option.isSome_some] at hc; rw [← hc]; rfl
        | none =>
          rw [hl] at hc
          simp only [Option.isSome_none] at hc
          rw [← hc]
          simp only [Bool.false_or]
          have hcv := Zb va t
          rw [hv1] at hcv
          cases hlv : va.lookup t with
          | some e => rw [hlv] at hcv; simp only [Option.isSome_some] at hcv; rw [← hcv]; rfl
          | none =>
            rw [hlv] at hcv
            simp only [Option.isSome_none] at hcv
            rw [← hcv]
            simp only [Bool.false_or]
            have hc2 := Zb kp.lists t
            cases hl2 : kp.lists.lookup t with
            | some n => rw [hl2] at hc2; simp only [Option.isSome_some] at hc2; rw [← hc2]; rfl
            | none =>
              rw [hl2] at hc2
              simp only [Option.isSome_none] at hc2
              rw [← hc2]
              simp only [Bool.false_or]
              split <;> rfl
      have e2 : (js kp al bl va vc s0).box = (Zp kp (js kp al bl va vc s0)).box := by
        have k1 : (js kp al bl va vc s0).box.map (·.1) = kp.names := by
          simp only [js, Keep.names, List.map_append, List.map_map, Function.comp_def, ← nm1, ← nm2, List.map_id']
        have knd : ((js kp al bl va vc s0).box.map (·.1)).Nodup := by rw [k1]; exact zQ _ d3
        show _ = kp.names.map fun b => (b, (js kp al bl va vc s0).bx b)
        rw [← k1, List.map_map]
        have : ∀ p ∈ (js kp al bl va vc s0).box, p = ((fun b => (b, (js kp al bl va vc s0).bx b)) ∘ (·.1)) p := fun p hp => by
          obtain ⟨b, x⟩ := p
          have hl := jo _ knd b x hp
          show (b, x) = (b, (js kp al bl va vc s0).bx b)
          unfold AS.bx
          rw [hl]
        exact (List.map_id _).symm.trans (List.map_congr_left this)
      have ext : ∀ x y : AS, x.env = y.env → x.box = y.box → x.tok = y.tok → x.nin = y.nin → x = y := fun x y a b c d => by cases x; cases y; simp_all
      exact ext _ _ e1 e2 rfl rfl
    · cases h
  · cases h
def ZV (P : Program) (c : Code) (s : AS) (o : Out) : Prop := ∀ (B : Base) (a : Act) (w : World) (Q : Exit → Act → World → Prop), Sim B s a w → (∀ a' w', Sim B o.2 a' w' → Q o.1 a' w') → c.wp P Q a w
theorem zei (hT : TabOk P T) (hG : GOk P Γ.v) (hm : P.follows .mixedOrders = true) (An : Nat → Keep × Keep) (Λ : LoopK) : ∀ (c : Code) (n : Nat) (hL : ∀ p ∈ ZX c n, actB An p = true → ∀ s o, s = Zp (An p.1).1 s → Λ.v p.1 s = some o → ZV P p.2 s o) (α : Type) (s : AS) (K : Exit → AS → Option α) (x : α) (B : Base) (a : Act) (w : World) (Q : Exit → Act → World → Prop),
    J8 T Γ An Λ c n s K = some x → Sim B s a w → (∀ e s' a' w', K e s' = some x → Sim B s' a' w' → Q e a' w') → c.wp P Q a w := by
  intro c
  induction c with
  | skip => intro n hL α s K x B a w Q h hS hQ; exact wp_skip (hQ _ _ _ _ h hS)
  | label l => intro n hL α s K x B a w Q h hS hQ; exact wp_label (hQ _ _ _ _ h hS)
  | region id ops draw =>
    intro n hL α s K x B a w Q h hS hQ
    obtain ⟨s1, h1, hS1⟩ := fzs_ok _ s h hS
    obtain ⟨s2, h2, hS2⟩ := fzc_ok _ s1 h1 hS1
    exact zic hT hG hm h2 hS2 (fun s' a' w' hk => hQ _ s' a' w' hk)
  | seq c1 c2 ih1 ih2 =>
    intro n hL α s K x B a w Q h hS hQ
    unfold J8 at h
    split at h
    · rename_i hcut
      split at h
      · rename_i s' hk
        obtain ⟨o, h1, h2⟩ := Λ.eq _ _ _ _ _ h
        exact hL (n, .seq c1 c2) List.mem_cons_self hcut s' o (jV hk) h1 B a w Q (J7 hS hk) fun a' w' hS' => hQ _ _ a' w' h2 hS'
      · cases h
    · refine wp_seq (ih1 (n + 1) (fun p hp => hL p (List.mem_cons_of_mem _ (List.mem_append_left _ hp))) α s _ x B a w _ h hS fun e s' a' w' hk hS' => ?_)
      cases e with
      | normal => exact ih2 _ (fun p hp => hL p (List.mem_cons_of_mem _ (List.mem_append_right _ hp))) α s' K x B a' w' Q hk hS' hQ
      | _ => exact hQ _ s' a' w' hk hS'
  | cond c x1 y1 ih1 ih2 =>
    intro n hL α s K x B a w Q h hS hQ
    unfold J8 at h
    split at h
    · rename_i hcut
      split at h
      · rename_i s' hk
        obtain ⟨o, h1, h2⟩ := Λ.eq _ _ _ _ _ h
        exact hL (n, .cond c x1 y1) List.mem_cons_self hcut s' o (jV hk) h1 B a w Q (J7 hS hk) fun a' w' hS' => hQ _ _ a' w' h2 hS'
      · cases h
    · have hL1 : ∀ p ∈ ZX x1 (n + 1), actB An p = true → ∀ s o, s = Zp (An p.1).1 s → Λ.v p.1 s = some o → ZV P p.2 s o := fun p hp => hL p (List.mem_cons_of_mem _ (List.mem_append_left _ hp))
      have hL2 : ∀ p ∈ ZX y1 (n + 1 + Code.loops x1), actB An p = true → ∀ s o, s = Zp (An p.1).1 s → Λ.v p.1 s = some o → ZV P p.2 s o := fun p hp => hL p (List.mem_cons_of_mem _ (List.mem_append_right _ hp))
      split at h
      · rename_i b hb
        obtain ⟨M, ρ, σ, hs⟩ := hS
        have he := hs.ev c
        rw [hb] at he
        have hc := he.v_inv
        cases b
        · rw [zeY hb] at h
          exact wp_cond_false hc (ih2 _ hL2 α s K x B a w Q h ⟨M, ρ, σ, hs⟩ hQ)
        · rw [zeY hb] at h
          exact wp_cond_true hc (ih1 _ hL1 α s K x B a w Q h ⟨M, ρ, σ, hs⟩ hQ)
      · rename_i hb
        obtain ⟨hA, hB⟩ := zfs h
        obtain ⟨M, ρ, σ, hs⟩ := hS
        have he := hs.ev c
        rw [hb] at he
        have kn : ∀ b, a.eval c = .bool b → Sim B (s.knownO c b) a w := fun b hcb => by
          cases c with
          | tmp t =>
            refine ⟨M, ρ, σ, hs.reread t _ ?_⟩
            have : a.tmps.getD t undef = .bool b := hcb
            rw [this]; exact .v
          | _ => exact ⟨M, ρ, σ, hs⟩
        obtain ⟨b, hcb⟩ : ∃ b, a.eval c = .bool b := by
          generalize a.eval c = cv at he
          cases he; exact ⟨_, rfl⟩
        cases b
        · exact wp_cond_false hcb (ih2 _ hL2 α _ K x B a w Q hB (kn false hcb) hQ)
        · exact wp_cond_true hcb (ih1 _ hL1 α _ K x B a w Q hA (kn true hcb) hQ)
      · cases h
  | block id c ih =>
    intro n hL α s K x B a w Q h hS hQ
    unfold J8 at h
    split at h
    · rename_i hcut
      split at h
      · rename_i s' hk
        obtain ⟨o, h1, h2⟩ := Λ.eq _ _ _ _ _ h
        exact hL (n, .block id c) List.mem_cons_self hcut s' o (jV hk) h1 B a w Q (J7 hS hk) fun a' w' hS' => hQ _ _ a' w' h2 hS'
      · cases h
    · refine wp_block (ih (n + 1) (fun p hp => hL p (List.mem_cons_of_mem _ hp)) α s _ x B a w _ h hS fun e s' a' w' hk hS' => ?_)
      cases e with
      | exit i =>
        simp only at hk
        show (if i = id then Q .normal a' w' else Q (.exit i) a' w')
        split at hk
        · rename_i hi; rw [if_pos hi]; exact hQ _ s' a' w' hk hS'
        · rename_i hi; rw [if_neg hi]; exact hQ _ s' a' w' hk hS'
      | _ => exact hQ _ s' a' w' hk hS'
  | loop c ih =>
    intro n hL α s K x B a w Q h hS hQ
    unfold J8 at h
    split at h
    · rename_i s' hk
      obtain ⟨o, h1, h2⟩ := Λ.eq _ _ _ _ _ h
      exact hL (n, .loop c) List.mem_cons_self rfl s' o (jV hk) h1 B a w Q (J7 hS hk) fun a' w' hS' => hQ _ _ a' w' h2 hS'
    · cases h
  | exit id => intro n hL α s K x B a w Q h hS hQ; exact wp_exit (hQ _ _ _ _ h hS)
  | ret => intro n hL α s K x B a w Q h hS hQ; exact wp_ret (hQ _ _ _ _ h hS)
  | _ => intro n hL α s K x B a w Q h hS hQ; cases h
theorem zmr (hT : TabOk P T) (hG : GOk P Γ.v) (hm : P.follows .mixedOrders = true) (An : Nat → Keep × Keep) (Λ : LoopK) (n : Nat) (c : Code) (hL : ∀ p ∈ ZX c (n + 1), actB An p = true → ∀ s o, s = Zp (An p.1).1 s → Λ.v p.1 s = some o → ZV P p.2 s o) (V : Nat → AS → Option Out)
    (hstep : ∀ N s o, s = Zp (An n).1 s → V N s = some o → ∃ M, M < N ∧ zg2 T Γ An Λ n c s (V M) some = some o) : ∀ N s o, s = Zp (An n).1 s → V N s = some o → ZV P (.loop c) s o := by
  intro N0 s0 o hc0 h0 B a0 w0 Q hS0 hQ
  let G : Nat → Act → World → Prop := fun m a w => ∃ s, Sim B s a w ∧ s = Zp (An n).1 s ∧ V m s = some o
  have dec : ∀ a w, (∃ m, G m a w) → ∃ m, G m a w ∧ ∀ m', m' < m → ¬ G m' a w := fun a w ⟨m, hm⟩ => by
    induction m using Nat.strongRecOn with
    | _ m ih =>
      by_cases hx : ∃ m', m' < m ∧ G m' a w
      · obtain ⟨m', h1, h2⟩ := hx; exact ih m' h1 h2
      · exact ⟨m, hm, fun m' h1 h2 => hx ⟨m', h1, h2⟩⟩
  have μx : ∃ ν : Act → World → Nat, ∀ a w, (∃ m, G m a w) → G (ν a w) a w ∧ ∀ m', m' < ν a w → ¬ G m' a w :=
    ⟨fun a w => open Classical in if hx : ∃ m, G m a w then Classical.choose (dec a w hx) else 0, fun a w hx => by
      simp only [dif_pos hx]
      exact Classical.choose_spec (dec a w hx)⟩
  obtain ⟨ν, hν⟩ := μx
  refine wp_loop (fun a w => ∃ m, G m a w) ν ⟨N0, s0, hS0, hc0, h0⟩ fun a w hI => ?_
  obtain ⟨⟨s1, hS1, hc1, hv1⟩, hmin⟩ := hν a w hI
  obtain ⟨M, hM, hr⟩ := hstep _ s1 o hc1 hv1
  unfold zg2 at hr
  refine zei hT hG hm An Λ c (n + 1) hL Out s1 _ o B a w _ hr hS1 fun e s' a' w' hk hS' => ?_
  have notNormal : ∀ e : Exit, (match keep (An n).2 s' with | some s3 => some (e, s3) | none => none) = some o → Q e a' w' := fun e hk => by
    split at hk
    · rename_i s3 hk3
      cases hk
      exact hQ a' w' (J7 hS' hk3)
    · cases hk
  cases e with
  | normal =>
    simp only at hk
    split at hk
    · rename_i s2 hk2
      have hg : G M a' w' := ⟨s2, J7 hS' hk2, jV hk2, hk⟩
      refine ⟨⟨_, hg⟩, ?_⟩
      obtain ⟨-, hmin'⟩ := hν a' w' ⟨_, hg⟩
      have : ¬ M < ν a' w' := fun hlt => hmin' _ hlt hg
      omega
    · cases hk
  | exit i => exact notNormal _ hk
  | goto i => exact notNormal _ hk
  | ret => exact notNormal _ hk
  | panic i => exact notNormal _ hk
  | outgrown => exact notNormal _ hk
theorem zi8 (hT : TabOk P T) (hG : GOk P Γ.v) (hm : P.follows .mixedOrders = true) (An : Nat → Keep × Keep) (Λ : LoopK) (n : Nat) (c : Code) (hL : ∀ p ∈ ZX c n, actB (zgs An n) p = true → ∀ s o, s = Zp (zgs An n p.1).1 s → Λ.v p.1 s = some o → ZV P p.2 s o) {s : AS} {o : Out} (h : zbu T Γ An Λ n c s some = some o) : ZV P c s o := by
  intro B a w Q hS hQ
  unfold zbu at h
  refine zei hT hG hm (zgs An n) Λ c n hL Out s _ o B a w _ h hS fun e s' a' w' hk hS' => ?_
  split at hk
  · rename_i s3 hk3
    cases hk
    exact hQ a' w' (J7 hS' hk3)
  · cases hk
end
end Go.Proofs.Ytnnfpoelkdgjdaa
end
section
namespace Go.Proofs.Ytnnfpoelkdgjdaa
open Go.RowKit
set_option linter.unusedVariables false
set_option linter.unusedSimpArgs false
set_option linter.unnecessarySimpa false
def useG (use : List Nat) (t : Nat) : Option Nat := if use.contains t then some t else none
def inB (n b : Nat) : Option Nat := if b < n then some b else none
def za4 (n : Nat) (use : List Nat) : AV → AV := mp2 (inB n) (useG use)
def zbA (n : Nat) (use sl : List Nat) : Nat → List (List AV) → List (Nat × Option (List AV))
  | _, [] => []
  | k, cs :: r => (k, some (match sl.contains k with | true => cs | false => cs.map (mp0 (inB n) (useG use)))) :: zbA n use sl (k + 1) r
def zct (nt : Nat) (use sl : List Nat) (args : List AV) (bs : List (List AV)) : AS where
  env := args.map (za4 bs.length use) ++ List.replicate (nt - args.length) .any
  box := zbA bs.length use sl 0 bs
  tok := use.map (fun t => (t, true)) ++ ((List.range bs.length).map (fun k => (vk k, false)) ++ sl.map fun k => (vm k, false))
  nin := bs.length
def zlY (T : Tab) (s : AS) : ResultVar → Option AV
  | .tmp t => some (s.at t)
  | .cell a t => match s.at a with
    | .ptr b off => (match s.cx b with | some cs => ld T t cs off | none => none)
    | _ => none
def zbl (T : Tab) (s : AS) : List ResultVar → Option (List AV)
  | [] => some []
  | r :: l => match zlY T s r, zbl T s l with
    | some v, some vs => some (v :: vs)
    | _, _ => none
def tZ (i : Nat) : Nat := 64 * 40000000 + i
def tN (j : Nat) : Nat := 64 * (50000000 + j)
def coeC : Option Nat → AV → AV
  | some n, .v (.slice none 0 0) => .list n [] none
  | _, x => x
def zipC : List (Option Nat) → List AV → List AV
  | k :: ks, c :: cs => coeC k c :: zipC ks cs
  | _, cs => cs
def coeR (ks : List (Option Nat)) : AV → AV
  | .agg cs => .agg (zipC ks cs)
  | v => coeC (ks.headD none) v
def tagV (s : AS) (f : Nat → Option Nat) (id : Nat) : Option Nat → AV → AV
  | some n, v =>
    (match v with
    | .v (.slice none 0 0) => if 2000000 ≤ n then .list (n - 2000000) [] (some id) else if 1000000 ≤ n then .vs s.nin 0 0 (n - 1000000) else .list n [] none
    | .list m xs (some t) => if 2000000 ≤ n then (match s.tk t with | some true => .list m xs (some id) | _ => .list m xs none) else .list m xs none
    | v => mp2 f no1 v)
  | none, v => mp2 f no1 v
def tagT (s : AS) (id : Nat) : Option Nat → AV → List (Nat × Option Nat)
  | some n, v =>
    (match v with
    | .v (.slice none 0 0) => if 2000000 ≤ n then [(id, none)] else []
    | .list m xs (some t) => if 2000000 ≤ n then (match s.tk t with | some true => [(id, some t)] | _ => []) else []
    | v => [])
  | none, v => []
def tagC (s : AS) (f : Nat → Option Nat) (id : Nat → Nat) : Nat → List (Option Nat) → List AV → List AV
  | _, _, [] => []
  | j, row, v :: r => tagV s f (id j) (row.headD none) v :: tagC s f id (j + 1) row.tail r
def zgr (s : AS) (id : Nat → Nat) : Nat → List (Option Nat) → List AV → List (Nat × Option Nat)
  | _, _, [] => []
  | j, row, v :: r => tagT s (id j) (row.headD none) v ++ zgr s id (j + 1) row.tail r
def valV (s : AS) (f : Nat → Option Nat) (i : Nat) (row : List (Option Nat)) : AV → AV
  | .agg cs => .agg (zipC row (cs.map (mp0 f no1)))
  | v => tagV s f (tZ i) (row.headD none) v
def valT (s : AS) (i : Nat) (row : List (Option Nat)) : AV → List (Nat × Option Nat)
  | .agg _ => []
  | v => tagT s (tZ i) (row.headD none) v
def valVs (s : AS) (f : Nat → Option Nat) : Nat → List (List (Option Nat)) → List AV → List AV
  | _, _, [] => []
  | i, sh, v :: r => valV s f i (sh.headD []) v :: valVs s f (i + 1) sh.tail r
def zjE (s : AS) : Nat → List (List (Option Nat)) → List AV → List (Nat × Option Nat)
  | _, _, [] => []
  | i, sh, v :: r => valT s i (sh.headD []) v ++ zjE s (i + 1) sh.tail r
def outF (s : AS) (nw : Option Nat) (b : Nat) : Option Nat :=
  if b < s.nin then (match s.bx b with | some _ => some b | none => none) else (match nw with | some x => if b = x then some s.nin else none | none => none)
def finV (s : AS) (f : Nat → Option Nat) (sh : List (List (Option Nat))) : List AV → AV
  | [v] => valV s f 0 (sh.headD []) v
  | vs => .tup (valVs s f 0 sh vs)
def zij (s : AS) (sl : List Nat) (f : Nat → Option Nat) : Nat → List (List (Option Nat)) → Nat → Option (List (List AV))
  | _, _, 0 => some []
  | k, osh, n + 1 => match s.cx k, zij s sl f (k + 1) osh.tail n with
    | some cs, some r => some ((match sl.contains k with | true => cs.map dat0 | false => tagC s f (fun j => tC k j 0) 0 (osh.headD []) cs) :: r)
    | _, _ => none
def zgT (s : AS) (sl : List Nat) : Nat → List (List (Option Nat)) → Nat → List (Nat × Option Nat)
  | _, _, 0 => []
  | k, osh, n + 1 => (match sl.contains k with | true => [] | false => (match s.bx k with | some cs => zgr s (fun j => tC k j 0) 0 (osh.headD []) cs | none => [])) ++ zgT s sl (k + 1) osh.tail n
def anew (s : AS) (f : Nat → Option Nat) (nw : Option Nat) (nsh : List (Option Nat)) (v : AV) : Option (Option (List AV)) :=
  match nw with
  | some b => (match s.cx b with
    | some cs => some (some (match s.tk (vm b) with | some _ => cs.map dat0 | none => tagC s f tN 0 nsh cs))
    | none => none)
  | none => some (bif zez v then some [] else none)
def anewT (s : AS) (nw : Option Nat) (nsh : List (Option Nat)) : List (Nat × Option Nat) :=
  match nw with
  | some b => (match s.bx b with
    | some cs => (match s.tk (vm b) with | some _ => [] | none => zgr s tN 0 nsh cs)
    | none => [])
  | none => []
structure Shape where
  sh : List (List (Option Nat))
  osh : List (List (Option Nat))
  nsh : List (Option Nat)
  use : List Nat
  sl : List Nat
def newOf (s : AS) (vs : List AV) : Option Nat := ((vs.flatMap ptrR).filter (fun b => decide (s.nin ≤ b))).head?
def ziZ (S : Shape) (s : AS) (vs : List AV) (nw : Option Nat) : List (Nat × Option Nat) := zgT s S.sl 0 S.osh s.nin ++ (anewT s nw S.nsh ++ zjE s 0 S.sh vs)
def afin2 (S : Shape) (s : AS) (vs : List AV) (nw : Option Nat) : Option Ret :=
  match zij s S.sl (outF s nw) 0 S.osh s.nin, anew s (outF s nw) nw S.nsh (finV s (outF s nw) S.sh vs) with
  | some os, some new =>
    if (zZ ((ziZ S s vs nw).map (·.1)) && (zZ ((ziZ S s vs nw).filterMap (·.2)) && (ziZ S s vs nw).all (fun p => (List.range (s.nin + 1)).all fun k => decide (p.1 ≠ vk k)))) = true then
      some ⟨finV s (outF s nw) S.sh vs, os, new, S.use, (ziZ S s vs nw).map (·.1), S.sl⟩
    else none
  | _, _ => none
def afin (T : Tab) (fn : Func) (S : Shape) (s : AS) : Option Ret :=
  match zbl T s fn.results.toList with
  | some vs => afin2 S s vs (newOf s vs)
  | none => none
noncomputable def acall (T : Tab) (Γ : GamK) (An : Nat → Keep × Keep) (Λ : LoopK) (fn : Func) (S : Shape) (args : List AV) (bs : List (List AV)) : Option Ret :=
  match fn.body with
  | some c =>
    if args.length ≤ fn.ntmps ∧ S.sl.all (fun k => decide (k < bs.length)) = true ∧ (S.use.all fun t => (List.range bs.length).all fun k => decide (t ≠ vk k)) = true then
      J8 T Γ An Λ c 0 (zct fn.ntmps S.use S.sl args bs) fun e s => match e with
        | .normal => afin T fn S s
        | .ret => afin T fn S s
        | _ => none
    else none
  | none => none
section
variable {P : Program} {T : Tab} {Γ : GamK} {B : Base} {M : Mem} {ρ ρ' : Rho} {σ σ' : Sig} {s s' : AS} {a : Act} {w : World} {Q : Exit → Act → World → Prop}
def rv (tmps : Array Value) : ResultVar → Sem Value
  | .tmp t => pure (tmps.getD t undef)
  | .cell a t => do loadVar t (← asAddr (tmps.getD a undef))
theorem zhu (fn : Func) (tmps : Array Value) : results fn tmps = (do let vs ← fn.results.mapM (rv tmps); pure (if h : vs.size = 1 then vs[0] else .tuple vs)) := rfl
theorem zbx (hT : TabOk P T) (h : SimW B M ρ σ s a w) : ∀ (l : List ResultVar) (vs : List AV), zbl T s l = some vs → ∃ cs : List Value, (l.mapM (rv a.tmps)).run P w = .ok cs w ∧ cs.length = vs.length ∧ ∀ i (h : i < cs.length) (h' : i < vs.length), Rd M ρ σ cs[i] vs[i]
  | [], vs, hv => by cases hv; exact ⟨[], rfl, rfl, fun i h => by cases h⟩
  | r :: l, vs, hv => by
    unfold zbl at hv
    split at hv
    · rename_i v vs' h1 h2
      cases hv
      obtain ⟨cs, q1, q2, q3⟩ := zbx hT h l vs' h2
      have one : ∃ c, (rv a.tmps r).run P w = .ok c w ∧ Rd M ρ σ c v := by
        cases r with
        | tmp t => cases h1; exact ⟨_, rfl, h.env t⟩
        | cell b t =>
          simp only [zlY] at h1
          have hb := h.env b
          split at h1
          · rename_i bb off hat
            rw [hat] at hb
            split at h1
            · rename_i cs0 hcs
              generalize hq : a.tmps.getD b undef = xv at hb
              cases hb with
              | ptr hg =>
                obtain ⟨c, e1, e2⟩ := ld_ok hT (h.lies (AS.cx_some hcs).1 (AS.cx_some hcs).2 hg) h1
                rw [Nat.zero_add] at e1
                refine ⟨c, ?_, e2⟩
                simp only [rv, hq, asAddr, Sem.run_bind, Sem.run_pure, Result.andThen_ok, e1]
            · cases h1
          · cases h1
      obtain ⟨c, o1, o2⟩ := one
      refine ⟨c :: cs, ?_, by simp [q2], fun i hi hi' => ?_⟩
      · rw [List.mapM_cons]
        simp only [Sem.run_bind, o1, Result.andThen_ok, q1, Sem.run_pure]
      · cases i with
        | zero => exact o2
        | succ i => exact q3 i (by simpa using hi) (by simpa using hi')
    · cases hv
theorem Rd.coeC {k : Option Nat} {c : Value} {v : AV} (h : Rd M ρ σ c v) : Rd M ρ σ c (coeC k v) := by
  unfold Go.Proofs.Ytnnfpoelkdgjdaa.coeC
  split
  · rw [h.v_inv]; exact .nil
  · exact h
theorem zgP : ∀ (ks : List (Option Nat)) (cs : List AV), (zipC ks cs).length = cs.length ∧ ∀ i (h : i < (zipC ks cs).length) (h' : i < cs.length), (zipC ks cs)[i] = cs[i] ∨ ∃ k, (zipC ks cs)[i] = coeC k cs[i]
  | [], cs => ⟨by cases cs <;> rfl, fun i h h' => .inl (by cases cs <;> rfl)⟩
  | k :: ks, [] => ⟨rfl, fun i h => by cases h⟩
  | k :: ks, c :: cs => by
    obtain ⟨h1, h2⟩ := zgP ks cs
    refine ⟨by simp [zipC, h1], fun i h h' => ?_⟩
    cases i with
    | zero => exact .inr ⟨k, rfl⟩
    | succ i => exact h2 i (by simpa [zipC] using h) (by simpa using h')
theorem Rd.coeR {ks : List (Option Nat)} {c : Value} {v : AV} (h : Rd M ρ σ c v) : Rd M ρ σ c (coeR ks v) := by
  cases h with
  | agg hl h1 hr =>
    rename_i ccs cs
    obtain ⟨z1, z2⟩ := zgP ks cs
    refine .agg (by rw [z1]; exact hl) h1 fun i x y => ?_
    have y' : i < cs.length := by omega
    rcases z2 i y y' with e | ⟨k, e⟩
    · rw [e]; exact hr i x y'
    · rw [e]; exact (hr i x y').coeC
  | any => exact Rd.coeC (k := ks.headD none) .any
  | ub => exact Rd.coeC (k := ks.headD none) .ub
  | v => exact Rd.coeC (k := ks.headD none) .v
  | nil => exact Rd.coeC (k := ks.headD none) .nil
  | list cf h1 h2 h3 h4 h5 h6 h7 => exact Rd.coeC (k := ks.headD none) (.list cf h1 h2 h3 h4 h5 h6 h7)
  | tup h1 h2 => exact Rd.coeC (k := ks.headD none) (.tup h1 h2)
  | ptr hb => exact Rd.coeC (k := ks.headD none) (.ptr hb)
  | mref hb => exact Rd.coeC (k := ks.headD none) (.mref hb)
  | ref cf h1 h2 h3 => exact Rd.coeC (k := ks.headD none) (.ref cf h1 h2 h3)
  | fn h1 h2 h3 h4 => exact Rd.coeC (k := ks.headD none) (.fn h1 h2 h3 h4)
  | vs h hl hc => exact Rd.coeC (k := ks.headD none) (.vs h hl hc)
  | vsn => exact Rd.coeC (k := ks.headD none) .vsn
  | vse => exact Rd.coeC (k := ks.headD none) .vse
theorem Rd.tagV {f : Nat → Option Nat} {id : Nat} {c : Option Nat} (R : Ren f no1 ρ σ ρ' σ') {x : Value} {v : AV} (h : Rd M ρ σ x v) (ht : ∀ t, (id, some t) ∈ tagT s id c v → ∀ sp, σ t = some sp → σ' id = some sp) : Rd M ρ' σ' x (tagV s f id c v) := by
  unfold Go.Proofs.Ytnnfpoelkdgjdaa.tagV
  split
  · rename_i n
    split
    · rw [h.v_inv]
      split
      · exact .nil
      · split
        · exact .vsn
        · exact .nil
    · rename_i m xs t
      have none' : Rd M ρ' σ' x (.list m xs none) := by
        have := h.mp0 (f := no1) (g := no1) (Ren.no ρ σ ρ' σ')
        exact this
      split
      · rename_i hn
        split
        · rename_i hk
          cases h with
          | nil => exact .nil
          | list cf h1 h2 h3 h4 h5 h6 h7 =>
            refine .list cf h1 h2 h3 h4 h5 h6 (fun k e => ?_)
            cases e
            exact (h7 t rfl).imp (fun x => x) fun ⟨sp, q1, q2⟩ => ⟨sp, ht t (by simp [tagT, hn, hk]) sp q1, q2⟩
        · exact none'
      · exact none'
    · exact h.mp2 R
  · exact h.mp2 R
theorem zgM (f : Nat → Option Nat) (id : Nat → Nat) : ∀ (cs : List AV) (j0 : Nat) (row : List (Option Nat)), (tagC s f id j0 row cs).length = cs.length ∧ ∀ j (h : j < (tagC s f id j0 row cs).length) (h' : j < cs.length), ∃ c, (tagC s f id j0 row cs)[j] = tagV s f (id (j0 + j)) c cs[j] ∧ ∀ p ∈ tagT s (id (j0 + j)) c cs[j], p ∈ zgr s id j0 row cs
  | [], j0, row => ⟨rfl, fun j h => by cases h⟩
  | v :: r, j0, row => by
    obtain ⟨h1, h2⟩ := zgM f id r (j0 + 1) row.tail
    refine ⟨by simp [tagC, h1], fun j h h' => ?_⟩
    cases j with
    | zero => exact ⟨row.headD none, rfl, fun p hp => List.mem_append_left _ hp⟩
    | succ j =>
      obtain ⟨c, q1, q2⟩ := h2 j (by simpa [tagC] using h) (by simpa using h')
      rw [show j0 + 1 + j = j0 + (j + 1) by omega] at q1 q2
      exact ⟨c, by simpa only [tagC, List.getElem_cons_succ] using q1, fun p hp => List.mem_append_right _ (q2 p (by simpa using hp))⟩
theorem Hold0.tagC {f : Nat → Option Nat} (R : Ren f no1 ρ σ ρ' σ') {g : Nat} {cs : List AV} (h : Hold0 M ρ σ w g cs) (id : Nat → Nat) (row : List (Option Nat)) (ht : ∀ i t, (i, some t) ∈ zgr s id 0 row cs → ∀ sp, σ t = some sp → σ' i = some sp) : Hold0 M ρ' σ' w g (tagC s f id 0 row cs) := by
  obtain ⟨ccs, t, h1, h2, h3, h4⟩ := h
  obtain ⟨z1, z2⟩ := zgM (s := s) f id cs 0 row
  refine ⟨ccs, t, h1, by rw [z1]; exact h2, fun i x y => h3 i x (by omega), fun i x y => ?_⟩
  have y' : i < cs.length := by omega
  obtain ⟨c, e1, e2⟩ := z2 i y y'
  rw [e1]
  exact (h4 i x y').tagV R fun t hm sp hsp => ht _ t (e2 _ hm) sp hsp
theorem Rd.valV {f : Nat → Option Nat} {i : Nat} {row : List (Option Nat)} (R : Ren f no1 ρ σ ρ' σ') {x : Value} {v : AV} (h : Rd M ρ σ x v) (ht : ∀ i' t, (i', some t) ∈ valT s i row v → ∀ sp, σ t = some sp → σ' i' = some sp) : Rd M ρ' σ' x (valV s f i row v) := by
  unfold Go.Proofs.Ytnnfpoelkdgjdaa.valV
  split
  · rename_i cs
    have := (h.mp1 R).coeR (ks := row)
    exact this
  · rename_i hne
    refine h.tagV R fun t hm sp hsp => ht _ t ?_ sp hsp
    unfold valT
    split
    · exact absurd rfl (hne _)
    · exact hm
theorem zfv (f : Nat → Option Nat) : ∀ (cs : List AV) (i : Nat) (sh : List (List (Option Nat))), (valVs s f i sh cs).length = cs.length
  | [], i, sh => rfl
  | c :: cs, i, sh => by simp [valVs, zfv f cs]
theorem Rd.valVs {f : Nat → Option Nat} (R : Ren f no1 ρ σ ρ' σ') : ∀ (cs : List AV) (i : Nat) (sh : List (List (Option Nat))) (us : List Value), us.length = cs.length → (∀ j (h : j < us.length) (h' : j < cs.length), Rd M ρ σ us[j] cs[j]) → (∀ i' t, (i', some t) ∈ zjE s i sh cs → ∀ sp, σ t = some sp → σ' i' = some sp) → ∀ j (h : j < us.length) (h' : j < (valVs s f i sh cs).length), Rd M ρ' σ' us[j] (valVs s f i sh cs)[j]
  | [], i, sh, us, hl, hr, ht, j, h, h' => by cases h'
  | c :: cs, i, sh, [], hl, hr, ht, j, h, h' => by cases h
  | c :: cs, i, sh, u0 :: us, hl, hr, ht, j, h, h' => by
    cases j with
    | zero => exact (hr 0 (by simp) (by simp)).valV R fun i' t hm => ht i' t (List.mem_append_left _ hm)
    | succ j =>
      have := Rd.valVs R cs (i + 1) sh.tail us (by simpa using hl) (fun j h h' => by
        have := hr (j + 1) (by simpa using h) (by simpa using h')
        simp only [List.getElem_cons_succ] at this
        exact this) (fun i' t hm => ht i' t (List.mem_append_right _ hm)) j (by simpa using h) (by simpa [Go.Proofs.Ytnnfpoelkdgjdaa.valVs] using h')
      simpa only [Go.Proofs.Ytnnfpoelkdgjdaa.valVs, List.getElem_cons_succ] using this
theorem zdb (s : AS) (sl : List Nat) (f : Nat → Option Nat) : ∀ (n k : Nat) (osh : List (List (Option Nat))) (os : List (List AV)), zij s sl f k osh n = some os → os.length = n ∧ ∀ i (h : i < os.length), ∃ cs row, s.bx (k + i) = some cs ∧ os[i] = (match sl.contains (k + i) with | true => cs.map dat0 | false => tagC s f (fun j => tC (k + i) j 0) 0 row cs) ∧ (sl.contains (k + i) = false → ∀ p ∈ zgr s (fun j => tC (k + i) j 0) 0 row cs, p ∈ zgT s sl k osh n)
  | 0, k, osh, os, h => by cases h; exact ⟨rfl, fun i h => by cases h⟩
  | n + 1, k, osh, os, h => by
    unfold zij at h
    split at h
    · rename_i cs r h1 h2
      replace h1 := (AS.cx_some h1).1
      cases h
      obtain ⟨q1, q2⟩ := zdb s sl f n (k + 1) osh.tail r h2
      refine ⟨by simp [q1], fun i hi => ?_⟩
      cases i with
      | zero =>
        refine ⟨cs, osh.headD [], h1, rfl, fun hc p hp => List.mem_append_left _ ?_⟩
        rw [Nat.add_zero] at hc hp
        rw [hc, h1]
        exact hp
      | succ i =>
        obtain ⟨cs', row, e1, e2, e3⟩ := q2 i (by simpa using hi)
        have e : k + 1 + i = k + (i + 1) := by omega
        rw [e] at e1 e2 e3
        exact ⟨cs', row, e1, e2, fun hc p hp => List.mem_append_right _ (e3 hc p hp)⟩
    · cases h
theorem zfh (s : AS) (sl : List Nat) (f : Nat → Option Nat) : ∀ (n k : Nat) (osh : List (List (Option Nat))) (os : List (List AV)), zij s sl f k osh n = some os → ∀ i, i < n → zbi (k + i) = false
  | 0, k, osh, os, h => fun i hi => by cases hi
  | n + 1, k, osh, os, h => by
    unfold zij at h
    split at h
    · rename_i cs r h1 h2
      intro i hi
      cases i with
      | zero => exact (AS.cx_some h1).2
      | succ i =>
        have := zfh s sl f n (k + 1) osh.tail r h2 i (by omega)
        rw [show k + (i + 1) = k + 1 + i by omega]; exact this
    · cases h
theorem zbK (n : Nat) (use sl : List Nat) : ∀ (bs : List (List AV)) (k0 b : Nat) (x : Option (List AV)), (zbA n use sl k0 bs).lookup b = some x → ∃ k, ∃ (h : k < bs.length), b = k0 + k ∧ x = some (match sl.contains b with | true => bs[k] | false => bs[k].map (mp0 (inB n) (useG use)))
  | [], k0, b, x, h => by cases h
  | cs :: r, k0, b, x, h => by
    unfold zbA at h
    rw [List.lookup_cons] at h
    by_cases e : b = k0
    · subst e
      simp only [beq_self_eq_true] at h
      cases h
      exact ⟨0, by simp, rfl, rfl⟩
    · have e2 : (b == k0) = false := by simp [e]
      rw [e2] at h
      obtain ⟨k, h1, h2, h3⟩ := zbK n use sl r (k0 + 1) b x h
      exact ⟨k + 1, by simpa using h1, by omega, by simpa using h3⟩
theorem zda (n : Nat) (use sl : List Nat) : ∀ (bs : List (List AV)) (k0 k : Nat), k < bs.length → ∃ x, (zbA n use sl k0 bs).lookup (k0 + k) = some x ∧ x ≠ none
  | [], k0, k, h => by cases h
  | cs :: r, k0, k, h => by
    unfold zbA
    rw [List.lookup_cons]
    cases k with
    | zero => simp
    | succ k =>
      have e2 : (k0 + (k + 1) == k0) = false := by simp
      rw [e2]
      have := zda n use sl r (k0 + 1) k (by simpa using h)
      rw [show k0 + 1 + k = k0 + (k + 1) by omega] at this
      exact this
theorem init_ok {nt : Nat} {args : List AV} {bs : List (List AV)} {use sl : List Nat} (ha : args.length ≤ nt) {cargs : Array Value} {gs : List (Option Nat)} (hgl : GlOk M w gs (InT σ use)) (mem : ∀ g o v, M g o = some v → w.cell? ⟨g, o, none⟩ = some v) (hlt : ∀ (k g : Nat), gs[k]? = some (some g) → g < w.heap.size) (hn : Inj gs) (hl : gs.length = bs.length) (hsz : cargs.size = args.length) (hr : ∀ i (h : i < cargs.size) (h' : i < args.length), Rd M (gsR gs) σ cargs[i] args[i])
    (hbx : ∀ k (h : k < gs.length) (h' : k < bs.length), zaY M (gsR gs) σ w gs[k] bs[k]) (hsl : ∀ k ∈ sl, ∀ (h : k < gs.length) (h' : k < bs.length), zaY M rho0 sig0 w gs[k] bs[k]) (T : Toks M w σ use gs) (huv : ∀ t ∈ use, ∀ k, k < bs.length → t ≠ vk k) : ∃ σ1 : Sig, (∀ k, k < bs.length → σ1 (vk k) = σ (vk k)) ∧ SimW ⟨w, M, gs, InT σ use, fun k => σ (vk k)⟩ M (gsR gs) σ1 (zct nt use sl args bs) { tmps := cargs ++ Array.replicate (nt - cargs.size) undef, defers := [] } w := by
  let σ1 : Sig := fun t => open Classical in if t ∈ use ∨ ∃ k, k < bs.length ∧ t = vk k then σ t else none
  have s1u : ∀ t, (t ∈ use ∨ ∃ k, k < bs.length ∧ t = vk k) → σ1 t = σ t := fun t ht => by
    show (if _ then _ else _) = _
    rw [if_pos ht]
  have s1n : ∀ t sp, σ1 t = some sp → (t ∈ use ∨ ∃ k, k < bs.length ∧ t = vk k) ∧ σ t = some sp := fun t sp ht => by
    have ht' : (if t ∈ use ∨ ∃ k, k < bs.length ∧ t = vk k then σ t else none) = some sp := ht
    split at ht'
    · rename_i h; exact ⟨h, ht'⟩
    · cases ht'
  have R : Ren (inB bs.length) (useG use) (gsR gs) σ (gsR gs) σ1 := by
    refine ⟨fun b b' x hb hx => ?_, fun t t' sp ht hsp => ?_, fun b b' sp hb hsp => ?_⟩
    · unfold inB at hb
      split at hb
      · cases hb; exact hx
      · cases hb
    · unfold useG at ht
      split at ht
      · rename_i hc
        cases ht
        rw [s1u t (.inl (List.contains_iff_mem.1 hc))]; exact hsp
      · cases ht
    · unfold inB at hb
      split at hb
      · rename_i hlt
        cases hb
        rw [s1u _ (.inr ⟨b, hlt, rfl⟩)]; exact hsp
      · cases hb
  have tkq : ∀ t, (zct nt use sl args bs).tk t = (use.map (fun t => (t, true)) ++ ((List.range bs.length).map (fun k => (vk k, false)) ++ sl.map fun k => (vm k, false))).lookup t := fun t => rfl
  have tk1 : ∀ t, (zct nt use sl args bs).tk t = some true → t ∈ use := fun t ht => by
    rw [tkq] at ht
    rcases List.mem_append.1 (zK _ _ _ ht) with hm | hm
    · obtain ⟨x, m1, m2⟩ := List.mem_map.1 hm; cases m2; exact m1
    · rcases List.mem_append.1 hm with hm | hm
      · obtain ⟨x, m1, m2⟩ := List.mem_map.1 hm; cases m2
      · obtain ⟨x, m1, m2⟩ := List.mem_map.1 hm; cases m2
  have tk2 : ∀ t, (t ∈ use ∨ ∃ k, k < bs.length ∧ t = vk k) → (zct nt use sl args bs).tk t ≠ none := fun t ht => by
    rw [tkq, ← Option.isSome_iff_ne_none, Zb, List.contains_iff_mem]
    rcases ht with ht | ⟨k, hk, rfl⟩
    · exact List.mem_map.2 ⟨(t, true), List.mem_append_left _ (List.mem_map.2 ⟨t, ht, rfl⟩), rfl⟩
    · exact List.mem_map.2 ⟨(vk k, false), List.mem_append_right _ (List.mem_append_left _ (List.mem_map.2 ⟨k, by simpa using hk, rfl⟩)), rfl⟩
  have bxq : ∀ b, (zct nt use sl args bs).bx b = (match (zbA bs.length use sl 0 bs).lookup b with | some x => x | none => none) := fun b => rfl
  have hbx' : ∀ b cs, (zct nt use sl args bs).bx b = some cs → ∃ h : b < bs.length, cs = (match sl.contains b with | true => bs[b] | false => bs[b].map (mp0 (inB bs.length) (useG use))) := fun b cs hq => by
    rw [bxq] at hq
    split at hq
    · rename_i x hx
      obtain ⟨k, h1, h2, h3⟩ := zbK _ _ _ _ _ _ _ hx
      rw [Nat.zero_add] at h2
      subst h2
      rw [h3] at hq
      exact ⟨h1, (Option.some.inj hq).symm⟩
    · cases hq
  have gk : ∀ b g, gsR gs b = some g → gs[b]? = some (some g) := fun b g h => by
    unfold gsR at h
    cases hq : gs[b]? with
    | none => rw [hq] at h; cases h
    | some x => rw [hq] at h; rw [show x = some g from h]
  refine ⟨σ1, fun k hk => s1u _ (.inr ⟨k, hk, rfl⟩), ?_⟩
  refine { nin := hl.symm, own := fun k hk hb => rfl, fresh := fun b g hb' hr' => ?_, len := ?_, env := fun t => ?_, defers := rfl, mem := mem, memB := fun _ _ _ _ => rfl, memS := fun _ _ _ h => h, gl := hgl, os := rfl, tape := rfl, output := rfl, size := Nat.le_refl _, block := fun _ _ _ _ => rfl, box := fun b cs hq => ?_, rws := fun _ _ h => h, rlt := fun b g hr' => hlt b g (gk b g hr'), rho := fun b g hg => ?_, inj := fun b b' g _ _ h1 h2 => hn b b' g (gk b g h1) (gk b' g h2), tok := fun t sp ht hs => ?_, cap := fun t sp hs => T.cap t sp (s1n t sp hs).2, sig := fun t sp hs => tk2 t (s1n t sp hs).1, capB := fun k hk sp hs => (s1n _ sp hs).2, nink := fun k hk => tk2 _ (.inr ⟨k, hk, rfl⟩), tinj := fun t t' sp sp' ht ht' hs hs' hg => T.inj t (tk1 t ht) t' (tk1 t' ht') sp sp' (s1n t sp hs).2 (s1n t' sp' hs').2 hg }
  · simp [zct]; omega
  · have e : (zct nt use sl args bs).at t = if h : t < args.length then za4 bs.length use args[t] else .any := by
      unfold AS.at zct
      simp only
      by_cases hlt : t < args.length
      · rw [dif_pos hlt, List.getElem?_append_left (by simpa using hlt), List.getElem?_map, List.getElem?_eq_getElem hlt]; rfl
      · rw [dif_neg hlt, List.getElem?_append_right (by simp; omega), List.getElem?_replicate]
        split <;> rfl
    rw [e]
    split
    · rename_i hlt
      have h1 : t < cargs.size := by omega
      have : (cargs ++ Array.replicate (nt - cargs.size) undef).getD t undef = cargs[t] := by
        rw [Array.getD_eq_getD_getElem?, Array.getElem?_append_left h1, Array.getElem?_eq_getElem h1]; rfl
      rw [this]
      exact (hr t h1 hlt).mp2 R
    · exact .any
  · have h1 := gk b g hr'
    have h2 := (List.getElem?_eq_some_iff.1 h1).1
    have h3 : bs.length ≤ b := hb'
    omega
  · obtain ⟨hlt', rfl⟩ := hbx' b cs hq
    have hb2 : b < gs.length := by omega
    have eg : gsR gs b = gs[b] := by unfold gsR; rw [List.getElem?_eq_getElem hb2]; rfl
    cases hc : sl.contains b with
    | true =>
      rcases hsl b (List.contains_iff_mem.1 hc) hb2 hlt' with ⟨q1, q2⟩ | ⟨g, q1, ⟨ccs, t, z1, z2, z3, z4⟩, q3⟩
      · exact .inl ⟨q1, by rw [eg]; exact q2⟩
      · exact .inr ⟨g, by rw [eg]; exact q1, .inl ⟨ccs, t, z1, z2, z3, fun i a b => (z4 i a b).of0⟩, q3, .inr (by rw [← q1]; exact List.getElem_mem _)⟩
    | false =>
      rcases hbx b hb2 hlt' with ⟨q1, q2⟩ | ⟨g, q1, ⟨ccs, t, z1, z2, z3, z4⟩, q3⟩
      · exact .inl ⟨by simp [q1], by rw [eg]; exact q2⟩
      · exact .inr ⟨g, by rw [eg]; exact q1, .inl ⟨ccs, t, z1, by simpa using z2, fun i a b => z3 i a (by simpa using b), fun i a b => by simpa using (z4 i a (by simpa using b)).mp0 R⟩, q3, .inr (by rw [← q1]; exact List.getElem_mem _)⟩
  · refine .inl ?_
    have h1 := gk b g hg
    have h2 := (List.getElem?_eq_some_iff.1 h1).1
    obtain ⟨x, q1, q2⟩ := zda bs.length use sl bs 0 b (by omega)
    rw [Nat.zero_add] at q1
    rw [bxq, q1]
    exact q2
  · have hu := tk1 t ht
    obtain ⟨q1, q2, q3⟩ := T.tok t hu sp (s1n t sp hs).2
    exact ⟨.inr ⟨t, hu, sp, (s1n t sp hs).2, rfl⟩, q1, q2, fun b _ e => q3 (List.mem_of_getElem? (gk b _ e))⟩
def capN (σ : Sig) (nw : Option Nat) : Option Spare := match nw with
  | some b => σ (vk b)
  | none => none
def newG (ρ : Rho) (nw : Option Nat) (new : Option (List AV)) : List (Option Nat) := match nw with
  | some b => [ρ b]
  | none => (match new with | some _ => [none] | none => [])
theorem finV_tup (s : AS) (f : Nat → Option Nat) (sh : List (List (Option Nat))) (vs : List AV) (h : ∀ v, vs ≠ [v]) : finV s f sh vs = .tup (valVs s f 0 sh vs) := by
  cases vs with
  | nil => rfl
  | cons x r => cases r with
    | nil => exact absurd rfl (h x)
    | cons y r => rfl
theorem zeE {id : Nat} {c : Option Nat} {v : AV} {p : Nat × Option Nat} (h : p ∈ tagT s id c v) : ∀ t, p.2 = some t → s.tk t = some true := fun t ht => by
  unfold tagT at h
  split at h
  · split at h
    · split at h
      · simp at h; subst h; cases ht
      · cases h
    · split at h
      · split at h
        · rename_i hk; simp at h; subst h; cases ht; exact hk
        · cases h
      · cases h
    · cases h
  · cases h
theorem zaF {id : Nat → Nat} : ∀ (cs : List AV) (j : Nat) (row : List (Option Nat)) (p : Nat × Option Nat), p ∈ zgr s id j row cs → ∀ t, p.2 = some t → s.tk t = some true
  | [], _, _, p, h => by cases h
  | v :: r, j, row, p, h => by
    rcases List.mem_append.1 h with h | h
    · exact zeE h
    · exact zaF r _ _ p h
theorem zb5 (sl : List Nat) : ∀ (n k : Nat) (osh : List (List (Option Nat))) (p : Nat × Option Nat), p ∈ zgT s sl k osh n → ∀ t, p.2 = some t → s.tk t = some true
  | 0, _, _, p, h => by cases h
  | n + 1, k, osh, p, h => by
    rcases List.mem_append.1 h with h | h
    · split at h
      · cases h
      · split at h
        · exact zaF _ _ _ p h
        · cases h
    · exact zb5 sl n _ _ p h
theorem zds : ∀ (cs : List AV) (i : Nat) (sh : List (List (Option Nat))) (p : Nat × Option Nat), p ∈ zjE s i sh cs → ∀ t, p.2 = some t → s.tk t = some true
  | [], _, _, p, h => by cases h
  | v :: r, i, sh, p, h => by
    rcases List.mem_append.1 h with h | h
    · unfold valT at h
      split at h
      · cases h
      · exact zeE h
    · exact zds r _ _ p h
theorem acall_ok (hT : TabOk P T) (hG : GOk P Γ.v) (hm : P.follows .mixedOrders = true) {f : FuncId} {fn : Func} (hf : P.funcs[f]? = some fn) (hname : (fn.name == "runtime.NumGoroutine") = false) (An : Nat → Keep × Keep) (Λ : LoopK) (hL : ∀ c, fn.body = some c → ∀ p ∈ ZX c 0, actB An p = true → ∀ s o, s = Zp (An p.1).1 s → Λ.v p.1 s = some o → ZV P p.2 s o) {S : Shape} {args : List AV} {bs : List (List AV)} {r : Ret} (ru : r.use = S.use ∧ r.sl = S.sl)
    (h : acall T Γ An Λ fn S args bs = some r) : CallOk P f args bs r := by
  obtain ⟨sh, osh, nsh, use, sl⟩ := S
  unfold acall at h
  split at h
  · rename_i c hc
    split at h
    · rename_i hle
      obtain ⟨hle, hsk, huv⟩ := hle
      refine ⟨⟨fn, hf, hname, by rw [hc]; rfl⟩, fun M w cargs gs σ hgl mem hlt hn hl hsz hr hbx hsl0 hT0 => ?_⟩
      rw [ru.1] at hT0 hgl
      rw [ru.2] at hsl0
      obtain ⟨σ1, hσ1, hinit⟩ := init_ok (nt := fn.ntmps) (args := args) (bs := bs) (use := use) (sl := sl) hle hgl mem hlt hn hl hsz hr hbx hsl0 hT0 (fun t ht k hk => of_decide_eq_true (List.all_eq_true.1 (List.all_eq_true.1 huv t ht) k (by simpa using hk)))
      refine calls_of_wp hf hc (zei hT hG hm An Λ c 0 (hL c hc) Ret _ _ r _ _ w _ h ⟨M, _, _, hinit⟩ fun e s a w' hk hS => ?_)
      have fin : afin T fn ⟨sh, osh, nsh, use, sl⟩ s = some r → bodyPost P fn (fun e w' => ∃ c M' σ' gn, e = .returned c ∧ Left M w gs σ r c M' w' σ' gn) .ret a w' := fun hk => by
        obtain ⟨M', ρ, σ2, hs⟩ := hS
        unfold afin at hk
        split at hk
        · rename_i vs hv
          obtain ⟨nw, hnwd⟩ : ∃ nw, newOf s vs = nw := ⟨_, rfl⟩
          rw [hnwd] at hk
          have hnw : ∀ b, nw = some b → s.nin ≤ b := fun b hb => by
            rw [hb] at hnwd
            have := List.mem_of_mem_head? hnwd
            exact of_decide_eq_true (List.mem_filter.1 this).2
          unfold afin2 at hk
          obtain ⟨tab, htab⟩ : ∃ tab, ziZ ⟨sh, osh, nsh, use, sl⟩ s vs nw = tab := ⟨_, rfl⟩
          rw [htab] at hk
          dsimp only at hk
          obtain ⟨f', hf'⟩ : ∃ f', outF s nw = f' := ⟨_, rfl⟩
          rw [hf'] at hk
          split at hk
          · rename_i os new ho hnew
            split at hk
            · rename_i hchk
              rw [Bool.and_eq_true, Bool.and_eq_true] at hchk
              obtain ⟨k1, k2, k3⟩ := hchk
              have tab_nd := zQ _ k1
              have tabL : ∀ i x, (i, x) ∈ tab → tab.lookup i = some x := jo tab tab_nd
              have tabV : ∀ i x, (i, x) ∈ tab → ∀ k, k ≤ s.nin → i ≠ vk k := fun i x hm k hk => of_decide_eq_true (List.all_eq_true.1 (List.all_eq_true.1 k3 _ hm) k (by simpa using Nat.lt_succ_of_le hk))
              have tabLive : ∀ i t, (i, some t) ∈ tab → s.tk t = some true := fun i t hm => by
                rw [← htab] at hm
                unfold ziZ at hm
                rcases List.mem_append.1 hm with hm | hm
                · exact zb5 _ _ _ _ _ hm t rfl
                · rcases List.mem_append.1 hm with hm | hm
                  · unfold anewT at hm
                    split at hm
                    · split at hm
                      · split at hm
                        · cases hm
                        · exact zaF _ _ _ _ hm t rfl
                      · cases hm
                    · cases hm
                  · exact zds _ _ _ _ hm t rfl
              have hnin : s.nin = gs.length := hs.nin
              obtain ⟨gn, hgn⟩ : ∃ gn : List (Option Nat), gn = newG ρ nw new := ⟨_, rfl⟩
              let σ3 : Sig := fun t => match tab.lookup t with | some o => o.bind σ2 | none => if t = vk s.nin then capN σ2 nw else σ2 t
              have s3t : ∀ i x, (i, x) ∈ tab → σ3 i = x.bind σ2 := fun i x hm => by
                show (match tab.lookup i with | some o => o.bind σ2 | none => if i = vk s.nin then capN σ2 nw else σ2 i) = _
                rw [tabL i x hm]
              have tabN : ∀ k, k ≤ s.nin → tab.lookup (vk k) = none := fun k hk => by
                cases hq : tab.lookup (vk k) with
                | none => rfl
                | some x => exact absurd rfl (tabV _ _ (zK _ _ _ hq) k hk)
              have s3n : ∀ k, k < s.nin → σ3 (vk k) = σ2 (vk k) := fun k hk => by
                show (match tab.lookup (vk k) with | some o => o.bind σ2 | none => if vk k = vk s.nin then capN σ2 nw else σ2 (vk k)) = _
                rw [tabN k (by omega)]
                simp only
                rw [if_neg (by unfold vk; omega)]
              have s3e : ∀ b, nw = some b → σ3 (vk s.nin) = σ2 (vk b) := fun b hb => by
                show (match tab.lookup (vk s.nin) with | some o => o.bind σ2 | none => if vk s.nin = vk s.nin then capN σ2 nw else σ2 (vk s.nin)) = _
                rw [tabN s.nin (Nat.le_refl _)]
                simp only [if_true, hb]; rfl
              have s3c : ∀ t sp, σ3 t = some sp → ∃ t', σ2 t' = some sp := fun t sp ht => by
                have ht' : (match tab.lookup t with | some o => o.bind σ2 | none => if t = vk s.nin then capN σ2 nw else σ2 t) = some sp := ht
                split at ht'
                · obtain ⟨x, -, h2⟩ := Option.bind_eq_some_iff.1 ht'
                  exact ⟨x, h2⟩
                · split at ht'
                  · unfold capN at ht'
                    split at ht'
                    · exact ⟨_, ht'⟩
                    · cases ht'
                  · exact ⟨_, ht'⟩
              obtain ⟨o1, o2⟩ := zdb s sl f' _ _ _ _ ho
              have o3 := zfh s sl f' _ _ _ _ ho
              rw [hnin] at o1
              have hpres : ∀ k, k < gs.length → s.bx k ≠ none := fun k hk => by
                obtain ⟨cs, row, q1, -⟩ := o2 k (by omega)
                rw [Nat.zero_add] at q1
                rw [q1]; simp
              have hown : ∀ k (hk : k < gs.length), ρ k = gs[k] := fun k hk => by
                have := hs.own k (by omega) (hpres k hk)
                rw [this]
                show (gs[k]?).getD none = _
                rw [List.getElem?_eq_getElem hk]; rfl
              have gl : ∀ b, b < s.nin → gsR (gs ++ gn) b = ρ b := fun b hb => by
                have hb' : b < gs.length := by omega
                rw [hown b hb']
                unfold gsR
                rw [List.getElem?_append_left hb', List.getElem?_eq_getElem hb']; rfl
              have gN : ∀ b, nw = some b → gsR (gs ++ gn) s.nin = ρ b := fun b hb => by
                unfold gsR
                rw [hgn, hb, hnin, List.getElem?_append_right (Nat.le_refl _), Nat.sub_self]
                rfl
              have R : Ren f' no1 ρ σ2 (gsR (gs ++ gn)) σ3 := by
                have oF : ∀ b b', f' b = some b' → (b < s.nin ∧ b' = b) ∨ (nw = some b ∧ b' = s.nin) := fun b b' hb => by
                  rw [← hf'] at hb
                  unfold outF at hb
                  split at hb
                  · rename_i hlt
                    split at hb
                    · cases hb; exact .inl ⟨hlt, rfl⟩
                    · cases hb
                  · split at hb
                    · split at hb
                      · rename_i e; cases hb; exact .inr ⟨by rw [e], rfl⟩
                      · cases hb
                    · cases hb
                refine ⟨fun b b' x hb hx => ?_, fun t t' sp ht hsp => ?_, fun b b' sp hb hsp => ?_⟩
                · rcases oF b b' hb with ⟨q1, q2⟩ | ⟨q1, q2⟩
                  · rw [q2, gl b q1]; exact hx
                  · rw [q2, gN b q1]; exact hx
                · cases ht
                · rcases oF b b' hb with ⟨q1, q2⟩ | ⟨q1, q2⟩
                  · rw [q2, s3n b q1]; exact hsp
                  · rw [q2, s3e b q1]; exact hsp
              have sub : ∀ g o v, M g o = some v → M' g o = some v := hs.memS
              have frm : Frm w w' gs (InT σ use) := ⟨hs.os, hs.tape, hs.output, hs.size, hs.block⟩
              obtain ⟨cs, q1, q2, q3⟩ := zbx hT hs _ _ hv
              have qr : (results fn a.tmps).run P w' = .ok (if h : cs.toArray.size = 1 then cs.toArray[0] else .tuple cs.toArray) w' := by
                rw [zhu]
                simp only [Sem.run_bind]
                have : (fn.results.mapM (rv a.tmps)).run P w' = .ok cs.toArray w' := by
                  rw [Array.mapM_eq_mapM_toList]
                  show Sem.run P ((fn.results.toList.mapM _) >>= fun l => pure l.toArray) w' = _
                  rw [Sem.run_bind, q1]
                  rfl
                rw [this]
                rfl
              have tabS : ∀ i t, (i, some t) ∈ tab → ∀ sp, σ2 t = some sp → σ3 i = some sp := fun i t hm sp hsp => by
                rw [s3t i _ hm]; exact hsp
              have hval : Rd M' (gsR (gs ++ gn)) σ3 (if h : cs.toArray.size = 1 then cs.toArray[0] else .tuple cs.toArray) (finV s f' sh vs) := by
                have inT : ∀ p ∈ zjE s 0 sh vs, p ∈ tab := fun p hp => by
                  rw [← htab]; exact List.mem_append_right _ (List.mem_append_right _ hp)
                by_cases hone : ∃ v, vs = [v]
                · obtain ⟨v, hv1⟩ := hone
                  subst hv1
                  obtain ⟨c0, hc0⟩ : ∃ c0, cs = [c0] := List.length_eq_one_iff.1 (by rw [q2]; rfl)
                  subst hc0
                  show Rd M' (gsR (gs ++ gn)) σ3 c0 (valV s f' 0 (sh.headD []) v)
                  exact (q3 0 (by simp) (by simp)).valV R fun i' t hm => tabS i' t (inT _ (List.mem_append_left _ hm))
                · have hne : ∀ v, vs ≠ [v] := fun v e => hone ⟨v, e⟩
                  have h1 : ¬ cs.toArray.size = 1 := fun e => by
                    have e2 : vs.length = 1 := by rw [← q2]; simpa using e
                    obtain ⟨v, e3⟩ := List.length_eq_one_iff.1 e2
                    exact hne v e3
                  rw [dif_neg h1, finV_tup s f' sh vs hne]
                  have hz := Rd.valVs (s := s) R vs 0 sh cs q2 q3 fun i' t hm => tabS i' t (inT _ hm)
                  have hzl := zfv (s := s) f' vs 0 sh
                  exact .tup (by simp [hzl, q2]) (fun i h h' => by simpa using hz i (by simpa using h) h')
              cases hk
              have holdD : ∀ (b g : Nat) (cs : List AV), Hold0 M' ρ σ2 w' g cs → Hold0 M' rho0 sig0 w' g (cs.map dat0) := fun b g cs ⟨ccs, t, z1, z2, z3, z4⟩ => ⟨ccs, t, z1, by simpa using z2, fun i a b => z3 i a (by simpa using b), fun i a b => by simpa using (z4 i a (by simpa using b)).dat0⟩
              have up0 : ∀ g cs, Hold0 M' rho0 sig0 w' g cs → Hold0 M' (gsR (gs ++ gn)) σ3 w' g cs := fun g cs ⟨ccs, t, z1, z2, z3, z4⟩ => ⟨ccs, t, z1, z2, z3, fun i a b => (z4 i a b).of0⟩
              have tokIn : ∀ t sp, s.tk t = some true → σ2 t = some sp → (w.heap.size ≤ sp.g ∨ InT σ use sp.g) ∧ sp.lo ≤ sp.hi ∧ (∀ o, sp.lo ≤ o → o < sp.hi → M' sp.g o = none) ∧ some sp.g ∉ gs := fun t sp ht hsp => by
                obtain ⟨p1, p2, p3, p4⟩ := hs.tok t sp ht hsp
                refine ⟨p1, p2, p3, fun hm => ?_⟩
                obtain ⟨k, hk, e⟩ := List.getElem_of_mem hm
                exact p4 k (hpres k hk) (by rw [hown k hk, e])
              -- the new variable
              have hnewS : ∀ cs, new = some cs → ∃ go, gn = [go] ∧ zaY M' (gsR (gs ++ gn)) σ3 w' go cs ∧ (∀ g, go = some g → w.heap.size ≤ g) ∧ ∀ t sp, s.tk t = some true → σ2 t = some sp → go ≠ some sp.g := fun cs hcs => by
                unfold anew at hnew
                split at hnew
                · rename_i b
                  split at hnew
                  · rename_i cs0 hb0
                    obtain ⟨hb, hbm⟩ := AS.cx_some hb0
                    rw [hcs] at hnew
                    have hnew' := Option.some.inj (Option.some.inj hnew)
                    have hgo : gn = [ρ b] := hgn
                    have hfr : ∀ g, ρ b = some g → w.heap.size ≤ g := fun g hg => hs.fresh b g (hnw b rfl) hg
                    have hnt : ∀ t sp, s.tk t = some true → σ2 t = some sp → ρ b ≠ some sp.g := fun t sp ht hsp => (hs.tok t sp ht hsp).2.2.2 b (JK hb)
                    refine ⟨ρ b, hgo, ?_, hfr, hnt⟩
                    rw [← hnew']
                    rcases hs.box b cs0 hb with ⟨e1, e2⟩ | ⟨g, p1, p20, p3, -⟩
                    rotate_left
                    have p2 := p20.cells hbm
                    rotate_left
                    · refine .inl ⟨?_, e2⟩
                      subst e1
                      split <;> rfl
                    · refine .inr ⟨g, p1, ?_, p3⟩
                      split
                      · exact up0 _ _ (holdD b g cs0 p2)
                      · rename_i hvm
                        refine p2.tagC R _ _ fun i t hm => tabS i t ?_
                        rw [← htab]
                        refine List.mem_append_right _ (List.mem_append_left _ ?_)
                        unfold anewT
                        simp only [hb, hvm]
                        exact hm
                  · cases hnew
                · have hgo : gn = [none] := by rw [hgn, hcs]; rfl
                  have hnew' := Option.some.inj hnew
                  rw [hcs] at hnew'
                  refine ⟨none, hgo, .inl ⟨?_, rfl⟩, fun g e => (by cases e), fun t sp _ _ e => by cases e⟩
                  revert hnew'
                  cases zez (finV s f' sh vs)
                  · intro e; cases e
                  · intro e; cases e; rfl
              refine ⟨hs.defers, _, qr, _, M', σ3, gn, rfl, ?_⟩
              refine { sub := sub, mem := hs.mem, same := hs.memB, frm := by rw [ru.1]; exact frm, olen := o1, outs := fun k hk hk' => ?_, data := fun k hks hk hk' => ?_, newn := fun e => ?_, new := fun cs hcs => ?_, val := hval, tok := fun t ht sp hsp => ?_, cap := fun t sp hsp => ?_, inj := fun t ht t' ht' sp sp' h1 h2 hg => ?_, rows := hs.rws, capin := fun k hk sp hsp => ?_ }
              · obtain ⟨cs0, row, c1, c2, c3⟩ := o2 k hk'
                rw [Nat.zero_add] at c1 c2 c3
                dsimp only
                rw [c2]
                rcases hs.box k cs0 c1 with ⟨e1, e2⟩ | ⟨g, p1, p20, p3, -⟩
                rotate_left
                have p2 := p20.cells (by have := o3 k (by omega); rwa [Nat.zero_add] at this)
                rotate_left
                · refine .inl ⟨?_, by rw [← hown k hk]; exact e2⟩
                  subst e1
                  split <;> rfl
                · refine .inr ⟨g, by rw [← hown k hk]; exact p1, ?_, p3⟩
                  cases hsc : sl.contains k with
                  | true => exact up0 _ _ (holdD k g cs0 p2)
                  | false =>
                    refine p2.tagC R _ _ fun i t hm => tabS i t ?_
                    rw [← htab]
                    refine List.mem_append_left _ ?_
                    exact c3 hsc _ hm
              · obtain ⟨cs0, row, c1, c2, c3⟩ := o2 k hk'
                rw [Nat.zero_add] at c1 c2 c3
                dsimp only
                have hks' : sl.contains k = true := List.contains_iff_mem.2 hks
                rw [c2, hks']
                rcases hs.box k cs0 c1 with ⟨e1, e2⟩ | ⟨g, p1, p20, p3, -⟩
                rotate_left
                have p2 := p20.cells (by have := o3 k (by omega); rwa [Nat.zero_add] at this)
                rotate_left
                · exact .inl ⟨by rw [e1]; rfl, by rw [← hown k hk]; exact e2⟩
                · exact .inr ⟨g, by rw [← hown k hk]; exact p1, holdD k g cs0 p2, p3⟩
              · have e' : new = none := e
                rw [hgn, e']
                unfold anew at hnew
                cases nw with
                | none => rfl
                | some b =>
                  simp only at hnew
                  split at hnew
                  · rw [e'] at hnew; cases hnew
                  · cases hnew
              · obtain ⟨go, g1, g2, g3, -⟩ := hnewS cs hcs
                exact ⟨go, g1, g2, g3⟩
              · have ht' : t ∈ tab.map (·.1) := ht
                obtain ⟨⟨i, x⟩, m1, m2⟩ := List.mem_map.1 ht'
                have m2' : i = t := m2
                subst m2'
                rw [s3t i x m1] at hsp
                obtain ⟨t0, e1, h1⟩ := Option.bind_eq_some_iff.1 hsp
                subst e1
                have h2 := tabLive i t0 m1
                obtain ⟨p1, p2, p3, p4⟩ := tokIn t0 sp h2 h1
                refine ⟨by rw [ru.1]; exact p1, p2, p3, fun hm => ?_⟩
                rcases List.mem_append.1 hm with hm | hm
                · exact p4 hm
                · cases hnn : new with
                  | some cs =>
                    obtain ⟨go, g1, -, -, g4⟩ := hnewS cs hnn
                    rw [g1] at hm
                    have : some sp.g = go := by simpa using hm
                    exact g4 t0 sp h2 h1 this.symm
                  | none =>
                    rw [hgn, hnn] at hm
                    unfold anew at hnew
                    cases nw with
                    | none => cases hm
                    | some b =>
                      simp only at hnew
                      split at hnew
                      · rw [hnn] at hnew; cases hnew
                      · cases hnew
              · obtain ⟨t', h1⟩ := s3c t sp hsp
                exact hs.cap t' sp h1
              · have ht1 : t ∈ tab.map (·.1) := ht
                have ht2 : t' ∈ tab.map (·.1) := ht'
                obtain ⟨⟨i, x⟩, m1, m2⟩ := List.mem_map.1 ht1
                obtain ⟨⟨i', x'⟩, m1', m2'⟩ := List.mem_map.1 ht2
                have m3 : i = t := m2
                have m3' : i' = t' := m2'
                subst m3 m3'
                rw [s3t i x m1] at h1
                rw [s3t i' x' m1'] at h2
                obtain ⟨t0, e1, h3⟩ := Option.bind_eq_some_iff.1 h1
                obtain ⟨t0', e1', h3'⟩ := Option.bind_eq_some_iff.1 h2
                subst e1 e1'
                have := hs.tinj t0 t0' sp sp' (tabLive _ _ m1) (tabLive _ _ m1') h3 h3' hg
                subst this
                exact congrArg Prod.fst (Z1 (·.2) tab k2 (i, some t0) (i', some t0) t0 m1 m1' rfl rfl)
              · rw [s3n k (by omega)] at hsp
                have := hs.capB k (by omega) sp hsp
                exact this
            · cases hk
          · cases hk
        · cases hk
      cases e with
      | normal => exact fin hk
      | ret => exact fin hk
      | _ => cases hk
    · cases h
  · cases h
end
end Go.Proofs.Ytnnfpoelkdgjdaa
end
section
namespace Go.Proofs.Ytnnfpoelkdgjdaa
open Go.RowKit
set_option linter.unusedVariables false
set_option linter.unusedSimpArgs false
set_option linter.unnecessarySimpa false
def zt (P : Program) : Tab where
  u := P.underlying
  i := fun t => match P.info? t with | some i => some (i.size, i.bytes) | none => none
  z := fun t => match P.info? t with
    | some i => (match i.zero with | some z => if z.cells.toList.all (·.oneCell') then some (z.cells.toList.map .v) else none | none => none)
    | none => none
  q := fun t => !P.stoodInHeld t && !P.eqGuardType P.depth t
  zv := fun t => match P.info? t with | some i => i.zero | none => none
  bm := fun _ => false
def tabB (P : Program) (l : List Nat) : Tab where
  u := (zt P).u
  i := (zt P).i
  z := (zt P).z
  q := (zt P).q
  zv := (zt P).zv
  bm := fun d => l.contains d
theorem zf (P : Program) : TabOk P (zt P) where
  u := fun t d h => h
  q := fun t h => by simpa [zt] using h
  i := fun t p h => by
    simp only [zt] at h
    split at h
    · rename_i i hi; cases h; exact ⟨i, hi, rfl, rfl⟩
    · cases h
  zv := fun t v h => by
    simp only [zt] at h
    split at h
    · rename_i i hi; exact ⟨i, hi, h⟩
    · cases h
  z := fun t z h => by
    simp only [zt] at h
    split at h
    · rename_i i hi
      split at h
      · rename_i v hv
        split at h
        · rename_i hall
          cases h
          exact ⟨i, v, hi, hv, fun M ρ σ => ⟨by simp, fun j hj => List.all_eq_true.1 hall _ (by simp), fun j hj hj' => by simpa using Rd.v⟩⟩
        · cases h
      · cases h
    · cases h
theorem zL (P : Program) (l : List Nat) : TabOk P (tabB P l) where
  u := (zf P).u
  i := (zf P).i
  z := (zf P).z
  q := (zf P).q
  zv := (zf P).zv
theorem zm : Try.prog.follows .mixedOrders = true := by kernel_rfl
def kp0 : Keep := ⟨[], [], [], [], [], [], [], [], false⟩
abbrev I (n : Int) : AV := .v (.int .i64 n)
structure FSpec where
  X : Type
  Y : Type
  ash : List (List (Option Nat))
  bsh : List (List (Option Nat))
  S : Shape
  bm : Bool
  pat : List AV → List (List AV) → Option X
  args : X → List AV
  bs : X → List (List AV)
  ret : Y → Ret
  t : X → (α : Type) → (Y → Option α) → Option α
def FSpec.d (F : FSpec) (x : F.X) : Option F.Y := F.t x F.Y some
structure Ent (P : Program) where
  f : FuncId
  F : FSpec
  ok : ∀ x y, F.d x = some y → CallOk P f (F.args x) (F.bs x) (F.ret y)
  hp : ∀ a b x, F.pat a b = some x → a = F.args x ∧ b = F.bs x
  hsl : ∀ y, (F.ret y).sl = F.S.sl
def coeT (id : Nat) : Option Nat → AV → AV
  | some n, .v (.slice none 0 0) => if 2000000 ≤ n then .list (n - 2000000) [] (some id) else .list n [] none
  | _, x => x
def zipT (id : Nat → Nat) : Nat → List (Option Nat) → List AV → List AV
  | j, k :: ks, c :: cs => coeT (id j) k c :: zipT id (j + 1) ks cs
  | _, _, cs => cs
def coeA (id : Nat) (ks : List (Option Nat)) : AV → AV
  | .agg cs => .agg (zipC ks cs)
  | v => coeT id (ks.headD none) v
def zipA : Nat → List (List (Option Nat)) → List AV → List AV
  | i, k :: ks, c :: cs => coeA (tI i) k c :: zipA (i + 1) ks cs
  | _, _, cs => cs
def zji (n : Nat) (use : List Nat) (ash : List (List (Option Nat))) (args : List AV) : List AV := zipA 0 ash (args.map (za4 n use))
def zcG (n : Nat) (use sl : List Nat) : Nat → List (List (Option Nat)) → List (List AV) → List (List AV)
  | _, _, [] => []
  | k, rows, cs :: r => (match sl.contains k with | true => cs | false => zipT (fun j => tC k j 0) 0 (rows.headD []) (cs.map (mp0 (inB n) (useG use)))) :: zcG n use sl (k + 1) rows.tail r
theorem Rd.coeT {M : Mem} {ρ : Rho} {σ : Sig} {i : Nat} {k : Option Nat} {c : Value} {v : AV} (h : Rd M ρ σ c v) : Rd M ρ σ c (coeT i k v) := by
  unfold Go.Proofs.Ytnnfpoelkdgjdaa.coeT
  split
  · rw [h.v_inv]
    split
    · exact .nil
    · exact .nil
  · exact h
theorem zgA (id : Nat → Nat) : ∀ (ks : List (Option Nat)) (cs : List AV) (j0 : Nat), (zipT id j0 ks cs).length = cs.length ∧ ∀ i (h : i < (zipT id j0 ks cs).length) (h' : i < cs.length), (zipT id j0 ks cs)[i] = cs[i] ∨ ∃ j k, (zipT id j0 ks cs)[i] = coeT j k cs[i]
  | [], cs, j0 => ⟨by cases cs <;> rfl, fun i h h' => .inl (by cases cs <;> rfl)⟩
  | k :: ks, [], j0 => ⟨rfl, fun i h => by cases h⟩
  | k :: ks, c :: cs, j0 => by
    obtain ⟨h1, h2⟩ := zgA id ks cs (j0 + 1)
    refine ⟨by simp [zipT, h1], fun i h h' => ?_⟩
    cases i with
    | zero => exact .inr ⟨_, k, rfl⟩
    | succ i => exact h2 i (by simpa [zipT] using h) (by simpa using h')
theorem Rd.coeA {M : Mem} {ρ : Rho} {σ : Sig} {i : Nat} {ks : List (Option Nat)} {c : Value} {v : AV} (h : Rd M ρ σ c v) : Rd M ρ σ c (coeA i ks v) := by
  unfold Go.Proofs.Ytnnfpoelkdgjdaa.coeA
  split
  · exact Rd.coeR (ks := ks) h
  · exact h.coeT
theorem zgE : ∀ (ks : List (List (Option Nat))) (cs : List AV) (i0 : Nat), (zipA i0 ks cs).length = cs.length ∧ ∀ i (h : i < (zipA i0 ks cs).length) (h' : i < cs.length), (zipA i0 ks cs)[i] = cs[i] ∨ ∃ j k, (zipA i0 ks cs)[i] = coeA j k cs[i]
  | [], cs, i0 => ⟨by cases cs <;> rfl, fun i h h' => .inl (by cases cs <;> rfl)⟩
  | k :: ks, [], i0 => ⟨rfl, fun i h => by cases h⟩
  | k :: ks, c :: cs, i0 => by
    obtain ⟨h1, h2⟩ := zgE ks cs (i0 + 1)
    refine ⟨by simp [zipA, h1], fun i h h' => ?_⟩
    cases i with
    | zero => exact .inr ⟨_, k, rfl⟩
    | succ i => exact h2 i (by simpa [zipA] using h) (by simpa using h')
theorem zfB (n : Nat) (use sl : List Nat) : ∀ (bs : List (List AV)) (k0 : Nat) (rows : List (List (Option Nat))), (zcG n use sl k0 rows bs).length = bs.length ∧ ∀ k (h : k < (zcG n use sl k0 rows bs).length) (h' : k < bs.length), ∃ row, (zcG n use sl k0 rows bs)[k] = (match sl.contains (k0 + k) with | true => bs[k] | false => zipT (fun j => tC (k0 + k) j 0) 0 row (bs[k].map (mp0 (inB n) (useG use))))
  | [], k0, rows => ⟨rfl, fun k h => by cases h⟩
  | cs :: r, k0, rows => by
    obtain ⟨h1, h2⟩ := zfB n use sl r (k0 + 1) rows.tail
    refine ⟨by simp [zcG, h1], fun k h h' => ?_⟩
    cases k with
    | zero => exact ⟨_, rfl⟩
    | succ k =>
      obtain ⟨row, e⟩ := h2 k (by simpa [zcG] using h) (by simpa using h')
      rw [show k0 + 1 + k = k0 + (k + 1) by omega] at e
      exact ⟨row, e⟩
theorem Hold0.zipT {M : Mem} {ρ : Rho} {σ : Sig} {w : World} {g : Nat} {cs : List AV} (h : Hold0 M ρ σ w g cs) (id : Nat → Nat) (ks : List (Option Nat)) : Hold0 M ρ σ w g (zipT id 0 ks cs) := by
  obtain ⟨ccs, t, h1, h2, h3, h4⟩ := h
  obtain ⟨z1, z2⟩ := zgA id ks cs 0
  refine ⟨ccs, t, h1, by rw [z1]; exact h2, fun i x y => h3 i x (by omega), fun i x y => ?_⟩
  have y' : i < cs.length := by omega
  rcases z2 i y y' with e | ⟨j, k, e⟩
  · rw [e]; exact h4 i x y'
  · rw [e]; exact (h4 i x y').coeT
theorem CallOk.prep {P : Program} {f : FuncId} {args : List AV} {bs : List (List AV)} {r : Ret} {use sl : List Nat} (ka kb : List (List (Option Nat))) (hsl : r.sl = sl) (h : CallOk P f (zji bs.length use ka args) (zcG bs.length use sl 0 kb bs) r) : CallOk P f args bs r := by
  obtain ⟨h1, h2⟩ := h
  obtain ⟨a1, a2⟩ := zgE ka (args.map (za4 bs.length use)) 0
  obtain ⟨b1, b2⟩ := zfB bs.length use sl bs 0 kb
  have hla : (zji bs.length use ka args).length = args.length := by unfold zji; rw [a1]; simp
  refine ⟨h1, fun M w cargs gs σ hgl mem hlt hn hl hsz hr hbx hda hT => ?_⟩
  have R : Ren (inB bs.length) (useG use) (gsR gs) σ (gsR gs) σ := by
    refine ⟨fun b b' x hb hx => ?_, fun t t' sp ht hsp => ?_, fun b b' sp hb hsp => ?_⟩
    · unfold inB at hb
      split at hb
      · cases hb; exact hx
      · cases hb
    · unfold useG at ht
      split at ht
      · cases ht; exact hsp
      · cases ht
    · unfold inB at hb
      split at hb
      · cases hb; exact hsp
      · cases hb
  refine h2 M w cargs gs σ hgl mem hlt hn (by rw [b1]; exact hl) (by rw [hla]; exact hsz) (fun i x y => ?_) (fun k x y => ?_) (fun k hk x y => ?_) hT
  · have y' : i < args.length := by omega
    have y2 : i < (args.map (za4 bs.length use)).length := by simpa using y'
    have base : Rd M (gsR gs) σ cargs[i] (args.map (za4 bs.length use))[i] := by
      rw [List.getElem_map]; exact (hr i x y').mp2 R
    rcases a2 i y y2 with e | ⟨j, k, e⟩
    · show Rd M (gsR gs) σ cargs[i] (zipA 0 ka (args.map (za4 bs.length use)))[i]
      rw [e]; exact base
    · show Rd M (gsR gs) σ cargs[i] (zipA 0 ka (args.map (za4 bs.length use)))[i]
      rw [e]; exact base.coeA
  · have y' : k < bs.length := by omega
    obtain ⟨row, e⟩ := b2 k y y'
    rw [e]
    rcases hbx k x y' with ⟨q1, q2⟩ | ⟨g, q1, q2, q3⟩
    · refine .inl ⟨?_, q2⟩
      rw [q1]
      split
      · rfl
      · cases row with
        | nil => rfl
        | cons _ _ => rfl
    · refine .inr ⟨g, q1, ?_, q3⟩
      split
      · exact q2
      · exact (q2.back R false).zipT _ row
  · have y' : k < bs.length := by omega
    obtain ⟨row, e⟩ := b2 k y y'
    rw [hsl] at hk
    rw [e, Nat.zero_add, List.contains_iff_mem.2 hk]
    exact hda k (by rw [hsl]; exact hk) x y'
def gv {P : Program} : List (Ent P) → FuncId → Bool → List AV → List (List AV) → Option Ret
  | [], _, _, _, _ => none
  | e :: r, f, m, args, bs => if e.f = f ∧ e.F.bm = m then (match e.F.pat (zji bs.length e.F.S.use e.F.ash args) (zcG bs.length e.F.S.use e.F.S.sl 0 e.F.bsh bs) with | some x => (match e.F.d x with | some y => some (e.F.ret y) | none => none) | none => gv r f m args bs) else gv r f m args bs
def gK {P : Program} : List (Ent P) → FuncId → Bool → List AV → List (List AV) → (α : Type) → (Ret → Option α) → Option α
  | [], _, _, _, _, _, _ => none
  | e :: r, f, m, args, bs, α, k => if e.f = f ∧ e.F.bm = m then (match e.F.pat (zji bs.length e.F.S.use e.F.ash args) (zcG bs.length e.F.S.use e.F.S.sl 0 e.F.bsh bs) with | some x => (match e.F.d x with | some y => k (e.F.ret y) | none => none) | none => gK r f m args bs α k) else gK r f m args bs α k
theorem gK_eq {P : Program} : ∀ (es : List (Ent P)) (f : FuncId) (m : Bool) (args : List AV) (bs : List (List AV)) (α : Type) (k : Ret → Option α) (x : α), gK es f m args bs α k = some x → ∃ r, gv es f m args bs = some r ∧ k r = some x
  | [], _, _, _, _, _, _, _, h => by cases h
  | e :: r, f, m, args, bs, α, k, x, h => by
    unfold gK at h
    unfold gv
    split at h
    · rename_i hf
      rw [if_pos hf]
      cases hd : e.F.pat (zji bs.length e.F.S.use e.F.ash args) (zcG bs.length e.F.S.use e.F.S.sl 0 e.F.bsh bs) with
      | some d =>
        rw [hd] at h
        simp only at h ⊢
        cases hy : e.F.d d with
        | some y => rw [hy] at h; exact ⟨e.F.ret y, rfl, h⟩
        | none => rw [hy] at h; cases h
      | none =>
        rw [hd] at h
        exact gK_eq r f m args bs α k x h
    · rename_i hf
      rw [if_neg hf]
      exact gK_eq r f m args bs α k x h
def gam {P : Program} (es : List (Ent P)) : GamK := ⟨gv es, gK es, gK_eq es⟩
theorem zk {P : Program} : ∀ (es : List (Ent P)), GOk P (gam es).v
  | [] => fun f m args bs r h => by cases h
  | e :: es => fun f m args bs r h => by
    change gv (e :: es) f m args bs = some r at h
    unfold gv at h
    split at h
    · rename_i hf
      obtain ⟨hf, -⟩ := hf
      subst hf
      split at h
      · rename_i x hx
        obtain ⟨h1, h2⟩ := e.hp _ _ _ hx
        split at h
        · rename_i y hy; cases h; exact .prep e.F.ash e.F.bsh (e.hsl y) (by rw [h1, h2]; exact e.ok x y hy)
        · cases h
      · exact zk es _ m args bs r h
    · exact zk es f m args bs r h
structure LSpec where
  X : Type
  Y : Type
  p : AS → Option X
  st : X → AS
  out : Y → Out
  sp : Y → (α : Type) → (Out → Option α) → Option α
  spe : ∀ y α k, sp y α k = k (out y)
  b : X → (α : Type) → (X → Option α) → (Y → Option α) → Option α
def LSpec.L (l : LSpec) : Nat → l.X → Option l.Y
  | 0, _ => none
  | N + 1, x => l.b x l.Y (l.L N) some
def lv (N : Nat) (ls : List (Nat × LSpec)) (n : Nat) (s : AS) : Option Out := match ls.lookup n with
  | some l => (match l.p s with | some x => (match l.L N x with | some y => some (l.out y) | none => none) | none => none)
  | none => none
def lK (N : Nat) (ls : List (Nat × LSpec)) (n : Nat) (s : AS) (α : Type) (k : Out → Option α) : Option α := match ls.lookup n with
  | some l => (match l.p s with | some x => (match l.L N x with | some y => l.sp y α k | none => none) | none => none)
  | none => none
def lam (N : Nat) (ls : List (Nat × LSpec)) : LoopK := ⟨lv N ls, lK N ls, fun n s α k x h => by
  unfold lK at h
  unfold lv
  split at h
  · rename_i l hl
    split at h
    · rename_i x hx
      split at h
      · rename_i y hy
        rw [l.spe] at h
        exact ⟨l.out y, by simp only [hx, hy], h⟩
      · cases h
    · cases h
  · cases h⟩
def Par {X Y : Type} (b : X → (α : Type) → (X → Option α) → (Y → Option α) → Option α) : Prop := ∀ (x : X) (α β : Type) (kn : X → Option α) (ke : Y → Option α) (kn' : X → Option β) (ke' : Y → Option β) (r : α) (r' : β), b x α kn ke = some r → (∀ x, kn x = some r → kn' x = some r') → (∀ y, ke y = some r → ke' y = some r') → b x β kn' ke' = some r'
def ParF {X Y : Type} (t : X → (α : Type) → (Y → Option α) → Option α) : Prop := ∀ (x : X) (α β : Type) (k : Y → Option α) (k' : Y → Option β) (r : α) (r' : β), t x α k = some r → (∀ y, k y = some r → k' y = some r') → t x β k' = some r'
theorem zc {α β : Type} {a b : Option α} {a' b' : Option β} {r : α} {r' : β} (h1 : a = some r → a' = some r') (h2 : b = some r → b' = some r') : both a b = some r → both a' b' = some r' := by
  intro h
  obtain ⟨q1, q2⟩ := zfs h
  rw [h1 q1, h2 q2]; exact zci _
theorem zg {c : Prop} [Decidable c] {α β : Type} {a b : Option α} {a' b' : Option β} {r : α} {r' : β} (h1 : a = some r → a' = some r') (h2 : b = some r → b' = some r') : ite c a b = some r → ite c a' b' = some r' := by
  by_cases h : c
  · rw [if_pos h, if_pos h]; exact h1
  · rw [if_neg h, if_neg h]; exact h2
theorem LSpec.mono (l : LSpec) (hpar : Par l.b) : ∀ (N : Nat) (x : l.X) (y : l.Y), l.L N x = some y → l.L (N + 1) x = some y
  | 0, x, y, h => by cases h
  | N + 1, x, y, h => hpar x l.Y l.Y _ _ _ _ y y h (fun x' hx => LSpec.mono l hpar N x' y hx) (fun y' hy => hy)
theorem LSpec.up (l : LSpec) (hpar : Par l.b) {x : l.X} {y : l.Y} {N : Nat} (h : l.L N x = some y) : ∀ {M : Nat}, N ≤ M → l.L M x = some y := by
  have : ∀ k, l.L (N + k) x = some y := by
    intro k
    induction k with
    | zero => exact h
    | succ k ih => exact l.mono hpar _ x y ih
  intro M hM
  obtain ⟨k, rfl⟩ := Nat.exists_eq_add_of_le hM
  exact this k
theorem loop_ok {P : Program} {T : Tab} {Γ : GamK} (hT : TabOk P T) (hG : GOk P Γ.v) (hm : P.follows .mixedOrders = true) (An : Nat → Keep × Keep) (N0 : Nat) (ls : List (Nat × LSpec)) (n : Nat) (c node : Code) (hnode : node = .loop c) (hL : ∀ p ∈ zfN An c (n + 1), ∀ s o, s = Zp (An p.1).1 s → (lam N0 ls).v p.1 s = some o → ZV P p.2 s o)
    (l : LSpec) (hl : ls.lookup n = some l) (hp : ∀ s x, s = Zp (An n).1 s → l.p s = some x → s = l.st x) (pm : ∀ x, l.p (l.st x) = some x)
    (hb : ∀ (x : l.X) (α : Type) (kn : AS → Option α) (ke : Out → Option α), zg2 T Γ An (lam N0 ls) n c (l.st x) kn ke = l.b x α (fun x' => kn (l.st x')) (fun y => ke (l.out y))) (hpar : Par l.b) :
    ∀ s o, s = Zp (An n).1 s → (lam N0 ls).v n s = some o → ZV P node s o := by
  subst hnode
  let V : Nat → AS → Option Out := fun N s => match l.p s with | some x => (match l.L N x with | some y => some (l.out y) | none => none) | none => none
  have key := zmr hT hG hm An (lam N0 ls) n c (fun p hp hact => hL p (List.mem_filter.2 ⟨hp, hact⟩)) V (fun N s o hc hv => by
    simp only [V] at hv
    split at hv
    · rename_i x hx
      split at hv
      · rename_i y hy
        cases hv
        cases N with
        | zero => cases hy
        | succ N =>
          refine ⟨N, Nat.lt_succ_self _, ?_⟩
          rw [hp s x hc hx, hb]
          refine hpar x l.Y Out _ _ _ _ y (l.out y) hy (fun x' hx' => ?_) (fun y' hy' => by cases hy'; rfl)
          simp only [V, pm, hx']
      · cases hv
    · cases hv)
  intro s o hc hv
  change lv N0 ls n s = some o at hv
  unfold lv at hv
  rw [hl] at hv
  simp only at hv
  split at hv
  · rename_i x hx
    split at hv
    · rename_i y hy
      cases hv
      exact key N0 s _ hc (by simp only [V, hx, hy])
    · cases hv
  · cases hv
theorem piece_ok {P : Program} {T : Tab} {Γ : GamK} (hT : TabOk P T) (hG : GOk P Γ.v) (hm : P.follows .mixedOrders = true) (An : Nat → Keep × Keep) (N0 : Nat) (ls : List (Nat × LSpec)) (n : Nat) (c : Code) (hL : ∀ p ∈ zfN (zgs An n) c n, ∀ s o, s = Zp (An p.1).1 s → (lam N0 ls).v p.1 s = some o → ZV P p.2 s o)
    (l : LSpec) (hl : ls.lookup n = some l) (hp : ∀ s x, s = Zp (An n).1 s → l.p s = some x → s = l.st x)
    (hb : ∀ (x : l.X) (α : Type) (kn : l.X → Option α) (ke : Out → Option α), zbu T Γ An (lam N0 ls) n c (l.st x) ke = l.b x α kn (fun y => ke (l.out y))) (hpar : Par l.b) :
    ∀ s o, s = Zp (An n).1 s → (lam N0 ls).v n s = some o → ZV P c s o := by
  intro s o hc hv
  change lv N0 ls n s = some o at hv
  unfold lv at hv
  rw [hl] at hv
  simp only at hv
  split at hv
  · rename_i x hx
    split at hv
    · rename_i y hy
      cases hv
      cases N0 with
      | zero => cases hy
      | succ N =>
        refine zi8 hT hG hm An (lam (N + 1) ls) n c (fun p hp' hact s o hs => hL p (List.mem_filter.2 ⟨hp', hact⟩) s o ?_) ?_
        · unfold zgs at hs
          split at hs
          · rename_i e; rw [e]; exact hs
          · exact hs
        · rw [hp s x hc hx, hb x Out (fun _ => none)]
          have hy' : l.b x l.Y (l.L N) some = some y := hy
          have h2 : l.b x Out (fun _ => none) (fun y => some (l.out y)) = l.b x Out (fun x' => (l.L N x').map l.out) (fun y => some (l.out y)) := by
            rw [← hb x Out (fun _ => none), ← hb x Out (fun x' => (l.L N x').map l.out)]
          rw [h2]
          exact hpar x l.Y Out _ _ _ _ y (l.out y) hy' (fun x' hx' => by rw [hx']; rfl) (fun y' hy' => by cases hy'; rfl)
    · cases hv
  · cases hv
def zB {P : Program} {T : Tab} {Γ : GamK} (hT : TabOk P T) (hG : GOk P Γ.v) (hm : P.follows .mixedOrders = true) (f : FuncId) (fn : Func) (hf : P.funcs[f]? = some fn) (hname : (fn.name == "runtime.NumGoroutine") = false) (An : Nat → Keep × Keep) (Λ : LoopK)
    (hL : ∀ p ∈ zfN An (fn.body.getD .skip) 0, ∀ s o, s = Zp (An p.1).1 s → Λ.v p.1 s = some o → ZV P p.2 s o) (F : FSpec) (hru : ∀ y, (F.ret y).use = F.S.use ∧ (F.ret y).sl = F.S.sl)
    (hb : ∀ x, acall T Γ An Λ fn F.S (F.args x) (F.bs x) = F.t x Ret (fun y => some (F.ret y))) (hp : ∀ a b x, F.pat a b = some x → a = F.args x ∧ b = F.bs x) (hpar : ParF F.t) : Ent P where
  f := f
  F := F
  ok := fun x y h => acall_ok hT hG hm hf hname An Λ (fun c hc p hp' hact => hL p (by rw [hc]; exact List.mem_filter.2 ⟨hp', hact⟩)) (hru y) (by rw [hb]; exact hpar x F.Y Ret _ _ y (F.ret y) h (fun y' hy' => by cases hy'; rfl))
  hp := hp
  hsl := fun y => (hru y).2
def AtAll (s : AS) : List (Nat × AV) → Prop
  | [] => True
  | p :: r => s.at p.1 = p.2 ∧ AtAll s r
def BxAll (s : AS) : List (Nat × List AV) → Prop
  | [] => True
  | p :: r => s.bx p.1 = some p.2 ∧ BxAll s r
abbrev i64 (n : Int) : Int := IntKind.i64.wrap n
def mkS (len : Nat) (l : List (Nat × AV)) (bx : List (Nat × List AV)) (tk : List (Nat × Bool)) (nin : Nat) : AS where
  env := (List.range len).map fun t => (l.lookup t).getD .any
  box := bx.map fun p => (p.1, some p.2)
  tok := tk
  nin := nin
theorem AtAll.lookup {s : AS} : ∀ {l : List (Nat × AV)} {t : Nat} {v : AV}, AtAll s l → l.lookup t = some v → s.at t = v
  | [], t, v, _, h => by cases h
  | (t0, v0) :: r, t, v, ha, h => by
    rw [List.lookup_cons] at h
    by_cases e : t = t0
    · subst e; simp at h; subst h; exact ha.1
    · have e2 : (t == t0) = false := by simp [e]
      rw [e2] at h
      exact AtAll.lookup ha.2 h
theorem BxAll.map {s : AS} : ∀ {l : List (Nat × List AV)}, BxAll s l → (l.map (·.1)).map (fun b => (b, s.bx b)) = l.map fun p => (p.1, some p.2)
  | [], _ => rfl
  | p :: r, h => by
    simp only [List.map_cons, h.1, BxAll.map h.2]
theorem Zt {kp : Keep} {s : AS} {len nin : Nat} {l : List (Nat × AV)} {bx : List (Nat × List AV)} {tk : List (Nat × Bool)} (h : s = Zp kp s) (hlen : s.env.length = len) (hn : s.nin = nin) (hk : kp.accs.map (·.1) ++ (kp.vaccs.map (·.1) ++ (kp.lists.map (·.1) ++ kp.plain)) = l.map (·.1)) (hbk : kp.names = bx.map (·.1)) (ht : kp.toks = tk) (he : AtAll s l) (hb : BxAll s bx) : s = mkS len l bx tk nin := by
  rw [h]
  unfold Zp mkS
  rw [hlen, hn, hbk, ht, hb.map]
  congr 1
  refine List.map_congr_left fun t _ => ?_
  have e1 : ((kp.accs.map (·.1)).contains t || ((kp.vaccs.map (·.1)).contains t || ((kp.lists.map (·.1)).contains t || kp.plain.contains t))) = (l.lookup t).isSome := by
    rw [Zb, ← hk, Bool.eq_iff_iff]
    simp [List.mem_append]
  rw [e1]
  cases hq : l.lookup t with
  | none => rfl
  | some v => simp only [Option.isSome_some, if_true, Option.getD_some]; exact he.lookup hq
def zd (n : Nat) (c : Code) : Code := ((ZX c 0).lookup n).getD .skip
def zgU : Code → Code
  | .loop c => c
  | c => c
def anL (l : List (Nat × Keep × Keep)) (n : Nat) : Keep × Keep := match l.lookup n with
  | some k => k
  | none => (kp0, kp0)
def anF (l : List (Nat × Keep × Keep)) (fz : List (Nat × List Nat × List ((Nat × Nat) × Nat))) (n : Nat) : Keep × Keep := match fz.lookup n with
  | some ts => (⟨ts.1, [], [], [], [], [], ts.2, [], false⟩, kp0)
  | none => anL l n
end Go.Proofs.Ytnnfpoelkdgjdaa
end
section
namespace Go.Proofs.Ytnnfpoelkdgjdaa
open Go.RowKit
set_option linter.unusedVariables false
set_option linter.unusedSimpArgs false
set_option linter.unnecessarySimpa false
inductive Pt where
  | int (k : IntKind)
  | bool
  | str
  | lst (n : Nat)
  | tok (n t : Nat)
  | ptr (b o : Nat)
  | ptrV (b : Nat)
  | nil
  | any
  | mref (b : Nat)
  | vs0 (b n : Nat)
  | vs (b n : Nat)
  | agg (ks : List Ck)
  | refs
  | nilFunc
  | nilIface
  | ptrNone
  | mapNone
@[reducible] def PtT : Pt → Type
  | .int _ => Int
  | .bool => Bool
  | .str => ByteArray
  | .lst _ => List (List AV)
  | .tok _ _ => List (List AV)
  | .ptrV _ => Nat
  | .vs0 _ _ => Nat
  | .vs _ _ => Nat × Nat
  | .agg ks => Tp ks
  | .refs => List AV
  | _ => Unit
def ptE : (p : Pt) → PtT p → AV
  | .int k, n => .v (.int k n)
  | .bool, b => .v (.bool b)
  | .str, s => .v (.string s)
  | .lst n, xs => .list n xs none
  | .tok n t, xs => .list n xs (some t)
  | .ptr b o, _ => .ptr b o
  | .ptrV b, o => .ptr b o
  | .nil, _ => .v (.slice none 0 0)
  | .any, _ => .any
  | .mref b, _ => .mref b
  | .vs0 b n, len => .vs b 0 len n
  | .vs b n, x => .vs b x.1 x.2 n
  | .agg ks, e => .agg (enc ks e)
  | .refs, cs => .ref cs
  | .nilFunc, _ => .v .nilFunc
  | .nilIface, _ => .v .nilIface
  | .ptrNone, _ => .v (.pointer none)
  | .mapNone, _ => .v (.map none)
def ptD : (p : Pt) → AV → Option (PtT p)
  | .int k, a => pInt k a some
  | .bool, a => zbf a some
  | .str, a => pStr a some
  | .lst n, a => pLst n a some
  | .tok n t, a => pTok n t a some
  | .ptr b o, a => pPtr b o a (some ())
  | .ptrV b, a => zfH b a some
  | .nil, a => pNil a (some ())
  | .any, a => pAny a (some ())
  | .mref b, a => pMref b a (some ())
  | .vs0 b n, a => pVs0 b n a some
  | .vs b n, a => pVs b n a fun x y => some (x, y)
  | .agg ks, a => pAgg ks a some
  | .refs, a => pRef a some
  | .nilFunc, a => zbr a (some ())
  | .nilIface, a => zas a (some ())
  | .ptrNone, a => zbs a (some ())
  | .mapNone, a => zbp a (some ())
theorem ptD_ok : ∀ {p : Pt} {a : AV} {x : PtT p}, ptD p a = some x → a = ptE p x
  | .int k, a, x, h => by obtain ⟨n, e, h⟩ := zi (show pInt k a some = some x from h); cases h; exact e
  | .bool, a, x, h => by obtain ⟨n, e, h⟩ := jD (show zbf a some = some x from h); cases h; exact e
  | .str, a, x, h => by obtain ⟨n, e, h⟩ := pStr_ok (show pStr a some = some x from h); cases h; exact e
  | .lst n, a, x, h => by obtain ⟨n, e, h⟩ := zy (show pLst n a some = some x from h); cases h; exact e
  | .tok n t, a, x, h => by obtain ⟨n, e, h⟩ := J2 (show pTok n t a some = some x from h); cases h; exact e
  | .ptr b o, a, x, h => by obtain ⟨e, h⟩ := zo (show pPtr b o a (some ()) = some x from h); exact e
  | .ptrV b, a, x, h => by obtain ⟨n, e, h⟩ := zbt (show zfH b a some = some x from h); cases h; exact e
  | .nil, a, x, h => by obtain ⟨e, h⟩ := pNil_ok (show pNil a (some ()) = some x from h); exact e
  | .any, a, x, h => by obtain ⟨e, h⟩ := pAny_ok (show pAny a (some ()) = some x from h); exact e
  | .mref b, a, x, h => by obtain ⟨e, h⟩ := pMref_ok (show pMref b a (some ()) = some x from h); exact e
  | .vs0 b n, a, x, h => by obtain ⟨n, e, h⟩ := Zz (show pVs0 b n a some = some x from h); cases h; exact e
  | .vs b n, a, x, h => by obtain ⟨n, m, e, h⟩ := pVs_ok (show pVs b n a (fun x y => some (x, y)) = some x from h); cases h; exact e
  | .agg ks, a, x, h => by obtain ⟨n, e, h⟩ := j9 (show pAgg ks a some = some x from h); cases h; exact e
  | .refs, a, x, h => by obtain ⟨n, e, h⟩ := pRef_ok (show pRef a some = some x from h); cases h; exact e
  | .nilFunc, a, x, h => by obtain ⟨e, h⟩ := zfL (show zbr a (some ()) = some x from h); exact e
  | .nilIface, a, x, h => by obtain ⟨e, h⟩ := zfd (show zas a (some ()) = some x from h); exact e
  | .ptrNone, a, x, h => by obtain ⟨e, h⟩ := zfT (show zbs a (some ()) = some x from h); exact e
  | .mapNone, a, x, h => by obtain ⟨e, h⟩ := zgq (show zbp a (some ()) = some x from h); exact e
@[reducible] def PvT : List Pt → Type
  | [] => Unit
  | p :: r => PtT p × PvT r
def pvE : (l : List Pt) → PvT l → List AV
  | [], _ => []
  | p :: r, x => ptE p x.1 :: pvE r x.2
def pvD : (l : List Pt) → List AV → Option (PvT l)
  | [], a => (match a with | [] => some () | _ :: _ => none)
  | p :: r, a => match a with
    | c :: cs => (match ptD p c with
      | some x => (match pvD r cs with | some y => some (x, y) | none => none)
      | none => none)
    | [] => none
theorem zmb : ∀ {l : List Pt} {a : List AV} {x : PvT l}, pvD l a = some x → a = pvE l x
  | [], a, x, h => by
    unfold pvD at h
    split at h
    · rfl
    · cases h
  | p :: r, a, x, h => by
    unfold pvD at h
    split at h
    · split at h
      · rename_i b hb
        split at h
        · rename_i y hy
          cases h
          rw [ptD_ok hb, zmb hy]; rfl
        · cases h
      · cases h
    · cases h
inductive Pb where
  | tt
  | row (ks : List Ck)
  | mp (d : MK)
  | cells (l : List Pt)
@[reducible] def PbT : Pb → Type
  | .tt => List AV
  | .row ks => Tp ks
  | .mp _ => List (List AV)
  | .cells l => PvT l
def pbE : (p : Pb) → PbT p → List AV
  | .tt, cs => cs
  | .row ks, e => enc ks e
  | .mp d, xs => [.mp d xs]
  | .cells l, x => pvE l x
def pbD : (p : Pb) → List AV → Option (PbT p)
  | .tt, cs => some cs
  | .row ks, cs => decX ks cs
  | .mp d, cs => pMp d cs some
  | .cells l, cs => pvD l cs
theorem pbD_ok : ∀ {p : Pb} {a : List AV} {x : PbT p}, pbD p a = some x → a = pbE p x
  | .tt, a, x, h => by cases h; rfl
  | .row ks, a, x, h => zdM h
  | .mp d, a, x, h => by obtain ⟨n, e, h⟩ := pMp_ok (show pMp d a some = some x from h); cases h; exact e
  | .cells l, a, x, h => zmb h
@[reducible] def PsT : List (Nat × Pt) → Type
  | [] => Unit
  | p :: r => PtT p.2 × PsT r
@[reducible] def QsT : List (Nat × Pb) → Type
  | [] => Unit
  | p :: r => PbT p.2 × QsT r
def psE : (l : List (Nat × Pt)) → PsT l → List (Nat × AV)
  | [], _ => []
  | p :: r, x => (p.1, ptE p.2 x.1) :: psE r x.2
def qsE : (l : List (Nat × Pb)) → QsT l → List (Nat × List AV)
  | [], _ => []
  | p :: r, x => (p.1, pbE p.2 x.1) :: qsE r x.2
def psD (s : AS) : (l : List (Nat × Pt)) → Option (PsT l)
  | [] => some ()
  | p :: r => match ptD p.2 (s.at p.1) with
    | some x => (match psD s r with | some y => some (x, y) | none => none)
    | none => none
def qsD (s : AS) : (l : List (Nat × Pb)) → Option (QsT l)
  | [] => some ()
  | p :: r => match s.bx p.1 with
    | some cs => (match pbD p.2 cs with
      | some x => (match qsD s r with | some y => some (x, y) | none => none)
      | none => none)
    | none => none
theorem psD_ok {s : AS} : ∀ {l : List (Nat × Pt)} {x : PsT l}, psD s l = some x → AtAll s (psE l x)
  | [], x, h => trivial
  | p :: r, x, h => by
    unfold psD at h
    split at h
    · rename_i a ha
      split at h
      · rename_i b hb
        cases h
        exact ⟨ptD_ok ha, psD_ok hb⟩
      · cases h
    · cases h
theorem qsD_ok {s : AS} : ∀ {l : List (Nat × Pb)} {x : QsT l}, qsD s l = some x → BxAll s (qsE l x)
  | [], x, h => trivial
  | p :: r, x, h => by
    unfold qsD at h
    split at h
    · rename_i cs hcs
      split at h
      · rename_i a ha
        split at h
        · rename_i b hb
          cases h
          exact ⟨by rw [hcs, pbD_ok ha], qsD_ok hb⟩
        · cases h
      · cases h
    · cases h
theorem zgI : ∀ (l : List (Nat × Pt)) (x : PsT l), (psE l x).map (·.1) = l.map (·.1)
  | [], _ => rfl
  | p :: r, x => by simp [psE, zgI r]
theorem zhk : ∀ (l : List (Nat × Pb)) (x : QsT l), (qsE l x).map (·.1) = l.map (·.1)
  | [], _ => rfl
  | p :: r, x => by simp [qsE, zhk r]
def rdS {X : Type} (nt nin : Nat) (l : List (Nat × Pt)) (q : List (Nat × Pb)) (s : AS) (f : PsT l → QsT q → X) : Option X :=
  bif Nat.beq s.env.length nt then (bif Nat.beq s.nin nin then
    (match psD s l with
    | some x => (match qsD s q with | some y => some (f x y) | none => none)
    | none => none) else none) else none
theorem zH {X : Type} {nt nin : Nat} {l : List (Nat × Pt)} {q : List (Nat × Pb)} {s : AS} {f : PsT l → QsT q → X} {x : X} {kp : Keep} {st : X → AS} (hc : s = Zp kp s) (h : rdS nt nin l q s f = some x) (hst : ∀ a b, st (f a b) = mkS nt (psE l a) (qsE q b) kp.toks nin) (hk : kp.accs.map (·.1) ++ (kp.vaccs.map (·.1) ++ (kp.lists.map (·.1) ++ kp.plain)) = l.map (·.1)) (hbk : kp.names = q.map (·.1)) : s = st x := by
  unfold rdS at h
  cases e1 : Nat.beq s.env.length nt with
  | false => rw [e1] at h; cases h
  | true =>
    cases e2 : Nat.beq s.nin nin with
    | false => rw [e1, e2] at h; cases h
    | true =>
      rw [e1, e2] at h
      simp only [cond_true] at h
      split at h
      · rename_i a ha
        split at h
        · rename_i b hb
          cases h
          rw [hst]
          exact Zt hc (Nat.eq_of_beq_eq_true e1) (Nat.eq_of_beq_eq_true e2) (by rw [zgI]; exact hk) (by rw [zhk]; exact hbk) rfl (psD_ok ha) (qsD_ok hb)
        · cases h
      · cases h
@[reducible] def QvT : List Pb → Type
  | [] => Unit
  | p :: r => PbT p × QvT r
def qvE : (l : List Pb) → QvT l → List (List AV)
  | [], _ => []
  | p :: r, x => pbE p x.1 :: qvE r x.2
def qvD : (l : List Pb) → List (List AV) → Option (QvT l)
  | [], a => (match a with | [] => some () | _ :: _ => none)
  | p :: r, a => match a with
    | c :: cs => (match pbD p c with
      | some x => (match qvD r cs with | some y => some (x, y) | none => none)
      | none => none)
    | [] => none
theorem qvD_ok : ∀ {l : List Pb} {a : List (List AV)} {x : QvT l}, qvD l a = some x → a = qvE l x
  | [], a, x, h => by
    unfold qvD at h
    split at h
    · rfl
    · cases h
  | p :: r, a, x, h => by
    unfold qvD at h
    split at h
    · split at h
      · rename_i b hb
        split at h
        · rename_i y hy
          cases h
          rw [pbD_ok hb, qvD_ok hy]; rfl
        · cases h
      · cases h
    · cases h
def rdA {X : Type} (l : List Pt) (q : List Pb) (a : List AV) (b : List (List AV)) (f : PvT l → QvT q → X) : Option X :=
  match pvD l a with
  | some x => (match qvD q b with | some y => some (f x y) | none => none)
  | none => none
theorem zA {X : Type} {l : List Pt} {q : List Pb} {a : List AV} {b : List (List AV)} {f : PvT l → QvT q → X} {x : X} {args : X → List AV} {bs : X → List (List AV)} (h : rdA l q a b f = some x) (h1 : ∀ u v, args (f u v) = pvE l u) (h2 : ∀ u v, bs (f u v) = qvE q v) : a = args x ∧ b = bs x := by
  unfold rdA at h
  split at h
  · rename_i u hu
    split at h
    · rename_i v hv
      cases h
      exact ⟨by rw [h1]; exact zmb hu, by rw [h2]; exact qvD_ok hv⟩
    · cases h
  · cases h
def LpOk (P : Program) (An : Nat → Keep × Keep) (N0 : Nat) (ls : List (Nat × LSpec)) (n : Nat) (c : Code) : Prop := ∀ s o, s = Zp (An n).1 s → (lam N0 ls).v n s = some o → ZV P c s o
def BdOk (T : Tab) (Γ : GamK) (An : Nat → Keep × Keep) (N0 : Nat) (ls : List (Nat × LSpec)) (n : Nat) (c : Code) (l : LSpec) : Prop := ∀ (x : l.X) (α : Type) (kn : AS → Option α) (ke : Out → Option α), zg2 T Γ An (lam N0 ls) n (zgU (zd n c)) (l.st x) kn ke = l.b x α (fun x' => kn (l.st x')) (fun y => l.sp y α ke)
def PcOk (T : Tab) (Γ : GamK) (An : Nat → Keep × Keep) (N0 : Nat) (ls : List (Nat × LSpec)) (n : Nat) (c : Code) (l : LSpec) : Prop := ∀ (x : l.X) (α : Type) (kn : l.X → Option α) (ke : Out → Option α), zbu T Γ An (lam N0 ls) n (zd n c) (l.st x) ke = l.b x α kn (fun y => l.sp y α ke)
def TxOk (T : Tab) (Γ : GamK) (An : Nat → Keep × Keep) (Λ : LoopK) (fn : Func) (F : FSpec) : Prop := ∀ x : F.X, acall T Γ An Λ fn F.S (F.args x) (F.bs x) = F.t x Ret (fun y => some (F.ret y))
theorem zE {P : Program} {T : Tab} {Γ : GamK} (hT : TabOk P T) (hG : GOk P Γ.v) (hm : P.follows .mixedOrders = true) (An : Nat → Keep × Keep) (N0 : Nat) (ls : List (Nat × LSpec)) (n : Nat) (c : Code) {l : List (Nat × Code)} (hnode : zd n c = .loop (zgU (zd n c))) (e : zfN An (zgU (zd n c)) (n + 1) = l) (hL : ∀ p ∈ l, LpOk P An N0 ls p.1 p.2)
    (L : LSpec) (hl : ls.lookup n = some L) (hp : ∀ s x, s = Zp (An n).1 s → L.p s = some x → s = L.st x) (pm : ∀ x, L.p (L.st x) = some x) (hb : BdOk T Γ An N0 ls n c L) (hpar : Par L.b) : LpOk P An N0 ls n (zd n c) :=
  loop_ok hT hG hm An N0 ls n (zgU (zd n c)) (zd n c) hnode (fun p hp s o => hL p (e ▸ hp) s o) L hl hp pm (fun x α kn ke => (hb x α kn ke).trans (congrArg (L.b x α _) (funext fun y => L.spe y α ke))) hpar
theorem Ju {P : Program} {T : Tab} {Γ : GamK} (hT : TabOk P T) (hG : GOk P Γ.v) (hm : P.follows .mixedOrders = true) (An : Nat → Keep × Keep) (N0 : Nat) (ls : List (Nat × LSpec)) (n : Nat) (c : Code) {l : List (Nat × Code)} (e : zfN (zgs An n) (zd n c) n = l) (hL : ∀ p ∈ l, LpOk P An N0 ls p.1 p.2)
    (L : LSpec) (hl : ls.lookup n = some L) (hp : ∀ s x, s = Zp (An n).1 s → L.p s = some x → s = L.st x) (hb : PcOk T Γ An N0 ls n c L) (hpar : Par L.b) : LpOk P An N0 ls n (zd n c) :=
  piece_ok hT hG hm An N0 ls n (zd n c) (fun p hp s o => hL p (e ▸ hp) s o) L hl hp (fun x α kn ke => (hb x α kn ke).trans (congrArg (L.b x α _) (funext fun y => L.spe y α ke))) hpar
theorem zp {An : Nat → Keep × Keep} {c : Code} {n : Nat} {l : List (Nat × Code)} {Q : Nat × Code → Prop} (h : ∀ p ∈ l, Q p) (e : zfN An c n = l) : ∀ p ∈ zfN An c n, Q p := by rw [e]; exact h
theorem al {α : Type} {Q : α → Prop} {a : α} {l : List α} (h : Q a) (t : ∀ p ∈ l, Q p) : ∀ p ∈ a :: l, Q p := fun p hp => (List.mem_cons.1 hp).elim (fun e => e ▸ h) (t p)
theorem an {α : Type} {Q : α → Prop} : ∀ p ∈ ([] : List α), Q p := fun p hp => by cases hp
end Go.Proofs.Ytnnfpoelkdgjdaa
end
section
namespace Go.Proofs.Ytnnfpoelkdgjdaa
open Go.RowKit
set_option linter.unusedVariables false
set_option linter.unusedSimpArgs false
set_option linter.unnecessarySimpa false
def memOf (w : World) : Mem := fun g o => w.cell? ⟨g, o, none⟩
theorem CallOk.calls {P : Program} {f : FuncId} {args : List AV} {v : Value} (h : CallOk P f args [] ⟨.v v, [], none, [], [], []⟩) (W : World) (cargs : Array Value) (hsz : cargs.size = args.length) (hr : ∀ i (h : i < cargs.size) (h' : i < args.length), Rd (memOf W) (gsR []) sig0 cargs[i] args[i]) (hgl : GlOk (memOf W) W [] (InT sig0 []) := by exact fun g cs hg => by cases hg) :
    Calls P f cargs W fun e w' => e = .returned v ∧ Below W.heap.size W w' := by
  refine (h.2 (memOf W) W cargs [] sig0 hgl (fun _ _ _ h => h) (fun k g h => by cases h) (fun i j g h => by cases h) rfl hsz hr (fun k h => by cases h) (fun k h => by cases h) ⟨(fun t h => by cases h), (fun t sp h => by cases h), (fun t h => by cases h)⟩).mono fun e w' ⟨c, M', σ', gn, he, left⟩ => ?_
  have hv := left.val
  refine ⟨by rw [he, hv.v_inv], left.frm.os, left.frm.tape, left.frm.output, left.frm.size, fun k hk => left.frm.block k hk (fun h => by cases h) (fun ⟨t, h, _⟩ => by cases h)⟩
def zgO (W : World) (v : Value) : Prop := ∃ xs : List Int, (∀ x ∈ xs, -9223372036854775808 ≤ x ∧ x ≤ 9223372036854775807) ∧ xs.length ≤ 9223372036854775807 ∧ ∀ ρ σ, Rd (memOf W) ρ σ v (.list 1 (xs.map fun x => [.v (.int .i64 x)]) none)
theorem ints_nil (W : World) : zgO W (.slice none 0 0) := ⟨[], fun x h => (by cases h), by simp, fun ρ σ => .nil⟩
theorem ziW {P : Program} {w : World} {r : Reach} {base : Nat} {t e : TypeId} (ht : P.underlying t = some (.slice e)) {a : Addr} {l c : Nat} (h : Value.okWide P w r base t (.slice (some a) l c)) : a.spot = none := by
  simp [Value.okWide, ht, Cell.okWide, Cell.ok, World.has] at h
  exact h.2.2.2.1
theorem ints_of {w : World} {x : Addr} {len cap : Nat} {zs : List Int} (hs : x.spot = none) (hl : len ≤ zs.length) (hlc : len ≤ cap) (hm : cap ≤ maxLen) (hcell : ∀ i, i < zs.length → w.cell? (x.add i) = some (.int .i64 (zs.getD i 0))) (hwz : ∀ n ∈ zs, (Lit.int .i64 n).wf = true) : zgO w (.slice (some x) len cap) := by
  have hb : ∀ n ∈ zs, -9223372036854775808 ≤ n ∧ n ≤ 9223372036854775807 := fun n hn => by
    have := hwz n hn
    simpa [Lit.wf, IntKind.min, IntKind.max, IntKind.bits, show IntKind.i64.signed = true from rfl] using this
  obtain ⟨b, off, spot⟩ := x
  dsimp only at hs
  subst hs
  refine ⟨zs.take len, fun n hn => hb n (List.mem_of_mem_take hn), by simp [maxLen] at hm ⊢; omega, fun ρ σ => .list (fun i j => .int .i64 (zs.getD i 0)) (by simp; omega) hlc (fun i h => by simp) (fun i j hi hj => ?_) (fun i j => rfl) (fun i j h h' => ?_) .none⟩
  · have hj0 : j = 0 := by omega
    subst hj0
    have hi' : i < zs.length := by simp at hi; omega
    have := hcell i hi'
    show w.cell? ⟨b, off + i * 1 + 0, none⟩ = _
    by_cases hi0 : i = 0
    · subst hi0; simpa [Addr.add] using this
    · simpa [Addr.add, hi0] using this
  · have hj0 : j = 0 := by simp at h'; exact h'
    subst hj0
    have hi' : i < zs.length := by simp at h; omega
    simp [List.getD_eq_getElem?_getD, List.getElem?_eq_getElem hi']
    exact .v
end Go.Proofs.Ytnnfpoelkdgjdaa
end
section
namespace Go.Proofs.Ytnnfpoelkdgjdaa
open Go.RowKit
def Free (fr : Nat × Nat) (n : Nat) : Prop := fr = (0, 0) ∨ n ≤ fr.1
def Own (w : World) (B : Nat) (e : TypeId) (size : Nat) (v : Value) (n : Nat) (xs : List Value) : Prop :=
  xs.length = n * size ∧
  ((v = .slice none 0 0 ∧ n = 0) ∨
   ∃ g cap cur fr, v = .slice (some ⟨g, 0, none⟩) n cap ∧ B ≤ g ∧ w.heap[g]? = some (.cells cur e fr) ∧ Free fr cur.size ∧ n ≤ cap ∧ cap ≤ maxLen ∧ cur.size = cap * size ∧ cur.toList.take (n * size) = xs)
section
variable {P : Program} {w w' : World} {B : Nat} {e : TypeId} {size : Nat} {v : Value} {n : Nat} {xs : List Value}
theorem Own.nil (w : World) (B : Nat) (e : TypeId) (size : Nat) : Own w B e size (.slice none 0 0) 0 [] := ⟨by simp, .inl ⟨rfl, rfl⟩⟩
theorem Own.bytes {g cap : Nat} {s : ByteArray} (hg : w.heap[g]? = some (.cells (bytesRow s cap) e (cap, cap + 1))) (hB : B ≤ g) (hc : s.size ≤ cap) (hm : cap ≤ maxLen) :
    Own w B e 1 (.slice (some ⟨g, 0, none⟩) s.size cap) s.size (s.data.toList.map fun b => .int .u8 (b.toNat : Int)) := by
  have hsz : (bytesRow s cap).size = cap := by rw [zch]; exact zko (by simpa using hc)
  refine ⟨by simp, .inr ⟨g, cap, _, _, rfl, hB, hg, .inr (by simp [hsz]), hc, hm, by simp [hsz], ?_⟩⟩
  have : s.data.toList.length = s.size := by simp
  rw [zch]
  simp only [brow, Array.toList_append, Nat.mul_one]
  rw [List.take_append_of_le_length (by simp)]
  rw [List.take_of_length_le (by simp)]
theorem Own.keep (h : Own w B e size v n xs) (hb : Below w.heap.size w w') : Own w' B e size v n xs := by
  obtain ⟨hl, h⟩ := h
  rcases h with h | ⟨g, cap, cur, fr, h1, h2, h3, h4, h5, h6, h7, h8⟩
  · exact ⟨hl, .inl h⟩
  · have hlt : g < w.heap.size := (Array.getElem?_eq_some_iff.1 h3).1
    exact ⟨hl, .inr ⟨g, cap, cur, fr, h1, h2, (hb.block g hlt).trans h3, h4, h5, h6, h7, h8⟩⟩
theorem Own.alloc (h : Own w B e size v n xs) (o : Obj) : Own (w.alloc o) B e size v n xs := h.keep (zfi o)
theorem Own.drew (h : Own w B e size v n xs) : Own w.drew B e size v n xs := h
theorem Own.cells {A : Option Addr} {n' cap : Nat} (h : Own w B e size v n xs) (hv : v = .slice A n' cap) : n' = n ∧ ∀ ad, A = some ad → (∃ g, ad = ⟨g, 0, none⟩ ∧ B ≤ g ∧ g < w.heap.size) ∧ ∀ j u, xs[j]? = some u → w.cell? (ad.add j) = some u := by
  obtain ⟨hl, h⟩ := h
  rcases h with ⟨h1, h2⟩ | ⟨g, cap', cur, fr, h1, h2, h3, h4, h5, h6, h7, h8⟩
  · rw [hv] at h1
    injection h1 with e1 e2 e3
    subst e1
    exact ⟨by omega, fun ad h => by cases h⟩
  · rw [hv] at h1
    injection h1 with e1 e2 e3
    subst e1
    refine ⟨e2, fun ad had => ?_⟩
    injection had with had
    subst had
    refine ⟨⟨g, rfl, h2, (Array.getElem?_eq_some_iff.1 h3).1⟩, fun j u hu => ?_⟩
    have hadd : (⟨g, 0, none⟩ : Addr).add j = ⟨g, j, none⟩ := by
      unfold Addr.add; split
      · rename_i h; subst h; rfl
      · simp
    rw [hadd, cell_of_row w g j _ _ _ h3, ← Array.getElem?_toList]
    rw [← h8, List.getElem?_take] at hu
    split at hu
    · exact hu
    · cases hu
end
section
variable {P : Program} (w : World)
end
end Go.Proofs.Ytnnfpoelkdgjdaa
end
section
namespace Go.Proofs.Ytnnfpoelkdgjdaa
open Go.RowKit
set_option linter.unusedVariables false
set_option linter.unusedSimpArgs false
def IntRow (w : World) (a : Option Addr) (len : Nat) : Prop :=
  len ≤ 9223372036854775807 ∧ (len = 0 ∨ ∃ b off : Nat, a = some ⟨b, off, none⟩ ∧ ∀ i, i < len → ∃ x : Int, w.cell? ⟨b, off + i, none⟩ = some (.int .i64 x) ∧ -9223372036854775808 ≤ x ∧ x ≤ 9223372036854775807)
theorem IntRow.keep {w w' : World} {a : Option Addr} {len : Nat} (h : IntRow w a len) (hb : Below w.heap.size w w') : IntRow w' a len := by
  obtain ⟨h1, h2⟩ := h
  refine ⟨h1, ?_⟩
  rcases h2 with h2 | ⟨b, off, rfl, hc⟩
  · exact .inl h2
  · refine .inr ⟨b, off, rfl, fun i hi => ?_⟩
    obtain ⟨x, h1, h2⟩ := hc i hi
    exact ⟨x, by rw [hb.cell (block_lt_of_cell h1)]; exact h1, h2⟩
structure Src (W : World) (a : Option Addr) (len cap g : Nat) (w : World) : Prop where
  row : IntRow W a len
  big : W.heap.size ≤ g
  low : Below W.heap.size W w
  spot : ∃ i : Nat, i ≤ len ∧ w.heap[g]? = some (.cells #[.slice a len cap, .int .i64 i] 74 (0, 0))
structure Rolls (g : Nat) (w w' : World) : Prop where
  size : w.heap.size ≤ w'.heap.size
  block : ∀ k, k < w.heap.size → k ≠ g → w'.heap[k]? = w.heap[k]?
theorem Rolls.refl (g : Nat) (w : World) : Rolls g w w := ⟨Nat.le_refl _, fun _ _ _ => rfl⟩
theorem Rolls.trans {g : Nat} {a b c : World} (h : Rolls g a b) (k : Rolls g b c) : Rolls g a c :=
  ⟨Nat.le_trans h.size k.size, fun i hi hg => (k.block i (Nat.lt_of_lt_of_le hi h.size) hg).trans (h.block i hi hg)⟩
theorem Src.keep {W : World} {a : Option Addr} {len cap g : Nat} {w w' : World} (h : Src W a len cap g w) (hb : Below w.heap.size w w') : Src W a len cap g w' := by
  obtain ⟨i, h1, h2⟩ := h.spot
  exact ⟨h.row, h.big, h.low.trans (hb.mono h.low.size), i, h1, (hb.block g (Array.getElem?_eq_some_iff.1 h2).1).trans h2⟩
theorem Src.lt {W : World} {a : Option Addr} {len cap g : Nat} {w : World} (h : Src W a len cap g w) : g < w.heap.size := by
  obtain ⟨i, _, h2⟩ := h.spot
  exact (Array.getElem?_eq_some_iff.1 h2).1
theorem Src.alloc {W : World} {a : Option Addr} {len cap g : Nat} {w : World} (h : Src W a len cap g w) (o : Obj) : Src W a len cap g (w.alloc o) := h.keep (zfi o)
theorem Src.drew {W : World} {a : Option Addr} {len cap g : Nat} {w : World} (h : Src W a len cap g w) : Src W a len cap g w.drew := h.keep (Below.refl _ _).drew
theorem Src.keepB {W : World} {a : Option Addr} {len cap g B : Nat} {w w' : World} (h : Src W a len cap g w) (hb : Below B w w') (hg : g < B) (hB : W.heap.size ≤ B) : Src W a len cap g w' := by
  obtain ⟨i, h1, h2⟩ := h.spot
  exact ⟨h.row, h.big, h.low.trans (hb.mono hB), i, h1, (hb.block g hg).trans h2⟩
end Go.Proofs.Ytnnfpoelkdgjdaa
end
section
namespace Go.Proofs.Ytnnfpoelkdgjdaa
open Go.RowKit
set_option linter.unusedVariables false
set_option linter.unusedSimpArgs false
structure Rl where
  m : Int
  p : Int
  f : Int
  d : Int
def zk8 : List Rl → List Value
  | [] => []
  | r :: L => .int .i64 r.m :: .int .i64 r.p :: .int .i64 r.f :: .int .i64 r.d :: zk8 L
def RlRow (w : World) (p : Option Addr) (n : Nat) (L : List Rl) : Prop :=
  n = L.length ∧ (n = 0 ∨ ∃ b off : Nat, p = some ⟨b, off, none⟩ ∧ ∀ i (h : i < L.length), w.cell? ⟨b, off + i * 4, none⟩ = some (.int .i64 L[i].m) ∧ w.cell? ⟨b, off + i * 4 + 1, none⟩ = some (.int .i64 L[i].p) ∧ w.cell? ⟨b, off + i * 4 + 2, none⟩ = some (.int .i64 L[i].f) ∧ w.cell? ⟨b, off + i * 4 + 3, none⟩ = some (.int .i64 L[i].d))
theorem RlRow.heap {w w' : World} {p : Option Addr} {n : Nat} {L : List Rl} (h : RlRow w p n L) (hg : ∀ b off, p = some ⟨b, off, none⟩ → b < w.heap.size → n = 0 ∨ w'.heap[b]? = w.heap[b]?) : RlRow w' p n L := by
  obtain ⟨rfl, h | ⟨b, off, rfl, h⟩⟩ := h
  · exact ⟨rfl, .inl h⟩
  · by_cases h0 : L.length = 0
    · exact ⟨rfl, .inl h0⟩
    · rcases hg b off rfl (block_lt_of_cell (h 0 (by omega)).1) with h1 | h1
      · omega
      · refine ⟨rfl, .inr ⟨b, off, rfl, fun i hi => ?_⟩⟩
        obtain ⟨x0, x1, x2, x3⟩ := h i hi
        refine ⟨?_, ?_, ?_, ?_⟩ <;> (simp only [World.cell?, h1]; first | exact x0 | exact x1 | exact x2 | exact x3)
theorem RlRow.keep {w w' : World} {p : Option Addr} {n : Nat} {L : List Rl} (h : RlRow w p n L) (hb : Below w.heap.size w w') : RlRow w' p n L := h.heap fun b off hp hl => .inr (hb.block b hl)
def RlOk (r : Rl) : Prop := -100 ≤ r.m ∧ r.m ≤ 299 ∧ 1 ≤ r.p ∧ r.p ≤ 4 ∧ 0 ≤ r.f ∧ r.f ≤ 10000 ∧ 0 ≤ r.d ∧ r.d ≤ 100000
theorem ze0 {w : World} {g : Nat} {x y z : Value} {t : TypeId} (h : w.heap[g]? = some (.cells #[x, y, z] t (0, 0))) :
    w.cell? ⟨g, 0, none⟩ = some x ∧ w.cell? ⟨g, 1, none⟩ = some y ∧ w.cell? ⟨g, 2, none⟩ = some z ∧ w.frozen? ⟨g, 0, none⟩ = false ∧ w.frozen? ⟨g, 1, none⟩ = false ∧ w.frozen? ⟨g, 2, none⟩ = false :=
  ⟨by rw [cell_of_row _ _ _ _ _ _ h]; rfl, by rw [cell_of_row _ _ _ _ _ _ h]; rfl, by rw [cell_of_row _ _ _ _ _ _ h]; rfl, frozen_of_row _ _ _ _ _ h, frozen_of_row _ _ _ _ _ h, frozen_of_row _ _ _ _ _ h⟩
theorem ZT {w : World} {g : Nat} {c : Obj} (h : w.heap[g]? = some c) (o : Obj) : (w.alloc o).heap[g]? = some c := by
  rw [Below.heap_alloc _ _ _ (Array.getElem?_eq_some_iff.1 h).1]; exact h
structure PolC (W : World) (a : Option Addr) (len cap g : Nat) (w : World) (g3 : Nat) (A : List Rl) (v : Value) (di ev : Int) (L : Nat → Bool) (u : Nat → Value) (x : World) : Prop where
  src : Src W a len cap g x
  rol : Rolls g w x
  b2 : x.heap[w.heap.size]? = some (.cells #[.slice none 0 0, .int .i64 0, .int .i64 0] 27 (0, 0))
  b3 : L 18 = false → x.heap[g3]? = some (.cells #[v, .int .i64 di, .int .i64 ev] 27 (0, 0))
  own : L 16 = false → x.ownsRow (g3 + 1) 77 4 v A.length (zk8 A)
  f0 : L 0 = true → u 19 = .pointer (some ⟨g3, 0, none⟩)
  f1 : L 1 = true → u 20 = v
  f2 : L 2 = true → u 21 = .pointer (some ⟨g, 0, none⟩)
  f3 : L 3 = true → ∃ x : Int, u 22 = .int .i64 x ∧ 0 ≤ x ∧ x ≤ 399
  f4 : L 4 = true → ∃ x : Int, u 23 = .int .i64 x ∧ -100 ≤ x ∧ x ≤ 299
  f5 : L 5 = true → u 24 = .pointer (some ⟨g, 0, none⟩)
  f6 : L 6 = true → ∃ x : Int, u 25 = .int .i64 x ∧ 0 ≤ x ∧ x ≤ 3
  f7 : L 7 = true → ∃ x : Int, u 26 = .int .i64 x ∧ 1 ≤ x ∧ x ≤ 4
  f8 : L 8 = true → u 27 = .pointer (some ⟨g, 0, none⟩)
  f9 : L 9 = true → ∃ b : Nat, u 28 = .slice (some ⟨b, 0, none⟩) 4 4 ∧ b ≠ g ∧ (L 10 = false → x.heap[b]? = some (.cells #[.int .i64 0, .int .i64 10, .int .i64 100, .int .i64 10000] 3 (0, 0)))
  f10 : L 10 = true → ∃ x : Int, u 29 = .int .i64 x ∧ 0 ≤ x ∧ x ≤ 10000
  f11 : L 11 = true → u 30 = .pointer (some ⟨g, 0, none⟩)
  f12 : L 12 = true → ∃ b : Nat, u 31 = .slice (some ⟨b, 0, none⟩) 4 4 ∧ b ≠ g ∧ (L 13 = false → x.heap[b]? = some (.cells #[.int .i64 0, .int .i64 500, .int .i64 2000, .int .i64 100000] 3 (0, 0)))
  f13 : L 13 = true → L 10 = true ∧ ∃ x : Int, u 32 = .int .i64 x ∧ 0 ≤ x ∧ x ≤ 100000
  f14 : L 14 = true → ∃ r : Rl, RlOk r ∧ u 33 = .agg #[.int .i64 r.m, .int .i64 r.p, .int .i64 r.f, .int .i64 r.d]
  f15 : L 15 = true → ∃ (r : Rl) (b : Nat), RlOk r ∧ u 34 = .slice (some ⟨b, 0, none⟩) 1 1 ∧ b ≠ g ∧ (L 16 = false → x.heap[b]? = some (.cells #[.int .i64 r.m, .int .i64 r.p, .int .i64 r.f, .int .i64 r.d] 77 (0, 0)))
  f16 : L 16 = true → L 13 = true ∧ L 10 = true ∧ L 1 = true ∧ ∃ r : Rl, RlOk r ∧ x.ownsRow (g3 + 1) 77 4 (u 35) (A.length + 1) (zk8 (A ++ [r]))
  f17 : L 17 = true → u 36 = .pointer (some ⟨g3, 0, none⟩)
  f18 : L 18 = true → L 16 = true ∧ x.heap[g3]? = some (.cells #[u 35, .int .i64 di, .int .i64 ev] 27 (0, 0))
end Go.Proofs.Ytnnfpoelkdgjdaa
end
section
namespace Go.Proofs.Ytnnfpoelkdgjdaa
open Go.RowKit
set_option linter.unusedVariables false
set_option linter.unusedSimpArgs false
structure Ev where
  a1 : ByteArray
  a2 : ByteArray
  a3 : ByteArray
  a4 : ByteArray
  t1 : Int
  t2 : Int
  t3 : Int
  am : Int
  po : Int
  p : Option Addr
  n : Nat
  c : Nat
  x : Int
  y : Int
  z : Int
  tm : Int
  mf : Int
  lw : Int
  b1 : Int
  b2 : Int
  b3 : Int
  b4 : Int
  b5 : Int
  b6 : Int
  lo : Int
  hi : Int
  ct : Int
def Zo (r : Rl) (e : Ev) : Bool := decide (1 ≤ e.ct ∧ r.m ≤ e.lo ∧ r.p ≤ (e.n : Int) ∧ e.mf ≤ r.f)
theorem zln {w : World} {g : Nat} (o : Obj) (hg : w.heap.size = g) : (w.alloc o).heap[g]? = some o := by subst hg; exact heap_alloc_new w o
theorem zmY {w : World} (a b c : Obj) : Below w.heap.size w (((w.alloc a).alloc b).alloc c) := ((Below.refl _ _).alloc (Nat.le_refl _) _ |>.alloc (by simp) _).alloc (by simp; omega) _
theorem jN {w : World} {g i : Nat} {cs : Array Value} {t : TypeId} {v : Value} (h : w.heap[g]? = some (.cells cs t (0, 0))) (hv : cs[i]? = some v) : w.cell? ⟨g, i, none⟩ = some v := by rw [cell_of_row _ _ _ _ _ _ h]; exact hv
set_option maxHeartbeats 4000000 in
set_option maxRecDepth 100000 in
theorem zhN (r : Rl) (e : Ev) (w : World) :
    Calls Try.prog 50 #[.agg #[.int .i64 r.m, .int .i64 r.p, .int .i64 r.f, .int .i64 r.d], .agg #[.string e.a1, .string e.a2, .string e.a3, .string e.a4, .int .i64 e.t1, .int .i64 e.t2, .int .i64 e.t3, .int .i64 e.am, .int .i64 e.po, .slice e.p e.n e.c, .int .i64 e.x, .int .i64 e.y, .int .i64 e.z, .int .i64 e.tm, .int .i64 e.mf, .int .i64 e.lw, .int .i64 e.b1, .int .i64 e.b2, .int .i64 e.b3, .int .i64 e.b4, .int .i64 e.b5, .int .i64 e.b6, .int .i64 e.lo, .int .i64 e.hi, .int .i64 e.ct]] w fun en w' => en = .returned (.bool (Zo r e)) ∧ Below w.heap.size w w' := by
  have hcs : (e.ct < 1 ∧ Zo r e = false) ∨ (1 ≤ e.ct ∧ e.lo < r.m ∧ Zo r e = false) ∨ (1 ≤ e.ct ∧ r.m ≤ e.lo ∧ (e.n : Int) < r.p ∧ Zo r e = false) ∨ (1 ≤ e.ct ∧ r.m ≤ e.lo ∧ r.p ≤ (e.n : Int) ∧ r.f < e.mf ∧ Zo r e = false) ∨ (1 ≤ e.ct ∧ r.m ≤ e.lo ∧ r.p ≤ (e.n : Int) ∧ e.mf ≤ r.f ∧ Zo r e = true) := by
    unfold Zo
    by_cases h1 : 1 ≤ e.ct
    · by_cases h2 : r.m ≤ e.lo
      · by_cases h3 : r.p ≤ (e.n : Int)
        · by_cases h4 : e.mf ≤ r.f
          · exact .inr (.inr (.inr (.inr ⟨h1, h2, h3, h4, decide_eq_true ⟨h1, h2, h3, h4⟩⟩)))
          · exact .inr (.inr (.inr (.inl ⟨h1, h2, h3, by omega, decide_eq_false fun h => h4 h.2.2.2⟩)))
        · exact .inr (.inr (.inl ⟨h1, h2, by omega, decide_eq_false fun h => h3 h.2.2.1⟩))
      · exact .inr (.inl ⟨h1, by omega, decide_eq_false fun h => h2 h.2.1⟩)
    · exact .inl ⟨by omega, decide_eq_false fun h => h1 h.1⟩
  have HB := hide (zmY (w := w) (.cells #[.int .i64 r.m, .int .i64 r.p, .int .i64 r.f, .int .i64 r.d] 77) (.cells #[.string e.a1, .string e.a2, .string e.a3, .string e.a4, .int .i64 e.t1, .int .i64 e.t2, .int .i64 e.t3, .int .i64 e.am, .int .i64 e.po, .slice e.p e.n e.c, .int .i64 e.x, .int .i64 e.y, .int .i64 e.z, .int .i64 e.tm, .int .i64 e.mf, .int .i64 e.lw, .int .i64 e.b1, .int .i64 e.b2, .int .i64 e.b3, .int .i64 e.b4, .int .i64 e.b5, .int .i64 e.b6, .int .i64 e.lo, .int .i64 e.hi, .int .i64 e.ct] 54) (.cells #[.slice e.p e.n e.c, .int .i64 e.x, .int .i64 e.y, .int .i64 e.z, .int .i64 e.tm, .int .i64 e.mf, .int .i64 e.lw, .int .i64 e.b1, .int .i64 e.b2, .int .i64 e.b3, .int .i64 e.b4, .int .i64 e.b5, .int .i64 e.b6, .int .i64 e.lo, .int .i64 e.hi, .int .i64 e.ct] 52))
  have G2 := ZT (ZT (heap_alloc_new w (.cells #[.int .i64 r.m, .int .i64 r.p, .int .i64 r.f, .int .i64 r.d] 77)) (.cells #[.string e.a1, .string e.a2, .string e.a3, .string e.a4, .int .i64 e.t1, .int .i64 e.t2, .int .i64 e.t3, .int .i64 e.am, .int .i64 e.po, .slice e.p e.n e.c, .int .i64 e.x, .int .i64 e.y, .int .i64 e.z, .int .i64 e.tm, .int .i64 e.mf, .int .i64 e.lw, .int .i64 e.b1, .int .i64 e.b2, .int .i64 e.b3, .int .i64 e.b4, .int .i64 e.b5, .int .i64 e.b6, .int .i64 e.lo, .int .i64 e.hi, .int .i64 e.ct] 54)) (.cells #[.slice e.p e.n e.c, .int .i64 e.x, .int .i64 e.y, .int .i64 e.z, .int .i64 e.tm, .int .i64 e.mf, .int .i64 e.lw, .int .i64 e.b1, .int .i64 e.b2, .int .i64 e.b3, .int .i64 e.b4, .int .i64 e.b5, .int .i64 e.b6, .int .i64 e.lo, .int .i64 e.hi, .int .i64 e.ct] 52)
  have G5 := zln (w := (w.alloc (.cells #[.int .i64 r.m, .int .i64 r.p, .int .i64 r.f, .int .i64 r.d] 77)).alloc (.cells #[.string e.a1, .string e.a2, .string e.a3, .string e.a4, .int .i64 e.t1, .int .i64 e.t2, .int .i64 e.t3, .int .i64 e.am, .int .i64 e.po, .slice e.p e.n e.c, .int .i64 e.x, .int .i64 e.y, .int .i64 e.z, .int .i64 e.tm, .int .i64 e.mf, .int .i64 e.lw, .int .i64 e.b1, .int .i64 e.b2, .int .i64 e.b3, .int .i64 e.b4, .int .i64 e.b5, .int .i64 e.b6, .int .i64 e.lo, .int .i64 e.hi, .int .i64 e.ct] 54)) (.cells #[.slice e.p e.n e.c, .int .i64 e.x, .int .i64 e.y, .int .i64 e.z, .int .i64 e.tm, .int .i64 e.mf, .int .i64 e.lw, .int .i64 e.b1, .int .i64 e.b2, .int .i64 e.b3, .int .i64 e.b4, .int .i64 e.b5, .int .i64 e.b6, .int .i64 e.lo, .int .i64 e.hi, .int .i64 e.ct] 52) (g := w.heap.size + 1 + 1) (by simp)
  have HG2 := hide G2
  have HG5 := hide G5
  have HCS := hide hcs
  clear G2 G5 hcs
  go_enter Try.func50, Try.ntmps50
  go_upto_region 2 with fail
  have q0 := jN HG2.out (i := 0) rfl
  have q1 := jN HG2.out (i := 1) rfl
  have q2 := jN HG2.out (i := 2) rfl
  have s0 := jN HG5.out (i := 0) rfl
  have s5 := jN HG5.out (i := 5) rfl
  have s13 := jN HG5.out (i := 13) rfl
  have s15 := jN HG5.out (i := 15) rfl
  clear HG2 HG5
  generalize ((w.alloc (.cells #[.int .i64 r.m, .int .i64 r.p, .int .i64 r.f, .int .i64 r.d] 77)).alloc (.cells #[.string e.a1, .string e.a2, .string e.a3, .string e.a4, .int .i64 e.t1, .int .i64 e.t2, .int .i64 e.t3, .int .i64 e.am, .int .i64 e.po, .slice e.p e.n e.c, .int .i64 e.x, .int .i64 e.y, .int .i64 e.z, .int .i64 e.tm, .int .i64 e.mf, .int .i64 e.lw, .int .i64 e.b1, .int .i64 e.b2, .int .i64 e.b3, .int .i64 e.b4, .int .i64 e.b5, .int .i64 e.b6, .int .i64 e.lo, .int .i64 e.hi, .int .i64 e.ct] 54)).alloc (.cells #[.slice e.p e.n e.c, .int .i64 e.x, .int .i64 e.y, .int .i64 e.z, .int .i64 e.tm, .int .i64 e.mf, .int .i64 e.lw, .int .i64 e.b1, .int .i64 e.b2, .int .i64 e.b3, .int .i64 e.b4, .int .i64 e.b5, .int .i64 e.b6, .int .i64 e.lo, .int .i64 e.hi, .int .i64 e.ct] 52) = V at *
  rcases HCS.out with ⟨h1, hb⟩ | ⟨h1, h2, hb⟩ | ⟨h1, h2, h3, hb⟩ | ⟨h1, h2, h3, h4, hb⟩ | ⟨h1, h2, h3, h4, hb⟩ <;> (have HM := hide hb; clear hb HCS)
  · have d1 : decide (1 ≤ e.ct) = false := by simp; omega
    go_wp2
    go_ret
    exact ⟨by rw [HM.out]; rfl, HB.out⟩
  · have d1 : decide (1 ≤ e.ct) = true := by simp; omega
    have d2 : decide (r.m ≤ e.lo) = false := by simp; omega
    go_wp2
    go_ret
    exact ⟨by rw [HM.out]; rfl, HB.out⟩
  · have d1 : decide (1 ≤ e.ct) = true := by simp; omega
    have d2 : decide (r.m ≤ e.lo) = true := by simp; omega
    have d3 : decide (r.p ≤ (e.n : Int)) = false := by simp; omega
    go_wp2
    go_ret
    exact ⟨by rw [HM.out]; rfl, HB.out⟩
  · have d1 : decide (1 ≤ e.ct) = true := by simp; omega
    have d2 : decide (r.m ≤ e.lo) = true := by simp; omega
    have d3 : decide (r.p ≤ (e.n : Int)) = true := by simp; omega
    have d4 : decide (e.mf ≤ r.f) = false := by simp; omega
    go_wp2
    go_ret
    exact ⟨by rw [HM.out]; rfl, HB.out⟩
  · have d1 : decide (1 ≤ e.ct) = true := by simp; omega
    have d2 : decide (r.m ≤ e.lo) = true := by simp; omega
    have d3 : decide (r.p ≤ (e.n : Int)) = true := by simp; omega
    have d4 : decide (e.mf ≤ r.f) = true := by simp; omega
    go_wp2
    go_ret
    exact ⟨by rw [HM.out]; rfl, HB.out⟩
end Go.Proofs.Ytnnfpoelkdgjdaa
end
section
namespace Go.Proofs.Ytnnfpoelkdgjdaa
open Go.RowKit
set_option linter.unusedVariables false
set_option linter.unusedSimpArgs false
def zcg (r : Rl) : Bool := decide (-1000 ≤ r.m ∧ r.m ≤ 2000 ∧ 1 ≤ r.p ∧ r.p ≤ 64 ∧ (0 ≤ r.f ∧ 0 ≤ r.d) ∧ (r.f ≤ 9007199254740992 ∧ r.d ≤ 9007199254740992))
def vE (L : List Rl) (di ev : Int) : Int := if (1 ≤ L.length ∧ L.length ≤ 8) ∧ (0 ≤ di ∧ 0 ≤ ev) ∧ (di ≤ 9007199254740992 ∧ ev ≤ 9007199254740992) ∧ ∀ r ∈ L, zcg r = true then 0 else 27
theorem zft {w : World} {g : Nat} {x y z u : Value} {t : TypeId} (h : w.heap[g]? = some (.cells #[x, y, z, u] t (0, 0))) :
    w.cell? ⟨g, 0, none⟩ = some x ∧ w.cell? ⟨g, 1, none⟩ = some y ∧ w.cell? ⟨g, 2, none⟩ = some z ∧ w.cell? ⟨g, 3, none⟩ = some u :=
  ⟨by rw [cell_of_row _ _ _ _ _ _ h]; rfl, by rw [cell_of_row _ _ _ _ _ _ h]; rfl, by rw [cell_of_row _ _ _ _ _ _ h]; rfl, by rw [cell_of_row _ _ _ _ _ _ h]; rfl⟩
set_option maxHeartbeats 4000000 in
set_option maxRecDepth 100000 in
theorem zjk (r : Rl) (w : World) :
    Calls Try.prog 65 #[.agg #[.int .i64 r.m, .int .i64 r.p, .int .i64 r.f, .int .i64 r.d]] w fun e w' => e = .returned (.bool (zcg r)) ∧ Below w.heap.size w w' := by
  have HB := hide (zfi (w := w) (.cells #[.int .i64 r.m, .int .i64 r.p, .int .i64 r.f, .int .i64 r.d] 77))
  have G := heap_alloc_new w (.cells #[.int .i64 r.m, .int .i64 r.p, .int .i64 r.f, .int .i64 r.d] 77)
  obtain ⟨c0, c1, c2, c3⟩ := zft G
  clear G
  go_enter Try.func65, Try.ntmps65
  go_upto_region 1 with fail
  generalize w.alloc (.cells #[.int .i64 r.m, .int .i64 r.p, .int .i64 r.f, .int .i64 r.d] 77) = V at *
  by_cases h1 : -1000 ≤ r.m
  · by_cases h2 : r.m ≤ 2000
    · by_cases h3 : 1 ≤ r.p
      · by_cases h4 : r.p ≤ 64
        all_goals go_wp2
        all_goals go_ret
        all_goals
          refine ⟨?_, HB.out⟩
          unfold zcg
          first
            | exact congrArg (fun b => Ending.returned (Value.bool b)) (decide_eq_true (by omega)).symm
            | exact congrArg (fun b => Ending.returned (Value.bool b)) (decide_eq_false (by omega)).symm
            | exact congrArg (fun b => Ending.returned (Value.bool b)) (decide_eq_decide.2 (by omega))
      · go_wp2
        go_ret
        exact ⟨congrArg (fun b => Ending.returned (Value.bool b)) (decide_eq_false (by omega)).symm, HB.out⟩
    · go_wp2
      go_ret
      exact ⟨congrArg (fun b => Ending.returned (Value.bool b)) (decide_eq_false (by omega)).symm, HB.out⟩
  · go_wp2
    go_ret
    exact ⟨congrArg (fun b => Ending.returned (Value.bool b)) (decide_eq_false (by omega)).symm, HB.out⟩
theorem zgW {L : List Rl} {di ev : Int} (h : ¬ ((1 ≤ L.length ∧ L.length ≤ 8) ∧ (0 ≤ di ∧ 0 ≤ ev) ∧ (di ≤ 9007199254740992 ∧ ev ≤ 9007199254740992) ∧ ∀ r ∈ L, zcg r = true)) : vE L di ev = 27 := by unfold vE; rw [if_neg h]
set_option maxHeartbeats 4000000 in
set_option maxRecDepth 100000 in
theorem zea (L : List Rl) (di ev : Int) (p : Option Addr) (n c : Nat) (w : World) (hr : RlRow w p n L) :
    Calls Try.prog 43 #[.agg #[.slice p n c, .int .i64 di, .int .i64 ev]] w fun e w' => e = .returned (.int .i64 (vE L di ev)) ∧ Below w.heap.size w w' := by
  have HB := hide (zfi (w := w) (.cells #[.slice p n c, .int .i64 di, .int .i64 ev] 27))
  have G := heap_alloc_new w (.cells #[.slice p n c, .int .i64 di, .int .i64 ev] 27)
  obtain ⟨c0, c1, c2, -, -, -⟩ := ze0 G
  have HR := hide hr
  have HN := hide hr.1
  have HG := hide G
  clear G hr
  go_enter Try.func43, Try.ntmps43
  go_upto_region 1 with fail
  generalize w.alloc (.cells #[.slice p n c, .int .i64 di, .int .i64 ev] 27) = V at *
  by_cases h1 : 1 ≤ n
  · have d1 : decide ((n : Int) < 1) = false := by simp; omega
    have d1' : decide (n < 1) = false := by simp; omega
    by_cases h2 : n ≤ 8
    · have d2 : decide ((8 : Int) < (n : Int)) = false := by simp; omega
      have d2' : decide (8 < n) = false := by simp; omega
      go_cut [30] from 5 (fun v wx => v = .bool (decide (¬ ((0 ≤ di ∧ 0 ≤ ev) ∧ (di ≤ 9007199254740992 ∧ ev ≤ 9007199254740992)))) ∧ wx = V)
      case first =>
        go_wp2
        all_goals go_meet
        all_goals
          refine ⟨congrArg Value.bool ?_, rfl⟩
          first
            | exact (decide_eq_true (by omega)).symm
            | exact (decide_eq_false (by omega)).symm
            | (rw [← Bool.decide_or]; exact decide_eq_decide.2 (by omega))
      case rest =>
        obtain ⟨rfl, rfl⟩ := hcut
        by_cases hgood : ((0 ≤ di ∧ 0 ≤ ev) ∧ (di ≤ 9007199254740992 ∧ ev ≤ 9007199254740992))
        · have dg : decide (¬ ((0 ≤ di ∧ 0 ≤ ev) ∧ (di ≤ 9007199254740992 ∧ ev ≤ 9007199254740992))) = false := decide_eq_false (not_not_intro hgood)
          rw [dg]
          have HGD := hide hgood
          clear hgood dg
          go_wp2_with fail
          generalize wc = V at *
          go_loopw [34] (fun i wr => ∃ k : Nat, k ≤ n ∧ i = .int .i64 k ∧ Hid (∀ (j : Nat) (h : j < L.length), j < k → zcg L[j] = true) ∧ Hid (Below V.heap.size V wr)) (fun i _ => n - (intOf i).toNat)
          case atStart => exact ⟨0, Nat.zero_le _, rfl, hide (fun j h hj => by omega), Below.refl _ _⟩
          case round =>
            obtain ⟨k, hk, rfl, HA, HB2⟩ := hrel
            have HB3 := hide (HB.out.trans (HB2.out.mono HB.out.size))
            by_cases hlt : k < n
            · obtain ⟨-, h0 | ⟨b, off, rfl, hc⟩⟩ := HR.out
              · omega
              have hkL : k < L.length := by have := HN.out; omega
              obtain ⟨x0, x1, x2, x3⟩ := hc k hkL
              have y0 : wr.cell? ⟨b, off + k * 4, none⟩ = some (.int .i64 L[k].m) := by rw [HB3.out.cell (block_lt_of_cell x0)]; exact x0
              have y1 : wr.cell? ⟨b, off + k * 4 + 1, none⟩ = some (.int .i64 L[k].p) := by rw [HB3.out.cell (block_lt_of_cell x1)]; exact x1
              have y2 : wr.cell? ⟨b, off + k * 4 + 2, none⟩ = some (.int .i64 L[k].f) := by rw [HB3.out.cell (block_lt_of_cell x2)]; exact x2
              have y3 : wr.cell? ⟨b, off + k * 4 + 3, none⟩ = some (.int .i64 L[k].d) := by rw [HB3.out.cell (block_lt_of_cell x3)]; exact x3
              clear x0 x1 x2 x3 hc
              obtain ⟨r, hr⟩ : ∃ r, L[k] = r := ⟨_, rfl⟩
              rw [hr] at y0 y1 y2 y3
              have HRK := hide hr
              clear hr
              have Q := hide (fun w => zjk r w)
              have hkI : (k : Int) < (n : Int) := by omega
              cases hv : zcg r
              · rw [hv] at Q
                have HV := hide hv
                clear hv
                go_wp2_with (first
                  | (go_at_call 65; (with_reducible refine (Q.out _).mono ?_); rintro e w1 ⟨rfl, hb⟩))
                go_ret
                exact ⟨by rw [zgW (fun h => by have h2 := h.2.2.2 L[k] (List.getElem_mem _); rw [HRK.out, HV.out] at h2; cases h2)]; rfl, (HB3.out.alloc HB3.out.size _).trans (hb.mono (by have := HB3.out.size; simp; omega))⟩
              · rw [hv] at Q
                have HV := hide hv
                clear hv
                go_wp2_with (first
                  | (go_at_call 65; (with_reducible refine (Q.out _).mono ?_); rintro e w1 ⟨rfl, hb⟩; (have HB4 := hide ((HB2.out.alloc HB2.out.size _).trans (hb.mono (by have := HB2.out.size; simp; omega)))); clear hb))
                go_roundw
                case rel =>
                  refine ⟨k + 1, by omega, by go_num, hide (fun j h hj => ?_), HB4⟩
                  by_cases hjk : j = k
                  · subst hjk; rw [HRK.out]; exact HV.out
                  · exact HA.out j h (by omega)
                case measure => simp [intOf]; omega
            · have d9 : decide ((k : Int) < (n : Int)) = false := by simp; omega
              have d9' : decide (k < n) = false := by simp; omega
              have hkn : k = n := by omega
              have HKN := hide hkn
              clear hkn hlt hk
              go_wp2
              go_ret
              refine ⟨?_, HB3.out⟩
              have hv : vE L di ev = 0 := by
                unfold vE
                refine if_pos ⟨by have := HN.out; omega, HGD.out.1, HGD.out.2, fun r hr => ?_⟩
                obtain ⟨j, hj, rfl⟩ := List.getElem_of_mem hr
                exact HA.out j hj (by have := HN.out; have := HKN.out; omega)
              rw [hv]
              rfl
        · have dg : decide (¬ ((0 ≤ di ∧ 0 ≤ ev) ∧ (di ≤ 9007199254740992 ∧ ev ≤ 9007199254740992))) = true := decide_eq_true hgood
          rw [dg]
          have HGD := hide hgood
          clear hgood dg
          go_wp2
          go_ret
          exact ⟨by rw [zgW (fun h => HGD.out ⟨h.2.1, h.2.2.1⟩)]; rfl, HB.out⟩
    · have d2 : decide ((8 : Int) < (n : Int)) = true := by simp; omega
      have d2' : decide (8 < n) = true := by simp; omega
      go_wp2
      go_ret
      exact ⟨by rw [zgW (fun h => by have := HN.out; omega)]; rfl, HB.out⟩
  · have d1 : decide ((n : Int) < 1) = true := by simp; omega
    have d1' : decide (n < 1) = true := by simp; omega
    go_wp2
    go_ret
    exact ⟨by rw [zgW (fun h => by have := HN.out; omega)]; rfl, HB.out⟩
end Go.Proofs.Ytnnfpoelkdgjdaa
end
section
namespace Go.Proofs.Ytnnfpoelkdgjdaa
open Go.RowKit Go.Shelf
attribute [local go_sem] Oper.semAt_some
set_option linter.unusedVariables false
set_option linter.unusedSimpArgs false
def upto {α : Type} (f : Nat → α) (k : Nat) : List α := (List.range k).map f
theorem Jn {α : Type} (f : Nat → α) (k : Nat) : upto f (k + 1) = upto f k ++ [f k] := by simp [upto, List.range_succ]
theorem zfG {α : Type} (f : Nat → α) (k : Nat) : (upto f k).length = k := by simp [upto]
def rl0 : Rl := ⟨0, 0, 0, 0⟩
def JJ (L : List Rl) (j : Nat) : Nat × Rl := (L.length - 1 - j, L[L.length - 1 - j]?.getD rl0)
def encB (x : Nat × Rl) : Array Value := #[.int .i64 (x.1 : Int), .agg #[.int .i64 x.2.m, .int .i64 x.2.p, .int .i64 x.2.f, .int .i64 x.2.d]]
set_option maxRecDepth 100000 in
set_option maxHeartbeats 4000000 in
theorem back1_in (F : Fence) (n : Nat) (hf : F.fn 69) (hro : F.round = none) (hn : 1 ≤ n) (l Bs n₀ : Nat) (p : Option Addr) (len cap : Nat) (L : List Rl) (hlen : len ≤ 1000000) (hBn : Bs < n₀) (J Jx : List (Nat × Rl) → World → Prop)
    (hY : ∀ pre x W, J pre W → pre.length < L.length → YieldAt F (n - 1) Try.prog l (encB x) W fun e W' =>
      (e = .returned (.bool true) ∧ J (pre ++ [x]) W' ∧ Below n₀ W W') ∨ (e = .returned (.bool false) ∧ Jx (pre ++ [x]) W'))
    (W : World) (hBs : W.cell? ⟨Bs, 0, none⟩ = some (.slice p len cap)) (hL : RlRow W p len L) (hbn : ∀ b off, p = some ⟨b, off, none⟩ → len = 0 ∨ b < n₀) (h0 : J [] W) :
    CallsIn F n Try.prog 69 #[.func (.yield l) #[] #[], .pointer (some ⟨Bs, 0, none⟩)] W fun e W' => (∃ v, e = .returned v) ∧
      ((∃ ys, ys = upto (JJ L) L.length ∧ J ys W') ∨ (∃ pre, (∃ k, k ≤ L.length ∧ pre = upto (JJ L) k) ∧ Jx pre W')) := by
  refine callsIn_of_wp Try.func69 rfl hf ?_ hro
  simp only [Try.ntmps69, List.size_toArray, List.length_cons, List.length_nil, Nat.reduceAdd, Nat.reduceSub, Array.replicate_succ, Array.replicate_zero, List.push_toArray, List.append_toArray, List.nil_append, List.cons_append]
  have HLN := hide hL.1
  have HL := hide hL.2
  clear hL
  gi_wp2
  gi_loopw [3] (fun i wr => ∃ k m : Nat, k + m = len ∧ i = .int .i64 ((m : Int) - 1) ∧ J (upto (JJ L) k) wr ∧ Below n₀ W wr)
    (fun i _ => (intOf i + 1).toNat)
  case atStart => exact ⟨0, len, by omega, rfl, h0, Below.refl _ _⟩
  case round =>
    obtain ⟨k, m, hkm, rfl, hJs, hnx⟩ := hrel
    have hcb : wr.cell? ⟨Bs, 0, none⟩ = some (.slice p len cap) := (hnx.cell (p := ⟨Bs, 0, none⟩) hBn).trans hBs
    cases m with
    | zero =>
      have hk : k = L.length := by have := HLN.out; omega
      gi_wp2
      go_end0
      exact ⟨⟨_, rfl⟩, .inl ⟨_, rfl, by rw [← hk]; exact hJs⟩⟩
    | succ m =>
      have hm1 : (((m + 1 : Nat) : Int) - 1) = (m : Int) := by omega
      rw [hm1]
      clear hm1
      rcases HL.out with h0' | ⟨b, off, hp, hc⟩
      · omega
      have hmL : m < L.length := by have := HLN.out; omega
      have hbb : b < n₀ := by
        rcases hbn b off hp with h1 | h1
        · omega
        · exact h1
      obtain ⟨x0, x1, x2, x3⟩ := hc m hmL
      have y0 : wr.cell? ⟨b, off + m * 4, none⟩ = some (.int .i64 L[m].m) := (hnx.cell (p := ⟨b, off + m * 4, none⟩) hbb).trans x0
      have y1 : wr.cell? ⟨b, off + m * 4 + 1, none⟩ = some (.int .i64 L[m].p) := (hnx.cell (p := ⟨b, off + m * 4 + 1, none⟩) hbb).trans x1
      have y2 : wr.cell? ⟨b, off + m * 4 + 2, none⟩ = some (.int .i64 L[m].f) := (hnx.cell (p := ⟨b, off + m * 4 + 2, none⟩) hbb).trans x2
      have y3 : wr.cell? ⟨b, off + m * 4 + 3, none⟩ = some (.int .i64 L[m].d) := (hnx.cell (p := ⟨b, off + m * 4 + 3, none⟩) hbb).trans x3
      clear x0 x1 x2 x3
      have hbf : JJ L k = (m, L[m]) := by
        unfold JJ
        have e : L.length - 1 - k = m := by have := HLN.out; omega
        rw [e, List.getElem?_eq_getElem hmL]
        rfl
      have hY1 := hY _ (m, L[m]) wr hJs (by rw [zfG]; have := HLN.out; omega)
      have HBF := hide hbf
      generalize L[m] = r at *
      obtain ⟨fn, tmps, assign, body, hy, hR⟩ := hY1
      dsimp only [encB] at hy
      have hmI : (m : Int) < (len : Int) := by omega
      have hm0 : (0 : Int) ≤ (m : Int) := by omega
      have dm : decide ((0 : Int) ≤ (m : Int)) = true := by simp
      rw [hp] at hcb
      clear hc hbf hp
      gi_wp2
      refine hR.mono ?_
      rintro e W3 (⟨rfl, hJ3, hk3⟩ | ⟨rfl, hJx3⟩)
      · gi_wp2
        go_roundw
        case rel => exact ⟨k + 1, m, by omega, by first | rfl | (congr 1), by rw [Jn, HBF.out]; exact hJ3, hnx.trans hk3⟩
        case measure => simp [intOf]
      · gi_wp2
        refine bodyPost_ret (results_none rfl _ _ _) rfl ?_
        exact ⟨⟨_, rfl⟩, .inr ⟨_, ⟨k + 1, by have := HLN.out; omega, by rw [Jn, HBF.out]⟩, hJx3⟩⟩
set_option maxHeartbeats 1000000 in
theorem back_in (F : Fence) (n : Nat) (hf : F.fn 49) (hro : F.round = none) (p : Option Addr) (len cap : Nat) (w : World) :
    CallsIn F n Try.prog 49 #[.slice p len cap] w fun e w' => e = .returned (.func (.func 69) #[] #[.pointer (some ⟨w.heap.size, 0, none⟩)]) ∧ w' = w.alloc (.cells #[.slice p len cap] 25) := by
  refine callsIn_of_wp Try.func49 rfl hf ?_ hro
  simp only [Try.ntmps49, List.size_toArray, List.length_cons, List.length_nil, Nat.reduceAdd, Nat.reduceSub, Array.replicate_succ, Array.replicate_zero, List.push_toArray, List.append_toArray, List.nil_append, List.cons_append]
  gi_wp2
  go_ret
  exact ⟨rfl, rfl⟩
theorem RlRow.belowN {n₀ : Nat} {w w' : World} {p : Option Addr} {len : Nat} {L : List Rl} (h : RlRow w p len L) (hb : Below n₀ w w') (hbn : ∀ b off, p = some ⟨b, off, none⟩ → len = 0 ∨ b < n₀) : RlRow w' p len L :=
  h.heap fun b off hp _ => (hbn b off hp).imp id fun hl => hb.block b hl
theorem zju (F : Fence) (n : Nat) (hf : F.fn 69) (hro : F.round = none) (hn : 1 ≤ n) (Bs n₀ : Nat) (p : Option Addr) (len cap : Nat) (L : List Rl) (hlen : len ≤ 1000000) (w : World) (hBs : Bs < n₀) (hn₀ : n₀ ≤ w.heap.size)
    (hc : w.cell? ⟨Bs, 0, none⟩ = some (.slice p len cap)) (hL : RlRow w p len L) (hbn : ∀ b off, p = some ⟨b, off, none⟩ → len = 0 ∨ b < n₀) :
    SeqStopsK F n Try.prog 69 #[.pointer (some ⟨Bs, 0, none⟩)] encB (Below n₀) (fun ys => ys = upto (JJ L) L.length) (fun pre => ∃ k, k ≤ L.length ∧ pre = upto (JJ L) k) L.length w := fun l J Jx W hW _ _ hY h0 => by
  have hc' := (hW.cell (p := ⟨Bs, 0, none⟩) (show Bs < w.heap.size by omega)).trans hc
  exact back1_in F n hf hro hn l Bs n₀ p len cap L hlen hBs J Jx hY W hc' (hL.belowN (hW.mono hn₀) hbn) hbn h0
end Go.Proofs.Ytnnfpoelkdgjdaa
end
section
namespace Go.Proofs.Ytnnfpoelkdgjdaa
open Go.RowKit Go.Shelf
attribute [local go_sem] Oper.semAt_some
set_option linter.unusedVariables false
set_option linter.unusedSimpArgs false
def levN (L : List Rl) (e : Ev) : Nat → Nat
  | 0 => 0
  | k + 1 => if Zo (L[k]?.getD rl0) e = true then k + 1 else levN L e k
def levF (L : List Rl) (di ev : Int) (e : Ev) : Nat := if vE L di ev = 0 then levN L e L.length else 0
theorem zmn (L : List Rl) (e : Ev) : ∀ k, levN L e k ≤ k
  | 0 => Nat.le_refl _
  | k + 1 => by
    unfold levN
    split
    · exact Nat.le_refl _
    · have := zmn L e k; omega
theorem zb8 (L : List Rl) (e : Ev) : ∀ k, k ≤ L.length → (∀ q ∈ upto (JJ L) k, Zo q.2 e = false) → levN L e L.length = levN L e (L.length - k)
  | 0, _, _ => rfl
  | k + 1, hk, h => by
    rw [zb8 L e k (by omega) (fun q hq => h q (by rw [Jn]; exact List.mem_append_left _ hq))]
    obtain ⟨m, hm⟩ : ∃ m, L.length - k = m + 1 := ⟨L.length - k - 1, by omega⟩
    have hx := h (JJ L k) (by rw [Jn]; simp)
    unfold JJ at hx
    rw [hm, show L.length - (k + 1) = m by omega]
    rw [show L.length - 1 - k = m by omega] at hx
    show (if Zo (L[m]?.getD rl0) e = true then m + 1 else levN L e m) = levN L e m
    rw [if_neg (by rw [show Zo (L[m]?.getD rl0) e = false from hx]; simp)]
theorem zeJ {β : Type} (b : Nat) (cs : Array Value) (t : TypeId) (fr : Nat × Nat) : Go.Own (fun (_ : β) W => W.heap[b]? = some (.cells cs t fr)) := fun s X Y row hs hg hrow =>
  (hg.block b (Array.getElem?_eq_some_iff.1 hs).1 (fun e' => by obtain ⟨o, ho, hc⟩ := hrow b e'.symm; rw [show X.heap[b]? = _ from hs] at ho; cases ho; cases hc)).trans hs
theorem zaE {F : Fence} {n : Nat} {P : Program} {w : World} {ops : Array Oper} {rest : List Oper} {o : Oper} {a : Act} {Q : Exit → Act → World → Prop} (hgd : o.guard = none) (ty : TypeId) (x : Operand) (hop : o.op = .load ty x)
    (g : Nat) (hx : a.eval x = .pointer (some ⟨g, 0, none⟩)) (t : TypeId) (cs : Array Value) (fr : Nat × Nat) (d : TypeDesc) (hg : w.heap[g]? = some (.cells cs t fr))
    (hu : P.underlying ty = some d) (hd : (match d with | .struct _ | .array _ _ => true | _ => false) = true) (hi : (P.info? ty).map (·.size) = some cs.size)
    (h : wpListIn F n P ops Q rest (a.put o.dst (.agg cs)) w) : wpListIn F n P ops Q (o :: rest) a w := by
  refine wpListIn_plain hgd fun K hK' => ?_
  have hrun : (execOp a.eval o).run P w = .ok (.value (.agg cs)) w := by
    unfold execOp
    simp only [hop, hx, Instr.loadAt, Instr.sureAddr, Sem.run_bind, Sem.run_pure, Result.andThen_ok, run_loadVar_row w g t ty cs fr d hg hu hd hi]
  unfold Oper.wpIn
  refine ⟨?_, ?_⟩
  · simp [Oper.about, hop]
  · rw [Oper.semAt_plain F _ _ (by rw [hop]; intro c hc'; cases hc'), hrun]
    exact hK' _ _ h
set_option maxHeartbeats 8000000 in
set_option maxRecDepth 100000 in
theorem zik (L : List Rl) (di ev : Int) (p : Option Addr) (n c : Nat) (hn : n ≤ 1000000) (e : Ev) (w : World) (hr : RlRow w p n L) :
    Calls Try.prog 31 #[.agg #[.slice p n c, .int .i64 di, .int .i64 ev], .agg #[.string e.a1, .string e.a2, .string e.a3, .string e.a4, .int .i64 e.t1, .int .i64 e.t2, .int .i64 e.t3, .int .i64 e.am, .int .i64 e.po, .slice e.p e.n e.c, .int .i64 e.x, .int .i64 e.y, .int .i64 e.z, .int .i64 e.tm, .int .i64 e.mf, .int .i64 e.lw, .int .i64 e.b1, .int .i64 e.b2, .int .i64 e.b3, .int .i64 e.b4, .int .i64 e.b5, .int .i64 e.b6, .int .i64 e.lo, .int .i64 e.hi, .int .i64 e.ct]] w fun en w' => en = .returned (.int .i64 (levF L di ev e : Nat)) ∧ Below w.heap.size w w' := by
  have HB := hide (zmY (w := w) (.cells #[.slice p n c, .int .i64 di, .int .i64 ev] 27) (.cells #[.string e.a1, .string e.a2, .string e.a3, .string e.a4, .int .i64 e.t1, .int .i64 e.t2, .int .i64 e.t3, .int .i64 e.am, .int .i64 e.po, .slice e.p e.n e.c, .int .i64 e.x, .int .i64 e.y, .int .i64 e.z, .int .i64 e.tm, .int .i64 e.mf, .int .i64 e.lw, .int .i64 e.b1, .int .i64 e.b2, .int .i64 e.b3, .int .i64 e.b4, .int .i64 e.b5, .int .i64 e.b6, .int .i64 e.lo, .int .i64 e.hi, .int .i64 e.ct] 54) (.cells #[.int .i64 0] 3))
  have G2 := hide (ZT (ZT (heap_alloc_new w (.cells #[.slice p n c, .int .i64 di, .int .i64 ev] 27)) (.cells #[.string e.a1, .string e.a2, .string e.a3, .string e.a4, .int .i64 e.t1, .int .i64 e.t2, .int .i64 e.t3, .int .i64 e.am, .int .i64 e.po, .slice e.p e.n e.c, .int .i64 e.x, .int .i64 e.y, .int .i64 e.z, .int .i64 e.tm, .int .i64 e.mf, .int .i64 e.lw, .int .i64 e.b1, .int .i64 e.b2, .int .i64 e.b3, .int .i64 e.b4, .int .i64 e.b5, .int .i64 e.b6, .int .i64 e.lo, .int .i64 e.hi, .int .i64 e.ct] 54)) (.cells #[.int .i64 0] 3))
  have G3 := hide (ZT (zln (w := w.alloc (.cells #[.slice p n c, .int .i64 di, .int .i64 ev] 27)) (.cells #[.string e.a1, .string e.a2, .string e.a3, .string e.a4, .int .i64 e.t1, .int .i64 e.t2, .int .i64 e.t3, .int .i64 e.am, .int .i64 e.po, .slice e.p e.n e.c, .int .i64 e.x, .int .i64 e.y, .int .i64 e.z, .int .i64 e.tm, .int .i64 e.mf, .int .i64 e.lw, .int .i64 e.b1, .int .i64 e.b2, .int .i64 e.b3, .int .i64 e.b4, .int .i64 e.b5, .int .i64 e.b6, .int .i64 e.lo, .int .i64 e.hi, .int .i64 e.ct] 54) (g := w.heap.size + 1) (by simp)) (.cells #[.int .i64 0] 3))
  have G4 := hide (zln (w := (w.alloc (.cells #[.slice p n c, .int .i64 di, .int .i64 ev] 27)).alloc (.cells #[.string e.a1, .string e.a2, .string e.a3, .string e.a4, .int .i64 e.t1, .int .i64 e.t2, .int .i64 e.t3, .int .i64 e.am, .int .i64 e.po, .slice e.p e.n e.c, .int .i64 e.x, .int .i64 e.y, .int .i64 e.z, .int .i64 e.tm, .int .i64 e.mf, .int .i64 e.lw, .int .i64 e.b1, .int .i64 e.b2, .int .i64 e.b3, .int .i64 e.b4, .int .i64 e.b5, .int .i64 e.b6, .int .i64 e.lo, .int .i64 e.hi, .int .i64 e.ct] 54)) (.cells #[.int .i64 0] 3) (g := w.heap.size + 1 + 1) (by simp))
  have HSZ := hide (show (((w.alloc (.cells #[.slice p n c, .int .i64 di, .int .i64 ev] 27)).alloc (.cells #[.string e.a1, .string e.a2, .string e.a3, .string e.a4, .int .i64 e.t1, .int .i64 e.t2, .int .i64 e.t3, .int .i64 e.am, .int .i64 e.po, .slice e.p e.n e.c, .int .i64 e.x, .int .i64 e.y, .int .i64 e.z, .int .i64 e.tm, .int .i64 e.mf, .int .i64 e.lw, .int .i64 e.b1, .int .i64 e.b2, .int .i64 e.b3, .int .i64 e.b4, .int .i64 e.b5, .int .i64 e.b6, .int .i64 e.lo, .int .i64 e.hi, .int .i64 e.ct] 54)).alloc (.cells #[.int .i64 0] 3)).heap.size = w.heap.size + 1 + 1 + 1 from by simp)
  have HR := hide (hr.keep (HB.out))
  have HLW := hide (fun b off (hp : p = some ⟨b, off, none⟩) => (show n = 0 ∨ b < w.heap.size from by
    obtain ⟨hl, h0 | ⟨b', off', hp', hc⟩⟩ := hr
    · exact .inl h0
    · by_cases hz : n = 0
      · exact .inl hz
      · rw [hp] at hp'
        injection hp' with hp'
        injection hp' with e1 e2
        subst e1
        have := block_lt_of_cell (hc 0 (by omega)).1
        exact .inr this))
  have QV := hide (fun (V : World) (hV : RlRow V p n L) => zea L di ev p n c V hV)
  clear hr
  by_cases hv : vE L di ev = 0
  · have hlf : levF L di ev e = levN L e L.length := by unfold levF; rw [if_pos hv]
    have HLF := hide hlf
    rw [hv] at QV
    clear hv hlf
    refine (callsIn_wide (n := 4)).1 ?_
    refine callsIn_of_wp_marks Try.func31 rfl trivial ?_ rfl
    simp only [Try.ntmps31, List.size_toArray, List.length_cons, List.length_nil, Nat.reduceAdd, Nat.reduceSub, Array.replicate_succ, Array.replicate_zero, List.push_toArray, List.append_toArray, List.nil_append, List.cons_append]
    gi_wp2_with (first
      | (refine ⟨trivial, ?_⟩; gi_at_call 43; refine (callsIn_wide.2 (QV.out _ HR.out)).mono ?_; rintro en w1 ⟨rfl, hb⟩; (have hsz := hb.size); (rw [HSZ.out] at hsz); (have G2 := hide ((hb.block _ (Array.getElem?_eq_some_iff.1 G2.out).1).trans G2.out)); (have G3 := hide ((hb.block _ (Array.getElem?_eq_some_iff.1 G3.out).1).trans G3.out)); (have G4 := hide ((hb.block _ (Array.getElem?_eq_some_iff.1 G4.out).1).trans G4.out)); (have HR := hide (HR.out.keep hb)); (have HB := hide (HB.out.trans (hb.mono HB.out.size))); (obtain ⟨c0, c1, c2, -, -, -⟩ := ze0 G2.out); clear hb)
      | (refine ⟨trivial, ?_⟩; gi_at_call 49; refine (back_in Fence.wide _ trivial rfl _ _ _ _).mono ?_; rintro en w2 ⟨rfl, rfl⟩))
    have bN := Boxed.new w1 25 (.slice p n c)
    have E0 := ZT G3.out (.cells #[.slice p n c] 25)
    have R0 : Boxed (w1.alloc (.cells #[.slice p n c] 25)) (w.heap.size + 1 + 1) 3 (.int .i64 0) := ZT G4.out (.cells #[.slice p n c] 25)
    have hB0 : Below w.heap.size w (w1.alloc (.cells #[.slice p n c] 25)) := HB.out.alloc HB.out.size _
    have HR0 := HR.out.keep (zfi (.cells #[.slice p n c] 25))
    have hsz0 : (w1.alloc (.cells #[.slice p n c] 25)).heap.size = w1.heap.size + 1 := by simp
    obtain ⟨W0, hW0⟩ : ∃ W0, w1.alloc (.cells #[.slice p n c] 25) = W0 := ⟨_, rfl⟩
    rw [hW0] at bN E0 R0 hB0 HR0 hsz0 ⊢
    clear hW0
    refine wpIn_rangeFunc_ownH rfl (by omega) (gf := 69) (lb := #[.pointer (some ⟨w1.heap.size, 0, none⟩)]) rfl trivial (enters_of Try.func69 (by kernel_rfl) rfl)
      (zju Fence.wide 3 trivial rfl (by omega) w1.heap.size (w1.heap.size + 1) p n c L hn W0 (by omega) (by omega) bN.cell HR0 (fun b off hp => (HLW.out b off hp).imp id (fun h => by omega))) belowK_t (belowK_b (by omega)) (Below.refl _ _) (fun _ => rfl)
      (fun pre W => ((∀ q ∈ pre, Zo q.2 e = false) ∧ (W.heap[w.heap.size + 1]? = some (.cells #[.string e.a1, .string e.a2, .string e.a3, .string e.a4, .int .i64 e.t1, .int .i64 e.t2, .int .i64 e.t3, .int .i64 e.am, .int .i64 e.po, .slice e.p e.n e.c, .int .i64 e.x, .int .i64 e.y, .int .i64 e.z, .int .i64 e.tm, .int .i64 e.mf, .int .i64 e.lw, .int .i64 e.b1, .int .i64 e.b2, .int .i64 e.b3, .int .i64 e.b4, .int .i64 e.b5, .int .i64 e.b6, .int .i64 e.lo, .int .i64 e.hi, .int .i64 e.ct] 54 (0, 0)) ∧ Boxed W (w.heap.size + 1 + 1) 3 (.int .i64 0))) ∧ (Below w.heap.size w W ∧ w1.heap.size + 1 ≤ W.heap.size))
      (fun c pre W => (c = .ret ∧ ∃ ini last, pre = ini ++ [last] ∧ (∀ q ∈ ini, Zo q.2 e = false) ∧ Zo last.2 e = true ∧ Boxed W (w.heap.size + 1 + 1) 3 (.int .i64 (wrap64 ((last.1 : Int) + 1)))) ∧ Below w.heap.size w W)
      (OwnFrom.and (OwnFrom.and (ownFrom_pure _ (fun (pre : List (Nat × Rl)) => ∀ q ∈ pre, Zo q.2 e = false)) (OwnFrom.and (Go.Own.from (zeJ _ _ _ _) _) (Go.Own.from (boxed_own _ _ (fun _ => Value.int .i64 0)) _))) (OwnFrom.and (ownFrom_below (Nat.le_refl _) (by omega)) (fun _ _ _ _ hs hg _ => Nat.le_trans hs hg.size)))
      (fun cc => OwnFrom.and (Go.Own.from (fun s A B row hs hg hr => by obtain ⟨hc, ini, last, e1, e2, e3, e4⟩ := hs; exact ⟨hc, ini, last, e1, e2, e3, boxed_own (w.heap.size + 1 + 1) 3 (fun (_ : Unit) => Value.int .i64 (wrap64 ((last.1 : Int) + 1))) () A B row e4 hg hr⟩) _) (ownFrom_below (Nat.le_refl _) (by omega)))
      ⟨⟨by simp, E0, R0⟩, hB0, by omega⟩
      (fun x a' W => ∃ Bx, w.heap.size + 1 + 1 < Bx ∧ W.heap[Bx]? = some (.cells #[.int .i64 x.2.m, .int .i64 x.2.p, .int .i64 x.2.f, .int .i64 x.2.d] 77 (0, 0)) ∧ a' = { tmps := #[.agg #[.slice p n c, .int .i64 di, .int .i64 ev], .agg #[.string e.a1, .string e.a2, .string e.a3, .string e.a4, .int .i64 e.t1, .int .i64 e.t2, .int .i64 e.t3, .int .i64 e.am, .int .i64 e.po, .slice e.p e.n e.c, .int .i64 e.x, .int .i64 e.y, .int .i64 e.z, .int .i64 e.tm, .int .i64 e.mf, .int .i64 e.lw, .int .i64 e.b1, .int .i64 e.b2, .int .i64 e.b3, .int .i64 e.b4, .int .i64 e.b5, .int .i64 e.b6, .int .i64 e.lo, .int .i64 e.hi, .int .i64 e.ct], .pointer (some ⟨w.heap.size, 0, none⟩), .pointer (some ⟨w.heap.size + 1, 0, none⟩), .pointer (some ⟨w.heap.size + 1 + 1, 0, none⟩), .int .i64 (x.1 : Int), .pointer (some ⟨Bx, 0, none⟩), .agg #[.slice p n c, .int .i64 di, .int .i64 ev], .int .i64 0, .bool false, .pointer (some ⟨w.heap.size, 0, none⟩), .slice p n c, .func (.func 69) #[] #[.pointer (some ⟨w1.heap.size, 0, none⟩)], .int .i64 (x.1 : Int), .agg #[.int .i64 x.2.m, .int .i64 x.2.p, .int .i64 x.2.f, .int .i64 x.2.d], undef, undef, undef, undef, undef], defers := [] })
      (fun x a' _ X Y row hs hg hr => by obtain ⟨Bx, h1, h2, h3⟩ := hs; exact ⟨Bx, h1, zeJ (β := Unit) Bx _ _ _ () X Y row h2 hg (fun r e => (hr r e).2), h3⟩)
      ?assign ?body ?done ?stop
    case assign => as_aux_lemma =>
      rintro l pre x W K ⟨⟨hp, hE, h4⟩, hB1, hs1⟩ hK
      unfold encB
      gi_wp2
      exact hK _ _ ((KeepsOthers.alloc _ _).from _) ((Below.refl _ W).alloc hs1 _) ⟨⟨hp, ZT hE _, h4.alloc _⟩, hB1.alloc hB1.size _, by simp; omega⟩ ⟨W.heap.size, h4.lt, heap_alloc_new _ _, rfl⟩
    case body => as_aux_lemma =>
      rintro l pre x a' W hl ⟨r, hr⟩ ⟨⟨hp, hE, h4⟩, hB1, hs1⟩ ⟨Bx, hBx, bX, rfl⟩ hlt
      obtain ⟨y0, y1, y2, y3⟩ := zft bX
      have HE := hide hE
      have HP := hide hp
      have H4 := hide h4
      have HB1 := hide hB1
      clear bX hE hp h4 hB1 hr
      have Q := hide (fun V => zhN x.2 e V)
      obtain ⟨bm, hbm⟩ : ∃ bm, Zo x.2 e = bm := ⟨_, rfl⟩
      rw [hbm] at Q
      have HM := hide hbm
      clear hbm
      gi_wp2_with (first
        | (refine zaE rfl 54 _ rfl (w.heap.size + 1) rfl 54 _ (0, 0) _ HE.out Try.underlying54 rfl (by kernel_rfl) ?_)
        | (refine ⟨trivial, ?_⟩; gi_at_call 50; refine (CallsIn.inRound l (callsIn_wide.2 (Q.out _))).mono ?_; rintro en w3 ⟨rfl, hb⟩; (have h4' : Boxed w3 (w.heap.size + 1 + 1) 3 (.int .i64 0) := (hb.block _ H4.out.lt).trans H4.out); (have c4 := h4'.cell); (have f4 := h4'.frozen); (have H4' := hide h4'); clear h4'))
      · rename_i hx
        have hbm : bm = true := by first | exact hx | simpa using hx
        exact ⟨KeepsFrom.trans ⟨hb.size, fun k o hk h0 ho => (hb.block k (Array.getElem?_eq_some_iff.1 h0).1).trans h0⟩ ((KeepsOthers.setCell _ _ _).from _), ⟨rfl, pre, x, rfl, HP.out, HM.out.trans hbm, H4'.out.set _⟩, (HB1.out.trans (hb.mono HB1.out.size)).setCell (p := ⟨w.heap.size + 1 + 1, 0, none⟩) (by show w.heap.size ≤ w.heap.size + 1 + 1; omega) _⟩
      · rename_i hx
        have hbm : bm = false := by first | exact hx | simpa using hx
        exact ⟨⟨hb.size, fun k o hk h0 ho => (hb.block k (Array.getElem?_eq_some_iff.1 h0).1).trans h0⟩, hb.mono hs1, ⟨⟨fun q hq => by rcases List.mem_append.1 hq with h | h; exact HP.out q h; simp at h; subst h; exact HM.out.trans hbm, (hb.block _ (Array.getElem?_eq_some_iff.1 HE.out).1).trans HE.out, (hb.block _ H4.out.lt).trans H4.out⟩, HB1.out.trans (hb.mono HB1.out.size), Nat.le_trans hs1 hb.size⟩⟩
    case done => as_aux_lemma =>
      rintro D ys W hD rfl ⟨⟨hp, hE, h4⟩, hB1, hs1⟩ hK
      have c4 := h4.cell
      have f4 := h4.frozen
      gi_wp2
      have hK' := (KeepsOthers.setCell W ⟨w.heap.size + 1 + 1, 0, none⟩ (.int .i64 0)).same D _ hK rfl
      refine ⟨by simp, .inl ⟨_, _, rfl, run_takeDeferred hK', ?_⟩⟩
      have hc5 := cell_kept (World.cell?_setCell_same' W ⟨w.heap.size + 1 + 1, 0, none⟩ (.int .i64 0) (by rw [c4]; rfl)) (grownBy_putObj' _ D (.deferred none)) (fun r e => by cases e; exact ⟨_, hK', rfl⟩)
      refine ⟨.int .i64 0, ?_, ?_, (hB1.setCell (p := ⟨w.heap.size + 1 + 1, 0, none⟩) (by show w.heap.size ≤ w.heap.size + 1 + 1; omega) _).trans (belowK_b (w := w) (Nat.le_refl _) _ D _ _ (by omega) hK' rfl rfl)⟩
      · simp [results, Try.f31, go_sem, hc5]
      · rw [HLF.out, zb8 L e L.length (Nat.le_refl _) hp, Nat.sub_self]; rfl
    case stop => as_aux_lemma =>
      rintro D cc pre W hD ⟨k, hk, rfl⟩ ⟨⟨rfl, ini, last, e1, e2, e3, h4⟩, hB1⟩ hK
      have c4 := h4.cell
      gi_wp2
      refine ⟨by simp, .inl ⟨_, _, rfl, run_takeDeferred hK, ?_⟩⟩
      have hc5 := cell_kept c4 (grownBy_putObj' _ D (.deferred none)) (fun r e => by cases e; exact ⟨_, hK, rfl⟩)
      obtain ⟨k', rfl⟩ : ∃ k', k = k' + 1 := by
        cases k with
        | zero => simp [upto] at e1
        | succ k' => exact ⟨k', rfl⟩
      rw [Jn] at e1
      obtain ⟨rfl, e5⟩ := List.append_inj' e1 rfl
      obtain rfl : JJ L k' = last := by simpa using e5
      have hlv : levF L di ev e = (JJ L k').1 + 1 := by
        rw [HLF.out, zb8 L e k' (by omega) e2]
        unfold JJ at e3 ⊢
        obtain ⟨m, hm⟩ : ∃ m, L.length - k' = m + 1 := ⟨L.length - k' - 1, by omega⟩
        rw [hm]
        rw [show L.length - 1 - k' = m by omega] at e3 ⊢
        show (if Zo (L[m]?.getD rl0) e = true then m + 1 else levN L e m) = m + 1
        rw [if_pos e3]
      have hb6 : (JJ L k').1 ≤ 1000000 := by unfold JJ; have := HR.out.1; show L.length - 1 - k' ≤ _; omega
      have hw : wrap64 (((JJ L k').1 : Int) + 1) = ((levF L di ev e : Nat) : Int) := by rw [hlv, IntWalk.wrap64_in _ (by omega)]; omega
      rw [hw] at hc5
      refine ⟨.int .i64 ((levF L di ev e : Nat) : Int), ?_, rfl, hB1.trans (belowK_b (w := w) (Nat.le_refl _) W D _ _ (by omega) hK rfl rfl)⟩
      simp [results, Try.f31, go_sem, hc5]
  · have hv27 : vE L di ev = 27 := by unfold vE at hv ⊢; split at hv <;> simp_all
    have hl : levF L di ev e = 0 := by unfold levF; rw [if_neg hv]
    rw [hv27] at QV
    have HLF := hide hl
    clear hv hv27 hl
    go_enter Try.func31, Try.ntmps31
    go_wp2_with (first
      | (go_at_call 43; (with_reducible refine (QV.out _ HR.out).mono ?_); rintro en w1 ⟨rfl, hb⟩; (have hsz := hb.size); (rw [HSZ.out] at hsz); (have G4 := hide ((hb.block _ (Array.getElem?_eq_some_iff.1 G4.out).1).trans G4.out)); (have HB := hide (HB.out.trans (hb.mono HB.out.size))); (have r0 : w1.cell? ⟨w.heap.size + 1 + 1, 0, none⟩ = some (.int .i64 0) := jN G4.out rfl); (have rf0 := frozen_of_row _ _ 0 _ _ G4.out); clear hb))
    have z0 : (w1.setCell ⟨w.heap.size + 1 + 1, 0, none⟩ (.int .i64 0)).cell? ⟨w.heap.size + 1 + 1, 0, none⟩ = some (.int .i64 0) := World.cell?_setCell_same' _ _ _ (by rw [r0]; rfl)
    (try simp only [Exit.inBlock, Exit.then])
    refine bodyPost_ret (v := .int .i64 0) (by simp [results, Try.results31, go_sem, z0]) rfl ⟨by rw [HLF.out]; rfl, HB.out.setCell (by show w.heap.size ≤ w.heap.size + 1 + 1; omega) _⟩
end Go.Proofs.Ytnnfpoelkdgjdaa
end
section
namespace Go.Proofs.Ytnnfpoelkdgjdaa
open Go.RowKit
set_option linter.unusedVariables false
set_option linter.unusedSimpArgs false
set_option linter.unnecessarySimpa false
set_option maxRecDepth 4000
theorem CallOk.plainT {P : Program} {f : FuncId} {args : List AV} {v : Value} {a : AV} (hv : ∀ M ρ σ, Rd M ρ σ v a) (hf : ∃ fn, P.funcs[f]? = some fn ∧ (fn.name == "runtime.NumGoroutine") = false ∧ fn.body.isNone = false)
    (h : ∀ (M : Mem) (w : World) (cargs : Array Value) (σ : Sig), GlOk M w [] (InT σ []) → (∀ g o x, M g o = some x → w.cell? ⟨g, o, none⟩ = some x) → cargs.size = args.length → (∀ i (h : i < cargs.size) (h' : i < args.length), Rd M (gsR []) σ cargs[i] args[i]) → Calls P f cargs w fun e w' => e = .returned v ∧ Below w.heap.size w w') :
    CallOk P f args [] ⟨a, [], none, [], [], []⟩ := by
  refine ⟨hf, fun M w cargs gs σ hgl mem hlt hn hl hsz hr hbx hda hT => ?_⟩
  obtain rfl : gs = [] := List.length_eq_zero_iff.1 hl
  refine (h M w cargs σ hgl mem hsz hr).mono fun e w' ⟨he, hb⟩ => ⟨v, M, σ, [], he, ?_⟩
  have same : ∀ g n, Row w g n → Row w' g n := fun g n q => q.of_heap (hb.block g q.lt)
  exact {
    sub := fun _ _ _ q => q
    mem := fun g o x q => by
      have q1 := mem g o x q
      have hg : g < w.heap.size := by
        rcases Nat.lt_or_ge g w.heap.size with h1 | h1
        · exact h1
        · have hn : w.heap[g]? = none := Array.getElem?_eq_none h1
          simp [World.cell?, World.cells?, hn] at q1
      rw [Zy (hb.block g hg)]
      exact q1
    same := fun _ _ _ _ => rfl
    frm := ⟨hb.os, hb.tape, hb.output, hb.size, fun k hk _ _ => hb.block k hk⟩
    olen := rfl
    outs := fun k h => by cases h
    data := fun k h => by cases h
    newn := fun _ => rfl
    new := fun cs h => by cases h
    val := hv _ _ _
    tok := fun t h => by cases h
    cap := fun t sp q => same _ _ (hT.cap t sp q)
    inj := fun t h => by cases h
    rows := same
    capin := fun k h => by cases h }
def rlOf : List AV → Option Rl
  | [.v (.int .i64 m), .v (.int .i64 p), .v (.int .i64 f), .v (.int .i64 d)] => some ⟨m, p, f, d⟩
  | _ => none
def zer : List (List AV) → Option (List Rl)
  | [] => some []
  | r :: rs => match rlOf r, zer rs with
    | some x, some l => some (x :: l)
    | _, _ => none
theorem rlOf_eq {r : List AV} {x : Rl} (h : rlOf r = some x) : r = [.v (.int .i64 x.m), .v (.int .i64 x.p), .v (.int .i64 x.f), .v (.int .i64 x.d)] := by
  unfold rlOf at h
  split at h
  · cases h; rfl
  · cases h
theorem ze7 : ∀ (rs : List (List AV)) (L : List Rl), zer rs = some L → L.length = rs.length ∧ ∀ i (h : i < L.length) (h' : i < rs.length), rs[i] = [.v (.int .i64 L[i].m), .v (.int .i64 L[i].p), .v (.int .i64 L[i].f), .v (.int .i64 L[i].d)]
  | [], L, h => by cases h; exact ⟨rfl, fun i h => by cases h⟩
  | r :: rs, L, h => by
    unfold zer at h
    split at h
    · rename_i x l h1 h2
      cases h
      obtain ⟨q1, q2⟩ := ze7 rs l h2
      refine ⟨by simp [q1], fun i h h' => ?_⟩
      cases i with
      | zero => exact rlOf_eq h1
      | succ i => exact q2 i (by simpa using h) (by simpa using h')
    · cases h
theorem list_rl {M : Mem} {ρ : Rho} {σ : Sig} {w : World} {c : Value} {rs : List (List AV)} {L : List Rl} (mem : ∀ g o x, M g o = some x → w.cell? ⟨g, o, none⟩ = some x) (h : Rd M ρ σ c (.list 4 rs none)) (hL : zer rs = some L) : ∃ p n cap, c = .slice p n cap ∧ RlRow w p n L ∧ n = L.length := by
  obtain ⟨q1, q2⟩ := ze7 rs L hL
  cases h with
  | nil => exact ⟨none, 0, 0, rfl, ⟨by simpa using q1.symm, .inl rfl⟩, by simpa using q1.symm⟩
  | @list _ _ g off _ len cap _ _ cf hl hc hn hm ho hr ht =>
    refine ⟨_, _, _, rfl, ⟨by omega, .inr ⟨g, off, rfl, fun i hi => ?_⟩⟩, by omega⟩
    have hi' : i < rs.length := by omega
    have row := q2 i hi hi'
    have cell : ∀ j (hj : j < 4) (x : Value), (rs[i])[j]? = some (.v x) → w.cell? ⟨g, off + i * 4 + j, none⟩ = some x := fun j hj x hx => by
      have h1 := mem _ _ _ (hm i j hi' hj)
      obtain ⟨hj', e⟩ := List.getElem?_eq_some_iff.1 hx
      have h2 := hr i j hi' hj'
      rw [e] at h2
      rw [h1, h2.v_inv]
    exact ⟨cell 0 (by omega) _ (by rw [row]; rfl), cell 1 (by omega) _ (by rw [row]; rfl), cell 2 (by omega) _ (by rw [row]; rfl), cell 3 (by omega) _ (by rw [row]; rfl)⟩
theorem list_any {M : Mem} {ρ : Rho} {σ : Sig} {c : Value} {n : Nat} {rs : List (List AV)} (h : Rd M ρ σ c (.list n rs none)) : ∃ p cap, c = .slice p rs.length cap := by
  cases h with
  | nil => exact ⟨_, _, rfl⟩
  | list cf hl => exact ⟨_, _, by rw [hl]⟩
theorem zlQ {M : Mem} {ρ : Rho} {σ : Sig} {c : Value} {l : List AV} (h : Rd M ρ σ c (.agg l)) : ∃ cs : Array Value, c = .agg cs ∧ cs.size = l.length ∧ ∀ i (h : i < cs.size) (h' : i < l.length), Rd M ρ σ cs[i] l[i] := by
  cases h with
  | agg hl h1 hr => exact ⟨_, rfl, hl, hr⟩
theorem zdw (L : List Rl) (e e' : Ev) (h1 : e.ct = e'.ct) (h2 : e.lo = e'.lo) (h3 : e.n = e'.n) (h4 : e.mf = e'.mf) : ∀ k, levN L e k = levN L e' k
  | 0 => rfl
  | k + 1 => by
    unfold levN
    have hm : ∀ r, Zo r e = Zo r e' := fun r => by unfold Zo; rw [h1, h2, h3, h4]
    rw [hm, zdw L e e' h1 h2 h3 h4 k]
theorem ziA (L : List Rl) (di ev : Int) (e e' : Ev) (h1 : e.ct = e'.ct) (h2 : e.lo = e'.lo) (h3 : e.n = e'.n) (h4 : e.mf = e'.mf) : levF L di ev e = levF L di ev e' := by
  unfold levF
  rw [zdw L e e' h1 h2 h3 h4]
abbrev EvT : Type := ByteArray × ByteArray × ByteArray × ByteArray × Int × Int × Int × Int × Int × (List (List AV)) × Int × Int × Int × Int × Int × Int × Int × Int × Int × Int × Int × Int × Int × Int × Int × Unit
abbrev EvCk : List Ck := [.str, .str, .str, .str, .int .i64, .int .i64, .int .i64, .int .i64, .int .i64, .sl 9, .int .i64, .int .i64, .int .i64, .int .i64, .int .i64, .int .i64, .int .i64, .int .i64, .int .i64, .int .i64, .int .i64, .int .i64, .int .i64, .int .i64, .int .i64]
abbrev LvX := (List (List AV)) × Int × Int × EvT
def lvEv (x : LvX) : Ev := ⟨x.2.2.2.1, x.2.2.2.2.1, x.2.2.2.2.2.1, x.2.2.2.2.2.2.1, x.2.2.2.2.2.2.2.1, x.2.2.2.2.2.2.2.2.1, x.2.2.2.2.2.2.2.2.2.1, x.2.2.2.2.2.2.2.2.2.2.1, x.2.2.2.2.2.2.2.2.2.2.2.1, none, x.2.2.2.2.2.2.2.2.2.2.2.2.1.length, 0, x.2.2.2.2.2.2.2.2.2.2.2.2.2.1, x.2.2.2.2.2.2.2.2.2.2.2.2.2.2.1, x.2.2.2.2.2.2.2.2.2.2.2.2.2.2.2.1, x.2.2.2.2.2.2.2.2.2.2.2.2.2.2.2.2.1, x.2.2.2.2.2.2.2.2.2.2.2.2.2.2.2.2.2.1, x.2.2.2.2.2.2.2.2.2.2.2.2.2.2.2.2.2.2.1, x.2.2.2.2.2.2.2.2.2.2.2.2.2.2.2.2.2.2.2.1, x.2.2.2.2.2.2.2.2.2.2.2.2.2.2.2.2.2.2.2.2.1, x.2.2.2.2.2.2.2.2.2.2.2.2.2.2.2.2.2.2.2.2.2.1, x.2.2.2.2.2.2.2.2.2.2.2.2.2.2.2.2.2.2.2.2.2.2.1, x.2.2.2.2.2.2.2.2.2.2.2.2.2.2.2.2.2.2.2.2.2.2.2.1, x.2.2.2.2.2.2.2.2.2.2.2.2.2.2.2.2.2.2.2.2.2.2.2.2.1, x.2.2.2.2.2.2.2.2.2.2.2.2.2.2.2.2.2.2.2.2.2.2.2.2.2.1, x.2.2.2.2.2.2.2.2.2.2.2.2.2.2.2.2.2.2.2.2.2.2.2.2.2.2.1, x.2.2.2.2.2.2.2.2.2.2.2.2.2.2.2.2.2.2.2.2.2.2.2.2.2.2.2.1⟩
noncomputable def F31_s (N : Nat) : FSpec where
  X := LvX
  Y := Int
  ash := [[some 4, none, none], [none, none, none, none, none, none, none, none, none, some 9, none, none, none, none, none, none, none, none, none, none, none, none, none, none, none]]
  bsh := []
  S := ⟨[[none]], [], [], [], []⟩
  bm := false
  pat := fun a b => zj a fun v0 c0 => Z4 v0 fun d0 => zj d0 fun d1 d2 => pLst 4 d1 fun a0 => zj d2 fun d3 d4 => pInt .i64 d3 fun a1 => zj d4 fun d5 d6 => pInt .i64 d5 fun a2 => pEnd d6 <| zj c0 fun v1 c1 => pAgg EvCk v1 fun a3 => pEnd c1 <| pEnd b <| some (a0, a1, a2, a3)
  args := fun x => [(AV.agg [(AV.list 4 x.1 none), (AV.v (.int .i64 x.2.1)), (AV.v (.int .i64 x.2.2.1))]), (AV.agg [(AV.v (.string x.2.2.2.1)), (AV.v (.string x.2.2.2.2.1)), (AV.v (.string x.2.2.2.2.2.1)), (AV.v (.string x.2.2.2.2.2.2.1)), (AV.v (.int .i64 x.2.2.2.2.2.2.2.1)), (AV.v (.int .i64 x.2.2.2.2.2.2.2.2.1)), (AV.v (.int .i64 x.2.2.2.2.2.2.2.2.2.1)), (AV.v (.int .i64 x.2.2.2.2.2.2.2.2.2.2.1)), (AV.v (.int .i64 x.2.2.2.2.2.2.2.2.2.2.2.1)), (AV.list 9 x.2.2.2.2.2.2.2.2.2.2.2.2.1 none), (AV.v (.int .i64 x.2.2.2.2.2.2.2.2.2.2.2.2.2.1)), (AV.v (.int .i64 x.2.2.2.2.2.2.2.2.2.2.2.2.2.2.1)), (AV.v (.int .i64 x.2.2.2.2.2.2.2.2.2.2.2.2.2.2.2.1)), (AV.v (.int .i64 x.2.2.2.2.2.2.2.2.2.2.2.2.2.2.2.2.1)), (AV.v (.int .i64 x.2.2.2.2.2.2.2.2.2.2.2.2.2.2.2.2.2.1)), (AV.v (.int .i64 x.2.2.2.2.2.2.2.2.2.2.2.2.2.2.2.2.2.2.1)), (AV.v (.int .i64 x.2.2.2.2.2.2.2.2.2.2.2.2.2.2.2.2.2.2.2.1)), (AV.v (.int .i64 x.2.2.2.2.2.2.2.2.2.2.2.2.2.2.2.2.2.2.2.2.1)), (AV.v (.int .i64 x.2.2.2.2.2.2.2.2.2.2.2.2.2.2.2.2.2.2.2.2.2.1)), (AV.v (.int .i64 x.2.2.2.2.2.2.2.2.2.2.2.2.2.2.2.2.2.2.2.2.2.2.1)), (AV.v (.int .i64 x.2.2.2.2.2.2.2.2.2.2.2.2.2.2.2.2.2.2.2.2.2.2.2.1)), (AV.v (.int .i64 x.2.2.2.2.2.2.2.2.2.2.2.2.2.2.2.2.2.2.2.2.2.2.2.2.1)), (AV.v (.int .i64 x.2.2.2.2.2.2.2.2.2.2.2.2.2.2.2.2.2.2.2.2.2.2.2.2.2.1)), (AV.v (.int .i64 x.2.2.2.2.2.2.2.2.2.2.2.2.2.2.2.2.2.2.2.2.2.2.2.2.2.2.1)), (AV.v (.int .i64 x.2.2.2.2.2.2.2.2.2.2.2.2.2.2.2.2.2.2.2.2.2.2.2.2.2.2.2.1))])]
  bs := fun x => []
  ret := fun y => ⟨(AV.v (.int .i64 y)), [], none, [], [], []⟩
  t := fun x α k => (match zer x.1 with | some L => (if L.length ≤ 1000000 then (k (levF L x.2.1 x.2.2.1 (lvEv x) : Nat)) else none) | none => none)
noncomputable abbrev F31_d (N : Nat) (x : LvX) : Option Int := (F31_s N).d x
theorem F31_parF (N : Nat) : ParF (F31_s N).t := by
  intro x α β k k' r r' h h1
  revert h
  dsimp only [F31_s]
  (repeat' (first | (with_reducible refine zg ?_ ?_) | (with_reducible refine zc ?_ ?_) | split)) <;> intro h <;> first | exact h1 _ h | (cases h; done)
theorem F31_pat (N : Nat) (a : List AV) (b : List (List AV)) (x : (F31_s N).X) (h : (F31_s N).pat a b = some x) : a = (F31_s N).args x ∧ b = (F31_s N).bs x := by
  obtain ⟨v0, c0, rfl, g0⟩ := zb (show zj _ _ = some x from h)
  obtain ⟨d0, rfl, g1⟩ := zJ g0; clear g0
  obtain ⟨d1, d2, rfl, g2⟩ := zb g1; clear g1
  obtain ⟨a0, rfl, g3⟩ := zy g2; clear g2
  obtain ⟨d3, d4, rfl, g4⟩ := zb g3; clear g3
  obtain ⟨a1, rfl, g5⟩ := zi g4; clear g4
  obtain ⟨d5, d6, rfl, g6⟩ := zb g5; clear g5
  obtain ⟨a2, rfl, g7⟩ := zi g6; clear g6
  obtain ⟨rfl, g8⟩ := ze g7; clear g7
  obtain ⟨v1, c1, rfl, g9⟩ := zb g8; clear g8
  obtain ⟨a3, rfl, g10⟩ := j9 g9; clear g9
  obtain ⟨rfl, g11⟩ := ze g10; clear g10
  obtain ⟨rfl, g12⟩ := ze g11; clear g11
  clear h
  cases g12
  exact ⟨rfl, rfl⟩
set_option maxHeartbeats 1000000 in
theorem level_ok (x : LvX) (L : List Rl) (hL : zer x.1 = some L) (hlen : L.length ≤ 1000000) : CallOk Try.prog 31 [(AV.agg [(AV.list 4 x.1 none), (AV.v (.int .i64 x.2.1)), (AV.v (.int .i64 x.2.2.1))]), (AV.agg [(AV.v (.string x.2.2.2.1)), (AV.v (.string x.2.2.2.2.1)), (AV.v (.string x.2.2.2.2.2.1)), (AV.v (.string x.2.2.2.2.2.2.1)), (AV.v (.int .i64 x.2.2.2.2.2.2.2.1)), (AV.v (.int .i64 x.2.2.2.2.2.2.2.2.1)), (AV.v (.int .i64 x.2.2.2.2.2.2.2.2.2.1)), (AV.v (.int .i64 x.2.2.2.2.2.2.2.2.2.2.1)), (AV.v (.int .i64 x.2.2.2.2.2.2.2.2.2.2.2.1)), (AV.list 9 x.2.2.2.2.2.2.2.2.2.2.2.2.1 none), (AV.v (.int .i64 x.2.2.2.2.2.2.2.2.2.2.2.2.2.1)), (AV.v (.int .i64 x.2.2.2.2.2.2.2.2.2.2.2.2.2.2.1)), (AV.v (.int .i64 x.2.2.2.2.2.2.2.2.2.2.2.2.2.2.2.1)), (AV.v (.int .i64 x.2.2.2.2.2.2.2.2.2.2.2.2.2.2.2.2.1)), (AV.v (.int .i64 x.2.2.2.2.2.2.2.2.2.2.2.2.2.2.2.2.2.1)), (AV.v (.int .i64 x.2.2.2.2.2.2.2.2.2.2.2.2.2.2.2.2.2.2.1)), (AV.v (.int .i64 x.2.2.2.2.2.2.2.2.2.2.2.2.2.2.2.2.2.2.2.1)), (AV.v (.int .i64 x.2.2.2.2.2.2.2.2.2.2.2.2.2.2.2.2.2.2.2.2.1)), (AV.v (.int .i64 x.2.2.2.2.2.2.2.2.2.2.2.2.2.2.2.2.2.2.2.2.2.1)), (AV.v (.int .i64 x.2.2.2.2.2.2.2.2.2.2.2.2.2.2.2.2.2.2.2.2.2.2.1)), (AV.v (.int .i64 x.2.2.2.2.2.2.2.2.2.2.2.2.2.2.2.2.2.2.2.2.2.2.2.1)), (AV.v (.int .i64 x.2.2.2.2.2.2.2.2.2.2.2.2.2.2.2.2.2.2.2.2.2.2.2.2.1)), (AV.v (.int .i64 x.2.2.2.2.2.2.2.2.2.2.2.2.2.2.2.2.2.2.2.2.2.2.2.2.2.1)), (AV.v (.int .i64 x.2.2.2.2.2.2.2.2.2.2.2.2.2.2.2.2.2.2.2.2.2.2.2.2.2.2.1)), (AV.v (.int .i64 x.2.2.2.2.2.2.2.2.2.2.2.2.2.2.2.2.2.2.2.2.2.2.2.2.2.2.2.1))])] [] ⟨(AV.v (.int .i64 (levF L x.2.1 x.2.2.1 (lvEv x) : Nat))), [], none, [], [], []⟩ := by
  refine CallOk.plainT (v := .int .i64 (levF L x.2.1 x.2.2.1 (lvEv x) : Nat)) (fun _ _ _ => .v) ⟨Try.f31, Try.func31, rfl, rfl⟩ fun M w cargs σ hgl mem hsz hr => ?_
  have hs2 : cargs.size = 2 := hsz
  obtain ⟨c0, e0, s0, r0⟩ := zlQ (hr 0 (by omega) (by show 0 < 2; omega))
  obtain ⟨c1, e1, s1, r1⟩ := zlQ (hr 1 (by omega) (by show 1 < 2; omega))
  have s0' : c0.size = 3 := s0
  have s1' : c1.size = 25 := s1
  obtain ⟨q, m, cap, hc, hrow, hm⟩ := list_rl mem (r0 0 (by omega) (by show 0 < 3; omega)) hL
  have h0 : c0 = #[.slice q m cap, .int .i64 x.2.1, .int .i64 x.2.2.1] := by
    refine Array.ext s0' fun i hi hi' => ?_
    rcases (show i = 0 ∨ i = 1 ∨ i = 2 by omega) with rfl | rfl | rfl
    · exact hc
    · exact (r0 1 (by omega) (by show 1 < 3; omega)).v_inv
    · exact (r0 2 (by omega) (by show 2 < 3; omega)).v_inv
  obtain ⟨p, c, hp⟩ := list_any (r1 9 (by omega) (by show 9 < 25; omega))
  have h1 : c1 = #[.string x.2.2.2.1, .string x.2.2.2.2.1, .string x.2.2.2.2.2.1, .string x.2.2.2.2.2.2.1, .int .i64 x.2.2.2.2.2.2.2.1, .int .i64 x.2.2.2.2.2.2.2.2.1, .int .i64 x.2.2.2.2.2.2.2.2.2.1, .int .i64 x.2.2.2.2.2.2.2.2.2.2.1, .int .i64 x.2.2.2.2.2.2.2.2.2.2.2.1, .slice p x.2.2.2.2.2.2.2.2.2.2.2.2.1.length c, .int .i64 x.2.2.2.2.2.2.2.2.2.2.2.2.2.1, .int .i64 x.2.2.2.2.2.2.2.2.2.2.2.2.2.2.1, .int .i64 x.2.2.2.2.2.2.2.2.2.2.2.2.2.2.2.1, .int .i64 x.2.2.2.2.2.2.2.2.2.2.2.2.2.2.2.2.1, .int .i64 x.2.2.2.2.2.2.2.2.2.2.2.2.2.2.2.2.2.1, .int .i64 x.2.2.2.2.2.2.2.2.2.2.2.2.2.2.2.2.2.2.1, .int .i64 x.2.2.2.2.2.2.2.2.2.2.2.2.2.2.2.2.2.2.2.1, .int .i64 x.2.2.2.2.2.2.2.2.2.2.2.2.2.2.2.2.2.2.2.2.1, .int .i64 x.2.2.2.2.2.2.2.2.2.2.2.2.2.2.2.2.2.2.2.2.2.1, .int .i64 x.2.2.2.2.2.2.2.2.2.2.2.2.2.2.2.2.2.2.2.2.2.2.1, .int .i64 x.2.2.2.2.2.2.2.2.2.2.2.2.2.2.2.2.2.2.2.2.2.2.2.1, .int .i64 x.2.2.2.2.2.2.2.2.2.2.2.2.2.2.2.2.2.2.2.2.2.2.2.2.1, .int .i64 x.2.2.2.2.2.2.2.2.2.2.2.2.2.2.2.2.2.2.2.2.2.2.2.2.2.1, .int .i64 x.2.2.2.2.2.2.2.2.2.2.2.2.2.2.2.2.2.2.2.2.2.2.2.2.2.2.1, .int .i64 x.2.2.2.2.2.2.2.2.2.2.2.2.2.2.2.2.2.2.2.2.2.2.2.2.2.2.2.1] := by
    refine Array.ext s1' fun i hi hi' => ?_
    rcases (show i = 0 ∨ i = 1 ∨ i = 2 ∨ i = 3 ∨ i = 4 ∨ i = 5 ∨ i = 6 ∨ i = 7 ∨ i = 8 ∨ i = 9 ∨ i = 10 ∨ i = 11 ∨ i = 12 ∨ i = 13 ∨ i = 14 ∨ i = 15 ∨ i = 16 ∨ i = 17 ∨ i = 18 ∨ i = 19 ∨ i = 20 ∨ i = 21 ∨ i = 22 ∨ i = 23 ∨ i = 24 by omega) with rfl | rfl | rfl | rfl | rfl | rfl | rfl | rfl | rfl | rfl | rfl | rfl | rfl | rfl | rfl | rfl | rfl | rfl | rfl | rfl | rfl | rfl | rfl | rfl | rfl
    · exact (r1 0 (by omega) (by show 0 < 25; omega)).v_inv
    · exact (r1 1 (by omega) (by show 1 < 25; omega)).v_inv
    · exact (r1 2 (by omega) (by show 2 < 25; omega)).v_inv
    · exact (r1 3 (by omega) (by show 3 < 25; omega)).v_inv
    · exact (r1 4 (by omega) (by show 4 < 25; omega)).v_inv
    · exact (r1 5 (by omega) (by show 5 < 25; omega)).v_inv
    · exact (r1 6 (by omega) (by show 6 < 25; omega)).v_inv
    · exact (r1 7 (by omega) (by show 7 < 25; omega)).v_inv
    · exact (r1 8 (by omega) (by show 8 < 25; omega)).v_inv
    · exact hp
    · exact (r1 10 (by omega) (by show 10 < 25; omega)).v_inv
    · exact (r1 11 (by omega) (by show 11 < 25; omega)).v_inv
    · exact (r1 12 (by omega) (by show 12 < 25; omega)).v_inv
    · exact (r1 13 (by omega) (by show 13 < 25; omega)).v_inv
    · exact (r1 14 (by omega) (by show 14 < 25; omega)).v_inv
    · exact (r1 15 (by omega) (by show 15 < 25; omega)).v_inv
    · exact (r1 16 (by omega) (by show 16 < 25; omega)).v_inv
    · exact (r1 17 (by omega) (by show 17 < 25; omega)).v_inv
    · exact (r1 18 (by omega) (by show 18 < 25; omega)).v_inv
    · exact (r1 19 (by omega) (by show 19 < 25; omega)).v_inv
    · exact (r1 20 (by omega) (by show 20 < 25; omega)).v_inv
    · exact (r1 21 (by omega) (by show 21 < 25; omega)).v_inv
    · exact (r1 22 (by omega) (by show 22 < 25; omega)).v_inv
    · exact (r1 23 (by omega) (by show 23 < 25; omega)).v_inv
    · exact (r1 24 (by omega) (by show 24 < 25; omega)).v_inv
  have hcargs : cargs = #[.agg c0, .agg c1] := by
    refine Array.ext hs2 fun i hi hi' => ?_
    rcases (show i = 0 ∨ i = 1 by omega) with rfl | rfl
    · exact e0
    · exact e1
  have hlev := zik L x.2.1 x.2.2.1 q m cap (by omega) (⟨x.2.2.2.1, x.2.2.2.2.1, x.2.2.2.2.2.1, x.2.2.2.2.2.2.1, x.2.2.2.2.2.2.2.1, x.2.2.2.2.2.2.2.2.1, x.2.2.2.2.2.2.2.2.2.1, x.2.2.2.2.2.2.2.2.2.2.1, x.2.2.2.2.2.2.2.2.2.2.2.1, p, x.2.2.2.2.2.2.2.2.2.2.2.2.1.length, c, x.2.2.2.2.2.2.2.2.2.2.2.2.2.1, x.2.2.2.2.2.2.2.2.2.2.2.2.2.2.1, x.2.2.2.2.2.2.2.2.2.2.2.2.2.2.2.1, x.2.2.2.2.2.2.2.2.2.2.2.2.2.2.2.2.1, x.2.2.2.2.2.2.2.2.2.2.2.2.2.2.2.2.2.1, x.2.2.2.2.2.2.2.2.2.2.2.2.2.2.2.2.2.2.1, x.2.2.2.2.2.2.2.2.2.2.2.2.2.2.2.2.2.2.2.1, x.2.2.2.2.2.2.2.2.2.2.2.2.2.2.2.2.2.2.2.2.1, x.2.2.2.2.2.2.2.2.2.2.2.2.2.2.2.2.2.2.2.2.2.1, x.2.2.2.2.2.2.2.2.2.2.2.2.2.2.2.2.2.2.2.2.2.2.1, x.2.2.2.2.2.2.2.2.2.2.2.2.2.2.2.2.2.2.2.2.2.2.2.1, x.2.2.2.2.2.2.2.2.2.2.2.2.2.2.2.2.2.2.2.2.2.2.2.2.1, x.2.2.2.2.2.2.2.2.2.2.2.2.2.2.2.2.2.2.2.2.2.2.2.2.2.1, x.2.2.2.2.2.2.2.2.2.2.2.2.2.2.2.2.2.2.2.2.2.2.2.2.2.2.1, x.2.2.2.2.2.2.2.2.2.2.2.2.2.2.2.2.2.2.2.2.2.2.2.2.2.2.2.1⟩ : Ev) w hrow
  rw [hcargs, h0, h1]
  rw [ziA L x.2.1 x.2.2.1 (lvEv x) (⟨x.2.2.2.1, x.2.2.2.2.1, x.2.2.2.2.2.1, x.2.2.2.2.2.2.1, x.2.2.2.2.2.2.2.1, x.2.2.2.2.2.2.2.2.1, x.2.2.2.2.2.2.2.2.2.1, x.2.2.2.2.2.2.2.2.2.2.1, x.2.2.2.2.2.2.2.2.2.2.2.1, p, x.2.2.2.2.2.2.2.2.2.2.2.2.1.length, c, x.2.2.2.2.2.2.2.2.2.2.2.2.2.1, x.2.2.2.2.2.2.2.2.2.2.2.2.2.2.1, x.2.2.2.2.2.2.2.2.2.2.2.2.2.2.2.1, x.2.2.2.2.2.2.2.2.2.2.2.2.2.2.2.2.1, x.2.2.2.2.2.2.2.2.2.2.2.2.2.2.2.2.2.1, x.2.2.2.2.2.2.2.2.2.2.2.2.2.2.2.2.2.2.1, x.2.2.2.2.2.2.2.2.2.2.2.2.2.2.2.2.2.2.2.1, x.2.2.2.2.2.2.2.2.2.2.2.2.2.2.2.2.2.2.2.2.1, x.2.2.2.2.2.2.2.2.2.2.2.2.2.2.2.2.2.2.2.2.2.1, x.2.2.2.2.2.2.2.2.2.2.2.2.2.2.2.2.2.2.2.2.2.2.1, x.2.2.2.2.2.2.2.2.2.2.2.2.2.2.2.2.2.2.2.2.2.2.2.1, x.2.2.2.2.2.2.2.2.2.2.2.2.2.2.2.2.2.2.2.2.2.2.2.2.1, x.2.2.2.2.2.2.2.2.2.2.2.2.2.2.2.2.2.2.2.2.2.2.2.2.2.1, x.2.2.2.2.2.2.2.2.2.2.2.2.2.2.2.2.2.2.2.2.2.2.2.2.2.2.1, x.2.2.2.2.2.2.2.2.2.2.2.2.2.2.2.2.2.2.2.2.2.2.2.2.2.2.2.1⟩ : Ev) rfl rfl rfl rfl]
  exact hlev
noncomputable def F31_e (N : Nat) : Ent Try.prog where
  f := 31
  F := F31_s N
  ok := fun (x : LvX) y h => by
    have h' : (match zer x.1 with | some L => (if L.length ≤ 1000000 then some (levF L x.2.1 x.2.2.1 (lvEv x) : Int) else none) | none => none) = some y := h
    split at h'
    · rename_i L hL
      split at h'
      · rename_i hlen
        cases h'
        exact level_ok x L hL hlen
      · cases h'
    · cases h'
  hp := F31_pat N
  hsl := fun y => rfl
end Go.Proofs.Ytnnfpoelkdgjdaa
end
section
namespace Go.Proofs.Ytnnfpoelkdgjdaa
open Go.RowKit
set_option linter.unusedVariables false
set_option linter.unusedSimpArgs false
set_option linter.unnecessarySimpa false
set_option maxRecDepth 4000
abbrev RK0 : List Ck := [.str, .str, .str, .str, .int .i64, .int .i64, .int .i64, .int .i64, .int .i64, .sl 9, .int .i64, .int .i64, .int .i64, .int .i64, .int .i64, .int .i64, .int .i64, .int .i64, .int .i64, .int .i64, .int .i64, .int .i64, .int .i64, .int .i64, .int .i64]
abbrev RT0 : Type := ByteArray × ByteArray × ByteArray × ByteArray × Int × Int × Int × Int × Int × (List (List AV)) × Int × Int × Int × Int × Int × Int × Int × Int × Int × Int × Int × Int × Int × Int × Int × Unit
def Rrd0 (c : List AV) : Option RT0 := dec RK0 c
def Ren0 (e : RT0) : List AV := enc RK0 e
theorem ZP (e : RT0) : Rrd0 (Ren0 e) = some e := zak (ks := RK0) e rfl
theorem Rrd0_app (e : RT0) (r : List AV) : Rrd0 (Ren0 e ++ r) = some e := zbM (ks := RK0) e r rfl
theorem zan (e : RT0) : (Ren0 e).length = 25 := zel (ks := RK0) e
abbrev RK1 : List Ck := [.str, .str, .str, .str, .int .i64, .int .i64, .int .i64, .int .i64, .int .i64]
abbrev RT1 : Type := ByteArray × ByteArray × ByteArray × ByteArray × Int × Int × Int × Int × Int × Unit
def Rrd1 (c : List AV) : Option RT1 := dec RK1 c
def Ren1 (e : RT1) : List AV := enc RK1 e
theorem jT (e : RT1) : Rrd1 (Ren1 e) = some e := zak (ks := RK1) e rfl
theorem zhb (e : RT1) (r : List AV) : Rrd1 (Ren1 e ++ r) = some e := zbM (ks := RK1) e r rfl
theorem JF (e : RT1) : (Ren1 e).length = 9 := zel (ks := RK1) e
abbrev RK2 : List Ck := [.str, .str, .str, .str]
abbrev RT2 : Type := ByteArray × ByteArray × ByteArray × ByteArray × Unit
def Ren2 (e : RT2) : List AV := enc RK2 e
def F94_an : Nat → Keep × Keep := anL []
noncomputable def F94_g (N : Nat) : GamK := gam (P := Try.prog) []
noncomputable def zkX (N : Nat) : FSpec where
  X := ByteArray
  Y := Bool
  ash := [[none]]
  bsh := []
  S := ⟨[[none]], [], [], [], []⟩
  bm := false
  pat := fun a b => rdA [.str] [] a b fun ⟨a0, _⟩ _ => a0
  args := fun x => [(AV.v (.string x))]
  bs := fun x => []
  ret := fun y => ⟨(AV.v (.bool y)), [], none, [], [], []⟩
  t := fun x α k => (k (!(x.toList == x.toList)))
noncomputable abbrev F94_d (N : Nat) (x : ByteArray) : Option (Bool) := (zkX N).d x
theorem F94_parF (N : Nat) : ParF (zkX N).t := by
  intro x α β k k' r r' h h1
  revert h
  dsimp only [zkX]
  (repeat' (first | (with_reducible refine zg ?_ ?_) | (with_reducible refine zc ?_ ?_) | split)) <;> intro h <;> first | exact h1 _ h | (cases h; done)
theorem F94_text (N : Nat) : TxOk (zt Try.prog) (F94_g N) F94_an (lam N []) Try.f94 (zkX N) := fun x => by kernel_rfl
noncomputable def F94_e (N : Nat) : Ent Try.prog := zB (zf Try.prog) (zk _) zm 94 Try.f94 Try.func94 rfl F94_an (lam N []) (zp (l := []) an (by kernel_rfl)) (zkX N) (fun _ => ⟨rfl, rfl⟩) (F94_text N) (fun _ _ _ h => zA h (fun _ _ => rfl) (fun _ _ => rfl)) (F94_parF N)
def F92_an : Nat → Keep × Keep := anL []
noncomputable def F92_g (N : Nat) : GamK := gam (P := Try.prog) [F94_e N]
noncomputable def zj6 (N : Nat) : FSpec where
  X := ByteArray × ByteArray
  Y := Int
  ash := [[none], [none]]
  bsh := []
  S := ⟨[[none]], [], [], [], []⟩
  bm := false
  pat := fun a b => rdA [.str, .str] [] a b fun ⟨a0, a1, _⟩ _ => (a0, a1)
  args := fun x => [(AV.v (.string x.1)), (AV.v (.string x.2))]
  bs := fun x => []
  ret := fun y => ⟨(AV.v (.int .i64 y)), [], none, [], [], []⟩
  t := fun x α k => (match F94_d N x.1 with | some y1 => (match F94_d N x.2 with | some y2 => (match y1 with | true => (match y2 with | true => (k 0) | false => (k (-1))) | false => (match y2 with | true => (k 1) | false => (match (Go.Op.bytesLess x.1.toList x.2.toList) with | true => (k (-1)) | false => (match (!((Go.Op.bytesLess x.1.toList x.2.toList) || (x.1.toList == x.2.toList))) with | true => (k 1) | false => (k 0))))) | none => none) | none => none)
noncomputable abbrev F92_d (N : Nat) (x : ByteArray × ByteArray) : Option (Int) := (zj6 N).d x
theorem F92_parF (N : Nat) : ParF (zj6 N).t := by
  intro x α β k k' r r' h h1
  revert h
  dsimp only [zj6]
  (repeat' (first | (with_reducible refine zg ?_ ?_) | (with_reducible refine zc ?_ ?_) | split)) <;> intro h <;> first | exact h1 _ h | (cases h; done)
theorem F92_text (N : Nat) : TxOk (zt Try.prog) (F92_g N) F92_an (lam N []) Try.f92 (zj6 N) := fun x => by kernel_rfl
noncomputable def F92_e (N : Nat) : Ent Try.prog := zB (zf Try.prog) (zk _) zm 92 Try.f92 Try.func92 rfl F92_an (lam N []) (zp (l := []) an (by kernel_rfl)) (zj6 N) (fun _ => ⟨rfl, rfl⟩) (F92_text N) (fun _ _ _ h => zA h (fun _ _ => rfl) (fun _ _ => rfl)) (F92_parF N)
def JV : Nat → Keep × Keep := anL [(5, ⟨[3, 7, 8], [], [], [(6, 1)], [], [], [], [], false⟩, ⟨[2, 3], [], [], [], [], [], [], [], false⟩)]
noncomputable def F81_g (N : Nat) : GamK := gam (P := Try.prog) []
noncomputable def zcp (N : Nat) : LSpec where
  X := (List (List AV)) × Int × Int × Int
  Y := (Int × Int) ⊕ (Int)
  p := fun s => rdS 18 0 [(6, .lst 1), (3, .int .i64), (7, .int .i64), (8, .int .i64)] [] s fun ⟨a0, a1, a2, a3, _⟩ _ => (a0, a1, a2, a3)
  st := fun u5 => mkS 18 [(6, (AV.list 1 u5.1 none)), (3, (AV.v (.int .i64 u5.2.1))), (7, (AV.v (.int .i64 u5.2.2.1))), (8, (AV.v (.int .i64 u5.2.2.2)))] [] (JV 5).1.toks 0
  out := fun y => match y with
    | .inl y => (.ret, mkS 18 [(2, (AV.v (.int .i64 y.1))), (3, (AV.v (.int .i64 y.2)))] [] (JV 5).2.toks 0)
    | .inr y => (.exit 0, mkS 18 [(3, (AV.v (.int .i64 y)))] [] (JV 5).2.toks 0)
  sp := fun y α k => match y with
    | .inl y => k (.ret, mkS 18 [(2, (AV.v (.int .i64 y.1))), (3, (AV.v (.int .i64 y.2)))] [] (JV 5).2.toks 0)
    | .inr y => k (.exit 0, mkS 18 [(3, (AV.v (.int .i64 y)))] [] (JV 5).2.toks 0)
  spe := fun y α k => by rcases y with _ | _ <;> rfl
  b := fun u5 α kn ke => (match (decide (u5.2.2.2 < u5.2.2.1)) with | true => (if 0 ≤ u5.2.2.2 then (match u5.1[u5.2.2.2.toNat]? with | some c1 => (match c1[0]? with | some x2 => (match x2 with | .v (.int q4 n3) => (if q4 = .i64 then (match (n3 != u5.2.1) with | true => (ke (.inl (n3, u5.2.1))) | false => (kn (u5.1, u5.2.1, u5.2.2.1, (i64 (u5.2.2.2 + 1))))) else none) | _ => none) | none => none) | none => none) else none) | false => (ke (.inr u5.2.1)))
noncomputable abbrev F81_d5 (N : Nat) (x : (List (List AV)) × Int × Int × Int) : Option ((Int × Int) ⊕ (Int)) := (zcp N).L N x
noncomputable def zmZ (N : Nat) : FSpec where
  X := (List (List AV))
  Y := Int
  ash := [[some 1]]
  bsh := []
  S := ⟨[[none]], [], [], [], []⟩
  bm := false
  pat := fun a b => rdA [.lst 1] [] a b fun ⟨a0, _⟩ _ => a0
  args := fun x => [(AV.list 1 x none)]
  bs := fun x => []
  ret := fun y => ⟨(AV.v (.int .i64 y)), [], none, [], [], []⟩
  t := fun x α k => (match F81_d5 N (x, 0, (x.length : Int), 0) with | some y5 => (match y5 with | .inl z6 => (k z6.1) | .inr z7 => (k z7)) | none => none)
noncomputable abbrev F81_d (N : Nat) (x : (List (List AV))) : Option (Int) := (zmZ N).d x
noncomputable def zeH (N : Nat) : List (Nat × LSpec) := [(5, zcp N)]
noncomputable def F81_c : Code := Try.f81.body.getD .skip
theorem F81_par5 (N : Nat) : Par (zcp N).b := by
  intro x α β kn ke kn' ke' r r' h h1 h2
  revert h
  dsimp only [zcp]
  (repeat' (first | (with_reducible refine zg ?_ ?_) | (with_reducible refine zc ?_ ?_) | split)) <;> intro h <;> first | exact h1 _ h | exact h2 _ h | (cases h; done)
theorem zk3 (N : Nat) : BdOk (zt Try.prog) (F81_g N) JV N (zeH N) 5 F81_c (zcp N) := fun x α kn ke => by kernel_rfl
theorem zl9 (N : Nat) : LpOk Try.prog JV N (zeH N) 5 (zd 5 F81_c) :=
  zE (zf Try.prog) (zk _) zm JV N (zeH N) 5 F81_c (l := []) (by kernel_rfl) (by kernel_rfl) an (zcp N) rfl (fun s x hc h => by dsimp only [zcp] at h; exact zH hc h (fun _ _ => rfl) rfl rfl) (fun _ => rfl) (zk3 N) (F81_par5 N)
theorem F81_parF (N : Nat) : ParF (zmZ N).t := by
  intro x α β k k' r r' h h1
  revert h
  dsimp only [zmZ]
  (repeat' (first | (with_reducible refine zg ?_ ?_) | (with_reducible refine zc ?_ ?_) | split)) <;> intro h <;> first | exact h1 _ h | (cases h; done)
theorem F81_text (N : Nat) : TxOk (zt Try.prog) (F81_g N) JV (lam N (zeH N)) Try.f81 (zmZ N) := fun x => by kernel_rfl
noncomputable def F81_e (N : Nat) : Ent Try.prog := zB (zf Try.prog) (zk _) zm 81 Try.f81 Try.func81 rfl JV (lam N (zeH N)) (zp (l := [(5, zd 5 F81_c)]) (al (zl9 N) an) (by kernel_rfl)) (zmZ N) (fun _ => ⟨rfl, rfl⟩) (F81_text N) (fun _ _ _ h => zA h (fun _ _ => rfl) (fun _ _ => rfl)) (F81_parF N)
def F89_an : Nat → Keep × Keep := anL []
noncomputable def F89_g (N : Nat) : GamK := gam (P := Try.prog) [F92_e N, F81_e N]
noncomputable def zmh (N : Nat) : FSpec where
  X := RT2 × RT2
  Y := Int
  ash := [[none, none, none, none], [none, none, none, none]]
  bsh := []
  S := ⟨[[none]], [], [], [], []⟩
  bm := false
  pat := fun a b => rdA [.agg RK2, .agg RK2] [] a b fun ⟨a0, a1, _⟩ _ => (a0, a1)
  args := fun x => [(AV.agg (Ren2 x.1)), (AV.agg (Ren2 x.2))]
  bs := fun x => []
  ret := fun y => ⟨(AV.v (.int .i64 y)), [], none, [], [], []⟩
  t := fun x α k => (match F92_d N (x.1.1, x.2.1) with | some y1 => (match F92_d N (x.1.2.1, x.2.2.1) with | some y2 => (match F92_d N (x.1.2.2.1, x.2.2.2.1) with | some y3 => (match F92_d N (x.1.2.2.2.1, x.2.2.2.2.1) with | some y4 => (match F81_d N ([[(AV.v (.int .i64 y1))], [(AV.v (.int .i64 y2))], [(AV.v (.int .i64 y3))], [(AV.v (.int .i64 y4))]]) with | some y5 => (k y5) | none => none) | none => none) | none => none) | none => none) | none => none)
noncomputable abbrev F89_d (N : Nat) (x : RT2 × RT2) : Option (Int) := (zmh N).d x
theorem F89_parF (N : Nat) : ParF (zmh N).t := by
  intro x α β k k' r r' h h1
  revert h
  dsimp only [zmh]
  (repeat' (first | (with_reducible refine zg ?_ ?_) | (with_reducible refine zc ?_ ?_) | split)) <;> intro h <;> first | exact h1 _ h | (cases h; done)
theorem F89_text (N : Nat) : TxOk (zt Try.prog) (F89_g N) F89_an (lam N []) Try.f89 (zmh N) := fun x => by kernel_rfl
noncomputable def F89_e (N : Nat) : Ent Try.prog := zB (zf Try.prog) (zk _) zm 89 Try.f89 Try.func89 rfl F89_an (lam N []) (zp (l := []) an (by kernel_rfl)) (zmh N) (fun _ => ⟨rfl, rfl⟩) (F89_text N) (fun _ _ _ h => zA h (fun _ _ => rfl) (fun _ _ => rfl)) (F89_parF N)
@[reducible] def zd5 (e : RT1) : RT2 := (e.1, e.2.1, e.2.2.1, e.2.2.2.1, ())
def F90_an : Nat → Keep × Keep := anL []
noncomputable def F90_g (N : Nat) : GamK := gam (P := Try.prog) []
noncomputable def zlx (N : Nat) : FSpec where
  X := Int
  Y := Bool
  ash := [[none]]
  bsh := []
  S := ⟨[[none]], [], [], [], []⟩
  bm := false
  pat := fun a b => rdA [.int .i64] [] a b fun ⟨a0, _⟩ _ => a0
  args := fun x => [(AV.v (.int .i64 x))]
  bs := fun x => []
  ret := fun y => ⟨(AV.v (.bool y)), [], none, [], [], []⟩
  t := fun x α k => (k (x != x))
noncomputable abbrev F90_d (N : Nat) (x : Int) : Option (Bool) := (zlx N).d x
theorem F90_parF (N : Nat) : ParF (zlx N).t := by
  intro x α β k k' r r' h h1
  revert h
  dsimp only [zlx]
  (repeat' (first | (with_reducible refine zg ?_ ?_) | (with_reducible refine zc ?_ ?_) | split)) <;> intro h <;> first | exact h1 _ h | (cases h; done)
theorem F90_text (N : Nat) : TxOk (zt Try.prog) (F90_g N) F90_an (lam N []) Try.f90 (zlx N) := fun x => by kernel_rfl
noncomputable def F90_e (N : Nat) : Ent Try.prog := zB (zf Try.prog) (zk _) zm 90 Try.f90 Try.func90 rfl F90_an (lam N []) (zp (l := []) an (by kernel_rfl)) (zlx N) (fun _ => ⟨rfl, rfl⟩) (F90_text N) (fun _ _ _ h => zA h (fun _ _ => rfl) (fun _ _ => rfl)) (F90_parF N)
def F82_an : Nat → Keep × Keep := anL []
noncomputable def F82_g (N : Nat) : GamK := gam (P := Try.prog) [F90_e N]
noncomputable def zkc (N : Nat) : FSpec where
  X := Int × Int
  Y := Int
  ash := [[none], [none]]
  bsh := []
  S := ⟨[[none]], [], [], [], []⟩
  bm := false
  pat := fun a b => rdA [.int .i64, .int .i64] [] a b fun ⟨a0, a1, _⟩ _ => (a0, a1)
  args := fun x => [(AV.v (.int .i64 x.1)), (AV.v (.int .i64 x.2))]
  bs := fun x => []
  ret := fun y => ⟨(AV.v (.int .i64 y)), [], none, [], [], []⟩
  t := fun x α k => (match F90_d N x.1 with | some y1 => (match F90_d N x.2 with | some y2 => (match y1 with | true => (match y2 with | true => (k 0) | false => (k (-1))) | false => (match y2 with | true => (k 1) | false => (match (decide (x.1 < x.2)) with | true => (k (-1)) | false => (match (decide (x.1 > x.2)) with | true => (k 1) | false => (k 0))))) | none => none) | none => none)
noncomputable abbrev zib (N : Nat) (x : Int × Int) : Option (Int) := (zkc N).d x
theorem F82_parF (N : Nat) : ParF (zkc N).t := by
  intro x α β k k' r r' h h1
  revert h
  dsimp only [zkc]
  (repeat' (first | (with_reducible refine zg ?_ ?_) | (with_reducible refine zc ?_ ?_) | split)) <;> intro h <;> first | exact h1 _ h | (cases h; done)
theorem F82_text (N : Nat) : TxOk (zt Try.prog) (F82_g N) F82_an (lam N []) Try.f82 (zkc N) := fun x => by kernel_rfl
noncomputable def F82_e (N : Nat) : Ent Try.prog := zB (zf Try.prog) (zk _) zm 82 Try.f82 Try.func82 rfl F82_an (lam N []) (zp (l := []) an (by kernel_rfl)) (zkc N) (fun _ => ⟨rfl, rfl⟩) (F82_text N) (fun _ _ _ h => zA h (fun _ _ => rfl) (fun _ _ => rfl)) (F82_parF N)
def F79_an : Nat → Keep × Keep := anL []
noncomputable def F79_g (N : Nat) : GamK := gam (P := Try.prog) [F89_e N, F82_e N, F81_e N]
noncomputable def zlV (N : Nat) : FSpec where
  X := RT1 × RT1
  Y := Int
  ash := [[none, none, none, none, none, none, none, none, none], [none, none, none, none, none, none, none, none, none]]
  bsh := []
  S := ⟨[[none]], [], [], [], []⟩
  bm := false
  pat := fun a b => rdA [.agg RK1, .agg RK1] [] a b fun ⟨a0, a1, _⟩ _ => (a0, a1)
  args := fun x => [(AV.agg (Ren1 x.1)), (AV.agg (Ren1 x.2))]
  bs := fun x => []
  ret := fun y => ⟨(AV.v (.int .i64 y)), [], none, [], [], []⟩
  t := fun x α k => (match F89_d N ((zd5 x.1), (zd5 x.2)) with | some y1 => (match zib N (x.1.2.2.2.2.1, x.2.2.2.2.2.1) with | some y2 => (match zib N (x.1.2.2.2.2.2.1, x.2.2.2.2.2.2.1) with | some y3 => (match zib N (x.1.2.2.2.2.2.2.1, x.2.2.2.2.2.2.2.1) with | some y4 => (match zib N (x.1.2.2.2.2.2.2.2.1, x.2.2.2.2.2.2.2.2.1) with | some y5 => (match zib N (x.1.2.2.2.2.2.2.2.2.1, x.2.2.2.2.2.2.2.2.2.1) with | some y6 => (match F81_d N ([[(AV.v (.int .i64 y1))], [(AV.v (.int .i64 y2))], [(AV.v (.int .i64 y3))], [(AV.v (.int .i64 y4))], [(AV.v (.int .i64 y5))], [(AV.v (.int .i64 y6))]]) with | some y7 => (k y7) | none => none) | none => none) | none => none) | none => none) | none => none) | none => none) | none => none)
noncomputable abbrev F79_d (N : Nat) (x : RT1 × RT1) : Option (Int) := (zlV N).d x
theorem F79_parF (N : Nat) : ParF (zlV N).t := by
  intro x α β k k' r r' h h1
  revert h
  dsimp only [zlV]
  (repeat' (first | (with_reducible refine zg ?_ ?_) | (with_reducible refine zc ?_ ?_) | split)) <;> intro h <;> first | exact h1 _ h | (cases h; done)
theorem F79_text (N : Nat) : TxOk (zt Try.prog) (F79_g N) F79_an (lam N []) Try.f79 (zlV N) := fun x => by kernel_rfl
noncomputable def F79_e (N : Nat) : Ent Try.prog := zB (zf Try.prog) (zk _) zm 79 Try.f79 Try.func79 rfl F79_an (lam N []) (zp (l := []) an (by kernel_rfl)) (zlV N) (fun _ => ⟨rfl, rfl⟩) (F79_text N) (fun _ _ _ h => zA h (fun _ _ => rfl) (fun _ _ => rfl)) (F79_parF N)
def JY : Nat → Keep × Keep := anL [(4, ⟨[3], [], [], [(0, 9)], [], [], [], [], false⟩, ⟨[2], [], [], [], [], [], [], [], false⟩)]
noncomputable def F66_g (N : Nat) : GamK := gam (P := Try.prog) [F79_e N]
noncomputable def zcj (N : Nat) : LSpec where
  X := (List (List AV)) × Int
  Y := (Bool) ⊕ (Unit)
  p := fun s => rdS 21 0 [(0, .lst 9), (3, .int .i64)] [] s fun ⟨a0, a1, _⟩ _ => (a0, a1)
  st := fun u4 => mkS 21 [(0, (AV.list 9 u4.1 none)), (3, (AV.v (.int .i64 u4.2)))] [] (JY 4).1.toks 0
  out := fun y => match y with
    | .inl y => (.ret, mkS 21 [(2, (AV.v (.bool y)))] [] (JY 4).2.toks 0)
    | .inr y => (.exit 0, mkS 21 [] [] (JY 4).2.toks 0)
  sp := fun y α k => match y with
    | .inl y => k (.ret, mkS 21 [(2, (AV.v (.bool y)))] [] (JY 4).2.toks 0)
    | .inr y => k (.exit 0, mkS 21 [] [] (JY 4).2.toks 0)
  spe := fun y α k => by rcases y with _ | _ <;> rfl
  b := fun u4 α kn ke => (match (decide (u4.2 < (u4.1.length : Int))) with | true => (if 0 ≤ (i64 (u4.2 - 1)) then (match u4.1[(i64 (u4.2 - 1)).toNat]? with | some c1 => (match Rrd1 c1 with | some e2 => (if 0 ≤ u4.2 then (match u4.1[u4.2.toNat]? with | some c3 => (match Rrd1 c3 with | some e4 => (match F79_d N (e2, e4) with | some y5 => (match (decide (y5 ≥ 0)) with | true => (ke (.inl false)) | false => (kn (u4.1, (i64 (u4.2 + 1))))) | none => none) | none => none) | none => none) else none) | none => none) | none => none) else none) | false => (ke (.inr ())))
noncomputable abbrev F66_d4 (N : Nat) (x : (List (List AV)) × Int) : Option ((Bool) ⊕ (Unit)) := (zcj N).L N x
noncomputable def zjD (N : Nat) : FSpec where
  X := (List (List AV))
  Y := Bool
  ash := [[some 9]]
  bsh := []
  S := ⟨[[none]], [], [], [], []⟩
  bm := false
  pat := fun a b => rdA [.lst 9] [] a b fun ⟨a0, _⟩ _ => a0
  args := fun x => [(AV.list 9 x none)]
  bs := fun x => []
  ret := fun y => ⟨(AV.v (.bool y)), [], none, [], [], []⟩
  t := fun x α k => (match F66_d4 N (x, 1) with | some y6 => (match y6 with | .inl z7 => (k z7) | .inr z8 => (k true)) | none => none)
noncomputable abbrev F66_d (N : Nat) (x : (List (List AV))) : Option (Bool) := (zjD N).d x
noncomputable def zey (N : Nat) : List (Nat × LSpec) := [(4, zcj N)]
noncomputable def F66_c : Code := Try.f66.body.getD .skip
theorem F66_par4 (N : Nat) : Par (zcj N).b := by
  intro x α β kn ke kn' ke' r r' h h1 h2
  revert h
  dsimp only [zcj]
  (repeat' (first | (with_reducible refine zg ?_ ?_) | (with_reducible refine zc ?_ ?_) | split)) <;> intro h <;> first | exact h1 _ h | exact h2 _ h | (cases h; done)
theorem zl4 (N : Nat) : BdOk (zt Try.prog) (F66_g N) JY N (zey N) 4 F66_c (zcj N) := fun x α kn ke => by kernel_rfl
theorem zlh (N : Nat) : LpOk Try.prog JY N (zey N) 4 (zd 4 F66_c) :=
  zE (zf Try.prog) (zk _) zm JY N (zey N) 4 F66_c (l := []) (by kernel_rfl) (by kernel_rfl) an (zcj N) rfl (fun s x hc h => by dsimp only [zcj] at h; exact zH hc h (fun _ _ => rfl) rfl rfl) (fun _ => rfl) (zl4 N) (F66_par4 N)
theorem F66_parF (N : Nat) : ParF (zjD N).t := by
  intro x α β k k' r r' h h1
  revert h
  dsimp only [zjD]
  (repeat' (first | (with_reducible refine zg ?_ ?_) | (with_reducible refine zc ?_ ?_) | split)) <;> intro h <;> first | exact h1 _ h | (cases h; done)
theorem F66_text (N : Nat) : TxOk (zt Try.prog) (F66_g N) JY (lam N (zey N)) Try.f66 (zjD N) := fun x => by kernel_rfl
noncomputable def F66_e (N : Nat) : Ent Try.prog := zB (zf Try.prog) (zk _) zm 66 Try.f66 Try.func66 rfl JY (lam N (zey N)) (zp (l := [(4, zd 4 F66_c)]) (al (zlh N) an) (by kernel_rfl)) (zjD N) (fun _ => ⟨rfl, rfl⟩) (F66_text N) (fun _ _ _ h => zA h (fun _ _ => rfl) (fun _ _ => rfl)) (F66_parF N)
def F68_an : Nat → Keep × Keep := anL []
noncomputable def F68_g (N : Nat) : GamK := gam (P := Try.prog) [F82_e N, F79_e N, F81_e N]
noncomputable def zjP (N : Nat) : FSpec where
  X := RT1 × RT1
  Y := Int
  ash := [[none, none, none, none, none, none, none, none, none], [none, none, none, none, none, none, none, none, none]]
  bsh := []
  S := ⟨[[none]], [], [], [], []⟩
  bm := false
  pat := fun a b => rdA [.agg RK1, .agg RK1] [] a b fun ⟨a0, a1, _⟩ _ => (a0, a1)
  args := fun x => [(AV.agg (Ren1 x.1)), (AV.agg (Ren1 x.2))]
  bs := fun x => []
  ret := fun y => ⟨(AV.v (.int .i64 y)), [], none, [], [], []⟩
  t := fun x α k => (match zib N (x.1.2.2.2.2.1, x.2.2.2.2.2.1) with | some y1 => (match F79_d N x with | some y2 => (match F81_d N ([[(AV.v (.int .i64 y1))], [(AV.v (.int .i64 y2))]]) with | some y3 => (k y3) | none => none) | none => none) | none => none)
noncomputable abbrev F68_d (N : Nat) (x : RT1 × RT1) : Option (Int) := (zjP N).d x
theorem F68_parF (N : Nat) : ParF (zjP N).t := by
  intro x α β k k' r r' h h1
  revert h
  dsimp only [zjP]
  (repeat' (first | (with_reducible refine zg ?_ ?_) | (with_reducible refine zc ?_ ?_) | split)) <;> intro h <;> first | exact h1 _ h | (cases h; done)
theorem F68_text (N : Nat) : TxOk (zt Try.prog) (F68_g N) F68_an (lam N []) Try.f68 (zjP N) := fun x => by kernel_rfl
noncomputable def F68_e (N : Nat) : Ent Try.prog := zB (zf Try.prog) (zk _) zm 68 Try.f68 Try.func68 rfl F68_an (lam N []) (zp (l := []) an (by kernel_rfl)) (zjP N) (fun _ => ⟨rfl, rfl⟩) (F68_text N) (fun _ _ _ h => zA h (fun _ _ => rfl) (fun _ _ => rfl)) (F68_parF N)
def zal : Nat → Keep × Keep := anL [(8, ⟨[1, 4, 5, 6], [], [4, 5], [(0, 9)], [], [], [], [], false⟩, ⟨[4, 5], [], [4, 5], [], [], [], [], [], false⟩)]
noncomputable def F80_g (N : Nat) : GamK := gam (P := Try.prog) [F68_e N]
noncomputable def zaq (N : Nat) : LSpec where
  X := (List (List AV)) × Int × RT1 × RT1
  Y := (RT1 × RT1)
  p := fun s => pNat s.env.length 33 <| pNat s.nin 0 <| pLst 9 (s.at 0) fun a0 => pFn 68 (s.at 1) fun c4 c5 => pEnd c4 <| pEnd c5 <| pPtr 4 0 (s.at 4) <| pPtr 5 0 (s.at 5) <| pInt .i64 (s.at 6) fun a1 => zT (s.bx 4) fun c10 => pRow RK1 c10 fun a2 => zT (s.bx 5) fun c12 => pRow RK1 c12 fun a3 => some (a0, a1, a2, a3)
  st := fun u8 => mkS 33 [(0, (AV.list 9 u8.1 none)), (1, (AV.fn (.func 68) [] [])), (4, (AV.ptr 4 0)), (5, (AV.ptr 5 0)), (6, (AV.v (.int .i64 u8.2.1)))] [(4, (Ren1 u8.2.2.1)), (5, (Ren1 u8.2.2.2))] (zal 8).1.toks 0
  out := fun y => (.exit 0, mkS 33 [(4, (AV.ptr 4 0)), (5, (AV.ptr 5 0))] [(4, (Ren1 y.1)), (5, (Ren1 y.2))] (zal 8).2.toks 0)
  sp := fun y α k => k (.exit 0, mkS 33 [(4, (AV.ptr 4 0)), (5, (AV.ptr 5 0))] [(4, (Ren1 y.1)), (5, (Ren1 y.2))] (zal 8).2.toks 0)
  spe := fun y α k => rfl
  b := fun u8 α kn ke => (match (decide (u8.2.1 < (u8.1.length : Int))) with | true => (if 0 ≤ u8.2.1 then (match u8.1[u8.2.1.toNat]? with | some c8 => (match Rrd1 c8 with | some e9 => (match F68_d N (e9, u8.2.2.2) with | some y10 => (match (decide (y10 < 0)) with | true => (if 0 ≤ u8.2.1 then (match u8.1[u8.2.1.toNat]? with | some c11 => (match Rrd1 c11 with | some e12 => (kn (u8.1, (i64 (u8.2.1 + 1)), u8.2.2.1, e12)) | none => none) | none => none) else none) | false => (kn (u8.1, (i64 (u8.2.1 + 1)), u8.2.2))) | none => none) | none => none) | none => none) else none) | false => (ke u8.2.2))
noncomputable abbrev F80_d8 (N : Nat) (x : (List (List AV)) × Int × RT1 × RT1) : Option ((RT1 × RT1)) := (zaq N).L N x
noncomputable def zd7 (N : Nat) : FSpec where
  X := (List (List AV))
  Y := RT1
  ash := [[some 9], [none]]
  bsh := []
  S := ⟨[[none, none, none, none, none, none, none, none, none]], [], [], [], []⟩
  bm := false
  pat := fun a b => zj a fun v1 c2 => pLst 9 v1 fun a0 => zj c2 fun v3 c4 => pFn 68 v3 fun c5 c6 => pEnd c5 <| pEnd c6 <| pEnd c4 <| pEnd b <| some a0
  args := fun x => [(AV.list 9 x none), (AV.fn (.func 68) [] [])]
  bs := fun x => []
  ret := fun y => ⟨(AV.agg (Ren1 y)), [], none, [], [], []⟩
  t := fun x α k => (match (decide ((x.length : Int) < 1)) with | true => none | false => (if 0 ≤ (0 : Int) then (match x[(0 : Int).toNat]? with | some c1 => (match Rrd1 c1 with | some e2 => (match F80_d8 N (x, 1, ((⟨#[]⟩ : ByteArray), (⟨#[]⟩ : ByteArray), (⟨#[]⟩ : ByteArray), (⟨#[]⟩ : ByteArray), 0, 0, 0, 0, 0, ()), e2) with | some y13 => (k y13.2) | none => none) | none => none) | none => none) else none))
noncomputable abbrev F80_d (N : Nat) (x : (List (List AV))) : Option (RT1) := (zd7 N).d x
noncomputable def zfb (N : Nat) : List (Nat × LSpec) := [(8, zaq N)]
noncomputable def F80_c : Code := Try.f80.body.getD .skip
theorem F80_par8 (N : Nat) : Par (zaq N).b := by
  intro x α β kn ke kn' ke' r r' h h1 h2
  revert h
  dsimp only [zaq]
  (repeat' (first | (with_reducible refine zg ?_ ?_) | (with_reducible refine zc ?_ ?_) | split)) <;> intro h <;> first | exact h1 _ h | exact h2 _ h | (cases h; done)
theorem zkk (N : Nat) : BdOk (zt Try.prog) (F80_g N) zal N (zfb N) 8 F80_c (zaq N) := fun x α kn ke => by kernel_rfl
theorem F80_pat8 (N : Nat) (s : AS) (x : (zaq N).X) (hc : s = Zp (zal 8).1 s) (h : (zaq N).p s = some x) : s = (zaq N).st x := by
  replace h : pNat _ _ _ = some x := h
  obtain ⟨h1, g0⟩ := zS h
  obtain ⟨h2, g1⟩ := zS g0; clear g0
  obtain ⟨a0, h3, g2⟩ := zy g1; clear g1
  obtain ⟨c4, c5, h6, g3⟩ := jf g2; clear g2
  obtain ⟨rfl, g4⟩ := ze g3; clear g3
  obtain ⟨rfl, g5⟩ := ze g4; clear g4
  obtain ⟨h7, g6⟩ := zo g5; clear g5
  obtain ⟨h8, g7⟩ := zo g6; clear g6
  obtain ⟨a1, h9, g8⟩ := zi g7; clear g7
  obtain ⟨c10, h11, g9⟩ := zr g8; clear g8
  obtain ⟨a2, rfl, g10⟩ := zca g9; clear g9
  obtain ⟨c12, h13, g11⟩ := zr g10; clear g10
  obtain ⟨a3, rfl, g12⟩ := zca g11; clear g11
  clear h
  cases g12
  exact Zt hc h1 h2 rfl rfl rfl ⟨h3, h6, h7, h8, h9, trivial⟩ ⟨h11, h13, trivial⟩
theorem zlg (N : Nat) : LpOk Try.prog zal N (zfb N) 8 (zd 8 F80_c) :=
  zE (zf Try.prog) (zk _) zm zal N (zfb N) 8 F80_c (l := []) (by kernel_rfl) (by kernel_rfl) an (zaq N) rfl (F80_pat8 N) (fun _ => rfl) (zkk N) (F80_par8 N)
theorem F80_parF (N : Nat) : ParF (zd7 N).t := by
  intro x α β k k' r r' h h1
  revert h
  dsimp only [zd7]
  (repeat' (first | (with_reducible refine zg ?_ ?_) | (with_reducible refine zc ?_ ?_) | split)) <;> intro h <;> first | exact h1 _ h | (cases h; done)
theorem F80_text (N : Nat) : TxOk (zt Try.prog) (F80_g N) zal (lam N (zfb N)) Try.f80 (zd7 N) := fun x => by kernel_rfl
theorem F80_pat (N : Nat) (a : List AV) (b : List (List AV)) (x : (zd7 N).X) (h : (zd7 N).pat a b = some x) : a = (zd7 N).args x ∧ b = (zd7 N).bs x := by
  obtain ⟨v1, c2, rfl, g0⟩ := zb (show zj _ _ = some x from h)
  obtain ⟨a0, rfl, g1⟩ := zy g0; clear g0
  obtain ⟨v3, c4, rfl, g2⟩ := zb g1; clear g1
  obtain ⟨c5, c6, rfl, g3⟩ := jf g2; clear g2
  obtain ⟨rfl, g4⟩ := ze g3; clear g3
  obtain ⟨rfl, g5⟩ := ze g4; clear g4
  obtain ⟨rfl, g6⟩ := ze g5; clear g5
  obtain ⟨rfl, g7⟩ := ze g6; clear g6
  clear h
  cases g7
  exact ⟨rfl, rfl⟩
noncomputable def F80_e (N : Nat) : Ent Try.prog := zB (zf Try.prog) (zk _) zm 80 Try.f80 Try.func80 rfl zal (lam N (zfb N)) (zp (l := [(8, zd 8 F80_c)]) (al (zlg N) an) (by kernel_rfl)) (zd7 N) (fun _ => ⟨rfl, rfl⟩) (F80_text N) (F80_pat N) (F80_parF N)
def F67_an : Nat → Keep × Keep := anL []
noncomputable def F67_g (N : Nat) : GamK := gam (P := Try.prog) [F80_e N]
noncomputable def zjX (N : Nat) : FSpec where
  X := (List (List AV))
  Y := RT1
  ash := [[some 9]]
  bsh := []
  S := ⟨[[none, none, none, none, none, none, none, none, none]], [], [], [], []⟩
  bm := false
  pat := fun a b => rdA [.lst 9] [] a b fun ⟨a0, _⟩ _ => a0
  args := fun x => [(AV.list 9 x none)]
  bs := fun x => []
  ret := fun y => ⟨(AV.agg (Ren1 y)), [], none, [], [], []⟩
  t := fun x α k => (match ((x.length : Int) == 0) with | true => (k ((⟨#[]⟩ : ByteArray), (⟨#[]⟩ : ByteArray), (⟨#[]⟩ : ByteArray), (⟨#[]⟩ : ByteArray), 0, 0, 0, 0, 0, ())) | false => (match F80_d N x with | some y1 => (k y1) | none => none))
noncomputable abbrev F67_d (N : Nat) (x : (List (List AV))) : Option (RT1) := (zjX N).d x
theorem F67_parF (N : Nat) : ParF (zjX N).t := by
  intro x α β k k' r r' h h1
  revert h
  dsimp only [zjX]
  (repeat' (first | (with_reducible refine zg ?_ ?_) | (with_reducible refine zc ?_ ?_) | split)) <;> intro h <;> first | exact h1 _ h | (cases h; done)
theorem F67_text (N : Nat) : TxOk (zt Try.prog) (F67_g N) F67_an (lam N []) Try.f67 (zjX N) := fun x => by kernel_rfl
noncomputable def F67_e (N : Nat) : Ent Try.prog := zB (zf Try.prog) (zk _) zm 67 Try.f67 Try.func67 rfl F67_an (lam N []) (zp (l := []) an (by kernel_rfl)) (zjX N) (fun _ => ⟨rfl, rfl⟩) (F67_text N) (fun _ _ _ h => zA h (fun _ _ => rfl) (fun _ _ => rfl)) (F67_parF N)
@[reducible] def zf0 (e : RT0) : RT1 := (e.1, e.2.1, e.2.2.1, e.2.2.2.1, e.2.2.2.2.1, e.2.2.2.2.2.1, e.2.2.2.2.2.2.1, e.2.2.2.2.2.2.2.1, e.2.2.2.2.2.2.2.2.1, ())
def Z7 : Nat → Keep × Keep := anL [(5, ⟨[3, 13, 14], [], [1500011], [(0, 25), (12, 25)], [], [], [], [], false⟩, ⟨[2], [], [], [], [], [], [], [], false⟩), (19, ⟨[3, 13, 14, 54, 55], [], [1500011], [(0, 25), (12, 25), (53, 9)], [], [], [], [], false⟩, ⟨[2, 3, 13, 14], [], [1500011], [(0, 25), (12, 25)], [], [], [], [], false⟩)]
noncomputable def F44_g (N : Nat) : GamK := gam (P := Try.prog) [F66_e N, F67_e N, F68_e N]
noncomputable def ZH (N : Nat) : LSpec where
  X := (List (List AV)) × (List (List AV)) × (List (List AV)) × Int × Int × Int × Int × (List (List AV))
  Y := ((List (List AV)) × (List (List AV)) × Bool × Int × Int × (List (List AV))) ⊕ ((List (List AV)) × (List (List AV)) × Int × Int × (List (List AV)))
  p := fun s => rdS 71 0 [(0, .lst 25), (12, .lst 25), (53, .lst 9), (3, .mref 1500011), (13, .int .i64), (14, .int .i64), (54, .int .i64), (55, .int .i64)] [(1500011, .mp (MK.mk true true [.str, .str, .str, .str, .int .i64, .int .i64, .int .i64, .int .i64, .int .i64] []))] s fun ⟨a0, a1, a2, _, a3, a4, a5, a6, _⟩ ⟨a7, _⟩ => (a0, a1, a2, a3, a4, a5, a6, a7)
  st := fun u19 => mkS 71 [(0, (AV.list 25 u19.1 none)), (12, (AV.list 25 u19.2.1 none)), (53, (AV.list 9 u19.2.2.1 none)), (3, (AV.mref 1500011)), (13, (AV.v (.int .i64 u19.2.2.2.1))), (14, (AV.v (.int .i64 u19.2.2.2.2.1))), (54, (AV.v (.int .i64 u19.2.2.2.2.2.1))), (55, (AV.v (.int .i64 u19.2.2.2.2.2.2.1)))] [(1500011, [(AV.mp (MK.mk true true [.str, .str, .str, .str, .int .i64, .int .i64, .int .i64, .int .i64, .int .i64] []) u19.2.2.2.2.2.2.2)])] (Z7 19).1.toks 0
  out := fun y => match y with
    | .inl y => (.ret, mkS 71 [(0, (AV.list 25 y.1 none)), (12, (AV.list 25 y.2.1 none)), (2, (AV.v (.bool y.2.2.1))), (3, (AV.mref 1500011)), (13, (AV.v (.int .i64 y.2.2.2.1))), (14, (AV.v (.int .i64 y.2.2.2.2.1)))] [(1500011, [(AV.mp (MK.mk true true [.str, .str, .str, .str, .int .i64, .int .i64, .int .i64, .int .i64, .int .i64] []) y.2.2.2.2.2)])] (Z7 19).2.toks 0)
    | .inr y => (.exit 2, mkS 71 [(0, (AV.list 25 y.1 none)), (12, (AV.list 25 y.2.1 none)), (3, (AV.mref 1500011)), (13, (AV.v (.int .i64 y.2.2.1))), (14, (AV.v (.int .i64 y.2.2.2.1)))] [(1500011, [(AV.mp (MK.mk true true [.str, .str, .str, .str, .int .i64, .int .i64, .int .i64, .int .i64, .int .i64] []) y.2.2.2.2)])] (Z7 19).2.toks 0)
  sp := fun y α k => match y with
    | .inl y => k (.ret, mkS 71 [(0, (AV.list 25 y.1 none)), (12, (AV.list 25 y.2.1 none)), (2, (AV.v (.bool y.2.2.1))), (3, (AV.mref 1500011)), (13, (AV.v (.int .i64 y.2.2.2.1))), (14, (AV.v (.int .i64 y.2.2.2.2.1)))] [(1500011, [(AV.mp (MK.mk true true [.str, .str, .str, .str, .int .i64, .int .i64, .int .i64, .int .i64, .int .i64] []) y.2.2.2.2.2)])] (Z7 19).2.toks 0)
    | .inr y => k (.exit 2, mkS 71 [(0, (AV.list 25 y.1 none)), (12, (AV.list 25 y.2.1 none)), (3, (AV.mref 1500011)), (13, (AV.v (.int .i64 y.2.2.1))), (14, (AV.v (.int .i64 y.2.2.2.1)))] [(1500011, [(AV.mp (MK.mk true true [.str, .str, .str, .str, .int .i64, .int .i64, .int .i64, .int .i64, .int .i64] []) y.2.2.2.2)])] (Z7 19).2.toks 0)
  spe := fun y α k => by rcases y with _ | _ <;> rfl
  b := fun u19 α kn ke => (match (decide (u19.2.2.2.2.2.2.1 < u19.2.2.2.2.2.1)) with | true => (if 0 ≤ u19.2.2.2.2.2.2.1 then (match u19.2.2.1[u19.2.2.2.2.2.2.1.toNat]? with | some c10 => (match Rrd1 c10 with | some e11 => (match (zfq (Ren1 e11) u19.2.2.2.2.2.2.2) with | true => (ke (.inl (u19.1, u19.2.1, false, u19.2.2.2.1, u19.2.2.2.2.1, u19.2.2.2.2.2.2.2))) | false => (kn (u19.1, u19.2.1, u19.2.2.1, u19.2.2.2.1, u19.2.2.2.2.1, u19.2.2.2.2.2.1, (i64 (u19.2.2.2.2.2.2.1 + 1)), (Jd (Ren1 e11) (Ren1 e11) u19.2.2.2.2.2.2.2)))) | none => none) | none => none) else none) | false => (ke (.inr (u19.1, u19.2.1, u19.2.2.2.1, u19.2.2.2.2.1, u19.2.2.2.2.2.2.2))))
noncomputable abbrev zkO (N : Nat) (x : (List (List AV)) × (List (List AV)) × (List (List AV)) × Int × Int × Int × Int × (List (List AV))) : Option (((List (List AV)) × (List (List AV)) × Bool × Int × Int × (List (List AV))) ⊕ ((List (List AV)) × (List (List AV)) × Int × Int × (List (List AV)))) := (ZH N).L N x
noncomputable def jC (N : Nat) : LSpec where
  X := (List (List AV)) × (List (List AV)) × Int × Int × (List (List AV))
  Y := (Bool) ⊕ (Unit)
  p := fun s => rdS 71 0 [(0, .lst 25), (12, .lst 25), (3, .mref 1500011), (13, .int .i64), (14, .int .i64)] [(1500011, .mp (MK.mk true true [.str, .str, .str, .str, .int .i64, .int .i64, .int .i64, .int .i64, .int .i64] []))] s fun ⟨a0, a1, _, a2, a3, _⟩ ⟨a4, _⟩ => (a0, a1, a2, a3, a4)
  st := fun u5 => mkS 71 [(0, (AV.list 25 u5.1 none)), (12, (AV.list 25 u5.2.1 none)), (3, (AV.mref 1500011)), (13, (AV.v (.int .i64 u5.2.2.1))), (14, (AV.v (.int .i64 u5.2.2.2.1)))] [(1500011, [(AV.mp (MK.mk true true [.str, .str, .str, .str, .int .i64, .int .i64, .int .i64, .int .i64, .int .i64] []) u5.2.2.2.2)])] (Z7 5).1.toks 0
  out := fun y => match y with
    | .inl y => (.ret, mkS 71 [(2, (AV.v (.bool y)))] [] (Z7 5).2.toks 0)
    | .inr y => (.exit 0, mkS 71 [] [] (Z7 5).2.toks 0)
  sp := fun y α k => match y with
    | .inl y => k (.ret, mkS 71 [(2, (AV.v (.bool y)))] [] (Z7 5).2.toks 0)
    | .inr y => k (.exit 0, mkS 71 [] [] (Z7 5).2.toks 0)
  spe := fun y α k => by rcases y with _ | _ <;> rfl
  b := fun u5 α kn ke => (match (decide (u5.2.2.2.1 < u5.2.2.1)) with | true => (if 0 ≤ u5.2.2.2.1 then (match u5.2.1[u5.2.2.2.1.toNat]? with | some c1 => (match Rrd0 c1 with | some e2 => (match ((e2.2.2.2.2.2.2.2.2.2.1.length : Int) == 0) with | true => (ke (.inl false)) | false => (match F66_d N e2.2.2.2.2.2.2.2.2.2.1 with | some y3 => (match (!y3) with | true => (ke (.inl false)) | false => (match F67_d N e2.2.2.2.2.2.2.2.2.2.1 with | some y4 => (match (!(((e2.1 == y4.1) && ((e2.2.1 == y4.2.1) && ((e2.2.2.1 == y4.2.2.1) && ((e2.2.2.2.1 == y4.2.2.2.1) && true)))) && ((e2.2.2.2.2.1 == y4.2.2.2.2.1) && ((e2.2.2.2.2.2.1 == y4.2.2.2.2.2.1) && ((e2.2.2.2.2.2.2.1 == y4.2.2.2.2.2.2.1) && ((e2.2.2.2.2.2.2.2.1 == y4.2.2.2.2.2.2.2.1) && ((e2.2.2.2.2.2.2.2.2.1 == y4.2.2.2.2.2.2.2.2.1) && true))))))) with | true => (ke (.inl false)) | false => (match (decide (u5.2.2.2.1 > 0)) with | true => (if 0 ≤ (i64 (u5.2.2.2.1 - 1)) then (match u5.1[(i64 (u5.2.2.2.1 - 1)).toNat]? with | some c5 => (match Rrd1 (c5.drop 0) with | some e6 => (match F68_d N (e6, (zf0 e2)) with | some y7 => (match (decide (y7 ≥ 0)) with | true => (ke (.inl false)) | false => (match zkO N (u5.1, u5.2.1, e2.2.2.2.2.2.2.2.2.2.1, u5.2.2.1, u5.2.2.2.1, (e2.2.2.2.2.2.2.2.2.2.1.length : Int), 0, u5.2.2.2.2) with | some y12 => (match y12 with | .inl z13 => (ke (.inl z13.2.2.1)) | .inr z14 => (kn (z14.1, z14.2.1, z14.2.2.1, (i64 (z14.2.2.2.1 + 1)), z14.2.2.2.2))) | none => none)) | none => none) | none => none) | none => none) else none) | false => (match zkO N (u5.1, u5.2.1, e2.2.2.2.2.2.2.2.2.2.1, u5.2.2.1, u5.2.2.2.1, (e2.2.2.2.2.2.2.2.2.2.1.length : Int), 0, u5.2.2.2.2) with | some y15 => (match y15 with | .inl z16 => (ke (.inl z16.2.2.1)) | .inr z17 => (kn (z17.1, z17.2.1, z17.2.2.1, (i64 (z17.2.2.2.1 + 1)), z17.2.2.2.2))) | none => none))) | none => none)) | none => none)) | none => none) | none => none) else none) | false => (ke (.inr ())))
noncomputable abbrev F44_d5 (N : Nat) (x : (List (List AV)) × (List (List AV)) × Int × Int × (List (List AV))) : Option ((Bool) ⊕ (Unit)) := (jC N).L N x
noncomputable def zhs (N : Nat) : FSpec where
  X := (List (List AV))
  Y := Bool
  ash := [[some 25]]
  bsh := []
  S := ⟨[[none]], [], [], [], []⟩
  bm := false
  pat := fun a b => rdA [.lst 25] [] a b fun ⟨a0, _⟩ _ => a0
  args := fun x => [(AV.list 25 x none)]
  bs := fun x => []
  ret := fun y => ⟨(AV.v (.bool y)), [], none, [], [], []⟩
  t := fun x α k => (match F44_d5 N (x, x, (x.length : Int), 0, ([] : List (List AV))) with | some y18 => (match y18 with | .inl z19 => (k z19) | .inr z20 => (k true)) | none => none)
noncomputable abbrev F44_d (N : Nat) (x : (List (List AV))) : Option (Bool) := (zhs N).d x
noncomputable def za6 (N : Nat) : List (Nat × LSpec) := [(5, jC N), (19, ZH N)]
noncomputable def zd9 : Code := Try.f44.body.getD .skip
theorem zlv (N : Nat) : Par (ZH N).b := by
  intro x α β kn ke kn' ke' r r' h h1 h2
  revert h
  dsimp only [ZH]
  (repeat' (first | (with_reducible refine zg ?_ ?_) | (with_reducible refine zc ?_ ?_) | split)) <;> intro h <;> first | exact h1 _ h | exact h2 _ h | (cases h; done)
theorem zhJ (N : Nat) : BdOk (zt Try.prog) (F44_g N) Z7 N (za6 N) 19 zd9 (ZH N) := fun x α kn ke => by kernel_rfl
theorem zdp (N : Nat) : LpOk Try.prog Z7 N (za6 N) 19 (zd 19 zd9) :=
  zE (zf Try.prog) (zk _) zm Z7 N (za6 N) 19 zd9 (l := []) (by kernel_rfl) (by kernel_rfl) an (ZH N) rfl (fun s x hc h => by dsimp only [ZH] at h; exact zH hc h (fun _ _ => rfl) rfl rfl) (fun _ => rfl) (zhJ N) (zlv N)
theorem F44_par5 (N : Nat) : Par (jC N).b := by
  intro x α β kn ke kn' ke' r r' h h1 h2
  revert h
  dsimp only [jC]
  (repeat' (first | (with_reducible refine zg ?_ ?_) | (with_reducible refine zc ?_ ?_) | split)) <;> intro h <;> first | exact h1 _ h | exact h2 _ h | (cases h; done)
theorem zkw (N : Nat) : BdOk (zt Try.prog) (F44_g N) Z7 N (za6 N) 5 zd9 (jC N) := fun x α kn ke => by kernel_rfl
theorem zmF (N : Nat) : LpOk Try.prog Z7 N (za6 N) 5 (zd 5 zd9) :=
  zE (zf Try.prog) (zk _) zm Z7 N (za6 N) 5 zd9 (l := [(19, zd 19 zd9)]) (by kernel_rfl) (by kernel_rfl) (al (zdp N) an) (jC N) rfl (fun s x hc h => by dsimp only [jC] at h; exact zH hc h (fun _ _ => rfl) rfl rfl) (fun _ => rfl) (zkw N) (F44_par5 N)
theorem F44_parF (N : Nat) : ParF (zhs N).t := by
  intro x α β k k' r r' h h1
  revert h
  dsimp only [zhs]
  (repeat' (first | (with_reducible refine zg ?_ ?_) | (with_reducible refine zc ?_ ?_) | split)) <;> intro h <;> first | exact h1 _ h | (cases h; done)
theorem F44_text (N : Nat) : TxOk (zt Try.prog) (F44_g N) Z7 (lam N (za6 N)) Try.f44 (zhs N) := fun x => by kernel_rfl
noncomputable def F44_e (N : Nat) : Ent Try.prog := zB (zf Try.prog) (zk _) zm 44 Try.f44 Try.func44 rfl Z7 (lam N (za6 N)) (zp (l := [(5, zd 5 zd9), (19, zd 19 zd9)]) (al (zmF N) (al (zdp N) an)) (by kernel_rfl)) (zhs N) (fun _ => ⟨rfl, rfl⟩) (F44_text N) (fun _ _ _ h => zA h (fun _ _ => rfl) (fun _ _ => rfl)) (F44_parF N)
abbrev RK3 : List Ck := [.int .i64, .bool, .str, .str, .str, .str, .int .i64, .int .i64, .int .i64, .int .i64, .int .i64, .int .i64, .str, .str, .str, .str, .int .i64, .int .i64, .int .i64, .int .i64, .int .i64, .sl 9, .int .i64, .int .i64, .int .i64, .int .i64, .int .i64, .int .i64, .int .i64, .int .i64, .int .i64, .int .i64, .int .i64, .int .i64, .int .i64, .int .i64, .int .i64, .int .i64]
abbrev RT3 : Type := Int × Bool × ByteArray × ByteArray × ByteArray × ByteArray × Int × Int × Int × Int × Int × Int × ByteArray × ByteArray × ByteArray × ByteArray × Int × Int × Int × Int × Int × (List (List AV)) × Int × Int × Int × Int × Int × Int × Int × Int × Int × Int × Int × Int × Int × Int × Int × Int × Unit
def Rrd3 (c : List AV) : Option RT3 := dec RK3 c
def Ren3 (e : RT3) : List AV := enc RK3 e
theorem jl (e : RT3) : Rrd3 (Ren3 e) = some e := zak (ks := RK3) e rfl
theorem Rrd3_app (e : RT3) (r : List AV) : Rrd3 (Ren3 e ++ r) = some e := zbM (ks := RK3) e r rfl
theorem jQ (e : RT3) : (Ren3 e).length = 38 := zel (ks := RK3) e
@[reducible] def j7 (e : RT3) : RT1 := (e.2.2.1, e.2.2.2.1, e.2.2.2.2.1, e.2.2.2.2.2.1, e.2.2.2.2.2.2.1, e.2.2.2.2.2.2.2.1, e.2.2.2.2.2.2.2.2.1, e.2.2.2.2.2.2.2.2.2.1, e.2.2.2.2.2.2.2.2.2.2.1, ())
def JN : Nat → Keep × Keep := anL [(10, ⟨[3, 4, 14, 15], [], [1500012], [(13, 38)], [], [], [], [], false⟩, ⟨[2], [], [], [], [], [], [], [], false⟩)]
noncomputable def F18_g (N : Nat) : GamK := gam (P := Try.prog) []
noncomputable def Zw (N : Nat) : LSpec where
  X := (List (List AV)) × Int × Int × Int × (List (List AV))
  Y := (Bool) ⊕ (Unit)
  p := fun s => rdS 55 0 [(13, .lst 38), (3, .mref 1500012), (4, .int .i64), (14, .int .i64), (15, .int .i64)] [(1500012, .mp (MK.mk true true [.str, .str, .str, .str, .int .i64, .int .i64, .int .i64, .int .i64, .int .i64] []))] s fun ⟨a0, _, a1, a2, a3, _⟩ ⟨a4, _⟩ => (a0, a1, a2, a3, a4)
  st := fun u10 => mkS 55 [(13, (AV.list 38 u10.1 none)), (3, (AV.mref 1500012)), (4, (AV.v (.int .i64 u10.2.1))), (14, (AV.v (.int .i64 u10.2.2.1))), (15, (AV.v (.int .i64 u10.2.2.2.1)))] [(1500012, [(AV.mp (MK.mk true true [.str, .str, .str, .str, .int .i64, .int .i64, .int .i64, .int .i64, .int .i64] []) u10.2.2.2.2)])] (JN 10).1.toks 0
  out := fun y => match y with
    | .inl y => (.ret, mkS 55 [(2, (AV.v (.bool y)))] [] (JN 10).2.toks 0)
    | .inr y => (.exit 0, mkS 55 [] [] (JN 10).2.toks 0)
  sp := fun y α k => match y with
    | .inl y => k (.ret, mkS 55 [(2, (AV.v (.bool y)))] [] (JN 10).2.toks 0)
    | .inr y => k (.exit 0, mkS 55 [] [] (JN 10).2.toks 0)
  spe := fun y α k => by rcases y with _ | _ <;> rfl
  b := fun u10 α kn ke => (match (decide (u10.2.2.2.1 < u10.2.2.1)) with | true => (if 0 ≤ u10.2.2.2.1 then (match u10.1[u10.2.2.2.1.toNat]? with | some c1 => (match Rrd3 c1 with | some e2 => (match (decide (e2.1 ≤ u10.2.1)) with | true => (ke (.inl false)) | false => (match (decide (e2.1 ≥ 1000)) with | true => (ke (.inl false)) | false => (match (decide (e2.2.2.2.2.2.2.2.2.2.2.2.2.2.2.2.2.2.2.2.2.2.2.2.2.2.2.2.2.2.2.2.2.2.2.2.2.2.1 < 0)) with | true => (ke (.inl false)) | false => (match (decide (e2.2.2.2.2.2.2.2.2.2.2.2.2.2.2.2.2.2.2.2.2.2.2.2.2.2.2.2.2.2.2.2.2.2.2.2.2.2.1 > 18014398509481984)) with | true => (ke (.inl false)) | false => (match e2.2.1 with | true => (kn (u10.1, e2.1, u10.2.2.1, (i64 (u10.2.2.2.1 + 1)), u10.2.2.2.2)) | false => (match (zfq (Ren1 (j7 e2)) u10.2.2.2.2) with | true => (ke (.inl false)) | false => (kn (u10.1, e2.1, u10.2.2.1, (i64 (u10.2.2.2.1 + 1)), (Jd (Ren1 (j7 e2)) (Ren1 (j7 e2)) u10.2.2.2.2))))))))) | none => none) | none => none) else none) | false => (ke (.inr ())))
noncomputable abbrev zl3 (N : Nat) (x : (List (List AV)) × Int × Int × Int × (List (List AV))) : Option ((Bool) ⊕ (Unit)) := (Zw N).L N x
noncomputable def zhU (N : Nat) : FSpec where
  X := (List (List AV))
  Y := Bool
  ash := [[some 38]]
  bsh := []
  S := ⟨[[none]], [], [], [], []⟩
  bm := false
  pat := fun a b => rdA [.lst 38] [] a b fun ⟨a0, _⟩ _ => a0
  args := fun x => [(AV.list 38 x none)]
  bs := fun x => []
  ret := fun y => ⟨(AV.v (.bool y)), [], none, [], [], []⟩
  t := fun x α k => (match (decide ((x.length : Int) > 200)) with | true => (k false) | false => (match zl3 N (x, (-1), (x.length : Int), 0, ([] : List (List AV))) with | some y3 => (match y3 with | .inl z4 => (k z4) | .inr z5 => (k true)) | none => none))
noncomputable abbrev F18_d (N : Nat) (x : (List (List AV))) : Option (Bool) := (zhU N).d x
noncomputable def zfE (N : Nat) : List (Nat × LSpec) := [(10, Zw N)]
noncomputable def F18_c : Code := Try.f18.body.getD .skip
theorem zkR (N : Nat) : Par (Zw N).b := by
  intro x α β kn ke kn' ke' r r' h h1 h2
  revert h
  dsimp only [Zw]
  (repeat' (first | (with_reducible refine zg ?_ ?_) | (with_reducible refine zc ?_ ?_) | split)) <;> intro h <;> first | exact h1 _ h | exact h2 _ h | (cases h; done)
theorem zjj (N : Nat) : BdOk (zt Try.prog) (F18_g N) JN N (zfE N) 10 F18_c (Zw N) := fun x α kn ke => by kernel_rfl
theorem zi7 (N : Nat) : LpOk Try.prog JN N (zfE N) 10 (zd 10 F18_c) :=
  zE (zf Try.prog) (zk _) zm JN N (zfE N) 10 F18_c (l := []) (by kernel_rfl) (by kernel_rfl) an (Zw N) rfl (fun s x hc h => by dsimp only [Zw] at h; exact zH hc h (fun _ _ => rfl) rfl rfl) (fun _ => rfl) (zjj N) (zkR N)
theorem F18_parF (N : Nat) : ParF (zhU N).t := by
  intro x α β k k' r r' h h1
  revert h
  dsimp only [zhU]
  (repeat' (first | (with_reducible refine zg ?_ ?_) | (with_reducible refine zc ?_ ?_) | split)) <;> intro h <;> first | exact h1 _ h | (cases h; done)
theorem F18_text (N : Nat) : TxOk (zt Try.prog) (F18_g N) JN (lam N (zfE N)) Try.f18 (zhU N) := fun x => by kernel_rfl
noncomputable def F18_e (N : Nat) : Ent Try.prog := zB (zf Try.prog) (zk _) zm 18 Try.f18 Try.func18 rfl JN (lam N (zfE N)) (zp (l := [(10, zd 10 F18_c)]) (al (zi7 N) an) (by kernel_rfl)) (zhU N) (fun _ => ⟨rfl, rfl⟩) (F18_text N) (fun _ _ _ h => zA h (fun _ _ => rfl) (fun _ _ => rfl)) (F18_parF N)
end Go.Proofs.Ytnnfpoelkdgjdaa
end
