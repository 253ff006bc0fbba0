/- Several texts as one (written by pack.py). -/
import Derived.Test.YthdgnfcbehcplaaGreatDoorCpB
import Derived.RangeFuncLeaves
import Derived.RangeFuncRecord
import Derived.RangeFuncOwn
import Derived.Test.YthdgnfcbehcplaaGreatDoorProg
import Derived.KernelRfl
import Derived.OpenShut
import Derived.ChangeSlices
import Derived.RangeFuncBox
import Derived.RangeFuncNested
import Derived.Shelf.Abstract
import Derived.WalkKit
import Derived.OwnWalkIn
import Derived.TacticsInMore
import Derived.LoopNIn
import Derived.LoopIn
import Derived.Deep.MidRow
set_option linter.unusedVariables false
set_option linter.unusedSimpArgs false
set_option linter.unnecessarySimpa false
namespace Go.Proofs.YthdgnfcbehcplaaGreatDoor
section
open Go.RowKit
section
variable {P : Program} {T : Tab} {Γ : GamK} {B : Base} {M : Mem} {ρ ρ' : Rho} {σ σ' : Sig} {s s' : AS} {a : Act} {w : World} {Q : Exit -> Act -> World -> Prop}
theorem Rd.nilL {n : Nat} {c : Value} {v : AV} (h : Rd M ρ σ c v) : Rd M ρ' σ' c (nilL n v) := by
 unfold Go.Proofs.YthdgnfcbehcplaaGreatDoor.nilL
 split
 ·rw [h.v_inv]; exact .nil
 ·exact h.dat2.of0
theorem zm3 {v : AV} {n t : Nat} {xs : List (List AV)} {k : Option Nat} {c : Value} (h1 : zrO s v n = some (xs, k)) (hr : Rd M ρ σ c v) (hσ : ∀ k', k = some k' -> ∀ sp, σ k' = some sp -> σ' t = some sp) : Rd M ρ' σ' c (.list n xs (some t)) := by
 unfold zrO at h1
 split at h1
 ·rename_i n' xs' k'
  split at h1
  ·rename_i hn
   subst hn
   split at h1
   ·cases h1
    cases hr with
    | nil ha => exact .nil (.inl (ha.resolve_right (by simp)))
    | list cf q1 q2 q3 q4 q5 q6 q7 =>
     refine .list cf q1 q2 q3 q4 q5 q6 (λ k0 hk0 => ?_)
     cases hk0
     exact (q7 k' rfl).imp id λ ⟨sp, w1, w2⟩ => ⟨sp, hσ k' rfl sp w1, w2⟩
   ·cases h1
  ·cases h1
 ·cases h1
  rw [hr.v_inv]
  exact .nil
 ·cases h1
theorem zm4 {v : AV} {n k : Nat} {xs : List (List AV)} (h1 : zrO s v n = some (xs, some k)) : s.tk k = some true := by
 unfold zrO at h1
 split at h1
 ·split at h1
  ·split at h1
   ·rename_i hq; cases h1; exact hq
   ·cases h1
  ·cases h1
 ·cases h1
 ·cases h1
theorem zd0 (s : AS) : ∀ (l : List (Nat × Nat)) (al : List (Nat × (AV × Option Nat))), zdZ s l = some al -> ∀ t p, (t, p) ∈ al -> ∃ n xs k, zrO s (s.at t) n = some (xs, k) /\ p = (.list n xs (some (tA t)), k)
 | [], al, h, t, p, hl => by cases h; cases hl
 | (t0, n0) :: r, al, h, t, p, hl => by
  unfold zdZ at h
  split at h
  ·rename_i xs k l h1 h2
   cases h
   rcases List.mem_cons.1 hl with e | e
   ·cases e; exact ⟨n0, xs, k, h1, rfl⟩
   ·exact zd0 s r l h2 t p e
  ·cases h
theorem zcr (s : AS) : ∀ (l : List ((Nat × Nat) × Nat)) (al : List ((Nat × Nat) × (AV × Option Nat))), zaO s l = some al -> ∀ t p, (t, p) ∈ al -> ∃ n xs k, zrO s (s.cell t) n = some (xs, k) /\ p = (.list n xs (some (tb t)), k)
 | [], al, h, t, p, hl => by cases h; cases hl
 | (t0, n0) :: r, al, h, t, p, hl => by
  unfold zaO at h
  split at h
  ·rename_i xs k l h1 h2
   cases h
   rcases List.mem_cons.1 hl with e | e
   ·cases e; exact ⟨n0, xs, k, h1, rfl⟩
   ·exact zcr s r l h2 t p e
  ·cases h
theorem ZD {α : Type} (f : α -> Option Nat) : ∀ (l : List α), zM (l.filterMap f) = true -> ∀ x y k, x ∈ l -> y ∈ l -> f x = some k -> f y = some k -> x = y
 | [], _, x, y, k, hx, _, _, _ => by cases hx
 | z :: r, h, x, y, k, hx, hy, fx, fy => by
  have notin : ∀ q, q ∈ r -> f q = some k -> f z = some k -> False := λ q hq fq fz => by
   rw [List.filterMap_cons, fz] at h
   simp only [zM, Bool.and_eq_true, Bool.not_eq_true'] at h
   have : k ∈ r.filterMap f := List.mem_filterMap.2 ⟨q, hq, fq⟩
   have h1 := h.1
   rw [<- Bool.not_eq_true, List.contains_iff_mem] at h1
   exact h1 this
  have hr : zM (r.filterMap f) = true := by
   rw [List.filterMap_cons] at h
   split at h
   ·exact h
   ·simp only [zM, Bool.and_eq_true] at h; exact h.2
  rcases List.mem_cons.1 hx with ex | ex <;> rcases List.mem_cons.1 hy with ey | ey
  ·rw [ex, ey]
  ·subst ex; exact (notin y ey fy fx).elim
  ·subst ey; exact (notin x ex fx fy).elim
  ·exact ZD f r hr x y k ex ey fx fy
theorem zbl {α : Type} (f : Nat -> α) (n t : Nat) (d : α) : (((List.range n).map f)[t]?).getD d = if t < n then f t else d := by
 rw [List.getElem?_map]
 by_cases h : t < n
 ·rw [List.getElem?_range h, if_pos h]; rfl
 ·rw [List.getElem?_eq_none (by simp; omega), if_neg h]; rfl
theorem zQ {α : Type} : ∀ (l : List (Nat × α)) (t : Nat), (l.lookup t).isSome = (l.map (·.1)).contains t
 | [], t => rfl
 | (t0, p) :: r, t => by
  rw [List.lookup_cons, List.map_cons, List.contains_cons]
  cases h : t == t0
  ·simp [zQ r t]
  ·rfl
theorem zaL (s : AS) : ∀ (l : List (Nat × Nat)) (al : List (Nat × (AV × Option Nat))), zdZ s l = some al -> al.map (·.1) = l.map (·.1)
 | [], al, h => by cases h; rfl
 | (t0, n0) :: r, al, h => by
  unfold zdZ at h
  split at h
  ·rename_i xs k l h1 h2
   cases h
   simp [zaL s r l h2]
  ·cases h
theorem zcq (s : AS) : ∀ (l : List ((Nat × Nat) × Nat)) (al : List ((Nat × Nat) × (AV × Option Nat))), zaO s l = some al -> al.map (·.1) = l.map (·.1)
 | [], al, h => by cases h; rfl
 | (t0, n0) :: r, al, h => by
  unfold zaO at h
  split at h
  ·rename_i xs k l h1 h2
   cases h
   simp [zcq s r l h2]
  ·cases h
theorem zan {v : AV} {n name : Nat} {e : VE} (h : vOf s v n name = some e) : e.name = name /\ ((∃ b off len, v = .vs b off len n /\ s.nin <= b /\ s.bx b = some e.cs /\ e.act = some b /\ e.val = .vs name off len n) \/ (v = .v (.slice none 0 0) /\ e.act = none /\ e.val = .vs name 0 0 n /\ e.cs = [])) := by
 unfold vOf at h
 split at h
 ·rename_i b off len n'
  split at h
  ·rename_i hc
   obtain ⟨rfl, hc⟩ := hc
   split at h
   ·rename_i cs hcs
    cases h
    exact ⟨rfl, .inl ⟨b, off, len, rfl, hc, (AS.cx_some hcs).1, rfl, rfl⟩⟩
   ·cases h
  ·cases h
 ·cases h
  exact ⟨rfl, .inr ⟨rfl, rfl, rfl, rfl⟩⟩
 ·cases h
theorem zow {s : AS} {v : AV} {n name : Nat} {e : VE} (h : vOf s v n name = some e) : ∀ b, e.act = some b -> Z8 b = false := λ b' hb' => by
 unfold vOf at h
 split at h
 ·split at h
  ·split at h
   ·rename_i cs hcs
    cases h
    cases hb'
    exact (AS.cx_some hcs).2
   ·cases h
  ·cases h
 ·cases h
  cases hb'
 ·cases h
theorem zda (s : AS) : ∀ (l : List (Nat × Nat)) (al : List (Nat × VE)), za0 s l = some al -> ∀ t e, (t, e) ∈ al -> ∃ n, vOf s (s.at t) n (vA t) = some e
 | [], al, h, t, e, hl => by cases h; cases hl
 | (t0, n0) :: r, al, h, t, e, hl => by
  unfold za0 at h
  split at h
  ·rename_i e' l h1 h2
   cases h
   rcases List.mem_cons.1 hl with q | q
   ·cases q; exact ⟨n0, h1⟩
   ·exact zda s r l h2 t e q
  ·cases h
theorem zbq (s : AS) : ∀ (l : List ((Nat × Nat) × Nat)) (al : List ((Nat × Nat) × VE)), JG s l = some al -> ∀ t e, (t, e) ∈ al -> ∃ n, vOf s (s.cell t) n (vB t.1 t.2) = some e
 | [], al, h, t, e, hl => by cases h; cases hl
 | (t0, n0) :: r, al, h, t, e, hl => by
  unfold JG at h
  split at h
  ·rename_i e' l h1 h2
   cases h
   rcases List.mem_cons.1 hl with q | q
   ·cases q; exact ⟨n0, h1⟩
   ·exact zbq s r l h2 t e q
  ·cases h
theorem J4 (s : AS) : ∀ (l : List (Nat × Nat)) (al : List (Nat × VE)), za0 s l = some al -> al.map (·.1) = l.map (·.1) /\ al.map (λ p => p.2.name) = l.map λ p => vA p.1
 | [], al, h => by cases h; exact ⟨rfl, rfl⟩
 | (t0, n0) :: r, al, h => by
  unfold za0 at h
  split at h
  ·rename_i e l h1 h2
   cases h
   obtain ⟨q1, q2⟩ := J4 s r l h2
   obtain ⟨e1, -⟩ := zan h1
   exact ⟨by simp [q1], by simp only [List.map_cons, q2, e1]⟩
  ·cases h
theorem Jt (s : AS) : ∀ (l : List ((Nat × Nat) × Nat)) (al : List ((Nat × Nat) × VE)), JG s l = some al -> al.map (·.1) = l.map (·.1) /\ al.map (λ p => p.2.name) = l.map λ p => vB p.1.1 p.1.2
 | [], al, h => by cases h; exact ⟨rfl, rfl⟩
 | (t0, n0) :: r, al, h => by
  unfold JG at h
  split at h
  ·rename_i e l h1 h2
   cases h
   obtain ⟨q1, q2⟩ := Jt s r l h2
   obtain ⟨e1, -⟩ := zan h1
   exact ⟨by simp [q1], by simp only [List.map_cons, q2, e1]⟩
  ·cases h
theorem ZN {κ α : Type} [BEq κ] [LawfulBEq κ] : ∀ (l : List (κ × α)), (l.map (·.1)).Nodup -> ∀ t x, (t, x) ∈ l -> l.lookup t = some x
 | [], _, t, x, h => by cases h
 | (t0, x0) :: r, hd, t, x, h => by
  rw [List.map_cons] at hd
  obtain ⟨h1, h2⟩ := List.nodup_cons.1 hd
  rw [List.lookup_cons]
  rcases List.mem_cons.1 h with e | e
  ·cases e; simp
  ·have : t ≠ t0 := λ e2 => h1 (by subst e2; exact List.mem_map_of_mem (f := (·.1)) e)
   have e2 : (t == t0) = false := by simp [this]
   rw [e2]
   exact ZN r h2 t x e
theorem Rd.keptK {M : Mem} {ρ ρ' : Rho} {σ σ' : Sig} {kp : Keep} {b : Nat} {c : Value} {a : AV} (h : Rd M ρ σ c a) (up : kp.fam ≠ none -> ∀ t sp, TOB <= t -> σ t = some sp -> σ' t = some sp) : Rd M ρ' σ' c (keptK kp b a) := by
 have e : Go.Proofs.YthdgnfcbehcplaaGreatDoor.keptK kp b a = Go.Proofs.YthdgnfcbehcplaaGreatDoor.dat0 a \/ (kp.fam ≠ none /\ Go.Proofs.YthdgnfcbehcplaaGreatDoor.keptK kp b a = datF a) := by
  unfold Go.Proofs.YthdgnfcbehcplaaGreatDoor.keptK
  cases kp.fam with
  | none => exact .inl rfl
  | some nm =>
   show (bif Nat.beq nm b then datF else Go.Proofs.YthdgnfcbehcplaaGreatDoor.dat0) a = _ \/ (_ /\ (bif Nat.beq nm b then datF else Go.Proofs.YthdgnfcbehcplaaGreatDoor.dat0) a = _)
   cases Nat.beq nm b with
   | false => exact .inl rfl
   | true => exact .inr ⟨by simp, rfl⟩
 rcases e with e | ⟨hf, e⟩
 ·rw [e]; exact h.dat0.of0
 ·rw [e]
  have d : Rd M ρ' σ' c (Go.Proofs.YthdgnfcbehcplaaGreatDoor.dat0 a) := h.dat0.of0
  cases h with
  | nil ha => exact .nil (ha.imp id λ e => by rw [e])
  | list cf hl hcap hn hm ho hr ht =>
   refine .list cf hl hcap hn hm ho hr (λ q hq => ?_)
   split at hq
   ·rename_i k
    cases hb : Nat.ble TOB k with
    | false => rw [hb] at hq; cases hq
    | true =>
     rw [hb] at hq
     cases hq
     exact (ht _ rfl).imp id λ ⟨sp, e1, e2⟩ => ⟨sp, up hf _ _ (Nat.le_of_ble_eq_true hb) e1, e2⟩
   ·cases hq
  | _ => exact d
theorem zpQ (kp : Keep) (b : Nat) (d : MK) (xs : List (List AV)) : keptK kp b (.mp d xs) = .mp d xs := by
 unfold keptK
 cases kp.fam with
 | none => rfl
 | some nm =>
  show (bif Nat.beq nm b then datF else dat0) (.mp d xs) = _
  cases Nat.beq nm b <;> rfl
theorem zuV (kp : Keep) (f : Nat -> Option Nat) (b j : Nat) (d : MK) (xs : List (List AV)) : nilB kp f b j (.mp d xs) = .mp d xs := by
 unfold nilB
 split <;> rfl
theorem Rd.nilB {M : Mem} {ρ ρ' : Rho} {σ σ' : Sig} {kp : Keep} {f : Nat -> Option Nat} {b j : Nat} {c : Value} {v : AV} (R : Ren f no1 ρ σ ρ' σ') (h : Rd M ρ σ c v) : Rd M ρ' σ' c (nilB kp f b j v) := by
 unfold Go.Proofs.YthdgnfcbehcplaaGreatDoor.nilB
 split
 ·split
  ·rw [h.v_inv]; exact .nil
  ·exact h.mp0 R
 ·exact h.mp0 R
theorem zkd {kp : Keep} {bl : List ((Nat × Nat) × (AV × Option Nat))} {vc : List ((Nat × Nat) × VE)} {f : Nat -> Option Nat} {b : Nat} {cs : List AV} : (zcQ kp bl vc f b cs).length = cs.length /\ ∀ i (h : i < (zcQ kp bl vc f b cs).length) (h' : i < cs.length), (zcQ kp bl vc f b cs)[i] = keptK kp b cs[i] \/ ((zcQ kp bl vc f b cs)[i] = mp0 f no1 cs[i] \/ (zcQ kp bl vc f b cs)[i] = nilB kp f b i cs[i]) \/ (∃ p, bl.lookup (b, i) = some p /\ (zcQ kp bl vc f b cs)[i] = p.1) \/ ∃ e, vc.lookup (b, i) = some e /\ (zcQ kp bl vc f b cs)[i] = e.val := by
 unfold zcQ
 cases kp.sl.contains b with
 | true => exact ⟨by simp, λ i h h' => .inl (by simp)⟩
 | false =>
  simp only [cond_false]
  cases (bl.any (λ q => q.1.1 == b) || vc.any (λ q => q.1.1 == b)) || kp.nils.any (λ q => q.1.1 == b) with
  | false => exact ⟨by simp, λ i h h' => .inr (.inl (.inl (by simp)))⟩
  | true =>
   refine ⟨by simp, λ i h h' => .inr ?_⟩
   simp only [cond_true, List.getElem_mapIdx]
   cases h1 : bl.lookup (b, i) with
   | some p => exact .inr (.inl ⟨p, rfl, rfl⟩)
   | none =>
    cases h2 : vc.lookup (b, i) with
    | some e => exact .inr (.inr ⟨e, rfl, rfl⟩)
    | none => exact .inl (.inr rfl)
theorem jq {kp : Keep} (hS : Sim B s a w) (hk : keep kp s = some s') : Sim B s' a w := by
 obtain ⟨M, ρ, σ, h⟩ := hS
 unfold keep at hk
 split at hk
 ·rename_i al bl va vc hal hbl hva hvc
  split at hk
  ·rename_i hd
   simp only [Bool.and_eq_true] at hd
   obtain ⟨d1, d2, d3, d4, d5, d6⟩ := hd
   split at hk
   rotate_left
   ·cases hk
   rename_i hfo
   cases hk
   have acc := zd0 s _ _ hal
   have bacc := zcr s _ _ hbl
   have vacc := zda s _ _ hva
   have vcell := zbq s _ _ hvc
   have nm1 := (J4 s _ _ hva).2
   have nm2 := (Jt s _ _ hvc).2
   obtain ⟨ves, hves⟩ : ∃ ves, va.map (·.2) ++ vc.map (·.2) = ves := ⟨_, rfl⟩
   rw [hves] at d4 d6
   have vesM : ∀ e ∈ ves, (∃ t, (t, e) ∈ va) \/ ∃ p, (p, e) ∈ vc := λ e he => by
    rw [<- hves] at he
    rcases List.mem_append.1 he with he | he
    ·obtain ⟨⟨t, e'⟩, m1, rfl⟩ := List.mem_map.1 he; exact .inl ⟨t, m1⟩
    ·obtain ⟨⟨t, e'⟩, m1, rfl⟩ := List.mem_map.1 he; exact .inr ⟨t, m1⟩
   have hnames : kp.names = kp.boxes ++ ves.map (·.name) := by
    rw [<- hves]
    simp only [Keep.names, List.map_append, List.map_map, <- nm1, <- nm2, Function.comp_def]
   have names_nd := zF _ d3
   -- what is known of the slices that get names
   have vesOk : ∀ e ∈ ves, s.nin <= e.name /\ ((∃ b, s.nin <= b /\ s.bx b = some e.cs /\ e.act = some b) \/ (e.act = none /\ e.cs = [])) := λ e he => by
    refine ⟨of_decide_eq_true (List.all_eq_true.1 d6 e he), ?_⟩
    rcases vesM e he with ⟨t, ht⟩ | ⟨p, hp⟩
    ·obtain ⟨n, hv⟩ := vacc t e ht
     rcases (zan hv).2 with ⟨b, off, len, -, q1, q2, q3, -⟩ | ⟨-, q1, -, q2⟩
     ·exact .inl ⟨b, q1, q2, q3⟩
     ·exact .inr ⟨q1, q2⟩
    ·obtain ⟨n, hv⟩ := vcell p e hp
     rcases (zan hv).2 with ⟨b, off, len, -, q1, q2, q3, -⟩ | ⟨-, q1, -, q2⟩
     ·exact .inl ⟨b, q1, q2, q3⟩
     ·exact .inr ⟨q1, q2⟩
   have vesMap : ∀ e ∈ ves, ∀ b, e.act = some b -> Z8 b = false := λ e he => by
    rcases vesM e he with ⟨t, ht⟩ | ⟨p, hp⟩
    ·obtain ⟨n, hv⟩ := vacc t e ht
     exact zow hv
    ·obtain ⟨n, hv⟩ := vcell p e hp
     exact zow hv
   -- the names and what they stand for
   obtain ⟨rt, hrt⟩ : ∃ rt : List (Nat × Option Nat), rt = kp.boxes.map (λ b => (b, some b)) ++ ves.map λ e => (e.name, e.act) := ⟨_, rfl⟩
   have rt1 : rt.map (·.1) = kp.names := by rw [hrt, hnames]; simp [Function.comp_def]
   have rtM : ∀ b x, (b, x) ∈ rt -> (b ∈ kp.boxes /\ x = some b) \/ ∃ e ∈ ves, b = e.name /\ x = e.act := λ b x hm => by
    rw [hrt] at hm
    rcases List.mem_append.1 hm with hm | hm
    ·obtain ⟨b', m1, m2⟩ := List.mem_map.1 hm; cases m2; exact .inl ⟨m1, rfl⟩
    ·obtain ⟨e, m1, m2⟩ := List.mem_map.1 hm; cases m2; exact .inr ⟨e, m1, rfl, rfl⟩
   have rtL : ∀ b x, (b, x) ∈ rt -> rt.lookup b = some x := ZN rt (by rw [rt1]; exact names_nd)
   have act_nd := zF _ d4
   -- tokens
   obtain ⟨ct, hct⟩ : ∃ ct : List (Nat × Option Nat), ct = al.map (λ p => (tA p.1, p.2.2)) ++ (bl.map (λ p => (tb p.1, p.2.2)) ++ rt.map λ p => (vk p.1, p.2.map vk)) := ⟨_, rfl⟩
   have ct1 : ct.map (·.1) = al.map (λ p => tA p.1) ++ (bl.map (λ p => tb p.1) ++ kp.names.map vk) := by
    rw [hct, <- rt1]; simp [Function.comp_def]
   have ct_nd : (ct.map (·.1)).Nodup := by rw [ct1]; exact zF _ d1
   have ctL : ∀ t x, (t, x) ∈ ct -> ct.lookup t = some x := ZN ct ct_nd
   have ctA : ∀ t p, (t, p) ∈ al -> (tA t, p.2) ∈ ct := λ t p hm => by
    rw [hct]; exact List.mem_append_left _ (List.mem_map.2 ⟨_, hm, rfl⟩)
   have ctB : ∀ t p, (t, p) ∈ bl -> (tb t, p.2) ∈ ct := λ t p hm => by
    rw [hct]; exact List.mem_append_right _ (List.mem_append_left _ (List.mem_map.2 ⟨_, hm, rfl⟩))
   have ctV : ∀ b x, (b, x) ∈ rt -> (vk b, x.map vk) ∈ ct := λ b x hm => by
    rw [hct]; exact List.mem_append_right _ (List.mem_append_right _ (List.mem_map.2 ⟨_, hm, rfl⟩))
   let ρ' : Rho := λ b => match rt.lookup b with | some (some a) => ρ a | _ => none
   let σ' : Sig := λ t => match ct.lookup t with | some (some k) => σ k | some none => none | none => (match kp.fam with | some _ => (bif Nat.ble TOB t then σ t else none) | none => none)
   have hρ' : ∀ b a, (b, some a) ∈ rt -> ρ' b = ρ a := λ b a hm => by
    show (match rt.lookup b with | some (some a) => ρ a | _ => none) = _
    rw [rtL b _ hm]
   have hρn : ∀ b, (b, none) ∈ rt -> ρ' b = none := λ b hm => by
    show (match rt.lookup b with | some (some a) => ρ a | _ => none) = _
    rw [rtL b _ hm]
   have hρ2 : ∀ b g, ρ' b = some g -> ∃ a, (b, some a) ∈ rt /\ ρ a = some g := λ b g hb => by
    have hb' : (match rt.lookup b with | some (some a) => ρ a | _ => none) = some g := hb
    split at hb'
    ·rename_i a hl; exact ⟨a, zx _ _ _ hl, hb'⟩
    ·cases hb'
   have hσ' : ∀ t k, (t, some k) ∈ ct -> σ' t = σ k := λ t k hm => by
    show (match ct.lookup t with | some (some k) => σ k | some none => none | none => (match kp.fam with | some _ => (bif Nat.ble TOB t then σ t else none) | none => none)) = _
    rw [ctL t _ hm]
   have hσ2 : ∀ t sp, σ' t = some sp -> (∃ k, (t, some k) ∈ ct /\ σ k = some sp) \/ (TOB <= t /\ kp.fam ≠ none /\ σ t = some sp) := λ t sp ht => by
    have ht' : (match ct.lookup t with | some (some k) => σ k | some none => none | none => (match kp.fam with | some _ => (bif Nat.ble TOB t then σ t else none) | none => none)) = some sp := ht
    split at ht'
    ·rename_i k hl; exact .inl ⟨k, zx _ _ _ hl, ht'⟩
    ·cases ht'
    ·split at ht'
     ·rename_i nm hnm
      cases hb : Nat.ble TOB t with
      | true => rw [hb] at ht'; exact .inr ⟨Nat.le_of_ble_eq_true hb, by rw [hnm]; simp, ht'⟩
      | false => rw [hb] at ht'; cases ht'
     ·cases ht'
   -- the new state
   obtain ⟨f, hf⟩ : ∃ f : Nat -> Option Nat, f = λ b => (zzg kp ves).lookup b := ⟨_, rfl⟩
   have hfm : ∀ b b', f b = some b' -> (b', some b) ∈ rt := λ b b' hb => by
    rw [hf] at hb
    have hm := zx _ _ _ hb
    unfold zzg at hm
    rw [hrt]
    rcases List.mem_append.1 hm with hm | hm
    ·obtain ⟨x, m1, m2⟩ := List.mem_map.1 hm; cases m2
     exact List.mem_append_left _ (List.mem_map.2 ⟨b, m1, rfl⟩)
    ·obtain ⟨e, m1, m2⟩ := List.mem_filterMap.1 hm
     split at m2
     ·rename_i x hx
      cases m2
      exact List.mem_append_right _ (List.mem_map.2 ⟨e, m1, by rw [hx]⟩)
     ·cases m2
   have R : Ren f no1 ρ σ ρ' σ' := ⟨λ b b' x hb hx => by rw [hρ' b' b (hfm b b' hb)]; exact hx, λ t t' sp ht => (by cases ht), λ b b' sp hb hsp => by
    have := ctV _ _ (hfm b b' hb)
    rw [hσ' _ _ this]; exact hsp⟩
   have bxN : ∀ b cs', (ZA kp al bl va vc s).bx b = some cs' -> (b ∈ kp.boxes /\ ∃ cs, s.bx b = some cs /\ cs' = zcQ kp bl vc f b cs) \/ ∃ e ∈ ves, b = e.name /\ cs' = e.cs.map (keptK kp e.name) := λ b cs' hb => by
    unfold AS.bx ZA at hb
    dsimp only at hb
    rw [hves, <- hf] at hb
    split at hb
    ·rename_i x hx
     subst hb
     rcases List.mem_append.1 (zx _ _ _ hx) with hm | hm
     ·obtain ⟨b', m1, m2⟩ := List.mem_map.1 hm
      have e1 : b' = b := congrArg Prod.fst m2
      subst e1
      have e2 := congrArg Prod.snd m2
      dsimp only at e2
      split at e2
      ·rename_i cs hcs; exact .inl ⟨m1, cs, hcs, (Option.some.inj e2).symm⟩
      ·cases e2
     ·obtain ⟨e, m1, m2⟩ := List.mem_map.1 hm
      cases m2
      exact .inr ⟨e, m1, rfl, rfl⟩
    ·cases hb
   have bxP : ∀ b, (ZA kp al bl va vc s).bx b ≠ none -> ∃ x, (b, x) ∈ rt /\ ∀ a, x = some a -> s.bx a ≠ none := λ b hb => by
    cases hq : (ZA kp al bl va vc s).bx b with
    | none => exact absurd hq hb
    | some cs' =>
     rcases bxN b cs' hq with ⟨m1, cs, m2, -⟩ | ⟨e, m1, m2, -⟩
     ·exact ⟨some b, by rw [hrt]; exact List.mem_append_left _ (List.mem_map.2 ⟨b, m1, rfl⟩), λ a ha => by cases ha; rw [m2]; simp⟩
     ·refine ⟨e.act, by rw [hrt, m2]; exact List.mem_append_right _ (List.mem_map.2 ⟨e, m1, rfl⟩), λ a ha => ?_⟩
      rcases (vesOk e m1).2 with ⟨b', -, q2, q3⟩ | ⟨q1, -⟩
      ·rw [ha] at q3; cases q3; rw [q2]; simp
      ·rw [ha] at q1; cases q1
   have actInj : ∀ b b' a, (b, some a) ∈ rt -> (b', some a) ∈ rt -> b = b' := λ b b' a h1 h2 => by
    have key : ∀ (l1 : List Nat) (l2 : List VE), (l1 ++ l2.filterMap (·.act)).Nodup -> ∀ b b' a, (b, some a) ∈ l1.map (λ b => (b, some b)) ++ l2.map (λ e => (e.name, e.act)) -> (b', some a) ∈ l1.map (λ b => (b, some b)) ++ l2.map (λ e => (e.name, e.act)) -> b = b' := by
     intro l1 l2 hnd
     have hnd2 := List.nodup_append.1 hnd
     have inj2 : ∀ (l : List VE), (l.filterMap (·.act)).Nodup -> ∀ e ∈ l, ∀ e' ∈ l, ∀ a, e.act = some a -> e'.act = some a -> e.name = e'.name := by
      intro l
      induction l with
      | nil => intro _ e he; cases he
      | cons z r ih =>
       intro hn e he e' he' a ha ha'
       have hr : (r.filterMap (·.act)).Nodup := by
        rw [List.filterMap_cons] at hn
        split at hn
        ·exact hn
        ·exact (List.nodup_cons.1 hn).2
       have nz : ∀ q ∈ r, q.act = some a -> z.act = some a -> False := λ q hq qa za => by
        rw [List.filterMap_cons, za] at hn
        exact (List.nodup_cons.1 hn).1 (List.mem_filterMap.2 ⟨q, hq, qa⟩)
       rcases List.mem_cons.1 he with e1 | e1 <;> rcases List.mem_cons.1 he' with e2 | e2
       ·rw [e1, e2]
       ·subst e1; exact (nz e' e2 ha' ha).elim
       ·subst e2; exact (nz e e1 ha ha').elim
       ·exact ih hr e e1 e' e2 a ha ha'
     have cases1 : ∀ b a, (b, some a) ∈ l1.map (λ b => (b, some b)) ++ l2.map (λ e => (e.name, e.act)) -> (a = b /\ b ∈ l1) \/ ∃ e ∈ l2, e.name = b /\ e.act = some a := λ b a hm => by
      rcases List.mem_append.1 hm with hm | hm
      ·obtain ⟨x, m1, m2⟩ := List.mem_map.1 hm; cases m2; exact .inl ⟨rfl, m1⟩
      ·obtain ⟨e, m1, m2⟩ := List.mem_map.1 hm
       exact .inr ⟨e, m1, congrArg Prod.fst m2, congrArg Prod.snd m2⟩
     intro b b' a h1 h2
     rcases cases1 b a h1 with ⟨rfl, m1⟩ | ⟨e, m1, rfl, m3⟩ <;> rcases cases1 b' _ h2 with ⟨q, m4⟩ | ⟨e', m4, rfl, m6⟩
     ·exact q
     ·exact absurd rfl (hnd2.2.2 _ m1 _ (List.mem_filterMap.2 ⟨e', m4, m6⟩))
     ·subst q
      exact absurd rfl (hnd2.2.2 _ m4 _ (List.mem_filterMap.2 ⟨e, m1, m3⟩))
     ·exact inj2 l2 hnd2.2.1 e m1 e' m4 a m3 m6
    rw [hrt] at h1 h2
    exact key _ _ act_nd b b' a h1 h2
   have tkSome : ∀ t x, kp.toks.lookup t = some x -> (ZA kp al bl va vc s).tk t = some x := λ t x e => by
    unfold AS.tk
    rw [show (ZA kp al bl va vc s).tok = kp.toks from rfl, e]
   have tkNe : ∀ t, kp.toks.lookup t ≠ none -> (ZA kp al bl va vc s).tk t ≠ none := λ t hne => by
    cases e : kp.toks.lookup t with
    | none => exact absurd e hne
    | some x => rw [tkSome t x e]; simp
   have hfam : kp.fam ≠ none -> JB s.tok = true /\ JB kp.toks = true /\ ∀ k ∈ (al.filterMap λ p => p.2.2) ++ (bl.filterMap λ p => p.2.2), k < TOB := λ hne => by
    unfold zzf at hfo
    split at hfo
    ·rename_i e; exact absurd e hne
    ·simp only [Bool.and_eq_true] at hfo
     refine ⟨hfo.1, hfo.2.1, λ k hk => ?_⟩
     have := List.all_eq_true.1 hfo.2.2 k hk
     by_cases q : TOB <= k
     ·rw [Nat.ble_eq_true_of_le q] at this; cases this
     ·omega
   have tkF : kp.fam ≠ none -> ∀ t, TOB <= t -> (ZA kp al bl va vc s).tk t = s.tk t := λ hne t ht => by
    obtain ⟨n1, n2, -⟩ := hfam hne
    unfold AS.tk
    rw [show (ZA kp al bl va vc s).tok = kp.toks from rfl, jb n1 ht, jb n2 ht]
    show zfA (znr kp s.fm) t = zfA s.fm t
    unfold znr
    cases hnm : kp.fam with
    | none => exact absurd hnm hne
    | some nm =>
     cases hf : s.fm with
     | none =>
      obtain ⟨i, rfl⟩ : ∃ i, t = TOB + i := ⟨t - TOB, by omega⟩
      exact Jj (Nat.zero_le _)
     | some x => rfl
   have al1 : al.map (·.1) = kp.accs.map (·.1) := zaL s _ _ hal
   have bl1 : bl.map (·.1) = kp.baccs.map (·.1) := zcq s _ _ hbl
   have tkT : ∀ t, kp.toks.lookup t = some true -> (∃ p, (t, p) ∈ al.map λ q => (tA q.1, q.2.2)) \/ ∃ p, (t, p) ∈ bl.map λ q => (tb q.1, q.2.2) := λ t ht => by
    have hm := zx _ _ _ ht
    unfold Keep.toks at hm
    rcases List.mem_append.1 hm with hm | hm
    ·obtain ⟨t', m1, m2⟩ := List.mem_map.1 hm
     cases m2
     rcases List.mem_append.1 m1 with m1 | m1
     ·obtain ⟨p, m3, rfl⟩ := List.mem_map.1 m1
      have : p.1 ∈ al.map (·.1) := by rw [al1]; exact List.mem_map_of_mem (f := (·.1)) m3
      obtain ⟨q, m4, m5⟩ := List.mem_map.1 this
      exact .inl ⟨q.2.2, List.mem_map.2 ⟨q, m4, by rw [m5]⟩⟩
     ·obtain ⟨p, m3, rfl⟩ := List.mem_map.1 m1
      have : p.1 ∈ bl.map (·.1) := by rw [bl1]; exact List.mem_map_of_mem (f := (·.1)) m3
      obtain ⟨q, m4, m5⟩ := List.mem_map.1 this
      exact .inr ⟨q.2.2, List.mem_map.2 ⟨q, m4, by rw [m5]⟩⟩
    ·rcases List.mem_append.1 hm with hm | hm
     ·obtain ⟨x, -, m2⟩ := List.mem_map.1 hm; cases m2
     ·obtain ⟨x, -, m2⟩ := List.mem_map.1 hm; cases m2
   have tkS : ∀ t, t ∈ ct.map (·.1) -> kp.toks.lookup t ≠ none := λ t ht => by
    have hm : t ∈ kp.toks.map (·.1) := by
     unfold Keep.toks
     rw [ct1] at ht
     rcases List.mem_append.1 ht with ht | ht
     ·obtain ⟨p, m1, rfl⟩ := List.mem_map.1 ht
      have : p.1 ∈ kp.accs.map (·.1) := by rw [<- al1]; exact List.mem_map_of_mem (f := (·.1)) m1
      obtain ⟨q, m2, m3⟩ := List.mem_map.1 this
      refine List.mem_map.2 ⟨(tA p.1, true), List.mem_append_left _ (List.mem_map.2 ⟨_, List.mem_append_left _ (List.mem_map.2 ⟨q, m2, rfl⟩), by rw [m3]⟩), rfl⟩
     ·rcases List.mem_append.1 ht with ht | ht
      ·obtain ⟨p, m1, rfl⟩ := List.mem_map.1 ht
       have : p.1 ∈ kp.baccs.map (·.1) := by rw [<- bl1]; exact List.mem_map_of_mem (f := (·.1)) m1
       obtain ⟨q, m2, m3⟩ := List.mem_map.1 this
       refine List.mem_map.2 ⟨(tb p.1, true), List.mem_append_left _ (List.mem_map.2 ⟨_, List.mem_append_right _ (List.mem_map.2 ⟨q, m2, rfl⟩), by rw [m3]⟩), rfl⟩
      ·obtain ⟨p, m1, rfl⟩ := List.mem_map.1 ht
       refine List.mem_map.2 ⟨(vk p, false), List.mem_append_right _ (List.mem_append_left _ (List.mem_map.2 ⟨p, m1, rfl⟩)), rfl⟩
    rw [<- Option.isSome_iff_ne_none, zQ, List.contains_iff_mem]
    exact hm
   have live : ∀ t k, (t, some k) ∈ ct -> kp.toks.lookup t = some true -> s.tk k = some true := λ t k hm ht => by
    have e1 := ctL _ _ hm
    rcases tkT t ht with ⟨p, hp⟩ | ⟨p, hp⟩
    ·obtain ⟨⟨t', q⟩, m1, m2⟩ := List.mem_map.1 hp
     cases m2
     rw [ctL _ _ (ctA t' q m1)] at e1
     obtain ⟨n, xs, k', h1, h2⟩ := acc t' q m1
     subst h2
     cases e1
     exact zm4 h1
    ·obtain ⟨⟨t', q⟩, m1, m2⟩ := List.mem_map.1 hp
     cases m2
     rw [ctL _ _ (ctB t' q m1)] at e1
     obtain ⟨n, xs, k', h1, h2⟩ := bacc t' q m1
     subst h2
     cases e1
     exact zm4 h1
   have tkInj : ∀ t t' k, (t, some k) ∈ ct -> (t', some k) ∈ ct -> kp.toks.lookup t = some true -> kp.toks.lookup t' = some true -> t = t' := λ t t' k h1 h2 h3 h4 => by
    obtain ⟨cl, hcl⟩ : ∃ cl : List (Nat × Option Nat), cl = al.map (λ p => (tA p.1, p.2.2)) ++ bl.map (λ p => (tb p.1, p.2.2)) := ⟨_, rfl⟩
    have k2 : cl.filterMap (·.2) = (al.filterMap λ p => p.2.2) ++ (bl.filterMap λ p => p.2.2) := by rw [hcl]; simp [List.filterMap_append, List.filterMap_map, Function.comp_def]
    rw [<- k2] at d2
    have inC : ∀ t, (t, some k) ∈ ct -> kp.toks.lookup t = some true -> (t, some k) ∈ cl := λ t hm ht => by
     have e1 := ctL _ _ hm
     rw [hcl]
     rcases tkT t ht with ⟨p, hp⟩ | ⟨p, hp⟩
     ·have : (t, p) ∈ ct := by rw [hct]; exact List.mem_append_left _ hp
      rw [ctL _ _ this] at e1
      cases e1
      exact List.mem_append_left _ hp
     ·have : (t, p) ∈ ct := by rw [hct]; exact List.mem_append_right _ (List.mem_append_left _ hp)
      rw [ctL _ _ this] at e1
      cases e1
      exact List.mem_append_right _ hp
    have := ZD (·.2) cl d2 _ _ k (inC t h1 h3) (inC t' h2 h4) rfl rfl
    exact congrArg Prod.fst this
   have σF : kp.fam ≠ none -> ∀ t sp, TOB <= t -> σ t = some sp -> σ' t = some sp := λ hne t sp ht hs => by
    show (match ct.lookup t with | some (some k) => σ k | some none => none | none => (match kp.fam with | some _ => (bif Nat.ble TOB t then σ t else none) | none => none)) = some sp
    cases e : ct.lookup t with
    | some y => exact absurd (jb (hfam hne).2.1 ht) (tkS t (List.mem_map.2 ⟨_, zx _ _ _ e, rfl⟩))
    | none =>
     cases hnm : kp.fam with
     | none => exact absurd hnm hne
     | some nm =>
      simp only
      rw [Nat.ble_eq_true_of_le ht]
      exact hs
   have srcLo : ∀ t k, (t, some k) ∈ ct -> kp.toks.lookup t = some true -> k ∈ (al.filterMap λ p => p.2.2) ++ (bl.filterMap λ p => p.2.2) := λ t k hm ht => by
    have e1 := ctL _ _ hm
    rcases tkT t ht with ⟨p, hp⟩ | ⟨p, hp⟩
    ·have : (t, p) ∈ ct := by rw [hct]; exact List.mem_append_left _ hp
     rw [ctL _ _ this] at e1
     cases e1
     obtain ⟨q, m1, m2⟩ := List.mem_map.1 hp
     exact List.mem_append_left _ (List.mem_filterMap.2 ⟨q, m1, congrArg Prod.snd m2⟩)
    ·have : (t, p) ∈ ct := by rw [hct]; exact List.mem_append_right _ (List.mem_append_left _ hp)
     rw [ctL _ _ this] at e1
     cases e1
     obtain ⟨q, m1, m2⟩ := List.mem_map.1 hp
     exact List.mem_append_right _ (List.mem_filterMap.2 ⟨q, m1, congrArg Prod.snd m2⟩)
   have srcL : ∀ t sp, σ' t = some sp -> (ZA kp al bl va vc s).tk t = some true -> ∃ k, σ k = some sp /\ s.tk k = some true /\ (((t, some k) ∈ ct /\ kp.toks.lookup t = some true) \/ (k = t /\ TOB <= t /\ kp.fam ≠ none)) := λ t sp hs ht => by
    rcases hσ2 t sp hs with ⟨k, m1, m2⟩ | ⟨m0, m1, m2⟩
    ·have hne := tkS t (List.mem_map.2 ⟨_, m1, rfl⟩)
     cases e : kp.toks.lookup t with
     | none => exact absurd e hne
     | some x =>
      rw [tkSome t x e] at ht
      cases ht
      exact ⟨k, m2, live t k m1 e, .inl ⟨m1, rfl⟩⟩
    ·rw [tkF m1 t m0] at ht
     exact ⟨t, m2, ht, .inr ⟨rfl, m0, m1⟩⟩
   have ninB : ∀ k, k < s.nin -> k ∈ kp.boxes := λ k hk => by
    have := List.all_eq_true.1 d5 k (by simpa using hk)
    rwa [List.contains_iff_mem] at this
   have rtK : ∀ b, b ∈ kp.boxes -> (b, some b) ∈ rt := λ b hb => by rw [hrt]; exact List.mem_append_left _ (List.mem_map.2 ⟨b, hb, rfl⟩)
   have rtE : ∀ e ∈ ves, (e.name, e.act) ∈ rt := λ e he => by rw [hrt]; exact List.mem_append_right _ (List.mem_map.2 ⟨e, he, rfl⟩)
   have vRd : ∀ v n name e, e ∈ ves -> vOf s v n name = some e -> ∀ c, Rd M ρ σ c v -> Rd M ρ' σ' c e.val := λ v n name e he hv c hr => by
    obtain ⟨e1, hc⟩ := zan hv
    rcases hc with ⟨b, off, len, rfl, -, -, q3, q4⟩ | ⟨rfl, q1, q2, -⟩
    ·have hm := rtE e he
     rw [q3] at hm
     rw [q4, <- e1]
     cases hr with
     | vs p1 p2 p3 =>
      refine .vs (by rw [hρ' _ _ hm]; exact p1) p2 (p3.imp λ sp p4 => ⟨?_, p4.2⟩)
      have := ctV _ _ hm
      rw [hσ' _ _ this]; exact p4.1
     | vsn => exact .vsn
     | vse => exact .vse
    ·rw [q2, hr.v_inv]; exact .vsn
   refine ⟨M, ρ', σ', ?_⟩
   refine { nin := h.nin, own := λ k hk hbk => ?_, fresh := λ b g hn hr => ?_, len := by simp [h.len, ZA], env := λ t => ?_, defers := h.defers, mem := h.mem, memB := h.memB, memS := h.memS, gl := h.gl, os := h.os, tape := h.tape, output := h.output, size := h.size, block := h.block, box := λ b cs hb => ?_, rws := h.rws, rlt := λ b g hr => ?_, rho := λ b g hb => ?_, inj := λ b b' g hb hb' hr hr' => ?_, tok := λ t sp ht hs => ?_, cap := λ t sp hs => ?_, sig := λ t sp hs => ?_, capB := λ k hk sp hs => ?_, nink := λ k hk => ?_, tinj := λ t t' sp sp' ht ht' hs hs' hg => ?_ }
   ·have e : AS.at (ZA kp al bl va vc s) t = if t < s.env.length then (match al.lookup t with | some p => p.1 | none => (match va.lookup t with | some e => e.val | none => (match kp.lists.lookup t with | some n => nilL n (s.at t) | none => if kp.plain.contains t then mp2 f no1 (s.at t) else .any))) else .any := by
     unfold AS.at ZA
     dsimp only
     rw [hves, <- hf]
     exact zbl _ _ _ _
    rw [e]
    split
    ·split
     ·rename_i p hl
      have hm := zx _ _ _ hl
      obtain ⟨n, xs, k, h1, h2⟩ := acc t _ hm
      subst h2
      refine zm3 h1 (h.env t) λ k' hk' sp hsp => ?_
      subst hk'
      rw [hσ' _ _ (ctA t _ hm)]
      exact hsp
     ·split
      ·rename_i e hl
       have hm := zx _ _ _ hl
       obtain ⟨n, hv⟩ := vacc t e hm
       exact vRd _ _ _ e (by rw [<- hves]; exact List.mem_append_left _ (List.mem_map.2 ⟨_, hm, rfl⟩)) hv _ (h.env t)
      ·split
       ·exact Rd.nilL (h.env t)
       ·split
        ·exact (h.env t).mp2 R
        ·exact .any
    ·exact .any
   ·have hk' : k < s.nin := hk
    have hm := ninB k hk'
    rw [hρ' k k (rtK k hm)]
    refine h.own k hk' ?_
    obtain ⟨x, q1, q2⟩ := bxP k hbk
    have := (rtL _ _ q1).symm.trans (rtL _ _ (rtK k hm))
    exact q2 k (Option.some.inj this)
   ·obtain ⟨a', m1, m2⟩ := hρ2 b g hr
    rcases rtM _ _ m1 with ⟨-, q⟩ | ⟨e, q1, q2, q3⟩
    ·cases q; exact h.fresh _ g hn m2
    ·rcases (vesOk e q1).2 with ⟨b', p1, -, p3⟩ | ⟨p1, -⟩
     ·rw [<- q3] at p3; cases p3; exact h.fresh _ g p1 m2
     ·rw [<- q3] at p1; cases p1
   ·rcases bxN b cs hb with ⟨m1, cs0, m2, m3⟩ | ⟨e, m1, m2, m3⟩
    ·subst m3
     obtain ⟨z1, z2⟩ := zkd (kp := kp) (bl := bl) (vc := vc) (f := f) (b := b) (cs := cs0)
     rcases h.box b cs0 m2 with ⟨e1, e2⟩ | ⟨g, q1, ⟨ccs, t, r1, r2, r3, r4⟩ | ⟨hmp, d0, xs0, e0, hma⟩, q3, q4⟩
     rotate_left 2
     ·refine .inr ⟨g, by rw [hρ' b b (rtK b m1)]; exact q1, .inr ⟨hmp, d0, xs0, ?_, hma⟩, q3, q4⟩
      subst e0
      have ecell : s.cell (b, 0) = AV.mp d0 xs0 := by
       unfold AS.cell
       simp only [m2]
       rfl
      have hl1 : (zcQ kp bl vc f b [AV.mp d0 xs0]).length = 1 := z1
      refine List.ext_getElem (by rw [hl1]; rfl) λ i hi hi' => ?_
      have hi0 : i = 0 := by simpa using hi'
      subst hi0
      rcases z2 0 (by omega) (by simp) with z | (z | z) | ⟨p, z3, z⟩ | ⟨e, z3, z⟩
      ·rw [z]; exact zpQ _ _ _ _
      ·rw [z]; rfl
      ·rw [z]; exact zuV _ _ _ _ _ _
      ·have hm := zx _ _ _ z3
       obtain ⟨n, xs, k, h1, h2⟩ := bacc (b, 0) _ hm
       rw [ecell] at h1
       cases h1
      ·have hm := zx _ _ _ z3
       obtain ⟨n, hv⟩ := vcell (b, 0) e hm
       rw [ecell] at hv
       cases hv
     ·refine .inl ⟨List.length_eq_zero_iff.1 (by rw [z1, e1]; rfl), by rw [hρ' b b (rtK b m1)]; exact e2⟩
     ·refine .inr ⟨g, by rw [hρ' b b (rtK b m1)]; exact q1, .inl ⟨ccs, t, r1, by rw [z1]; exact r2, λ i x y => r3 i x (by omega), λ i x y => ?_⟩, q3, q4⟩
      have y' : i < cs0.length := by omega
      have hr := r4 i x y'
      have ecell : s.cell (b, i) = cs0[i] := by
       unfold AS.cell
       simp only [m2]
       rw [List.getElem?_eq_getElem y']; rfl
      rcases z2 i y y' with z | (z | z) | ⟨p, z3, z⟩ | ⟨e, z3, z⟩
      ·rw [z]; exact hr.keptK σF
      ·rw [z]; exact hr.mp0 R
      ·rw [z]; exact hr.nilB R
      ·rw [z]
       have hm := zx _ _ _ z3
       obtain ⟨n, xs, k, h1, h2⟩ := bacc (b, i) _ hm
       subst h2
       rw [ecell] at h1
       refine zm3 h1 hr λ k' hk' sp hsp => ?_
       subst hk'
       rw [hσ' _ _ (ctB (b, i) _ hm)]
       exact hsp
      ·rw [z]
       have hm := zx _ _ _ z3
       obtain ⟨n, hv⟩ := vcell (b, i) e hm
       rw [ecell] at hv
       exact vRd _ _ _ e (by rw [<- hves]; exact List.mem_append_right _ (List.mem_map.2 ⟨_, hm, rfl⟩)) hv _ hr
    ·subst m2 m3
     rcases (vesOk e m1).2 with ⟨b', p1, p2, p3⟩ | ⟨p1, p2⟩
     ·have hm := rtE e m1
      rw [p3] at hm
      rcases h.box b' e.cs p2 with ⟨e1, e2⟩ | ⟨g, q1, hh0, q3, q4⟩
      rotate_left
      obtain ⟨ccs, t, r1, r2, r3, r4⟩ := hh0.cells (vesMap e m1 b' p3)
      rotate_left
      ·exact .inl ⟨by rw [e1]; rfl, by rw [hρ' _ _ hm]; exact e2⟩
      ·exact .inr ⟨g, by rw [hρ' _ _ hm]; exact q1, .inl ⟨ccs, t, r1, by simpa using r2, λ i x y => r3 i x (by simpa using y), λ i x y => by simpa using (r4 i x (by simpa using y)).keptK σF⟩, q3, q4⟩
     ·have hm := rtE e m1
      rw [p1] at hm
      exact .inl ⟨by rw [p2]; rfl, hρn _ hm⟩
   ·obtain ⟨a', m1, m2⟩ := hρ2 b g hr
    exact h.rlt a' g m2
   ·obtain ⟨a', m1, m2⟩ := hρ2 b g hb
    refine .inr ?_
    exact tkNe _ (tkS _ (by exact List.mem_map.2 ⟨_, ctV _ _ m1, rfl⟩))
   ·obtain ⟨x, p1, p2⟩ := bxP b hb
    obtain ⟨x', p1', p2'⟩ := bxP b' hb'
    obtain ⟨a', m1, m2⟩ := hρ2 b g hr
    obtain ⟨a2, m1', m2'⟩ := hρ2 b' g hr'
    have e1 := Option.some.inj ((rtL _ _ p1).symm.trans (rtL _ _ m1))
    have e2 := Option.some.inj ((rtL _ _ p1').symm.trans (rtL _ _ m1'))
    have := h.inj a' a2 g (p2 a' e1) (p2' a2 e2) m2 m2'
    subst this
    exact actInj b b' a' m1 m1'
   ·obtain ⟨k, m2, m1, -⟩ := srcL t sp hs ht
    obtain ⟨q1, q2, q3, q4⟩ := h.tok k sp m1 m2
    refine ⟨q1, q2, q3, λ b hb e => ?_⟩
    obtain ⟨x, p1, p2⟩ := bxP b hb
    obtain ⟨a', m1, m2⟩ := hρ2 b _ e
    have e1 := Option.some.inj ((rtL _ _ p1).symm.trans (rtL _ _ m1))
    exact q4 a' (p2 a' e1) m2
   ·rcases hσ2 t sp hs with ⟨k, m1, m2⟩ | ⟨-, -, m2⟩
    ·exact h.cap k sp m2
    ·exact h.cap t sp m2
   ·rcases hσ2 t sp hs with ⟨k, m1, m2⟩ | ⟨m0, m1, m2⟩
    ·exact tkNe _ (tkS _ (List.mem_map.2 ⟨_, m1, rfl⟩))
    ·rw [tkF m1 t m0]; exact h.sig t sp m2
   ·have hk' : k < s.nin := hk
    rw [hσ' _ _ (ctV _ _ (rtK k (ninB k hk')))] at hs
    exact h.capB k hk' sp hs
   ·have hk' : k < s.nin := hk
    exact tkNe _ (tkS _ (List.mem_map.2 ⟨_, ctV _ _ (rtK k (ninB k hk')), rfl⟩))
   ·obtain ⟨k, m2, m1, m3⟩ := srcL t sp hs ht
    obtain ⟨k', m2', m1', m3'⟩ := srcL t' sp' hs' ht'
    have := h.tinj k k' sp sp' m1 m1' m2 m2' hg
    subst this
    rcases m3 with ⟨n1, n2⟩ | ⟨n1, n2, n3⟩ <;> rcases m3' with ⟨n1', n2'⟩ | ⟨n1', n2', n3'⟩
    ·exact tkInj t t' k n1 n1' n2 n2'
    ·have := (hfam n3').2.2 k (srcLo t k n1 n2); omega
    ·have := (hfam n3).2.2 k (srcLo t' k n1' n2'); omega
    ·omega
  ·cases hk
 ·cases hk
theorem jz {kp : Keep} {s0 s : AS} (h : keep kp s0 = some s) : s = Zz kp s := by
 unfold keep at h
 split at h
 ·rename_i al bl va vc hal hbl hva hvc
  split at h
  ·rename_i hd
   simp only [Bool.and_eq_true] at hd
   obtain ⟨d1, d2, d3, d4, d5, d6⟩ := hd
   split at h
   rotate_left
   ·cases h
   cases h
   have hf := zaL s0 _ _ hal
   obtain ⟨hv1, nm1⟩ := J4 s0 _ _ hva
   have nm2 := (Jt s0 _ _ hvc).2
   have hat : ∀ t, (ZA kp al bl va vc s0).at t = if t < s0.env.length then (match al.lookup t with | some p => p.1 | none => (match va.lookup t with | some e => e.val | none => (match kp.lists.lookup t with | some n => nilL n (s0.at t) | none => if kp.plain.contains t then mp2 (λ b => (zzg kp (va.map (·.2) ++ vc.map (·.2))).lookup b) no1 (s0.at t) else .any))) else .any := λ t => by
    unfold AS.at ZA; exact zbl _ _ _ _
   have hlen : (ZA kp al bl va vc s0).env.length = s0.env.length := by simp [ZA]
   have e1 : (ZA kp al bl va vc s0).env = (Zz kp (ZA kp al bl va vc s0)).env := by
    show _ = (List.range (ZA kp al bl va vc s0).env.length).map _
    rw [hlen]
    show (List.range s0.env.length).map _ = _
    refine List.map_congr_left λ t ht => ?_
    have hlt : t < s0.env.length := by simpa using ht
    rw [hat t, if_pos hlt]
    have hc := zQ al t
    rw [hf] at hc
    cases hl : al.lookup t with
    | some p => rw [hl] at hc; simp only [Option.isSome_some] at hc; rw [<- hc]; rfl
    | none =>
     rw [hl] at hc
     simp only [Option.isSome_none] at hc
     rw [<- hc]
     simp only [Bool.false_or]
     have hcv := zQ va t
     rw [hv1] at hcv
     cases hlv : va.lookup t with
     | some e => rw [hlv] at hcv; simp only [Option.isSome_some] at hcv; rw [<- hcv]; rfl
     | none =>
      rw [hlv] at hcv
      simp only [Option.isSome_none] at hcv
      rw [<- hcv]
      simp only [Bool.false_or]
      have hc2 := zQ kp.lists t
      cases hl2 : kp.lists.lookup t with
      | some n => rw [hl2] at hc2; simp only [Option.isSome_some] at hc2; rw [<- hc2]; rfl
      | none =>
       rw [hl2] at hc2
       simp only [Option.isSome_none] at hc2
       rw [<- hc2]
       simp only [Bool.false_or]
       split <;> rfl
   have e2 : (ZA kp al bl va vc s0).box = (Zz kp (ZA kp al bl va vc s0)).box := by
    have k1 : (ZA kp al bl va vc s0).box.map (·.1) = kp.names := by
     simp only [ZA, Keep.names, List.map_append, List.map_map, Function.comp_def, <- nm1, <- nm2, List.map_id']
    have knd : ((ZA kp al bl va vc s0).box.map (·.1)).Nodup := by rw [k1]; exact zF _ d3
    show _ = kp.names.map λ b => (b, (ZA kp al bl va vc s0).bx b)
    rw [<- k1, List.map_map]
    have : ∀ p ∈ (ZA kp al bl va vc s0).box, p = ((λ b => (b, (ZA kp al bl va vc s0).bx b)) ∘ (·.1)) p := λ p hp => by
     obtain ⟨b, x⟩ := p
     have hl := ZN _ knd b x hp
     show (b, x) = (b, (ZA kp al bl va vc s0).bx b)
     unfold AS.bx
     rw [hl]
    exact (List.map_id _).symm.trans (List.map_congr_left this)
   have ext : ∀ x y : AS, x.env = y.env -> x.box = y.box -> x.tok = y.tok -> x.nin = y.nin -> x.fm = y.fm -> x = y := λ x y a b c d e => by cases x; cases y; simp_all
   have e5 : znr kp s0.fm = znr kp (znr kp s0.fm) := by
    unfold znr
    cases kp.fam with
    | none => rfl
    | some nm => cases s0.fm <;> rfl
   exact ext _ _ e1 e2 rfl rfl e5
  ·cases h
 ·cases h
def ZC (P : Program) (c : Code) (s : AS) (o : Out) : Prop := ∀ (B : Base) (a : Act) (w : World) (Q : Exit -> Act -> World -> Prop), Sim B s a w -> (∀ a' w', Sim B o.2 a' w' -> Q o.1 a' w') -> c.wp P Q a w
theorem Jz (hT : TabOk P T) (hG : GOk P Γ.v) (hm : P.follows .mixedOrders = true) (An : Nat -> Keep × Keep) (Λ : LoopK) : ∀ (c : Code) (n : Nat) (hL : ∀ p ∈ zK c n, zfx An p = true -> ∀ s o, s = Zz (An p.1).1 s -> Λ.v p.1 s = some o -> ZC P p.2 s o) (α : Type) (s : AS) (K : Exit -> AS -> Option α) (x : α) (B : Base) (a : Act) (w : World) (Q : Exit -> Act -> World -> Prop),
  je T Γ An Λ c n s K = some x -> Sim B s a w -> (∀ e s' a' w', K e s' = some x -> Sim B s' a' w' -> Q e a' w') -> c.wp P Q a w := by
 intro c
 induction c with
 | skip => intro n hL α s K x B a w Q h hS hQ; exact wp_skip (hQ _ _ _ _ h hS)
 | label l => intro n hL α s K x B a w Q h hS hQ; exact wp_label (hQ _ _ _ _ h hS)
 | region id ops draw =>
  intro n hL α s K x B a w Q h hS hQ
  obtain ⟨s1, h1, hS1⟩ := znA _ s h hS
  obtain ⟨s2, h2, hS2⟩ := ziV _ s1 h1 hS1
  exact zj2 hT hG hm h2 hS2 (λ s' a' w' hk => hQ _ s' a' w' hk)
 | seq c1 c2 ih1 ih2 =>
  intro n hL α s K x B a w Q h hS hQ
  unfold je at h
  split at h
  ·rename_i hcut
   split at h
   ·rename_i s' hk
    obtain ⟨o, h1, h2⟩ := Λ.eq _ _ _ _ _ h
    exact hL (n, .seq c1 c2) List.mem_cons_self hcut s' o (jz hk) h1 B a w Q (jq hS hk) λ a' w' hS' => hQ _ _ a' w' h2 hS'
   ·cases h
  ·refine wp_seq (ih1 (n + 1) (λ p hp => hL p (List.mem_cons_of_mem _ (List.mem_append_left _ hp))) α s _ x B a w _ h hS λ e s' a' w' hk hS' => ?_)
   cases e with
   | normal => exact ih2 _ (λ p hp => hL p (List.mem_cons_of_mem _ (List.mem_append_right _ hp))) α s' K x B a' w' Q hk hS' hQ
   | _ => exact hQ _ s' a' w' hk hS'
 | cond c x1 y1 ih1 ih2 =>
  intro n hL α s K x B a w Q h hS hQ
  unfold je at h
  split at h
  ·rename_i hcut
   split at h
   ·rename_i s' hk
    obtain ⟨o, h1, h2⟩ := Λ.eq _ _ _ _ _ h
    exact hL (n, .cond c x1 y1) List.mem_cons_self hcut s' o (jz hk) h1 B a w Q (jq hS hk) λ a' w' hS' => hQ _ _ a' w' h2 hS'
   ·cases h
  ·have hL1 : ∀ p ∈ zK x1 (n + 1), zfx An p = true -> ∀ s o, s = Zz (An p.1).1 s -> Λ.v p.1 s = some o -> ZC P p.2 s o := λ p hp => hL p (List.mem_cons_of_mem _ (List.mem_append_left _ hp))
   have hL2 : ∀ p ∈ zK y1 (n + 1 + Code.loops x1), zfx An p = true -> ∀ s o, s = Zz (An p.1).1 s -> Λ.v p.1 s = some o -> ZC P p.2 s o := λ p hp => hL p (List.mem_cons_of_mem _ (List.mem_append_right _ hp))
   split at h
   ·rename_i b hb
    obtain ⟨M, ρ, σ, hs⟩ := hS
    have he := hs.ev c
    rw [hb] at he
    have hc := he.v_inv
    cases b
    ·rw [zaf hb] at h
     exact wp_cond_false hc (ih2 _ hL2 α s K x B a w Q h ⟨M, ρ, σ, hs⟩ hQ)
    ·rw [zaf hb] at h
     exact wp_cond_true hc (ih1 _ hL1 α s K x B a w Q h ⟨M, ρ, σ, hs⟩ hQ)
   ·rename_i hb
    obtain ⟨hA, hB⟩ := zcs h
    obtain ⟨M, ρ, σ, hs⟩ := hS
    have he := hs.ev c
    rw [hb] at he
    have kn : ∀ b, a.eval c = .bool b -> Sim B (s.knownO c b) a w := λ b hcb => by
     cases c with
     | tmp t =>
      refine ⟨M, ρ, σ, hs.reread t _ ?_⟩
      have : a.tmps.getD t undef = .bool b := hcb
      rw [this]; exact .v
     | _ => exact ⟨M, ρ, σ, hs⟩
    obtain ⟨b, hcb⟩ : ∃ b, a.eval c = .bool b := by
     generalize a.eval c = cv at he
     cases he; exact ⟨_, rfl⟩
    cases b
    ·exact wp_cond_false hcb (ih2 _ hL2 α _ K x B a w Q hB (kn false hcb) hQ)
    ·exact wp_cond_true hcb (ih1 _ hL1 α _ K x B a w Q hA (kn true hcb) hQ)
   ·cases h
 | block id c ih =>
  intro n hL α s K x B a w Q h hS hQ
  unfold je at h
  split at h
  ·rename_i hcut
   split at h
   ·rename_i s' hk
    obtain ⟨o, h1, h2⟩ := Λ.eq _ _ _ _ _ h
    exact hL (n, .block id c) List.mem_cons_self hcut s' o (jz hk) h1 B a w Q (jq hS hk) λ a' w' hS' => hQ _ _ a' w' h2 hS'
   ·cases h
  ·refine wp_block (ih (n + 1) (λ p hp => hL p (List.mem_cons_of_mem _ hp)) α s _ x B a w _ h hS λ e s' a' w' hk hS' => ?_)
   cases e with
   | exit i =>
    simp only at hk
    show (if i = id then Q .normal a' w' else Q (.exit i) a' w')
    split at hk
    ·rename_i hi; rw [if_pos hi]; exact hQ _ s' a' w' hk hS'
    ·rename_i hi; rw [if_neg hi]; exact hQ _ s' a' w' hk hS'
   | _ => exact hQ _ s' a' w' hk hS'
 | loop c ih =>
  intro n hL α s K x B a w Q h hS hQ
  unfold je at h
  split at h
  ·rename_i s' hk
   obtain ⟨o, h1, h2⟩ := Λ.eq _ _ _ _ _ h
   exact hL (n, .loop c) List.mem_cons_self rfl s' o (jz hk) h1 B a w Q (jq hS hk) λ a' w' hS' => hQ _ _ a' w' h2 hS'
  ·cases h
 | exit id => intro n hL α s K x B a w Q h hS hQ; exact wp_exit (hQ _ _ _ _ h hS)
 | ret => intro n hL α s K x B a w Q h hS hQ; exact wp_ret (hQ _ _ _ _ h hS)
 | _ => intro n hL α s K x B a w Q h hS hQ; cases h
theorem znQ (hT : TabOk P T) (hG : GOk P Γ.v) (hm : P.follows .mixedOrders = true) (An : Nat -> Keep × Keep) (Λ : LoopK) (n : Nat) (c : Code) (hL : ∀ p ∈ zK c (n + 1), zfx An p = true -> ∀ s o, s = Zz (An p.1).1 s -> Λ.v p.1 s = some o -> ZC P p.2 s o) (V : Nat -> AS -> Option Out)
  (hstep : ∀ N s o, s = Zz (An n).1 s -> V N s = some o -> ∃ M, M < N /\ ziy T Γ An Λ n c s (V M) some = some o) : ∀ N s o, s = Zz (An n).1 s -> V N s = some o -> ZC P (.loop c) s o := by
 intro N0 s0 o hc0 h0 B a0 w0 Q hS0 hQ
 let G : Nat -> Act -> World -> Prop := λ m a w => ∃ s, Sim B s a w /\ s = Zz (An n).1 s /\ V m s = some o
 have dec : ∀ a w, (∃ m, G m a w) -> ∃ m, G m a w /\ ∀ m', m' < m -> ¬ G m' a w := λ a w ⟨m, hm⟩ => by
  induction m using Nat.strongRecOn with
  | _ m ih =>
   by_cases hx : ∃ m', m' < m /\ G m' a w
   ·obtain ⟨m', h1, h2⟩ := hx; exact ih m' h1 h2
   ·exact ⟨m, hm, λ m' h1 h2 => hx ⟨m', h1, h2⟩⟩
 have μx : ∃ ν : Act -> World -> Nat, ∀ a w, (∃ m, G m a w) -> G (ν a w) a w /\ ∀ m', m' < ν a w -> ¬ G m' a w :=
  ⟨λ a w => open Classical in if hx : ∃ m, G m a w then Classical.choose (dec a w hx) else 0, λ a w hx => by
   simp only [dif_pos hx]
   exact Classical.choose_spec (dec a w hx)⟩
 obtain ⟨ν, hν⟩ := μx
 refine wp_loop (λ a w => ∃ m, G m a w) ν ⟨N0, s0, hS0, hc0, h0⟩ λ a w hI => ?_
 obtain ⟨⟨s1, hS1, hc1, hv1⟩, hmin⟩ := hν a w hI
 obtain ⟨M, hM, hr⟩ := hstep _ s1 o hc1 hv1
 unfold ziy at hr
 refine Jz hT hG hm An Λ c (n + 1) hL Out s1 _ o B a w _ hr hS1 λ e s' a' w' hk hS' => ?_
 have notNormal : ∀ e : Exit, (match keep (An n).2 s' with | some s3 => some (e, s3) | none => none) = some o -> Q e a' w' := λ e hk => by
  split at hk
  ·rename_i s3 hk3
   cases hk
   exact hQ a' w' (jq hS' hk3)
  ·cases hk
 cases e with
 | normal =>
  simp only at hk
  split at hk
  ·rename_i s2 hk2
   have hg : G M a' w' := ⟨s2, jq hS' hk2, jz hk2, hk⟩
   refine ⟨⟨_, hg⟩, ?_⟩
   obtain ⟨-, hmin'⟩ := hν a' w' ⟨_, hg⟩
   have : ¬ M < ν a' w' := λ hlt => hmin' _ hlt hg
   omega
  ·cases hk
 | exit i => exact notNormal _ hk
 | goto i => exact notNormal _ hk
 | ret => exact notNormal _ hk
 | panic i => exact notNormal _ hk
 | outgrown => exact notNormal _ hk
theorem zkg (hT : TabOk P T) (hG : GOk P Γ.v) (hm : P.follows .mixedOrders = true) (An : Nat -> Keep × Keep) (Λ : LoopK) (n : Nat) (c : Code) (hL : ∀ p ∈ zK c n, zfx (zgE An n) p = true -> ∀ s o, s = Zz (zgE An n p.1).1 s -> Λ.v p.1 s = some o -> ZC P p.2 s o) {s : AS} {o : Out} (h : zbP T Γ An Λ n c s some = some o) : ZC P c s o := by
 intro B a w Q hS hQ
 unfold zbP at h
 refine Jz hT hG hm (zgE An n) Λ c n hL Out s _ o B a w _ h hS λ e s' a' w' hk hS' => ?_
 split at hk
 ·rename_i s3 hk3
  cases hk
  exact hQ a' w' (jq hS' hk3)
 ·cases hk
end
end
section
open Go.RowKit
def zoE (use : List Nat) (t : Nat) : Option Nat := if use.contains t then some t else none
def inB (n b : Nat) : Option Nat := if b < n then some b else none
def zbo (n : Nat) (use : List Nat) : AV -> AV := mp2 (inB n) (zoE use)
def zct (n : Nat) (use sl : List Nat) : Nat -> List (List AV) -> List (Nat × Option (List AV))
 | _, [] => []
 | k, cs :: r => (k, some (match sl.contains k with | true => cs | false => cs.map (mp0 (inB n) (zoE use)))) :: zct n use sl (k + 1) r
def zaM (nt : Nat) (use sl : List Nat) (args : List AV) (bs : List (List AV)) : AS where
 env := args.map (zbo bs.length use) ++ List.replicate (nt - args.length) .any
 box := zct bs.length use sl 0 bs
 tok := use.map (λ t => (t, true)) ++ ((List.range bs.length).map (λ k => (vk k, false)) ++ sl.map λ k => (vm k, false))
 nin := bs.length
def zm8 (T : Tab) (s : AS) : ResultVar -> Option AV
 | .tmp t => some (s.at t)
 | .cell a t => match s.at a with
  | .ptr b off => (match s.cx b with | some cs => ld T t cs off | none => none)
  | _ => none
def zbA (T : Tab) (s : AS) : List ResultVar -> Option (List AV)
 | [] => some []
 | r :: l => match zm8 T s r, zbA T s l with
  | some v, some vs => some (v :: vs)
  | _, _ => none
def tZ (i : Nat) : Nat := 64 * 40000000 + i
def tN (j : Nat) : Nat := 64 * (50000000 + j)
def coeC : Option Nat -> AV -> AV
 | some n, .v (.slice none 0 0) => .list n [] none
 | _, x => x
def zoG : List (Option Nat) -> List AV -> List AV
 | k :: ks, c :: cs => coeC k c :: zoG ks cs
 | _, cs => cs
def coeR (ks : List (Option Nat)) : AV -> AV
 | .agg cs => .agg (zoG ks cs)
 | v => coeC (ks.headD none) v
def tagV (s : AS) (f : Nat -> Option Nat) (id : Nat) : Option Nat -> AV -> AV
 | some n, v =>
  (match v with
  | .v (.slice none 0 0) => if 2000000 <= n then .list (n - 2000000) [] (some id) else if 1000000 <= n then .vs s.nin 0 0 (n - 1000000) else .list n [] none
  | .list m xs (some t) => if 2000000 <= n then (match s.tk t with | some true => .list m xs (some id) | _ => .list m xs none) else .list m xs none
  | v => mp2 f no1 v)
 | none, v => mp2 f no1 v
def zvx (s : AS) (id : Nat) : Option Nat -> AV -> List (Nat × Option Nat)
 | some n, v =>
  (match v with
  | .v (.slice none 0 0) => if 2000000 <= n then [(id, none)] else []
  | .list m xs (some t) => if 2000000 <= n then (match s.tk t with | some true => [(id, some t)] | _ => []) else []
  | v => [])
 | none, v => []
def tagC (s : AS) (f : Nat -> Option Nat) (id : Nat -> Nat) : Nat -> List (Option Nat) -> List AV -> List AV
 | _, _, [] => []
 | j, row, v :: r => tagV s f (id j) (row.headD none) v :: tagC s f id (j + 1) row.tail r
def zhR (s : AS) (id : Nat -> Nat) : Nat -> List (Option Nat) -> List AV -> List (Nat × Option Nat)
 | _, _, [] => []
 | j, row, v :: r => zvx s (id j) (row.headD none) v ++ zhR s id (j + 1) row.tail r
def valV (s : AS) (f : Nat -> Option Nat) (i : Nat) (row : List (Option Nat)) : AV -> AV
 | .agg cs => .agg (zoG row (cs.map (mp0 f no1)))
 | v => tagV s f (tZ i) (row.headD none) v
def zAJ (s : AS) (i : Nat) (row : List (Option Nat)) : AV -> List (Nat × Option Nat)
 | .agg _ => []
 | v => zvx s (tZ i) (row.headD none) v
def valVs (s : AS) (f : Nat -> Option Nat) : Nat -> List (List (Option Nat)) -> List AV -> List AV
 | _, _, [] => []
 | i, sh, v :: r => valV s f i (sh.headD []) v :: valVs s f (i + 1) sh.tail r
def zox (s : AS) : Nat -> List (List (Option Nat)) -> List AV -> List (Nat × Option Nat)
 | _, _, [] => []
 | i, sh, v :: r => zAJ s i (sh.headD []) v ++ zox s (i + 1) sh.tail r
def zvO (s : AS) (nw : Option Nat) (b : Nat) : Option Nat :=
 if b < s.nin then (match s.bx b with | some _ => some b | none => none) else (match nw with | some x => if b = x then some s.nin else none | none => none)
def zr3 (s : AS) (f : Nat -> Option Nat) (sh : List (List (Option Nat))) : List AV -> AV
 | [v] => valV s f 0 (sh.headD []) v
 | vs => .tup (valVs s f 0 sh vs)
def zjY (s : AS) (sl : List Nat) (f : Nat -> Option Nat) : Nat -> List (List (Option Nat)) -> Nat -> Option (List (List AV))
 | _, _, 0 => some []
 | k, osh, n + 1 => match s.cx k, zjY s sl f (k + 1) osh.tail n with
  | some cs, some r => some ((match sl.contains k with | true => cs.map dat0 | false => tagC s f (λ j => tC k j 0) 0 (osh.headD []) cs) :: r)
  | _, _ => none
def ziw (s : AS) (sl : List Nat) : Nat -> List (List (Option Nat)) -> Nat -> List (Nat × Option Nat)
 | _, _, 0 => []
 | k, osh, n + 1 => (match sl.contains k with | true => [] | false => (match s.bx k with | some cs => zhR s (λ j => tC k j 0) 0 (osh.headD []) cs | none => [])) ++ ziw s sl (k + 1) osh.tail n
def fmR (s : AS) (T : List (Nat × Option Nat)) (nw : Option Nat) : Option (Nat × Nat) := match s.fm, nw with
 | some (b, j, N), some b' => bif Nat.beq b b' && (JB s.tok && (loT (T.map (·.1)) && (loT (T.filterMap (·.2)) && !(Nat.ble TOB (vk s.nin))))) then some (j, N) else none
 | _, _ => none
def zCE : Option (Nat × Nat) -> AV -> AV
 | some _ => datF
 | none => dat0
def anew (q : Option (Nat × Nat)) (s : AS) (f : Nat -> Option Nat) (nw : Option Nat) (nsh : List (Option Nat)) (v : AV) : Option (Option (List AV)) :=
 match nw with
 | some b => (match s.cx b with
  | some cs => some (some (match s.tk (vm b) with | some _ => cs.map (zCE q) | none => tagC s f tN 0 nsh cs))
  | none => none)
 | none => some (bif zgh v then some [] else none)
def zug (s : AS) (nw : Option Nat) (nsh : List (Option Nat)) : List (Nat × Option Nat) :=
 match nw with
 | some b => (match s.bx b with
  | some cs => (match s.tk (vm b) with | some _ => [] | none => zhR s tN 0 nsh cs)
  | none => [])
 | none => []
structure Shape where
 sh : List (List (Option Nat))
 osh : List (List (Option Nat))
 nsh : List (Option Nat)
 use : List Nat
 sl : List Nat
def zzx (s : AS) (vs : List AV) : Option Nat := ((vs.flatMap ptrR).filter (λ b => decide (s.nin <= b))).head?
def zfV (S : Shape) (s : AS) (vs : List AV) (nw : Option Nat) : List (Nat × Option Nat) := ziw s S.sl 0 S.osh s.nin ++ (zug s nw S.nsh ++ zox s 0 S.sh vs)
def zhc (S : Shape) (s : AS) (vs : List AV) (nw : Option Nat) : Option Ret :=
 match zjY s S.sl (zvO s nw) 0 S.osh s.nin, anew (fmR s (zfV S s vs nw) nw) s (zvO s nw) nw S.nsh (zr3 s (zvO s nw) S.sh vs) with
 | some os, some new =>
  if (zM ((zfV S s vs nw).map (·.1)) && (zM ((zfV S s vs nw).filterMap (·.2)) && (zfV S s vs nw).all (λ p => (List.range (s.nin + 1)).all λ k => decide (p.1 ≠ vk k)))) = true then
   some ⟨zr3 s (zvO s nw) S.sh vs, os, new, S.use, (zfV S s vs nw).map (·.1), S.sl, fmR s (zfV S s vs nw) nw⟩
  else none
 | _, _ => none
def zrQ (T : Tab) (fn : Func) (S : Shape) (s : AS) : Option Ret :=
 match zbA T s fn.results.toList with
 | some vs => zhc S s vs (zzx s vs)
 | none => none
noncomputable def zpf (T : Tab) (Γ : GamK) (An : Nat -> Keep × Keep) (Λ : LoopK) (fn : Func) (S : Shape) (args : List AV) (bs : List (List AV)) : Option Ret :=
 match fn.body with
 | some c =>
  if args.length <= fn.ntmps /\ S.sl.all (λ k => decide (k < bs.length)) = true /\ (S.use.all λ t => (List.range bs.length).all λ k => decide (t ≠ vk k)) = true then
   je T Γ An Λ c 0 (zaM fn.ntmps S.use S.sl args bs) λ e s => match e with
    | .normal => zrQ T fn S s
    | .ret => zrQ T fn S s
    | _ => none
  else none
 | none => none
section
variable {P : Program} {T : Tab} {Γ : GamK} {B : Base} {M : Mem} {ρ ρ' : Rho} {σ σ' : Sig} {s s' : AS} {a : Act} {w : World} {Q : Exit -> Act -> World -> Prop}
def rv (tmps : Array Value) : ResultVar -> Sem Value
 | .tmp t => pure (tmps.getD t undef)
 | .cell a t => do loadVar t (<- asAddr (tmps.getD a undef))
theorem zkj (fn : Func) (tmps : Array Value) : results fn tmps = (do let vs <- fn.results.mapM (rv tmps); pure (if h : vs.size = 1 then vs[0] else .tuple vs)) := rfl
theorem zcm (hT : TabOk P T) (h : SimW B M ρ σ s a w) : ∀ (l : List ResultVar) (vs : List AV), zbA T s l = some vs -> ∃ cs : List Value, (l.mapM (rv a.tmps)).run P w = .ok cs w /\ cs.length = vs.length /\ ∀ i (h : i < cs.length) (h' : i < vs.length), Rd M ρ σ cs[i] vs[i]
 | [], vs, hv => by cases hv; exact ⟨[], rfl, rfl, λ i h => by cases h⟩
 | r :: l, vs, hv => by
  unfold zbA at hv
  split at hv
  ·rename_i v vs' h1 h2
   cases hv
   obtain ⟨cs, q1, q2, q3⟩ := zcm hT h l vs' h2
   have one : ∃ c, (rv a.tmps r).run P w = .ok c w /\ Rd M ρ σ c v := by
    cases r with
    | tmp t => cases h1; exact ⟨_, rfl, h.env t⟩
    | cell b t =>
     simp only [zm8] at h1
     have hb := h.env b
     split at h1
     ·rename_i bb off hat
      rw [hat] at hb
      split at h1
      ·rename_i cs0 hcs
       generalize hq : a.tmps.getD b undef = xv at hb
       cases hb with
       | ptr hg =>
        obtain ⟨c, e1, e2⟩ := zpS hT (h.lies (AS.cx_some hcs).1 (AS.cx_some hcs).2 hg) h1
        rw [Nat.zero_add] at e1
        refine ⟨c, ?_, e2⟩
        simp only [rv, hq, asAddr, Sem.run_bind, Sem.run_pure, Result.andThen_ok, e1]
      ·cases h1
     ·cases h1
   obtain ⟨c, o1, o2⟩ := one
   refine ⟨c :: cs, ?_, by simp [q2], λ i hi hi' => ?_⟩
   ·rw [List.mapM_cons]
    simp only [Sem.run_bind, o1, Result.andThen_ok, q1, Sem.run_pure]
   ·cases i with
    | zero => exact o2
    | succ i => exact q3 i (by simpa using hi) (by simpa using hi')
  ·cases hv
theorem Rd.coeC {k : Option Nat} {c : Value} {v : AV} (h : Rd M ρ σ c v) : Rd M ρ σ c (coeC k v) := by
 unfold Go.Proofs.YthdgnfcbehcplaaGreatDoor.coeC
 split
 ·rw [h.v_inv]; exact .nil
 ·exact h
theorem zjo : ∀ (ks : List (Option Nat)) (cs : List AV), (zoG ks cs).length = cs.length /\ ∀ i (h : i < (zoG ks cs).length) (h' : i < cs.length), (zoG ks cs)[i] = cs[i] \/ ∃ k, (zoG ks cs)[i] = coeC k cs[i]
 | [], cs => ⟨by cases cs <;> rfl, λ i h h' => .inl (by cases cs <;> rfl)⟩
 | k :: ks, [] => ⟨rfl, λ i h => by cases h⟩
 | k :: ks, c :: cs => by
  obtain ⟨h1, h2⟩ := zjo ks cs
  refine ⟨by simp [zoG, h1], λ i h h' => ?_⟩
  cases i with
  | zero => exact .inr ⟨k, rfl⟩
  | succ i => exact h2 i (by simpa [zoG] using h) (by simpa using h')
theorem Rd.coeR {ks : List (Option Nat)} {c : Value} {v : AV} (h : Rd M ρ σ c v) : Rd M ρ σ c (coeR ks v) := by
 cases h with
 | agg hl h1 hr =>
  rename_i ccs cs
  obtain ⟨z1, z2⟩ := zjo ks cs
  refine .agg (by rw [z1]; exact hl) h1 λ i x y => ?_
  have y' : i < cs.length := by omega
  rcases z2 i y y' with e | ⟨k, e⟩
  ·rw [e]; exact hr i x y'
  ·rw [e]; exact (hr i x y').coeC
 | any => exact Rd.coeC (k := ks.headD none) .any
 | ub => exact Rd.coeC (k := ks.headD none) .ub
 | v => exact Rd.coeC (k := ks.headD none) .v
 | nil => exact Rd.coeC (k := ks.headD none) .nil
 | list cf h1 h2 h3 h4 h5 h6 h7 => exact Rd.coeC (k := ks.headD none) (.list cf h1 h2 h3 h4 h5 h6 h7)
 | tup h1 h2 => exact Rd.coeC (k := ks.headD none) (.tup h1 h2)
 | ptr hb => exact Rd.coeC (k := ks.headD none) (.ptr hb)
 | mref hb => exact Rd.coeC (k := ks.headD none) (.mref hb)
 | ref cf h1 h2 h3 => exact Rd.coeC (k := ks.headD none) (.ref cf h1 h2 h3)
 | fn h1 h2 h3 h4 => exact Rd.coeC (k := ks.headD none) (.fn h1 h2 h3 h4)
 | vs h hl hc => exact Rd.coeC (k := ks.headD none) (.vs h hl hc)
 | vsn => exact Rd.coeC (k := ks.headD none) .vsn
 | vse => exact Rd.coeC (k := ks.headD none) .vse
theorem Rd.tagV {f : Nat -> Option Nat} {id : Nat} {c : Option Nat} (R : Ren f no1 ρ σ ρ' σ') {x : Value} {v : AV} (h : Rd M ρ σ x v) (ht : ∀ t, (id, some t) ∈ zvx s id c v -> ∀ sp, σ t = some sp -> σ' id = some sp) : Rd M ρ' σ' x (tagV s f id c v) := by
 unfold Go.Proofs.YthdgnfcbehcplaaGreatDoor.tagV
 split
 ·rename_i n
  split
  ·rw [h.v_inv]
   split
   ·exact .nil
   ·split
    ·exact .vsn
    ·exact .nil
  ·rename_i m xs t
   have none' : Rd M ρ' σ' x (.list m xs none) := by
    have := h.mp0 (f := no1) (g := no1) (Ren.no ρ σ ρ' σ')
    exact this
   split
   ·rename_i hn
    split
    ·rename_i hk
     cases h with
     | nil ha => exact .nil (.inl (ha.resolve_right (by simp)))
     | list cf h1 h2 h3 h4 h5 h6 h7 =>
      refine .list cf h1 h2 h3 h4 h5 h6 (λ k e => ?_)
      cases e
      exact (h7 t rfl).imp (λ x => x) λ ⟨sp, q1, q2⟩ => ⟨sp, ht t (by simp [zvx, hn, hk]) sp q1, q2⟩
    ·exact none'
   ·exact none'
  ·exact h.mp2 R
 ·exact h.mp2 R
theorem zjk (f : Nat -> Option Nat) (id : Nat -> Nat) : ∀ (cs : List AV) (j0 : Nat) (row : List (Option Nat)), (tagC s f id j0 row cs).length = cs.length /\ ∀ j (h : j < (tagC s f id j0 row cs).length) (h' : j < cs.length), ∃ c, (tagC s f id j0 row cs)[j] = tagV s f (id (j0 + j)) c cs[j] /\ ∀ p ∈ zvx s (id (j0 + j)) c cs[j], p ∈ zhR s id j0 row cs
 | [], j0, row => ⟨rfl, λ j h => by cases h⟩
 | v :: r, j0, row => by
  obtain ⟨h1, h2⟩ := zjk f id r (j0 + 1) row.tail
  refine ⟨by simp [tagC, h1], λ j h h' => ?_⟩
  cases j with
  | zero => exact ⟨row.headD none, rfl, λ p hp => List.mem_append_left _ hp⟩
  | succ j =>
   obtain ⟨c, q1, q2⟩ := h2 j (by simpa [tagC] using h) (by simpa using h')
   rw [show j0 + 1 + j = j0 + (j + 1) by omega] at q1 q2
   exact ⟨c, by simpa only [tagC, List.getElem_cons_succ] using q1, λ p hp => List.mem_append_right _ (q2 p (by simpa using hp))⟩
theorem Hold0.tagC {f : Nat -> Option Nat} (R : Ren f no1 ρ σ ρ' σ') {g : Nat} {cs : List AV} (h : Hold0 M ρ σ w g cs) (id : Nat -> Nat) (row : List (Option Nat)) (ht : ∀ i t, (i, some t) ∈ zhR s id 0 row cs -> ∀ sp, σ t = some sp -> σ' i = some sp) : Hold0 M ρ' σ' w g (tagC s f id 0 row cs) := by
 obtain ⟨ccs, t, h1, h2, h3, h4⟩ := h
 obtain ⟨z1, z2⟩ := zjk (s := s) f id cs 0 row
 refine ⟨ccs, t, h1, by rw [z1]; exact h2, λ i x y => h3 i x (by omega), λ i x y => ?_⟩
 have y' : i < cs.length := by omega
 obtain ⟨c, e1, e2⟩ := z2 i y y'
 rw [e1]
 exact (h4 i x y').tagV R λ t hm sp hsp => ht _ t (e2 _ hm) sp hsp
theorem Rd.valV {f : Nat -> Option Nat} {i : Nat} {row : List (Option Nat)} (R : Ren f no1 ρ σ ρ' σ') {x : Value} {v : AV} (h : Rd M ρ σ x v) (ht : ∀ i' t, (i', some t) ∈ zAJ s i row v -> ∀ sp, σ t = some sp -> σ' i' = some sp) : Rd M ρ' σ' x (valV s f i row v) := by
 unfold Go.Proofs.YthdgnfcbehcplaaGreatDoor.valV
 split
 ·rename_i cs
  have := (h.mp1 R).coeR (ks := row)
  exact this
 ·rename_i hne
  refine h.tagV R λ t hm sp hsp => ht _ t ?_ sp hsp
  unfold zAJ
  split
  ·exact absurd rfl (hne _)
  ·exact hm
theorem zgG (f : Nat -> Option Nat) : ∀ (cs : List AV) (i : Nat) (sh : List (List (Option Nat))), (valVs s f i sh cs).length = cs.length
 | [], i, sh => rfl
 | c :: cs, i, sh => by simp [valVs, zgG f cs]
theorem Rd.valVs {f : Nat -> Option Nat} (R : Ren f no1 ρ σ ρ' σ') : ∀ (cs : List AV) (i : Nat) (sh : List (List (Option Nat))) (us : List Value), us.length = cs.length -> (∀ j (h : j < us.length) (h' : j < cs.length), Rd M ρ σ us[j] cs[j]) -> (∀ i' t, (i', some t) ∈ zox s i sh cs -> ∀ sp, σ t = some sp -> σ' i' = some sp) -> ∀ j (h : j < us.length) (h' : j < (valVs s f i sh cs).length), Rd M ρ' σ' us[j] (valVs s f i sh cs)[j]
 | [], i, sh, us, hl, hr, ht, j, h, h' => by cases h'
 | c :: cs, i, sh, [], hl, hr, ht, j, h, h' => by cases h
 | c :: cs, i, sh, u0 :: us, hl, hr, ht, j, h, h' => by
  cases j with
  | zero => exact (hr 0 (by simp) (by simp)).valV R λ i' t hm => ht i' t (List.mem_append_left _ hm)
  | succ j =>
   have := Rd.valVs R cs (i + 1) sh.tail us (by simpa using hl) (λ j h h' => by
    have := hr (j + 1) (by simpa using h) (by simpa using h')
    simp only [List.getElem_cons_succ] at this
    exact this) (λ i' t hm => ht i' t (List.mem_append_right _ hm)) j (by simpa using h) (by simpa [Go.Proofs.YthdgnfcbehcplaaGreatDoor.valVs] using h')
   simpa only [Go.Proofs.YthdgnfcbehcplaaGreatDoor.valVs, List.getElem_cons_succ] using this
theorem zd1 (s : AS) (sl : List Nat) (f : Nat -> Option Nat) : ∀ (n k : Nat) (osh : List (List (Option Nat))) (os : List (List AV)), zjY s sl f k osh n = some os -> os.length = n /\ ∀ i (h : i < os.length), ∃ cs row, s.bx (k + i) = some cs /\ os[i] = (match sl.contains (k + i) with | true => cs.map dat0 | false => tagC s f (λ j => tC (k + i) j 0) 0 row cs) /\ (sl.contains (k + i) = false -> ∀ p ∈ zhR s (λ j => tC (k + i) j 0) 0 row cs, p ∈ ziw s sl k osh n)
 | 0, k, osh, os, h => by cases h; exact ⟨rfl, λ i h => by cases h⟩
 | n + 1, k, osh, os, h => by
  unfold zjY at h
  split at h
  ·rename_i cs r h1 h2
   replace h1 := (AS.cx_some h1).1
   cases h
   obtain ⟨q1, q2⟩ := zd1 s sl f n (k + 1) osh.tail r h2
   refine ⟨by simp [q1], λ i hi => ?_⟩
   cases i with
   | zero =>
    refine ⟨cs, osh.headD [], h1, rfl, λ hc p hp => List.mem_append_left _ ?_⟩
    rw [Nat.add_zero] at hc hp
    rw [hc, h1]
    exact hp
   | succ i =>
    obtain ⟨cs', row, e1, e2, e3⟩ := q2 i (by simpa using hi)
    have e : k + 1 + i = k + (i + 1) := by omega
    rw [e] at e1 e2 e3
    exact ⟨cs', row, e1, e2, λ hc p hp => List.mem_append_right _ (e3 hc p hp)⟩
  ·cases h
theorem zfX (s : AS) (sl : List Nat) (f : Nat -> Option Nat) : ∀ (n k : Nat) (osh : List (List (Option Nat))) (os : List (List AV)), zjY s sl f k osh n = some os -> ∀ i, i < n -> Z8 (k + i) = false
 | 0, k, osh, os, h => λ i hi => by cases hi
 | n + 1, k, osh, os, h => by
  unfold zjY at h
  split at h
  ·rename_i cs r h1 h2
   intro i hi
   cases i with
   | zero => exact (AS.cx_some h1).2
   | succ i =>
    have := zfX s sl f n (k + 1) osh.tail r h2 i (by omega)
    rw [show k + (i + 1) = k + 1 + i by omega]; exact this
  ·cases h
theorem zcu (n : Nat) (use sl : List Nat) : ∀ (bs : List (List AV)) (k0 b : Nat) (x : Option (List AV)), (zct n use sl k0 bs).lookup b = some x -> ∃ k, ∃ (h : k < bs.length), b = k0 + k /\ x = some (match sl.contains b with | true => bs[k] | false => bs[k].map (mp0 (inB n) (zoE use)))
 | [], k0, b, x, h => by cases h
 | cs :: r, k0, b, x, h => by
  unfold zct at h
  rw [List.lookup_cons] at h
  by_cases e : b = k0
  ·subst e
   simp only [beq_self_eq_true] at h
   cases h
   exact ⟨0, by simp, rfl, rfl⟩
  ·have e2 : (b == k0) = false := by simp [e]
   rw [e2] at h
   obtain ⟨k, h1, h2, h3⟩ := zcu n use sl r (k0 + 1) b x h
   exact ⟨k + 1, by simpa using h1, by omega, by simpa using h3⟩
theorem zd6 (n : Nat) (use sl : List Nat) : ∀ (bs : List (List AV)) (k0 k : Nat), k < bs.length -> ∃ x, (zct n use sl k0 bs).lookup (k0 + k) = some x /\ x ≠ none
 | [], k0, k, h => by cases h
 | cs :: r, k0, k, h => by
  unfold zct
  rw [List.lookup_cons]
  cases k with
  | zero => simp
  | succ k =>
   have e2 : (k0 + (k + 1) == k0) = false := by simp
   rw [e2]
   have := zd6 n use sl r (k0 + 1) k (by simpa using h)
   rw [show k0 + 1 + k = k0 + (k + 1) by omega] at this
   exact this
theorem znI {nt : Nat} {args : List AV} {bs : List (List AV)} {use sl : List Nat} (ha : args.length <= nt) {cargs : Array Value} {gs : List (Option Nat)} (hgl : zpd M w gs (InT σ use)) (mem : ∀ g o v, M g o = some v -> w.cell? ⟨g, o, none⟩ = some v) (hlt : ∀ (k g : Nat), gs[k]? = some (some g) -> g < w.heap.size) (hn : Inj gs) (hl : gs.length = bs.length) (hsz : cargs.size = args.length) (hr : ∀ i (h : i < cargs.size) (h' : i < args.length), Rd M (gsR gs) σ cargs[i] args[i])
  (hbx : ∀ k (h : k < gs.length) (h' : k < bs.length), jR M (gsR gs) σ w gs[k] bs[k]) (hsl : ∀ k ∈ sl, ∀ (h : k < gs.length) (h' : k < bs.length), jR M JD jE w gs[k] bs[k]) (T : Toks M w σ use gs) (huv : ∀ t ∈ use, ∀ k, k < bs.length -> t ≠ vk k) : ∃ σ1 : Sig, (∀ k, k < bs.length -> σ1 (vk k) = σ (vk k)) /\ SimW ⟨w, M, gs, InT σ use, λ k => σ (vk k)⟩ M (gsR gs) σ1 (zaM nt use sl args bs) { tmps := cargs ++ Array.replicate (nt - cargs.size) undef, defers := [] } w := by
 let σ1 : Sig := λ t => open Classical in if t ∈ use \/ ∃ k, k < bs.length /\ t = vk k then σ t else none
 have s1u : ∀ t, (t ∈ use \/ ∃ k, k < bs.length /\ t = vk k) -> σ1 t = σ t := λ t ht => by
  show (if _ then _ else _) = _
  rw [if_pos ht]
 have s1n : ∀ t sp, σ1 t = some sp -> (t ∈ use \/ ∃ k, k < bs.length /\ t = vk k) /\ σ t = some sp := λ t sp ht => by
  have ht' : (if t ∈ use \/ ∃ k, k < bs.length /\ t = vk k then σ t else none) = some sp := ht
  split at ht'
  ·rename_i h; exact ⟨h, ht'⟩
  ·cases ht'
 have R : Ren (inB bs.length) (zoE use) (gsR gs) σ (gsR gs) σ1 := by
  refine ⟨λ b b' x hb hx => ?_, λ t t' sp ht hsp => ?_, λ b b' sp hb hsp => ?_⟩
  ·unfold inB at hb
   split at hb
   ·cases hb; exact hx
   ·cases hb
  ·unfold zoE at ht
   split at ht
   ·rename_i hc
    cases ht
    rw [s1u t (.inl (List.contains_iff_mem.1 hc))]; exact hsp
   ·cases ht
  ·unfold inB at hb
   split at hb
   ·rename_i hlt
    cases hb
    rw [s1u _ (.inr ⟨b, hlt, rfl⟩)]; exact hsp
   ·cases hb
 have tkq : ∀ t, (zaM nt use sl args bs).tk t = (use.map (λ t => (t, true)) ++ ((List.range bs.length).map (λ k => (vk k, false)) ++ sl.map λ k => (vm k, false))).lookup t := λ t => AS.tk_nofm rfl t
 have tk1 : ∀ t, (zaM nt use sl args bs).tk t = some true -> t ∈ use := λ t ht => by
  rw [tkq] at ht
  rcases List.mem_append.1 (zx _ _ _ ht) with hm | hm
  ·obtain ⟨x, m1, m2⟩ := List.mem_map.1 hm; cases m2; exact m1
  ·rcases List.mem_append.1 hm with hm | hm
   ·obtain ⟨x, m1, m2⟩ := List.mem_map.1 hm; cases m2
   ·obtain ⟨x, m1, m2⟩ := List.mem_map.1 hm; cases m2
 have tk2 : ∀ t, (t ∈ use \/ ∃ k, k < bs.length /\ t = vk k) -> (zaM nt use sl args bs).tk t ≠ none := λ t ht => by
  rw [tkq, <- Option.isSome_iff_ne_none, zQ, List.contains_iff_mem]
  rcases ht with ht | ⟨k, hk, rfl⟩
  ·exact List.mem_map.2 ⟨(t, true), List.mem_append_left _ (List.mem_map.2 ⟨t, ht, rfl⟩), rfl⟩
  ·exact List.mem_map.2 ⟨(vk k, false), List.mem_append_right _ (List.mem_append_left _ (List.mem_map.2 ⟨k, by simpa using hk, rfl⟩)), rfl⟩
 have bxq : ∀ b, (zaM nt use sl args bs).bx b = (match (zct bs.length use sl 0 bs).lookup b with | some x => x | none => none) := λ b => rfl
 have hbx' : ∀ b cs, (zaM nt use sl args bs).bx b = some cs -> ∃ h : b < bs.length, cs = (match sl.contains b with | true => bs[b] | false => bs[b].map (mp0 (inB bs.length) (zoE use))) := λ b cs hq => by
  rw [bxq] at hq
  split at hq
  ·rename_i x hx
   obtain ⟨k, h1, h2, h3⟩ := zcu _ _ _ _ _ _ _ hx
   rw [Nat.zero_add] at h2
   subst h2
   rw [h3] at hq
   exact ⟨h1, (Option.some.inj hq).symm⟩
  ·cases hq
 have gk : ∀ b g, gsR gs b = some g -> gs[b]? = some (some g) := λ b g h => by
  unfold gsR at h
  cases hq : gs[b]? with
  | none => rw [hq] at h; cases h
  | some x => rw [hq] at h; rw [show x = some g from h]
 refine ⟨σ1, λ k hk => s1u _ (.inr ⟨k, hk, rfl⟩), ?_⟩
 refine { nin := hl.symm, own := λ k hk hb => rfl, fresh := λ b g hb' hr' => ?_, len := ?_, env := λ t => ?_, defers := .nil _ _, mem := mem, memB := λ _ _ _ _ => rfl, memS := λ _ _ _ h => h, gl := hgl, os := rfl, tape := rfl, output := rfl, size := Nat.le_refl _, block := λ _ _ _ _ => rfl, box := λ b cs hq => ?_, rws := λ _ _ h => h, rlt := λ b g hr' => hlt b g (gk b g hr'), rho := λ b g hg => ?_, inj := λ b b' g _ _ h1 h2 => hn b b' g (gk b g h1) (gk b' g h2), tok := λ t sp ht hs => ?_, cap := λ t sp hs => T.cap t sp (s1n t sp hs).2, sig := λ t sp hs => tk2 t (s1n t sp hs).1, capB := λ k hk sp hs => (s1n _ sp hs).2, nink := λ k hk => tk2 _ (.inr ⟨k, hk, rfl⟩), tinj := λ t t' sp sp' ht ht' hs hs' hg => T.inj t (tk1 t ht) t' (tk1 t' ht') sp sp' (s1n t sp hs).2 (s1n t' sp' hs').2 hg }
 ·simp [zaM]; omega
 ·have e : (zaM nt use sl args bs).at t = if h : t < args.length then zbo bs.length use args[t] else .any := by
   unfold AS.at zaM
   simp only
   by_cases hlt : t < args.length
   ·rw [dif_pos hlt, List.getElem?_append_left (by simpa using hlt), List.getElem?_map, List.getElem?_eq_getElem hlt]; rfl
   ·rw [dif_neg hlt, List.getElem?_append_right (by simp; omega), List.getElem?_replicate]
    split <;> rfl
  rw [e]
  split
  ·rename_i hlt
   have h1 : t < cargs.size := by omega
   have : (cargs ++ Array.replicate (nt - cargs.size) undef).getD t undef = cargs[t] := by
    rw [Array.getD_eq_getD_getElem?, Array.getElem?_append_left h1, Array.getElem?_eq_getElem h1]; rfl
   rw [this]
   exact (hr t h1 hlt).mp2 R
  ·exact .any
 ·have h1 := gk b g hr'
  have h2 := (List.getElem?_eq_some_iff.1 h1).1
  have h3 : bs.length <= b := hb'
  omega
 ·obtain ⟨hlt', rfl⟩ := hbx' b cs hq
  have hb2 : b < gs.length := by omega
  have eg : gsR gs b = gs[b] := by unfold gsR; rw [List.getElem?_eq_getElem hb2]; rfl
  cases hc : sl.contains b with
  | true =>
   rcases hsl b (List.contains_iff_mem.1 hc) hb2 hlt' with ⟨q1, q2⟩ | ⟨g, q1, ⟨ccs, t, z1, z2, z3, z4⟩, q3⟩
   ·exact .inl ⟨q1, by rw [eg]; exact q2⟩
   ·exact .inr ⟨g, by rw [eg]; exact q1, .inl ⟨ccs, t, z1, z2, z3, λ i a b => (z4 i a b).of0⟩, q3, .inr (by rw [<- q1]; exact List.getElem_mem _)⟩
  | false =>
   rcases hbx b hb2 hlt' with ⟨q1, q2⟩ | ⟨g, q1, ⟨ccs, t, z1, z2, z3, z4⟩, q3⟩
   ·exact .inl ⟨by simp [q1], by rw [eg]; exact q2⟩
   ·exact .inr ⟨g, by rw [eg]; exact q1, .inl ⟨ccs, t, z1, by simpa using z2, λ i a b => z3 i a (by simpa using b), λ i a b => by simpa using (z4 i a (by simpa using b)).mp0 R⟩, q3, .inr (by rw [<- q1]; exact List.getElem_mem _)⟩
 ·refine .inl ?_
  have h1 := gk b g hg
  have h2 := (List.getElem?_eq_some_iff.1 h1).1
  obtain ⟨x, q1, q2⟩ := zd6 bs.length use sl bs 0 b (by omega)
  rw [Nat.zero_add] at q1
  rw [bxq, q1]
  exact q2
 ·have hu := tk1 t ht
  obtain ⟨q1, q2, q3⟩ := T.tok t hu sp (s1n t sp hs).2
  exact ⟨.inr ⟨t, hu, sp, (s1n t sp hs).2, rfl⟩, q1, q2, λ b _ e => q3 (List.mem_of_getElem? (gk b _ e))⟩
def zuq (σ : Sig) (nw : Option Nat) : Option Spare := match nw with
 | some b => σ (vk b)
 | none => none
def newG (ρ : Rho) (nw : Option Nat) (new : Option (List AV)) : List (Option Nat) := match nw with
 | some b => [ρ b]
 | none => (match new with | some _ => [none] | none => [])
theorem zpH (s : AS) (f : Nat -> Option Nat) (sh : List (List (Option Nat))) (vs : List AV) (h : ∀ v, vs ≠ [v]) : zr3 s f sh vs = .tup (valVs s f 0 sh vs) := by
 cases vs with
 | nil => rfl
 | cons x r => cases r with
  | nil => exact absurd rfl (h x)
  | cons y r => rfl
theorem Rd.datF {c : Value} {a : AV} (h : Rd M ρ σ c a) (up : ∀ t sp, TOB <= t -> σ t = some sp -> σ' t = some sp) : Rd M ρ' σ' c (datF a) := by
 have d : Rd M ρ' σ' c (Go.Proofs.YthdgnfcbehcplaaGreatDoor.dat0 a) := h.dat0.of0
 cases h with
 | nil ha => exact .nil (ha.imp id λ e => by rw [e])
 | list cf hl hcap hn hm ho hr ht =>
  refine .list cf hl hcap hn hm ho hr (λ q hq => ?_)
  split at hq
  ·rename_i k
   cases hb : Nat.ble TOB k with
   | false => rw [hb] at hq; cases hq
   | true =>
    rw [hb] at hq
    cases hq
    exact (ht _ rfl).imp (λ x => x) λ ⟨sp, e1, e2⟩ => ⟨sp, up _ _ (Nat.le_of_ble_eq_true hb) e1, e2⟩
  ·cases hq
 | _ => exact d
theorem zgB {id : Nat} {c : Option Nat} {v : AV} {p : Nat × Option Nat} (h : p ∈ zvx s id c v) : ∀ t, p.2 = some t -> s.tk t = some true := λ t ht => by
 unfold zvx at h
 split at h
 ·split at h
  ·split at h
   ·simp at h; subst h; cases ht
   ·cases h
  ·split at h
   ·split at h
    ·rename_i hk; simp at h; subst h; cases ht; exact hk
    ·cases h
   ·cases h
  ·cases h
 ·cases h
theorem zaY {id : Nat -> Nat} : ∀ (cs : List AV) (j : Nat) (row : List (Option Nat)) (p : Nat × Option Nat), p ∈ zhR s id j row cs -> ∀ t, p.2 = some t -> s.tk t = some true
 | [], _, _, p, h => by cases h
 | v :: r, j, row, p, h => by
  rcases List.mem_append.1 h with h | h
  ·exact zgB h
  ·exact zaY r _ _ p h
theorem zci (sl : List Nat) : ∀ (n k : Nat) (osh : List (List (Option Nat))) (p : Nat × Option Nat), p ∈ ziw s sl k osh n -> ∀ t, p.2 = some t -> s.tk t = some true
 | 0, _, _, p, h => by cases h
 | n + 1, k, osh, p, h => by
  rcases List.mem_append.1 h with h | h
  ·split at h
   ·cases h
   ·split at h
    ·exact zaY _ _ _ p h
    ·cases h
  ·exact zci sl n _ _ p h
theorem zek : ∀ (cs : List AV) (i : Nat) (sh : List (List (Option Nat))) (p : Nat × Option Nat), p ∈ zox s i sh cs -> ∀ t, p.2 = some t -> s.tk t = some true
 | [], _, _, p, h => by cases h
 | v :: r, i, sh, p, h => by
  rcases List.mem_append.1 h with h | h
  ·unfold zAJ at h
   split at h
   ·cases h
   ·exact zgB h
  ·exact zek r _ _ p h
def zeb : List Nat -> World -> World
 | [], w => w
 | D :: l, w => zeb l (w.putObj D (.deferred none))
theorem zbj {fn : Func} {tmps : Array Value} {R : Ending -> World -> Prop} : ∀ (l : List Nat) (w : World), l.Nodup -> (∀ D ∈ l, w.heap[D]? = some (.deferred (some []))) -> (∃ v, (results fn tmps).run P (zeb l w) = .ok v (zeb l w) /\ R (.returned v) (zeb l w)) -> LeavesInM Fence.wide 0 P fn tmps R (l.map mkD) .returning w
 | [], w, _, _, h => h
 | D :: l, w, hn, hd, h => by
  obtain ⟨n1, n2⟩ := List.nodup_cons.1 hn
  refine ⟨by simp, .inl ⟨D, _, rfl, run_takeDeferred (hd D List.mem_cons_self), zbj l _ n2 (λ D' hD' => ?_) h⟩⟩
  rw [World.putObj_heap_other (λ e => n1 (by rw [<- e]; exact hD'))]
  exact hd D' (List.mem_cons_of_mem _ hD')
theorem SimW.unmark : ∀ (l : List Nat) (w : World) (a : Act), SimW B M ρ σ s a w -> l.Nodup -> (∀ D ∈ l, B.w0.heap.size <= D /\ w.heap[D]? = some (.deferred (some []))) -> SimW B M ρ σ s { a with defers := [] } (zeb l w)
 | [], w, a, h, _, _ => h.turn (row := none) ⟨rfl, rfl, rfl, Nat.le_refl _, λ _ _ _ => rfl, λ r e => by cases e⟩ (.nil _ _)
 | D :: l, w, a, h, hn, hd => by
  obtain ⟨n1, n2⟩ := List.nodup_cons.1 hn
  obtain ⟨d1, d2⟩ := hd D List.mem_cons_self
  have g := grownBy_putObj' w D (.deferred none)
  have q := h.turn (row := some D) (ds := []) ⟨g.os, g.tape, g.output, g.size, g.block, λ r e => by
   cases e
   refine ⟨d1, λ m hr => zgo d2 hr rfl, λ o => ?_, .inl λ es c e => by rw [d2] at e; cases e⟩
   cases hc : w.cell? ⟨D, o, none⟩ with
   | none => rfl
   | some v =>
    obtain ⟨ob, h1, h2⟩ := cells_of_cell hc
    rw [show w.heap[D]? = some (.deferred (some [])) from d2] at h1
    cases h1; cases h2⟩ (.nil _ _)
  exact SimW.unmark l _ { a with defers := [] } q n2 λ D' hD' => ⟨(hd D' (List.mem_cons_of_mem _ hD')).1, by
   rw [World.putObj_heap_other (λ e => n1 (by rw [<- e]; exact hD'))]
   exact (hd D' (List.mem_cons_of_mem _ hD')).2⟩
theorem ziS {sh osh : List (List (Option Nat))} {nsh : List (Option Nat)} {use sl : List Nat} {gs : List (Option Nat)} {w w1 : World} {M M' : Mem} {ρ : Rho} {σ σ2 : Sig} {s : AS} {a : Act} {r : Ret} {vs : List AV} {nw : Option Nat} {cs : List Value} (hs : SimW ⟨w, M, gs, InT σ use, λ k => σ (vk k)⟩ M' ρ σ2 s a w1) (hk : zhc ⟨sh, osh, nsh, use, sl⟩ s vs nw = some r) (hnw : ∀ b, nw = some b -> s.nin <= b) (q2 : cs.length = vs.length) (q3 : ∀ i (h : i < cs.length) (h' : i < vs.length), Rd M' ρ σ2 cs[i] vs[i]) (ru : r.use = use /\ r.sl = sl) :
  ∃ σ3 gn, Left M w gs σ r (if h : cs.toArray.size = 1 then cs.toArray[0] else .tuple cs.toArray) M' w1 σ3 gn := by
     unfold zhc at hk
     obtain ⟨tab, htab⟩ : ∃ tab, zfV ⟨sh, osh, nsh, use, sl⟩ s vs nw = tab := ⟨_, rfl⟩
     rw [htab] at hk
     dsimp only at hk
     obtain ⟨f', hf'⟩ : ∃ f', zvO s nw = f' := ⟨_, rfl⟩
     rw [hf'] at hk
     obtain ⟨fq, hfq⟩ : ∃ fq, fmR s tab nw = fq := ⟨_, rfl⟩
     rw [hfq] at hk
     have fqS : ∀ j N, fq = some (j, N) -> (∀ t, TOB + j <= t -> t < TOB + N -> s.tk t = some true) /\ (∀ i x, (i, x) ∈ tab -> i < TOB) /\ (∀ i t, (i, some t) ∈ tab -> t < TOB) /\ vk s.nin < TOB := λ j N e => by
      rw [<- hfq] at e
      unfold fmR at e
      split at e
      ·rename_i b j' N' b' hfm
       cases hc : (Nat.beq b b' && (JB s.tok && (loT (tab.map (·.1)) && (loT (tab.filterMap (·.2)) && !(Nat.ble TOB (vk s.nin)))))) with
       | false => rw [hc] at e; cases e
       | true =>
        rw [hc] at e
        cases e
        simp only [Bool.and_eq_true] at hc
        obtain ⟨-, c1, c2, c3, c4⟩ := hc
        refine ⟨λ t h1 h2 => ?_, λ i x hm => zi3 c2 (List.mem_map.2 ⟨_, hm, rfl⟩), λ i t hm => zi3 c3 (List.mem_filterMap.2 ⟨_, hm, rfl⟩), ziA c4⟩
        obtain ⟨i, rfl⟩ : ∃ i, t = TOB + i := ⟨t - TOB, by omega⟩
        unfold AS.tk
        rw [jb c1 (by omega), hfm]
        have e : zfA (some (b, j, N)) (TOB + i) = some (decide (j <= i)) := ZU (by omega)
        rw [decide_eq_true (by omega)] at e
        exact e
      ·cases e
     split at hk
     ·rename_i os new ho hnew
      split at hk
      ·rename_i hchk
       rw [Bool.and_eq_true, Bool.and_eq_true] at hchk
       obtain ⟨k1, k2, k3⟩ := hchk
       have tab_nd := zF _ k1
       have tabL : ∀ i x, (i, x) ∈ tab -> tab.lookup i = some x := ZN tab tab_nd
       have tabV : ∀ i x, (i, x) ∈ tab -> ∀ k, k <= s.nin -> i ≠ vk k := λ i x hm k hk => of_decide_eq_true (List.all_eq_true.1 (List.all_eq_true.1 k3 _ hm) k (by simpa using Nat.lt_succ_of_le hk))
       have tabLive : ∀ i t, (i, some t) ∈ tab -> s.tk t = some true := λ i t hm => by
        rw [<- htab] at hm
        unfold zfV at hm
        rcases List.mem_append.1 hm with hm | hm
        ·exact zci _ _ _ _ _ hm t rfl
        ·rcases List.mem_append.1 hm with hm | hm
         ·unfold zug at hm
          split at hm
          ·split at hm
           ·split at hm
            ·cases hm
            ·exact zaY _ _ _ _ hm t rfl
           ·cases hm
          ·cases hm
         ·exact zek _ _ _ _ hm t rfl
       have hnin : s.nin = gs.length := hs.nin
       obtain ⟨gn, hgn⟩ : ∃ gn : List (Option Nat), gn = newG ρ nw new := ⟨_, rfl⟩
       let σ3 : Sig := λ t => match tab.lookup t with | some o => o.bind σ2 | none => if t = vk s.nin then zuq σ2 nw else σ2 t
       have s3t : ∀ i x, (i, x) ∈ tab -> σ3 i = x.bind σ2 := λ i x hm => by
        show (match tab.lookup i with | some o => o.bind σ2 | none => if i = vk s.nin then zuq σ2 nw else σ2 i) = _
        rw [tabL i x hm]
       have tabN : ∀ k, k <= s.nin -> tab.lookup (vk k) = none := λ k hk => by
        cases hq : tab.lookup (vk k) with
        | none => rfl
        | some x => exact absurd rfl (tabV _ _ (zx _ _ _ hq) k hk)
       have s3n : ∀ k, k < s.nin -> σ3 (vk k) = σ2 (vk k) := λ k hk => by
        show (match tab.lookup (vk k) with | some o => o.bind σ2 | none => if vk k = vk s.nin then zuq σ2 nw else σ2 (vk k)) = _
        rw [tabN k (by omega)]
        simp only
        rw [if_neg (by unfold vk; omega)]
       have s3e : ∀ b, nw = some b -> σ3 (vk s.nin) = σ2 (vk b) := λ b hb => by
        show (match tab.lookup (vk s.nin) with | some o => o.bind σ2 | none => if vk s.nin = vk s.nin then zuq σ2 nw else σ2 (vk s.nin)) = _
        rw [tabN s.nin (Nat.le_refl _)]
        simp only [if_true, hb]; rfl
       have s3c : ∀ t sp, σ3 t = some sp -> ∃ t', σ2 t' = some sp := λ t sp ht => by
        have ht' : (match tab.lookup t with | some o => o.bind σ2 | none => if t = vk s.nin then zuq σ2 nw else σ2 t) = some sp := ht
        split at ht'
        ·obtain ⟨x, -, h2⟩ := Option.bind_eq_some_iff.1 ht'
         exact ⟨x, h2⟩
        ·split at ht'
         ·unfold zuq at ht'
          split at ht'
          ·exact ⟨_, ht'⟩
          ·cases ht'
         ·exact ⟨_, ht'⟩
       obtain ⟨o1, o2⟩ := zd1 s sl f' _ _ _ _ ho
       have o3 := zfX s sl f' _ _ _ _ ho
       rw [hnin] at o1
       have hpres : ∀ k, k < gs.length -> s.bx k ≠ none := λ k hk => by
        obtain ⟨cs, row, q1, -⟩ := o2 k (by omega)
        rw [Nat.zero_add] at q1
        rw [q1]; simp
       have hown : ∀ k (hk : k < gs.length), ρ k = gs[k] := λ k hk => by
        have := hs.own k (by omega) (hpres k hk)
        rw [this]
        show (gs[k]?).getD none = _
        rw [List.getElem?_eq_getElem hk]; rfl
       have gl : ∀ b, b < s.nin -> gsR (gs ++ gn) b = ρ b := λ b hb => by
        have hb' : b < gs.length := by omega
        rw [hown b hb']
        unfold gsR
        rw [List.getElem?_append_left hb', List.getElem?_eq_getElem hb']; rfl
       have gN : ∀ b, nw = some b -> gsR (gs ++ gn) s.nin = ρ b := λ b hb => by
        unfold gsR
        rw [hgn, hb, hnin, List.getElem?_append_right (Nat.le_refl _), Nat.sub_self]
        rfl
       have R : Ren f' no1 ρ σ2 (gsR (gs ++ gn)) σ3 := by
        have oF : ∀ b b', f' b = some b' -> (b < s.nin /\ b' = b) \/ (nw = some b /\ b' = s.nin) := λ b b' hb => by
         rw [<- hf'] at hb
         unfold zvO at hb
         split at hb
         ·rename_i hlt
          split at hb
          ·cases hb; exact .inl ⟨hlt, rfl⟩
          ·cases hb
         ·split at hb
          ·split at hb
           ·rename_i e; cases hb; exact .inr ⟨by rw [e], rfl⟩
           ·cases hb
          ·cases hb
        refine ⟨λ b b' x hb hx => ?_, λ t t' sp ht hsp => ?_, λ b b' sp hb hsp => ?_⟩
        ·rcases oF b b' hb with ⟨q1, q2⟩ | ⟨q1, q2⟩
         ·rw [q2, gl b q1]; exact hx
         ·rw [q2, gN b q1]; exact hx
        ·cases ht
        ·rcases oF b b' hb with ⟨q1, q2⟩ | ⟨q1, q2⟩
         ·rw [q2, s3n b q1]; exact hsp
         ·rw [q2, s3e b q1]; exact hsp
       have sub : ∀ g o v, M g o = some v -> M' g o = some v := hs.memS
       have frm : Frm w w1 gs (InT σ use) := ⟨hs.os, hs.tape, hs.output, hs.size, hs.block⟩
       have tabS : ∀ i t, (i, some t) ∈ tab -> ∀ sp, σ2 t = some sp -> σ3 i = some sp := λ i t hm sp hsp => by
        rw [s3t i _ hm]; exact hsp
       have hval : Rd M' (gsR (gs ++ gn)) σ3 (if h : cs.toArray.size = 1 then cs.toArray[0] else .tuple cs.toArray) (zr3 s f' sh vs) := by
        have inT : ∀ p ∈ zox s 0 sh vs, p ∈ tab := λ p hp => by
         rw [<- htab]; exact List.mem_append_right _ (List.mem_append_right _ hp)
        by_cases hone : ∃ v, vs = [v]
        ·obtain ⟨v, hv1⟩ := hone
         subst hv1
         obtain ⟨c0, hc0⟩ : ∃ c0, cs = [c0] := List.length_eq_one_iff.1 (by rw [q2]; rfl)
         subst hc0
         show Rd M' (gsR (gs ++ gn)) σ3 c0 (valV s f' 0 (sh.headD []) v)
         exact (q3 0 (by simp) (by simp)).valV R λ i' t hm => tabS i' t (inT _ (List.mem_append_left _ hm))
        ·have hne : ∀ v, vs ≠ [v] := λ v e => hone ⟨v, e⟩
         have h1 : ¬ cs.toArray.size = 1 := λ e => by
          have e2 : vs.length = 1 := by rw [<- q2]; simpa using e
          obtain ⟨v, e3⟩ := List.length_eq_one_iff.1 e2
          exact hne v e3
         rw [dif_neg h1, zpH s f' sh vs hne]
         have hz := Rd.valVs (s := s) R vs 0 sh cs q2 q3 λ i' t hm => tabS i' t (inT _ hm)
         have hzl := zgG (s := s) f' vs 0 sh
         exact .tup (by simp [hzl, q2]) (λ i h h' => by simpa using hz i (by simpa using h) h')
       cases hk
       have holdD : ∀ (b g : Nat) (cs : List AV), Hold0 M' ρ σ2 w1 g cs -> Hold0 M' JD jE w1 g (cs.map dat0) := λ b g cs ⟨ccs, t, z1, z2, z3, z4⟩ => ⟨ccs, t, z1, by simpa using z2, λ i a b => z3 i a (by simpa using b), λ i a b => by simpa using (z4 i a (by simpa using b)).dat0⟩
       have up0 : ∀ g cs, Hold0 M' JD jE w1 g cs -> Hold0 M' (gsR (gs ++ gn)) σ3 w1 g cs := λ g cs ⟨ccs, t, z1, z2, z3, z4⟩ => ⟨ccs, t, z1, z2, z3, λ i a b => (z4 i a b).of0⟩
       have tokIn : ∀ t sp, s.tk t = some true -> σ2 t = some sp -> (w.heap.size <= sp.g \/ InT σ use sp.g) /\ sp.lo <= sp.hi /\ (∀ o, sp.lo <= o -> o < sp.hi -> M' sp.g o = none) /\ some sp.g ∉ gs := λ t sp ht hsp => by
        obtain ⟨p1, p2, p3, p4⟩ := hs.tok t sp ht hsp
        refine ⟨p1, p2, p3, λ hm => ?_⟩
        obtain ⟨k, hk, e⟩ := List.getElem_of_mem hm
        exact p4 k (hpres k hk) (by rw [hown k hk, e])
       have s3F : fq ≠ none -> ∀ t, TOB <= t -> σ3 t = σ2 t := λ hne t ht => by
        cases hfq' : fq with
        | none => exact absurd hfq' hne
        | some p =>
         obtain ⟨j, N⟩ := p
         obtain ⟨-, f1, -, f2⟩ := fqS j N hfq'
         show (match tab.lookup t with | some o => o.bind σ2 | none => if t = vk s.nin then zuq σ2 nw else σ2 t) = _
         cases hq : tab.lookup t with
         | some x => have := f1 _ _ (zx _ _ _ hq); omega
         | none =>
          simp only
          rw [if_neg (by omega)]
       have qFam : ∀ (c : Value) (v : AV), Rd M' ρ σ2 c v -> Rd M' (gsR (gs ++ gn)) σ3 c (zCE fq v) := λ c v q => by
        cases hfq' : fq with
        | none => exact q.dat0.of0
        | some p => exact q.datF (ρ' := gsR (gs ++ gn)) (σ' := σ3) (λ t sp ht hsp => by rw [s3F (by rw [hfq']; simp) t ht]; exact hsp)
       have holdQ : ∀ (b g : Nat) (cs : List AV), Hold0 M' ρ σ2 w1 g cs -> Hold0 M' (gsR (gs ++ gn)) σ3 w1 g (cs.map (zCE fq)) := λ b g cs ⟨ccs, t, z1, z2, z3, z4⟩ => ⟨ccs, t, z1, by simpa using z2, λ i a b => z3 i a (by simpa using b), λ i a b => by
        have q := z4 i a (by simpa using b)
        rw [List.getElem_map]
        exact qFam _ _ q⟩
       -- the new variable
       have hnewS : ∀ cs, new = some cs -> ∃ go, gn = [go] /\ jR M' (gsR (gs ++ gn)) σ3 w1 go cs /\ (∀ g, go = some g -> w.heap.size <= g) /\ ∀ t sp, s.tk t = some true -> σ2 t = some sp -> go ≠ some sp.g := λ cs hcs => by
        unfold anew at hnew
        split at hnew
        ·rename_i b
         split at hnew
         ·rename_i cs0 hb0
          obtain ⟨hb, hbm⟩ := AS.cx_some hb0
          rw [hcs] at hnew
          have hnew' := Option.some.inj (Option.some.inj hnew)
          have hgo : gn = [ρ b] := hgn
          have hfr : ∀ g, ρ b = some g -> w.heap.size <= g := λ g hg => hs.fresh b g (hnw b rfl) hg
          have hnt : ∀ t sp, s.tk t = some true -> σ2 t = some sp -> ρ b ≠ some sp.g := λ t sp ht hsp => (hs.tok t sp ht hsp).2.2.2 b (j9 hb)
          refine ⟨ρ b, hgo, ?_, hfr, hnt⟩
          rw [<- hnew']
          rcases hs.box b cs0 hb with ⟨e1, e2⟩ | ⟨g, p1, p20, p3, -⟩
          rotate_left
          have p2 := p20.cells hbm
          rotate_left
          ·refine .inl ⟨?_, e2⟩
           subst e1
           split <;> rfl
          ·refine .inr ⟨g, p1, ?_, p3⟩
           split
           ·exact holdQ b g cs0 p2
           ·rename_i hvm
            refine p2.tagC R _ _ λ i t hm => tabS i t ?_
            rw [<- htab]
            refine List.mem_append_right _ (List.mem_append_left _ ?_)
            unfold zug
            simp only [hb, hvm]
            exact hm
         ·cases hnew
        ·have hgo : gn = [none] := by rw [hgn, hcs]; rfl
         have hnew' := Option.some.inj hnew
         rw [hcs] at hnew'
         refine ⟨none, hgo, .inl ⟨?_, rfl⟩, λ g e => (by cases e), λ t sp _ _ e => by cases e⟩
         revert hnew'
         cases zgh (zr3 s f' sh vs)
         ·intro e; cases e
         ·intro e; cases e; rfl
       have lvK : ∀ t, Ret.lv ⟨zr3 s f' sh vs, os, new, use, tab.map (·.1), sl, fq⟩ t -> ∀ sp, σ3 t = some sp -> ∃ t0, s.tk t0 = some true /\ σ2 t0 = some sp /\ ((t, some t0) ∈ tab \/ (t0 = t /\ TOB <= t /\ ∀ i t1, (i, some t1) ∈ tab -> t1 < TOB)) := λ t ht sp hsp => by
        rcases ht with ht | ⟨j, N, e, h1, h2⟩
        ·have ht' : t ∈ tab.map (·.1) := ht
         obtain ⟨⟨i, x⟩, m1, m2⟩ := List.mem_map.1 ht'
         have m2' : i = t := m2
         subst m2'
         rw [s3t i x m1] at hsp
         obtain ⟨t0, e1, h1⟩ := Option.bind_eq_some_iff.1 hsp
         subst e1
         exact ⟨t0, tabLive i t0 m1, h1, .inl m1⟩
        ·have e' : fq = some (j, N) := e
         obtain ⟨f0, f1, f2, -⟩ := fqS j N e'
         rw [s3F (by rw [e']; simp) t (by omega)] at hsp
         exact ⟨t, f0 t h1 h2, hsp, .inr ⟨rfl, by omega, f2⟩⟩
       refine ⟨σ3, gn, ?_⟩
       refine { sub := sub, mem := hs.mem, same := hs.memB, frm := by rw [ru.1]; exact frm, olen := o1, outs := λ k hk hk' => ?_, data := λ k hks hk hk' => ?_, newn := λ e => ?_, new := λ cs hcs => ?_, val := hval, tok := λ t ht sp hsp => ?_, cap := λ t sp hsp => ?_, inj := λ t ht t' ht' sp sp' h1 h2 hg => ?_, rows := hs.rws, capin := λ k hk sp hsp => ?_ }
       ·obtain ⟨cs0, row, c1, c2, c3⟩ := o2 k hk'
        rw [Nat.zero_add] at c1 c2 c3
        dsimp only
        rw [c2]
        rcases hs.box k cs0 c1 with ⟨e1, e2⟩ | ⟨g, p1, p20, p3, -⟩
        rotate_left
        have p2 := p20.cells (by have := o3 k (by omega); rwa [Nat.zero_add] at this)
        rotate_left
        ·refine .inl ⟨?_, by rw [<- hown k hk]; exact e2⟩
         subst e1
         split <;> rfl
        ·refine .inr ⟨g, by rw [<- hown k hk]; exact p1, ?_, p3⟩
         cases hsc : sl.contains k with
         | true => exact up0 _ _ (holdD k g cs0 p2)
         | false =>
          refine p2.tagC R _ _ λ i t hm => tabS i t ?_
          rw [<- htab]
          refine List.mem_append_left _ ?_
          exact c3 hsc _ hm
       ·obtain ⟨cs0, row, c1, c2, c3⟩ := o2 k hk'
        rw [Nat.zero_add] at c1 c2 c3
        dsimp only
        have hks' : sl.contains k = true := List.contains_iff_mem.2 hks
        rw [c2, hks']
        rcases hs.box k cs0 c1 with ⟨e1, e2⟩ | ⟨g, p1, p20, p3, -⟩
        rotate_left
        have p2 := p20.cells (by have := o3 k (by omega); rwa [Nat.zero_add] at this)
        rotate_left
        ·exact .inl ⟨by rw [e1]; rfl, by rw [<- hown k hk]; exact e2⟩
        ·exact .inr ⟨g, by rw [<- hown k hk]; exact p1, holdD k g cs0 p2, p3⟩
       ·have e' : new = none := e
        rw [hgn, e']
        unfold anew at hnew
        cases nw with
        | none => rfl
        | some b =>
         simp only at hnew
         split at hnew
         ·rw [e'] at hnew; cases hnew
         ·cases hnew
       ·obtain ⟨go, g1, g2, g3, -⟩ := hnewS cs hcs
        exact ⟨go, g1, g2, g3⟩
       ·obtain ⟨t0, h2, h1, -⟩ := lvK t ht sp hsp
        obtain ⟨p1, p2, p3, p4⟩ := tokIn t0 sp h2 h1
        refine ⟨by rw [ru.1]; exact p1, p2, p3, λ hm => ?_⟩
        rcases List.mem_append.1 hm with hm | hm
        ·exact p4 hm
        ·cases hnn : new with
         | some cs =>
          obtain ⟨go, g1, -, -, g4⟩ := hnewS cs hnn
          rw [g1] at hm
          have : some sp.g = go := by simpa using hm
          exact g4 t0 sp h2 h1 this.symm
         | none =>
          rw [hgn, hnn] at hm
          unfold anew at hnew
          cases nw with
          | none => cases hm
          | some b =>
           simp only at hnew
           split at hnew
           ·rw [hnn] at hnew; cases hnew
           ·cases hnew
       ·obtain ⟨t', h1⟩ := s3c t sp hsp
        exact hs.cap t' sp h1
       ·obtain ⟨t0, l1, l2, l3⟩ := lvK t ht sp h1
        obtain ⟨t0', l1', l2', l3'⟩ := lvK t' ht' sp' h2
        have := hs.tinj t0 t0' sp sp' l1 l1' l2 l2' hg
        subst this
        rcases l3 with l3 | ⟨e, l4, l5⟩
        ·rcases l3' with l3' | ⟨e', l4', l5'⟩
         ·exact congrArg Prod.fst (ZD (·.2) tab k2 (t, some t0) (t', some t0) t0 l3 l3' rfl rfl)
         ·have := l5' t t0 l3; omega
        ·rcases l3' with l3' | ⟨e', l4', l5'⟩
         ·have := l5 t' t0 l3'; omega
         ·rw [<- e, <- e']
       ·rw [s3n k (by omega)] at hsp
        have := hs.capB k (by omega) sp hsp
        exact this
      ·cases hk
     ·cases hk
theorem zdY (hT : TabOk P T) {f : FuncId} {fn : Func} (hf : P.funcs[f]? = some fn) (hname : (fn.name == "runtime.NumGoroutine") = false) {c : Code} (hc : fn.body = some c) {S : Shape} {args : List AV} {bs : List (List AV)} {r : Ret} (ru : r.use = S.use /\ r.sl = S.sl) (hle : args.length <= fn.ntmps) (huv : ∀ t ∈ S.use, ∀ k, k < bs.length -> t ≠ vk k)
  (H : ∀ (B : Base) (a : Act) (w : World) (Q : Exit -> Act -> World -> Prop), Sim B (zaM fn.ntmps S.use S.sl args bs) a w -> (∀ e s a' w', (e = .normal \/ e = .ret) -> zrQ T fn S s = some r -> Sim B s a' w' -> Q e a' w') -> c.wp P Q a w) : CallOk P f args bs r := by
 obtain ⟨sh, osh, nsh, use, sl⟩ := S
 refine ⟨⟨fn, hf, hname, by rw [hc]; rfl⟩, λ M w cargs gs σ hgl mem hlt hn hl hsz hr hbx hsl0 hT0 => ?_⟩
 rw [ru.1] at hT0 hgl
 rw [ru.2] at hsl0
 obtain ⟨σ1, hσ1, hinit⟩ := znI (nt := fn.ntmps) (args := args) (bs := bs) (use := use) (sl := sl) hle hgl mem hlt hn hl hsz hr hbx hsl0 hT0 huv
 refine callsIn_wide.1 (callsIn_of_wp_marks (F := Fence.wide) (n := 0) hf hc trivial (wpIn_wide.2 (H _ _ w _ ⟨M, _, _, hinit⟩ λ e s a w' he hk hS => ?_)))
 have fin : zrQ T fn ⟨sh, osh, nsh, use, sl⟩ s = some r -> LeavesInM Fence.wide 0 P fn a.tmps (λ e w' => ∃ c M' σ' gn, e = .returned c /\ Left M w gs σ r c M' w' σ' gn) a.defers .returning w' := λ hk => by
  obtain ⟨M', ρ, σ2, hs0⟩ := hS
  obtain ⟨ml, m1, m2, m3⟩ := hs0.defers
  rw [m1]
  refine zbj ml w' m2 (λ D hD => (m3 D hD).2) ?_
  have hs := SimW.unmark ml w' a hs0 m2 m3
  obtain ⟨w1, hw1⟩ : ∃ w1, zeb ml w' = w1 := ⟨_, rfl⟩
  rw [hw1] at hs |-
  clear m3 hs0 hw1
  unfold zrQ at hk
  split at hk
  ·rename_i vs hv
   obtain ⟨nw, hnwd⟩ : ∃ nw, zzx s vs = nw := ⟨_, rfl⟩
   rw [hnwd] at hk
   have hnw : ∀ b, nw = some b -> s.nin <= b := λ b hb => by
    rw [hb] at hnwd
    have := List.mem_of_mem_head? hnwd
    exact of_decide_eq_true (List.mem_filter.1 this).2
   obtain ⟨cs, q1, q2, q3⟩ := zcm hT hs _ _ hv
   have qr : (results fn a.tmps).run P w1 = .ok (if h : cs.toArray.size = 1 then cs.toArray[0] else .tuple cs.toArray) w1 := by
    rw [zkj]
    simp only [Sem.run_bind]
    have : (fn.results.mapM (rv a.tmps)).run P w1 = .ok cs.toArray w1 := by
     rw [Array.mapM_eq_mapM_toList]
     show Sem.run P ((fn.results.toList.mapM _) >>= λ l => pure l.toArray) w1 = _
     rw [Sem.run_bind, q1]
     rfl
    rw [this]
    rfl
   obtain ⟨σ3, gn, hleft⟩ := ziS hs hk hnw q2 q3 ru
   exact ⟨_, qr, _, M', σ3, gn, rfl, hleft⟩
  ·cases hk
 rcases he with rfl | rfl
 ·exact fin hk
 ·exact fin hk
theorem ziv (hT : TabOk P T) (hG : GOk P Γ.v) (hm : P.follows .mixedOrders = true) {f : FuncId} {fn : Func} (hf : P.funcs[f]? = some fn) (hname : (fn.name == "runtime.NumGoroutine") = false) (An : Nat -> Keep × Keep) (Λ : LoopK) (hL : ∀ c, fn.body = some c -> ∀ p ∈ zK c 0, zfx An p = true -> ∀ s o, s = Zz (An p.1).1 s -> Λ.v p.1 s = some o -> ZC P p.2 s o) {S : Shape} {args : List AV} {bs : List (List AV)} {r : Ret} (ru : r.use = S.use /\ r.sl = S.sl)
  (h : zpf T Γ An Λ fn S args bs = some r) : CallOk P f args bs r := by
 unfold zpf at h
 split at h
 ·rename_i c hc
  split at h
  ·rename_i hle
   obtain ⟨hle, hsk, huv⟩ := hle
   refine zdY hT hf hname hc ru hle (λ t ht k hk => of_decide_eq_true (List.all_eq_true.1 (List.all_eq_true.1 huv t ht) k (by simpa using hk))) λ B a w Q hS hQ => Jz hT hG hm An Λ c 0 (hL c hc) Ret _ _ r _ _ w _ h hS λ e s a w' hk hS => ?_
   cases e with
   | normal => exact hQ _ s a w' (.inl rfl) hk hS
   | ret => exact hQ _ s a w' (.inr rfl) hk hS
   | _ => cases hk
  ·cases h
 ·cases h
end
end
section
open Go.RowKit
def mkS (len : Nat) (l : List (Nat × AV)) (bx : List (Nat × List AV)) (tk : List (Nat × Bool)) (nin : Nat) : AS where
 env := (List.range len).map λ t => (l.lookup t).getD .any
 box := bx.map λ p => (p.1, some p.2)
 tok := tk
 nin := nin
def mkF (len : Nat) (l : List (Nat × AV)) (bx : List (Nat × List AV)) (tk : List (Nat × Bool)) (nin : Nat) (fm : Option (Nat × Nat × Nat)) : AS := { mkS len l bx tk nin with fm := fm }
def zAA (f b : Nat) (a : AV) : Option Unit := match a with
 | .fn (.func f') [] [.ptr b' 0] => bif Nat.beq f f' && Nat.beq b b' then some () else none
 | _ => none
inductive Pt where
 | int (k : IntKind)
 | bool
 | str
 | lst (n : Nat)
 | tok (n t : Nat)
 | ptr (b o : Nat)
 | ptrV (b : Nat)
 | nil
 | any
 | mref (b : Nat)
 | vs0 (b n : Nat)
 | vs (b n : Nat)
 | agg (ks : List Ck)
 | ags (ks : List Ck)
 | refs
 | nilFunc
 | nilIface
 | ptrNone
 | mapNone
 | fn1 (f b : Nat)
 | fn0 (f : Nat)
@[reducible] def PtT : Pt -> Type
 | .int _ => Int
 | .bool => Bool
 | .str => ByteArray
 | .lst _ => List (List AV)
 | .tok _ _ => List (List AV)
 | .ptrV _ => Nat
 | .vs0 _ _ => Nat
 | .vs _ _ => Nat × Nat
 | .agg ks => Tp ks
 | .ags ks => Tp ks
 | .refs => List AV
 | _ => Unit
def ptE : (p : Pt) -> PtT p -> AV
 | .int k, n => .v (.int k n)
 | .bool, b => .v (.bool b)
 | .str, s => .v (.string s)
 | .lst n, xs => .list n xs none
 | .tok n t, xs => .list n xs (some t)
 | .ptr b o, _ => .ptr b o
 | .ptrV b, o => .ptr b o
 | .nil, _ => .v (.slice none 0 0)
 | .any, _ => .any
 | .mref b, _ => .mref b
 | .vs0 b n, len => .vs b 0 len n
 | .vs b n, x => .vs b x.1 x.2 n
 | .agg ks, e => .agg (enc ks e)
 | .ags ks, e => .agg (enc ks e)
 | .refs, cs => .ref cs
 | .nilFunc, _ => .v .nilFunc
 | .nilIface, _ => .v .nilIface
 | .ptrNone, _ => .v (.pointer none)
 | .mapNone, _ => .v (.map none)
 | .fn1 f b, _ => .fn (.func f) [] [.ptr b 0]
 | .fn0 f, _ => .fn (.func f) [] []
def ptD : (p : Pt) -> AV -> Option (PtT p)
 | .int k, a => zzF k a some
 | .bool, a => zp0 a some
 | .str, a => zAD a some
 | .lst n, a => zvQ n a some
 | .tok n t, a => zAE n t a some
 | .ptr b o, a => zzH b o a (some ())
 | .ptrV b, a => zp4 b a some
 | .nil, a => zAB a (some ())
 | .any, a => zAz a (some ())
 | .mref b, a => zp2 b a (some ())
 | .vs0 b n, a => zAF b n a some
 | .vs b n, a => pVs b n a λ x y => some (x, y)
 | .agg ks, a => zvP ks a some
 | .ags ks, a => zvP ks a some
 | .refs, a => zAC a some
 | .nilFunc, a => zbN a (some ())
 | .nilIface, a => zai a (some ())
 | .ptrNone, a => zbO a (some ())
 | .mapNone, a => zbM a (some ())
 | .fn1 f b, a => zAA f b a
 | .fn0 f, a => pFn f a λ c d => zsc c <| zsc d <| some ()
@[reducible] def PvT : List Pt -> Type
 | [] => Unit
 | p :: r => PtT p × PvT r
def pvE : (l : List Pt) -> PvT l -> List AV
 | [], _ => []
 | p :: r, x => ptE p x.1 :: pvE r x.2
def pvD : (l : List Pt) -> List AV -> Option (PvT l)
 | [], a => (match a with | [] => some () | _ :: _ => none)
 | p :: r, a => match a with
  | c :: cs => (match ptD p c with
   | some x => (match pvD r cs with | some y => some (x, y) | none => none)
   | none => none)
  | [] => none
inductive Pb where
 | tt
 | row (ks : List Ck)
 | mp (d : MK)
 | cells (l : List Pt)
@[reducible] def PbT : Pb -> Type
 | .tt => List AV
 | .row ks => Tp ks
 | .mp _ => List (List AV)
 | .cells l => PvT l
def pbE : (p : Pb) -> PbT p -> List AV
 | .tt, cs => cs
 | .row ks, e => enc ks e
 | .mp d, xs => [.mp d xs]
 | .cells l, x => pvE l x
def pbD : (p : Pb) -> List AV -> Option (PbT p)
 | .tt, cs => some cs
 | .row ks, cs => zpB ks cs
 | .mp d, cs => pMp d cs some
 | .cells l, cs => pvD l cs
@[reducible] def QvT : List Pb -> Type
 | [] => Unit
 | p :: r => PbT p × QvT r
def qvE : (l : List Pb) -> QvT l -> List (List AV)
 | [], _ => []
 | p :: r, x => pbE p x.1 :: qvE r x.2
def qvD : (l : List Pb) -> List (List AV) -> Option (QvT l)
 | [], a => (match a with | [] => some () | _ :: _ => none)
 | p :: r, a => match a with
  | c :: cs => (match pbD p c with
   | some x => (match qvD r cs with | some y => some (x, y) | none => none)
   | none => none)
  | [] => none
@[reducible] def PsT (l : List (Nat × Pt)) : Type := PvT (l.map (·.2))
@[reducible] def QsT (l : List (Nat × Pb)) : Type := QvT (l.map (·.2))
def psE : (l : List (Nat × Pt)) -> PsT l -> List (Nat × AV)
 | [], _ => []
 | p :: r, x => (p.1, ptE p.2 x.1) :: psE r x.2
def qsE : (l : List (Nat × Pb)) -> QsT l -> List (Nat × List AV)
 | [], _ => []
 | p :: r, x => (p.1, pbE p.2 x.1) :: qsE r x.2
def psD (s : AS) : (l : List (Nat × Pt)) -> Option (PsT l)
 | [] => some ()
 | p :: r => match ptD p.2 (s.at p.1) with
  | some x => (match psD s r with | some y => some (x, y) | none => none)
  | none => none
def qsD (s : AS) : (l : List (Nat × Pb)) -> Option (QsT l)
 | [] => some ()
 | p :: r => match s.bx p.1 with
  | some cs => (match pbD p.2 cs with
   | some x => (match qsD s r with | some y => some (x, y) | none => none)
   | none => none)
  | none => none
def rdS {X : Type} (nt nin : Nat) (l : List (Nat × Pt)) (q : List (Nat × Pb)) (s : AS) (f : PsT l -> QsT q -> X) : Option X :=
 bif Nat.beq s.env.length nt then (bif Nat.beq s.nin nin then
  (match psD s l with
  | some x => (match qsD s q with | some y => some (f x y) | none => none)
  | none => none) else none) else none
def rdF {X : Type} (nt nin nm : Nat) (l : List (Nat × Pt)) (q : List (Nat × Pb)) (s : AS) (f : PsT l -> QsT q -> Nat -> Nat -> X) : Option X :=
 match s.fm with
 | some (b, j, N) => (bif Nat.beq b nm then rdS nt nin l q s (λ x y => f x y j N) else none)
 | none => none
def rdA {X : Type} (l : List Pt) (q : List Pb) (a : List AV) (b : List (List AV)) (f : PvT l -> QvT q -> X) : Option X :=
 match pvD l a with
 | some x => (match qvD q b with | some y => some (f x y) | none => none)
 | none => none
@[reducible] def RtT : Option Type -> Type
 | none => Unit
 | some r => r
@[reducible] def cn (a : Type) : Option Type -> Option Type
 | none => some a
 | some r => some (a × r)
def cnI {a : Type} : (r : Option Type) -> a -> RtT r -> RtT (cn a r)
 | none, x, _ => x
 | some _, x, y => (x, y)
def cnO {a : Type} : (r : Option Type) -> RtT (cn a r) -> a × RtT r
 | none, z => (z, ())
 | some _, z => z
theorem ziF {a : Type} : ∀ (r : Option Type) (x : a) (y : RtT r), cnO r (cnI r x y) = (x, y)
 | none, _, _ => rfl
 | some _, _, _ => rfl
@[reducible] def ckR : List Ck -> Option Type -> Option Type
 | [], r => r
 | k :: ks, r => cn (CkT k) (ckR ks r)
def ckI : (ks : List Ck) -> (r : Option Type) -> Tp ks -> RtT r -> RtT (ckR ks r)
 | [], _, _, y => y
 | _ :: ks, r, x, y => cnI _ x.1 (ckI ks r x.2 y)
def ckO : (ks : List Ck) -> (r : Option Type) -> RtT (ckR ks r) -> Tp ks × RtT r
 | [], _, z => ((), z)
 | _ :: ks, r, z => (((cnO _ z).1, (ckO ks r (cnO _ z).2).1), (ckO ks r (cnO _ z).2).2)
theorem zDq : ∀ (ks : List Ck) (r : Option Type) (x : Tp ks) (y : RtT r), ckO ks r (ckI ks r x y) = (x, y)
 | [], _, _, _ => rfl
 | _ :: ks, r, x, y => by simp only [ckO, ckI, ziF, zDq ks r]
@[reducible] def ptR : Pt -> Option Type -> Option Type
 | .int _, r => cn Int r
 | .bool, r => cn Bool r
 | .str, r => cn ByteArray r
 | .lst _, r => cn (List (List AV)) r
 | .tok _ _, r => cn (List (List AV)) r
 | .ptrV _, r => cn Nat r
 | .vs0 _ _, r => cn Nat r
 | .vs _ _, r => cn (Nat × Nat) r
 | .agg ks, r => cn (Tp ks) r
 | .refs, r => cn (List AV) r
 | .ags ks, r => ckR ks r
 | .ptr _ _, r => r
 | .nil, r => r
 | .any, r => r
 | .mref _, r => r
 | .nilFunc, r => r
 | .nilIface, r => r
 | .ptrNone, r => r
 | .mapNone, r => r
 | .fn1 _ _, r => r
 | .fn0 _, r => r
def ptI : (p : Pt) -> (r : Option Type) -> PtT p -> RtT r -> RtT (ptR p r)
 | .int _, r, x, y => cnI r x y
 | .bool, r, x, y => cnI r x y
 | .str, r, x, y => cnI r x y
 | .lst _, r, x, y => cnI r x y
 | .tok _ _, r, x, y => cnI r x y
 | .ptrV _, r, x, y => cnI r x y
 | .vs0 _ _, r, x, y => cnI r x y
 | .vs _ _, r, x, y => cnI r x y
 | .agg _, r, x, y => cnI r x y
 | .refs, r, x, y => cnI r x y
 | .ags ks, r, x, y => ckI ks r x y
 | .ptr _ _, _, _, y => y
 | .nil, _, _, y => y
 | .any, _, _, y => y
 | .mref _, _, _, y => y
 | .nilFunc, _, _, y => y
 | .nilIface, _, _, y => y
 | .ptrNone, _, _, y => y
 | .mapNone, _, _, y => y
 | .fn1 _ _, _, _, y => y
 | .fn0 _, _, _, y => y
def ptO : (p : Pt) -> (r : Option Type) -> RtT (ptR p r) -> PtT p × RtT r
 | .int _, r, z => cnO r z
 | .bool, r, z => cnO r z
 | .str, r, z => cnO r z
 | .lst _, r, z => cnO r z
 | .tok _ _, r, z => cnO r z
 | .ptrV _, r, z => cnO r z
 | .vs0 _ _, r, z => cnO r z
 | .vs _ _, r, z => cnO r z
 | .agg _, r, z => cnO r z
 | .refs, r, z => cnO r z
 | .ags ks, r, z => ckO ks r z
 | .ptr _ _, _, z => ((), z)
 | .nil, _, z => ((), z)
 | .any, _, z => ((), z)
 | .mref _, _, z => ((), z)
 | .nilFunc, _, z => ((), z)
 | .nilIface, _, z => ((), z)
 | .ptrNone, _, z => ((), z)
 | .mapNone, _, z => ((), z)
 | .fn1 _ _, _, z => ((), z)
 | .fn0 _, _, z => ((), z)
theorem ptIO : ∀ (p : Pt) (r : Option Type) (x : PtT p) (y : RtT r), ptO p r (ptI p r x y) = (x, y)
 | .int _, r, x, y => ziF r x y
 | .bool, r, x, y => ziF r x y
 | .str, r, x, y => ziF r x y
 | .lst _, r, x, y => ziF r x y
 | .tok _ _, r, x, y => ziF r x y
 | .ptrV _, r, x, y => ziF r x y
 | .vs0 _ _, r, x, y => ziF r x y
 | .vs _ _, r, x, y => ziF r x y
 | .agg _, r, x, y => ziF r x y
 | .refs, r, x, y => ziF r x y
 | .ags ks, r, x, y => zDq ks r x y
 | .ptr _ _, _, _, _ => rfl
 | .nil, _, _, _ => rfl
 | .any, _, _, _ => rfl
 | .mref _, _, _, _ => rfl
 | .nilFunc, _, _, _ => rfl
 | .nilIface, _, _, _ => rfl
 | .ptrNone, _, _, _ => rfl
 | .mapNone, _, _, _ => rfl
 | .fn1 _ _, _, _, _ => rfl
 | .fn0 _, _, _, _ => rfl
@[reducible] def pvR : List Pt -> Option Type -> Option Type
 | [], r => r
 | p :: l, r => ptR p (pvR l r)
def pvI : (l : List Pt) -> (r : Option Type) -> PvT l -> RtT r -> RtT (pvR l r)
 | [], _, _, y => y
 | p :: l, r, x, y => ptI p _ x.1 (pvI l r x.2 y)
def pvO : (l : List Pt) -> (r : Option Type) -> RtT (pvR l r) -> PvT l × RtT r
 | [], _, z => ((), z)
 | p :: l, r, z => (((ptO p _ z).1, (pvO l r (ptO p _ z).2).1), (pvO l r (ptO p _ z).2).2)
theorem zvR : ∀ (l : List Pt) (r : Option Type) (x : PvT l) (y : RtT r), pvO l r (pvI l r x y) = (x, y)
 | [], _, _, _ => rfl
 | p :: l, r, x, y => by simp only [pvO, pvI, ptIO, zvR l r]
@[reducible] def pbR : Pb -> Option Type -> Option Type
 | .tt, r => cn (List AV) r
 | .row ks, r => cn (Tp ks) r
 | .mp _, r => cn (List (List AV)) r
 | .cells l, r => pvR l r
def pbI : (p : Pb) -> (r : Option Type) -> PbT p -> RtT r -> RtT (pbR p r)
 | .tt, r, x, y => cnI r x y
 | .row _, r, x, y => cnI r x y
 | .mp _, r, x, y => cnI r x y
 | .cells l, r, x, y => pvI l r x y
def pbO : (p : Pb) -> (r : Option Type) -> RtT (pbR p r) -> PbT p × RtT r
 | .tt, r, z => cnO r z
 | .row _, r, z => cnO r z
 | .mp _, r, z => cnO r z
 | .cells l, r, z => pvO l r z
theorem pbIO : ∀ (p : Pb) (r : Option Type) (x : PbT p) (y : RtT r), pbO p r (pbI p r x y) = (x, y)
 | .tt, r, x, y => ziF r x y
 | .row _, r, x, y => ziF r x y
 | .mp _, r, x, y => ziF r x y
 | .cells l, r, x, y => zvR l r x y
@[reducible] def qvR : List Pb -> Option Type -> Option Type
 | [], r => r
 | p :: l, r => pbR p (qvR l r)
def qvI : (l : List Pb) -> (r : Option Type) -> QvT l -> RtT r -> RtT (qvR l r)
 | [], _, _, y => y
 | p :: l, r, x, y => pbI p _ x.1 (qvI l r x.2 y)
def qvO : (l : List Pb) -> (r : Option Type) -> RtT (qvR l r) -> QvT l × RtT r
 | [], _, z => ((), z)
 | p :: l, r, z => (((pbO p _ z).1, (qvO l r (pbO p _ z).2).1), (qvO l r (pbO p _ z).2).2)
theorem zAG : ∀ (l : List Pb) (r : Option Type) (x : QvT l) (y : RtT r), qvO l r (qvI l r x y) = (x, y)
 | [], _, _, _ => rfl
 | p :: l, r, x, y => by simp only [qvO, qvI, pbIO, zAG l r]
inductive DX (X : Type) where
 | no
 | mk (nt nin : Nat) (tk : List (Nat × Bool)) (l : List (Nat × Pt)) (q : List (Nat × Pb)) (e : RtT (pvR (l.map (·.2)) (qvR (q.map (·.2)) none)) = X)
 | fm (nt nin : Nat) (tk : List (Nat × Bool)) (nm : Nat) (l : List (Nat × Pt)) (q : List (Nat × Pb)) (e : RtT (pvR (l.map (·.2)) (qvR (q.map (·.2)) (some (Nat × Nat)))) = X)
def DX.p {X : Type} : DX X -> AS -> Option X
 | .no, _ => none
 | .mk nt nin _ l q e, s => rdS nt nin l q s λ a b => cast e (pvI _ _ a (qvI _ none b ()))
 | .fm nt nin _ nm l q e, s => rdF nt nin nm l q s λ a b j N => cast e (pvI _ _ a (qvI _ (some (Nat × Nat)) b (j, N)))
def DX.st {X : Type} : DX X -> X -> AS
 | .no, _ => mkS 0 [] [] [] 0
 | .mk nt nin tk l q e, x => mkS nt (psE l (pvO _ _ (cast e.symm x)).1) (qsE q (qvO _ none (pvO _ _ (cast e.symm x)).2).1) tk nin
 | .fm nt nin tk nm l q e, x => mkF nt (psE l (pvO _ _ (cast e.symm x)).1) (qsE q (qvO _ (some (Nat × Nat)) (pvO _ _ (cast e.symm x)).2).1) tk nin (some (nm, (qvO _ (some (Nat × Nat)) (pvO _ _ (cast e.symm x)).2).2))
structure Alt where
 ex : Exit
 l : List (Nat × Pt)
 q : List (Nat × Pb) := []
 fm : Option Nat := none
@[reducible] def Alt.R (a : Alt) : Option Type := match a.fm with
 | none => none
 | some _ => some (Nat × Nat)
@[reducible] def Alt.T (a : Alt) : Type := RtT (pvR (a.l.map (·.2)) (qvR (a.q.map (·.2)) a.R))
def Alt.F : (o : Option Nat) -> RtT (match o with | none => none | some _ => some (Nat × Nat)) -> Option (Nat × Nat × Nat)
 | none, _ => none
 | some nm, z => some (nm, z)
def Alt.out (nt nin : Nat) (tk : List (Nat × Bool)) (a : Alt) (y : a.T) : Out := (a.ex, mkF nt (psE a.l (pvO _ _ y).1) (qsE a.q (qvO _ a.R (pvO _ _ y).2).1) tk nin (Alt.F a.fm (qvO _ a.R (pvO _ _ y).2).2))
@[reducible] def SmT : List Alt -> Type
 | [] => Unit
 | [a] => a.T
 | a :: b :: r => a.T ⊕ SmT (b :: r)
def smO (nt nin : Nat) (tk : List (Nat × Bool)) : (al : List Alt) -> SmT al -> Out
 | [], _ => (.normal, mkS 0 [] [] [] 0)
 | [a], y => a.out nt nin tk y
 | a :: b :: r, y => match y with
  | .inl y => a.out nt nin tk y
  | .inr y => smO nt nin tk (b :: r) y
inductive DY (Y : Type) where
 | no
 | mk (nt nin : Nat) (tk : List (Nat × Bool)) (al : List Alt) (e : SmT al = Y)
def DY.out {Y : Type} : DY Y -> Y -> Out
 | .no, _ => (.normal, mkS 0 [] [] [] 0)
 | .mk nt nin tk al e, y => smO nt nin tk al (cast e.symm y)
inductive DA (X : Type) where
 | no
 | mk (l : List Pt) (q : List Pb) (e : RtT (pvR l (qvR q none)) = X)
def DA.pat {X : Type} : DA X -> List AV -> List (List AV) -> Option X
 | .no, _, _ => none
 | .mk l q e, a, b => rdA l q a b λ u v => cast e (pvI _ _ u (qvI _ none v ()))
def DA.args {X : Type} : DA X -> X -> List AV
 | .no, _ => []
 | .mk l _ e, x => pvE l (pvO _ _ (cast e.symm x)).1
def DA.bs {X : Type} : DA X -> X -> List (List AV)
 | .no, _ => []
 | .mk _ q e, x => qvE q (qvO _ none (pvO _ _ (cast e.symm x)).2).1
def Ck.sh : Ck -> Option Nat
 | .sl n => some n
 | _ => none
def Pt.sh : Pt -> List (Option Nat)
 | .agg ks => ks.map Ck.sh
 | .ags ks => ks.map Ck.sh
 | .lst n => [some n]
 | .tok n _ => [some (2000000 + n)]
 | _ => [none]
def DA.ash {X : Type} : DA X -> List (List (Option Nat))
 | .no => []
 | .mk l _ _ => l.map Pt.sh
end
section
open Go.RowKit
def zbv (P : Program) : Tab where
 u := P.underlying
 i := λ t => match P.info? t with | some i => some (i.size, i.bytes) | none => none
 z := λ t => match P.info? t with
  | some i => (match i.zero with | some z => if z.cells.toList.all (·.oneCell') then some (z.cells.toList.map .v) else none | none => none)
  | none => none
 q := λ t => !P.stoodInHeld t && !P.eqGuardType P.depth t
 zv := λ t => match P.info? t with | some i => i.zero | none => none
 bm := λ _ => false
def tabB (P : Program) (l : List Nat) : Tab where
 u := (zbv P).u
 i := (zbv P).i
 z := (zbv P).z
 q := (zbv P).q
 zv := (zbv P).zv
 bm := λ d => l.contains d
theorem zc (P : Program) : TabOk P (zbv P) where
 u := λ t d h => h
 q := λ t h => by simpa [zbv] using h
 i := λ t p h => by
  simp only [zbv] at h
  split at h
  ·rename_i i hi; cases h; exact ⟨i, hi, rfl, rfl⟩
  ·cases h
 zv := λ t v h => by
  simp only [zbv] at h
  split at h
  ·rename_i i hi; exact ⟨i, hi, h⟩
  ·cases h
 z := λ t z h => by
  simp only [zbv] at h
  split at h
  ·rename_i i hi
   split at h
   ·rename_i v hv
    split at h
    ·rename_i hall
     cases h
     exact ⟨i, v, hi, hv, λ M ρ σ => ⟨by simp, λ j hj => List.all_eq_true.1 hall _ (by simp), λ j hj hj' => by simpa using Rd.v⟩⟩
    ·cases h
   ·cases h
  ·cases h
theorem zr (P : Program) (l : List Nat) : TabOk P (tabB P l) where
 u := (zc P).u
 i := (zc P).i
 z := (zc P).z
 q := (zc P).q
 zv := (zc P).zv
theorem zf : Tryz.prog.follows .mixedOrders = true := by kernel_rfl
def kp0 : Keep := ⟨[], [], [], [], [], [], [], [], false, none, []⟩
abbrev I (n : Int) : AV := .v (.int .i64 n)
def Par {X Y : Type} (b : X -> (α : Type) -> (X -> Option α) -> (Y -> Option α) -> Option α) : Prop := ∀ (x : X) (α β : Type) (kn : X -> Option α) (ke : Y -> Option α) (kn' : X -> Option β) (ke' : Y -> Option β) (r : α) (r' : β), b x α kn ke = some r -> (∀ x, kn x = some r -> kn' x = some r') -> (∀ y, ke y = some r -> ke' y = some r') -> b x β kn' ke' = some r'
def zCp {X Y : Type} (t : X -> (α : Type) -> (Y -> Option α) -> Option α) : Prop := ∀ (x : X) (α β : Type) (k : Y -> Option α) (k' : Y -> Option β) (r : α) (r' : β), t x α k = some r -> (∀ y, k y = some r -> k' y = some r') -> t x β k' = some r'
theorem zja {α β : Type} {a b : Option α} {a' b' : Option β} {r : α} {r' : β} (h1 : a = some r -> a' = some r') (h2 : b = some r -> b' = some r') : zrY a b = some r -> zrY a' b' = some r' := by
 intro h
 obtain ⟨q1, q2⟩ := zcs h
 rw [h1 q1, h2 q2]; exact zne _
theorem zn0 {c : Prop} [Decidable c] {α β : Type} {a b : Option α} {a' b' : Option β} {r : α} {r' : β} (h1 : a = some r -> a' = some r') (h2 : b = some r -> b' = some r') : ite c a b = some r -> ite c a' b' = some r' := by
 by_cases h : c
 ·rw [if_pos h, if_pos h]; exact h1
 ·rw [if_neg h, if_neg h]; exact h2
structure FSpec where
 X : Type
 Y : Type
 ad : DA X := .no
 ash : List (List (Option Nat)) := ad.ash
 bsh : List (List (Option Nat)) := []
 S : Shape := ⟨[[none]], [], [], [], []⟩
 bm : Bool := false
 pat : List AV -> List (List AV) -> Option X := ad.pat
 args : X -> List AV := ad.args
 bs : X -> List (List AV) := ad.bs
 ret : Y -> Ret
 t : X -> (α : Type) -> (Y -> Option α) -> Option α
 par : zCp t := by
  intro x α β k k' r r' h h1
  revert h
  dsimp only
  (repeat' (first | (with_reducible refine zn0 ?_ ?_) | (with_reducible refine zja ?_ ?_) | split)) <;> intro h <;> first | exact h1 _ h | (cases h; done)
def FSpec.d (F : FSpec) (x : F.X) : Option F.Y := F.t x F.Y some
structure Ent (P : Program) where
 f : FuncId
 F : FSpec
 ok : ∀ x y, F.d x = some y -> CallOk P f (F.args x) (F.bs x) (F.ret y)
 hp : ∀ a b x, F.pat a b = some x -> a = F.args x /\ b = F.bs x
 hsl : ∀ y, (F.ret y).sl = F.S.sl
def coeT (id : Nat) : Option Nat -> AV -> AV
 | some n, .v (.slice none 0 0) => if 2000000 <= n then .list (n - 2000000) [] (some id) else .list n [] none
 | _, x => x
def zipT (id : Nat -> Nat) : Nat -> List (Option Nat) -> List AV -> List AV
 | j, k :: ks, c :: cs => coeT (id j) k c :: zipT id (j + 1) ks cs
 | _, _, cs => cs
def coeA (id : Nat) (ks : List (Option Nat)) : AV -> AV
 | .agg cs => .agg (zoG ks cs)
 | v => coeT id (ks.headD none) v
def zoF : Nat -> List (List (Option Nat)) -> List AV -> List AV
 | i, k :: ks, c :: cs => coeA (tI i) k c :: zoF (i + 1) ks cs
 | _, _, cs => cs
def zki (n : Nat) (use : List Nat) (ash : List (List (Option Nat))) (args : List AV) : List AV := zoF 0 ash (args.map (zbo n use))
def zdm (n : Nat) (use sl : List Nat) : Nat -> List (List (Option Nat)) -> List (List AV) -> List (List AV)
 | _, _, [] => []
 | k, rows, cs :: r => (match sl.contains k with | true => cs | false => zipT (λ j => tC k j 0) 0 (rows.headD []) (cs.map (mp0 (inB n) (zoE use)))) :: zdm n use sl (k + 1) rows.tail r
theorem Rd.coeT {M : Mem} {ρ : Rho} {σ : Sig} {i : Nat} {k : Option Nat} {c : Value} {v : AV} (h : Rd M ρ σ c v) : Rd M ρ σ c (coeT i k v) := by
 unfold Go.Proofs.YthdgnfcbehcplaaGreatDoor.coeT
 split
 ·rw [h.v_inv]
  split
  ·exact .nil
  ·exact .nil
 ·exact h
theorem zjp (id : Nat -> Nat) : ∀ (ks : List (Option Nat)) (cs : List AV) (j0 : Nat), (zipT id j0 ks cs).length = cs.length /\ ∀ i (h : i < (zipT id j0 ks cs).length) (h' : i < cs.length), (zipT id j0 ks cs)[i] = cs[i] \/ ∃ j k, (zipT id j0 ks cs)[i] = coeT j k cs[i]
 | [], cs, j0 => ⟨by cases cs <;> rfl, λ i h h' => .inl (by cases cs <;> rfl)⟩
 | k :: ks, [], j0 => ⟨rfl, λ i h => by cases h⟩
 | k :: ks, c :: cs, j0 => by
  obtain ⟨h1, h2⟩ := zjp id ks cs (j0 + 1)
  refine ⟨by simp [zipT, h1], λ i h h' => ?_⟩
  cases i with
  | zero => exact .inr ⟨_, k, rfl⟩
  | succ i => exact h2 i (by simpa [zipT] using h) (by simpa using h')
theorem Rd.coeA {M : Mem} {ρ : Rho} {σ : Sig} {i : Nat} {ks : List (Option Nat)} {c : Value} {v : AV} (h : Rd M ρ σ c v) : Rd M ρ σ c (coeA i ks v) := by
 unfold Go.Proofs.YthdgnfcbehcplaaGreatDoor.coeA
 split
 ·exact Rd.coeR (ks := ks) h
 ·exact h.coeT
theorem zjn : ∀ (ks : List (List (Option Nat))) (cs : List AV) (i0 : Nat), (zoF i0 ks cs).length = cs.length /\ ∀ i (h : i < (zoF i0 ks cs).length) (h' : i < cs.length), (zoF i0 ks cs)[i] = cs[i] \/ ∃ j k, (zoF i0 ks cs)[i] = coeA j k cs[i]
 | [], cs, i0 => ⟨by cases cs <;> rfl, λ i h h' => .inl (by cases cs <;> rfl)⟩
 | k :: ks, [], i0 => ⟨rfl, λ i h => by cases h⟩
 | k :: ks, c :: cs, i0 => by
  obtain ⟨h1, h2⟩ := zjn ks cs (i0 + 1)
  refine ⟨by simp [zoF, h1], λ i h h' => ?_⟩
  cases i with
  | zero => exact .inr ⟨_, k, rfl⟩
  | succ i => exact h2 i (by simpa [zoF] using h) (by simpa using h')
theorem zgv (n : Nat) (use sl : List Nat) : ∀ (bs : List (List AV)) (k0 : Nat) (rows : List (List (Option Nat))), (zdm n use sl k0 rows bs).length = bs.length /\ ∀ k (h : k < (zdm n use sl k0 rows bs).length) (h' : k < bs.length), ∃ row, (zdm n use sl k0 rows bs)[k] = (match sl.contains (k0 + k) with | true => bs[k] | false => zipT (λ j => tC (k0 + k) j 0) 0 row (bs[k].map (mp0 (inB n) (zoE use))))
 | [], k0, rows => ⟨rfl, λ k h => by cases h⟩
 | cs :: r, k0, rows => by
  obtain ⟨h1, h2⟩ := zgv n use sl r (k0 + 1) rows.tail
  refine ⟨by simp [zdm, h1], λ k h h' => ?_⟩
  cases k with
  | zero => exact ⟨_, rfl⟩
  | succ k =>
   obtain ⟨row, e⟩ := h2 k (by simpa [zdm] using h) (by simpa using h')
   rw [show k0 + 1 + k = k0 + (k + 1) by omega] at e
   exact ⟨row, e⟩
theorem Hold0.zipT {M : Mem} {ρ : Rho} {σ : Sig} {w : World} {g : Nat} {cs : List AV} (h : Hold0 M ρ σ w g cs) (id : Nat -> Nat) (ks : List (Option Nat)) : Hold0 M ρ σ w g (zipT id 0 ks cs) := by
 obtain ⟨ccs, t, h1, h2, h3, h4⟩ := h
 obtain ⟨z1, z2⟩ := zjp id ks cs 0
 refine ⟨ccs, t, h1, by rw [z1]; exact h2, λ i x y => h3 i x (by omega), λ i x y => ?_⟩
 have y' : i < cs.length := by omega
 rcases z2 i y y' with e | ⟨j, k, e⟩
 ·rw [e]; exact h4 i x y'
 ·rw [e]; exact (h4 i x y').coeT
theorem CallOk.prep {P : Program} {f : FuncId} {args : List AV} {bs : List (List AV)} {r : Ret} {use sl : List Nat} (ka kb : List (List (Option Nat))) (hsl : r.sl = sl) (h : CallOk P f (zki bs.length use ka args) (zdm bs.length use sl 0 kb bs) r) : CallOk P f args bs r := by
 obtain ⟨h1, h2⟩ := h
 obtain ⟨a1, a2⟩ := zjn ka (args.map (zbo bs.length use)) 0
 obtain ⟨b1, b2⟩ := zgv bs.length use sl bs 0 kb
 have hla : (zki bs.length use ka args).length = args.length := by unfold zki; rw [a1]; simp
 refine ⟨h1, λ M w cargs gs σ hgl mem hlt hn hl hsz hr hbx hda hT => ?_⟩
 have R : Ren (inB bs.length) (zoE use) (gsR gs) σ (gsR gs) σ := by
  refine ⟨λ b b' x hb hx => ?_, λ t t' sp ht hsp => ?_, λ b b' sp hb hsp => ?_⟩
  ·unfold inB at hb
   split at hb
   ·cases hb; exact hx
   ·cases hb
  ·unfold zoE at ht
   split at ht
   ·cases ht; exact hsp
   ·cases ht
  ·unfold inB at hb
   split at hb
   ·cases hb; exact hsp
   ·cases hb
 refine h2 M w cargs gs σ hgl mem hlt hn (by rw [b1]; exact hl) (by rw [hla]; exact hsz) (λ i x y => ?_) (λ k x y => ?_) (λ k hk x y => ?_) hT
 ·have y' : i < args.length := by omega
  have y2 : i < (args.map (zbo bs.length use)).length := by simpa using y'
  have base : Rd M (gsR gs) σ cargs[i] (args.map (zbo bs.length use))[i] := by
   rw [List.getElem_map]; exact (hr i x y').mp2 R
  rcases a2 i y y2 with e | ⟨j, k, e⟩
  ·show Rd M (gsR gs) σ cargs[i] (zoF 0 ka (args.map (zbo bs.length use)))[i]
   rw [e]; exact base
  ·show Rd M (gsR gs) σ cargs[i] (zoF 0 ka (args.map (zbo bs.length use)))[i]
   rw [e]; exact base.coeA
 ·have y' : k < bs.length := by omega
  obtain ⟨row, e⟩ := b2 k y y'
  rw [e]
  rcases hbx k x y' with ⟨q1, q2⟩ | ⟨g, q1, q2, q3⟩
  ·refine .inl ⟨?_, q2⟩
   rw [q1]
   split
   ·rfl
   ·cases row with
    | nil => rfl
    | cons _ _ => rfl
  ·refine .inr ⟨g, q1, ?_, q3⟩
   split
   ·exact q2
   ·exact (q2.back R false).zipT _ row
 ·have y' : k < bs.length := by omega
  obtain ⟨row, e⟩ := b2 k y y'
  rw [hsl] at hk
  rw [e, Nat.zero_add, List.contains_iff_mem.2 hk]
  exact hda k (by rw [hsl]; exact hk) x y'
def gv {P : Program} : List (Ent P) -> FuncId -> Bool -> List AV -> List (List AV) -> Option Ret
 | [], _, _, _, _ => none
 | e :: r, f, m, args, bs => if e.f = f /\ e.F.bm = m then (match e.F.pat (zki bs.length e.F.S.use e.F.ash args) (zdm bs.length e.F.S.use e.F.S.sl 0 e.F.bsh bs) with | some x => (match e.F.d x with | some y => some (e.F.ret y) | none => none) | none => gv r f m args bs) else gv r f m args bs
def gK {P : Program} : List (Ent P) -> FuncId -> Bool -> List AV -> List (List AV) -> (α : Type) -> (Ret -> Option α) -> Option α
 | [], _, _, _, _, _, _ => none
 | e :: r, f, m, args, bs, α, k => if e.f = f /\ e.F.bm = m then (match e.F.pat (zki bs.length e.F.S.use e.F.ash args) (zdm bs.length e.F.S.use e.F.S.sl 0 e.F.bsh bs) with | some x => (match e.F.d x with | some y => k (e.F.ret y) | none => none) | none => gK r f m args bs α k) else gK r f m args bs α k
theorem zuF {P : Program} : ∀ (es : List (Ent P)) (f : FuncId) (m : Bool) (args : List AV) (bs : List (List AV)) (α : Type) (k : Ret -> Option α) (x : α), gK es f m args bs α k = some x -> ∃ r, gv es f m args bs = some r /\ k r = some x
 | [], _, _, _, _, _, _, _, h => by cases h
 | e :: r, f, m, args, bs, α, k, x, h => by
  unfold gK at h
  unfold gv
  split at h
  ·rename_i hf
   rw [if_pos hf]
   cases hd : e.F.pat (zki bs.length e.F.S.use e.F.ash args) (zdm bs.length e.F.S.use e.F.S.sl 0 e.F.bsh bs) with
   | some d =>
    rw [hd] at h
    simp only at h |-
    cases hy : e.F.d d with
    | some y => rw [hy] at h; exact ⟨e.F.ret y, rfl, h⟩
    | none => rw [hy] at h; cases h
   | none =>
    rw [hd] at h
    exact zuF r f m args bs α k x h
  ·rename_i hf
   rw [if_neg hf]
   exact zuF r f m args bs α k x h
def gam {P : Program} (es : List (Ent P)) : GamK := ⟨gv es, gK es, zuF es⟩
theorem jn {P : Program} : ∀ (es : List (Ent P)), GOk P (gam es).v
 | [] => λ f m args bs r h => by cases h
 | e :: es => λ f m args bs r h => by
  change gv (e :: es) f m args bs = some r at h
  unfold gv at h
  split at h
  ·rename_i hf
   obtain ⟨hf, -⟩ := hf
   subst hf
   split at h
   ·rename_i x hx
    obtain ⟨h1, h2⟩ := e.hp _ _ _ hx
    split at h
    ·rename_i y hy; cases h; exact .prep e.F.ash e.F.bsh (e.hsl y) (by rw [h1, h2]; exact e.ok x y hy)
    ·cases h
   ·exact jn es _ m args bs r h
  ·exact jn es f m args bs r h
class Spl (Y : Type) where
 sp : (Y -> Out) -> Y -> (α : Type) -> (Out -> Option α) -> Option α
 spe : ∀ o y α k, sp o y α k = k (o y)
instance (priority := 100) spl1 (Y : Type) : Spl Y := ⟨λ o y _ k => k (o y), λ _ _ _ _ => rfl⟩
instance spl2 (A B : Type) : Spl (A ⊕ B) := ⟨λ o y _ k => match y with | .inl y => k (o (.inl y)) | .inr y => k (o (.inr y)), λ o y α k => by rcases y with _ | _ <;> rfl⟩
structure LSpec where
 X : Type
 Y : Type
 dt : DX X := .no
 od : DY Y := .no
 p : AS -> Option X := dt.p
 st : X -> AS := dt.st
 out : Y -> Out := od.out
 isp : Spl Y := by infer_instance
 b : X -> (α : Type) -> (X -> Option α) -> (Y -> Option α) -> Option α
 par : Par b := by
  intro x α β kn ke kn' ke' r r' h h1 h2
  revert h
  dsimp only
  (repeat' (first | (with_reducible refine zn0 ?_ ?_) | (with_reducible refine zja ?_ ?_) | split)) <;> intro h <;> first | exact h1 _ h | exact h2 _ h | (cases h; done)
def LSpec.sp (l : LSpec) (y : l.Y) (α : Type) (k : Out -> Option α) : Option α := l.isp.sp l.out y α k
theorem LSpec.spe (l : LSpec) (y : l.Y) (α : Type) (k : Out -> Option α) : l.sp y α k = k (l.out y) := l.isp.spe l.out y α k
def LSpec.L (l : LSpec) : Nat -> l.X -> Option l.Y
 | 0, _ => none
 | N + 1, x => l.b x l.Y (l.L N) some
def lv (N : Nat) (ls : List (Nat × LSpec)) (n : Nat) (s : AS) : Option Out := match ls.lookup n with
 | some l => (match l.p s with | some x => (match l.L N x with | some y => some (l.out y) | none => none) | none => none)
 | none => none
def lK (N : Nat) (ls : List (Nat × LSpec)) (n : Nat) (s : AS) (α : Type) (k : Out -> Option α) : Option α := match ls.lookup n with
 | some l => (match l.p s with | some x => (match l.L N x with | some y => l.sp y α k | none => none) | none => none)
 | none => none
def lam (N : Nat) (ls : List (Nat × LSpec)) : LoopK := ⟨lv N ls, lK N ls, λ n s α k x h => by
 unfold lK at h
 unfold lv
 split at h
 ·rename_i l hl
  split at h
  ·rename_i x hx
   split at h
   ·rename_i y hy
    rw [l.spe] at h
    exact ⟨l.out y, by simp only [hx, hy], h⟩
   ·cases h
  ·cases h
 ·cases h⟩
theorem zuN {P : Program} {T : Tab} {Γ : GamK} (hT : TabOk P T) (hG : GOk P Γ.v) (hm : P.follows .mixedOrders = true) (An : Nat -> Keep × Keep) (N0 : Nat) (ls : List (Nat × LSpec)) (n : Nat) (c node : Code) (hnode : node = .loop c) (hL : ∀ p ∈ zcg An c (n + 1), ∀ s o, s = Zz (An p.1).1 s -> (lam N0 ls).v p.1 s = some o -> ZC P p.2 s o)
  (l : LSpec) (hl : ls.lookup n = some l) (hp : ∀ s x, s = Zz (An n).1 s -> l.p s = some x -> s = l.st x) (pm : ∀ x, l.p (l.st x) = some x)
  (hb : ∀ (x : l.X) (α : Type) (kn : AS -> Option α) (ke : Out -> Option α), ziy T Γ An (lam N0 ls) n c (l.st x) kn ke = l.b x α (λ x' => kn (l.st x')) (λ y => ke (l.out y))) (hpar : Par l.b) :
  ∀ s o, s = Zz (An n).1 s -> (lam N0 ls).v n s = some o -> ZC P node s o := by
 subst hnode
 let V : Nat -> AS -> Option Out := λ N s => match l.p s with | some x => (match l.L N x with | some y => some (l.out y) | none => none) | none => none
 have key := znQ hT hG hm An (lam N0 ls) n c (λ p hp hact => hL p (List.mem_filter.2 ⟨hp, hact⟩)) V (λ N s o hc hv => by
  simp only [V] at hv
  split at hv
  ·rename_i x hx
   split at hv
   ·rename_i y hy
    cases hv
    cases N with
    | zero => cases hy
    | succ N =>
     refine ⟨N, Nat.lt_succ_self _, ?_⟩
     rw [hp s x hc hx, hb]
     refine hpar x l.Y Out _ _ _ _ y (l.out y) hy (λ x' hx' => ?_) (λ y' hy' => by cases hy'; rfl)
     simp only [V, pm, hx']
   ·cases hv
  ·cases hv)
 intro s o hc hv
 change lv N0 ls n s = some o at hv
 unfold lv at hv
 rw [hl] at hv
 simp only at hv
 split at hv
 ·rename_i x hx
  split at hv
  ·rename_i y hy
   cases hv
   exact key N0 s _ hc (by simp only [V, hx, hy])
  ·cases hv
 ·cases hv
theorem zp8 {P : Program} {T : Tab} {Γ : GamK} (hT : TabOk P T) (hG : GOk P Γ.v) (hm : P.follows .mixedOrders = true) (An : Nat -> Keep × Keep) (N0 : Nat) (ls : List (Nat × LSpec)) (n : Nat) (c : Code) (hL : ∀ p ∈ zcg (zgE An n) c n, ∀ s o, s = Zz (An p.1).1 s -> (lam N0 ls).v p.1 s = some o -> ZC P p.2 s o)
  (l : LSpec) (hl : ls.lookup n = some l) (hp : ∀ s x, s = Zz (An n).1 s -> l.p s = some x -> s = l.st x)
  (hb : ∀ (x : l.X) (α : Type) (kn : l.X -> Option α) (ke : Out -> Option α), zbP T Γ An (lam N0 ls) n c (l.st x) ke = l.b x α kn (λ y => ke (l.out y))) (hpar : Par l.b) :
  ∀ s o, s = Zz (An n).1 s -> (lam N0 ls).v n s = some o -> ZC P c s o := by
 intro s o hc hv
 change lv N0 ls n s = some o at hv
 unfold lv at hv
 rw [hl] at hv
 simp only at hv
 split at hv
 ·rename_i x hx
  split at hv
  ·rename_i y hy
   cases hv
   cases N0 with
   | zero => cases hy
   | succ N =>
    refine zkg hT hG hm An (lam (N + 1) ls) n c (λ p hp' hact s o hs => hL p (List.mem_filter.2 ⟨hp', hact⟩) s o ?_) ?_
    ·unfold zgE at hs
     split at hs
     ·rename_i e; rw [e]; exact hs
     ·exact hs
    ·rw [hp s x hc hx, hb x Out (λ _ => none)]
     have hy' : l.b x l.Y (l.L N) some = some y := hy
     have h2 : l.b x Out (λ _ => none) (λ y => some (l.out y)) = l.b x Out (λ x' => (l.L N x').map l.out) (λ y => some (l.out y)) := by
      rw [<- hb x Out (λ _ => none), <- hb x Out (λ x' => (l.L N x').map l.out)]
     rw [h2]
     exact hpar x l.Y Out _ _ _ _ y (l.out y) hy' (λ x' hx' => by rw [hx']; rfl) (λ y' hy' => by cases hy'; rfl)
  ·cases hv
 ·cases hv
def zCI {P : Program} {T : Tab} {Γ : GamK} (hT : TabOk P T) (hG : GOk P Γ.v) (hm : P.follows .mixedOrders = true) (f : FuncId) (fn : Func) (hf : P.funcs[f]? = some fn) (hname : (fn.name == "runtime.NumGoroutine") = false) (An : Nat -> Keep × Keep) (Λ : LoopK)
  (hL : ∀ p ∈ zcg An (fn.body.getD .skip) 0, ∀ s o, s = Zz (An p.1).1 s -> Λ.v p.1 s = some o -> ZC P p.2 s o) (F : FSpec) (hru : ∀ y, (F.ret y).use = F.S.use /\ (F.ret y).sl = F.S.sl)
  (hb : ∀ x, zpf T Γ An Λ fn F.S (F.args x) (F.bs x) = F.t x Ret (λ y => some (F.ret y))) (hp : ∀ a b x, F.pat a b = some x -> a = F.args x /\ b = F.bs x) (hpar : zCp F.t) : Ent P where
 f := f
 F := F
 ok := λ x y h => ziv hT hG hm hf hname An Λ (λ c hc p hp' hact => hL p (by rw [hc]; exact List.mem_filter.2 ⟨hp', hact⟩)) (hru y) (by rw [hb]; exact hpar x F.Y Ret _ _ y (F.ret y) h (λ y' hy' => by cases hy'; rfl))
 hp := hp
 hsl := λ y => (hru y).2
def AtAll (s : AS) : List (Nat × AV) -> Prop
 | [] => True
 | p :: r => s.at p.1 = p.2 /\ AtAll s r
def BxAll (s : AS) : List (Nat × List AV) -> Prop
 | [] => True
 | p :: r => s.bx p.1 = some p.2 /\ BxAll s r
def zrU (k : IntKind) (x y : Int) : Int := k.wrap ((BitVec.ofInt k.bits x &&& BitVec.ofInt k.bits y).toNat : Int)
abbrev i64 (n : Int) : Int := IntKind.i64.wrap n
theorem AtAll.lookup {s : AS} : ∀ {l : List (Nat × AV)} {t : Nat} {v : AV}, AtAll s l -> l.lookup t = some v -> s.at t = v
 | [], t, v, _, h => by cases h
 | (t0, v0) :: r, t, v, ha, h => by
  rw [List.lookup_cons] at h
  by_cases e : t = t0
  ·subst e; simp at h; subst h; exact ha.1
  ·have e2 : (t == t0) = false := by simp [e]
   rw [e2] at h
   exact AtAll.lookup ha.2 h
theorem BxAll.map {s : AS} : ∀ {l : List (Nat × List AV)}, BxAll s l -> (l.map (·.1)).map (λ b => (b, s.bx b)) = l.map λ p => (p.1, some p.2)
 | [], _ => rfl
 | p :: r, h => by
  simp only [List.map_cons, h.1, BxAll.map h.2]
theorem zf3 {kp : Keep} {s : AS} {len nin : Nat} {l : List (Nat × AV)} {bx : List (Nat × List AV)} {tk : List (Nat × Bool)} (h : s = Zz kp s) (hlen : s.env.length = len) (hn : s.nin = nin) (hk : kp.accs.map (·.1) ++ (kp.vaccs.map (·.1) ++ (kp.lists.map (·.1) ++ kp.plain)) = l.map (·.1)) (hbk : kp.names = bx.map (·.1)) (ht : kp.toks = tk) (he : AtAll s l) (hb : BxAll s bx) : s = mkF len l bx tk nin (znr kp s.fm) := by
 refine h.trans ?_
 unfold Zz mkF mkS
 rw [hlen, hn, hbk, ht, hb.map]
 congr 1
 refine List.map_congr_left λ t _ => ?_
 have e1 : ((kp.accs.map (·.1)).contains t || ((kp.vaccs.map (·.1)).contains t || ((kp.lists.map (·.1)).contains t || kp.plain.contains t))) = (l.lookup t).isSome := by
  rw [zQ, <- hk, Bool.eq_iff_iff]
  simp [List.mem_append]
 rw [e1]
 cases hq : l.lookup t with
 | none => rfl
 | some v => simp only [Option.isSome_some, if_true, Option.getD_some]; exact he.lookup hq
theorem zpt {kp : Keep} {s : AS} {len nin : Nat} {l : List (Nat × AV)} {bx : List (Nat × List AV)} {tk : List (Nat × Bool)} (h : s = Zz kp s) (hlen : s.env.length = len) (hn : s.nin = nin) (hk : kp.accs.map (·.1) ++ (kp.vaccs.map (·.1) ++ (kp.lists.map (·.1) ++ kp.plain)) = l.map (·.1)) (hbk : kp.names = bx.map (·.1)) (ht : kp.toks = tk) (hf : kp.fam = none) (he : AtAll s l) (hb : BxAll s bx) : s = mkS len l bx tk nin :=
 (zf3 h hlen hn hk hbk ht he hb).trans (by unfold znr; rw [hf]; rfl)
def zb (n : Nat) (c : Code) : Code := ((zK c 0).lookup n).getD .skip
def zd5 : Code -> Code
 | .loop c => c
 | c => c
def anL (l : List (Nat × Keep × Keep)) (n : Nat) : Keep × Keep := match l.lookup n with
 | some k => k
 | none => (kp0, kp0)
def anF (l : List (Nat × Keep × Keep)) (fz : List (Nat × List Nat × List ((Nat × Nat) × Nat))) (n : Nat) : Keep × Keep := match fz.lookup n with
 | some ts => (⟨ts.1, [], [], [], [], [], ts.2, [], false, none, []⟩, kp0)
 | none => anL l n
end
section
open Go.RowKit
theorem zu4 {f b : Nat} {a : AV} {x : Unit} (h : zAA f b a = some x) : a = .fn (.func f) [] [.ptr b 0] := by
 unfold zAA at h
 split at h
 ·rename_i f' b'
  cases hb : (Nat.beq f f' && Nat.beq b b') with
  | false => rw [hb] at h; cases h
  | true =>
   obtain ⟨e1, e2⟩ := Bool.and_eq_true_iff.1 hb
   rw [Nat.eq_of_beq_eq_true e1, Nat.eq_of_beq_eq_true e2]
 ·cases h
theorem zsf : ∀ {p : Pt} {a : AV} {x : PtT p}, ptD p a = some x -> a = ptE p x
 | .int k, a, x, h => by obtain ⟨n, e, h⟩ := znY (show zzF k a some = some x from h); cases h; exact e
 | .bool, a, x, h => by obtain ⟨n, e, h⟩ := zp1 (show zp0 a some = some x from h); cases h; exact e
 | .str, a, x, h => by obtain ⟨n, e, h⟩ := zu7 (show zAD a some = some x from h); cases h; exact e
 | .lst n, a, x, h => by obtain ⟨n, e, h⟩ := zhC (show zvQ n a some = some x from h); cases h; exact e
 | .tok n t, a, x, h => by obtain ⟨n, e, h⟩ := zu8 (show zAE n t a some = some x from h); cases h; exact e
 | .ptr b o, a, x, h => by obtain ⟨e, h⟩ := znZ (show zzH b o a (some ()) = some x from h); exact e
 | .ptrV b, a, x, h => by obtain ⟨n, e, h⟩ := zp5 (show zp4 b a some = some x from h); cases h; exact e
 | .nil, a, x, h => by obtain ⟨e, h⟩ := zu5 (show zAB a (some ()) = some x from h); exact e
 | .any, a, x, h => by obtain ⟨e, h⟩ := zu3 (show zAz a (some ()) = some x from h); exact e
 | .mref b, a, x, h => by obtain ⟨e, h⟩ := zp3 (show zp2 b a (some ()) = some x from h); exact e
 | .vs0 b n, a, x, h => by obtain ⟨n, e, h⟩ := zu9 (show zAF b n a some = some x from h); cases h; exact e
 | .vs b n, a, x, h => by obtain ⟨n, m, e, h⟩ := zzI (show pVs b n a (λ x y => some (x, y)) = some x from h); cases h; exact e
 | .agg ks, a, x, h => by obtain ⟨n, e, h⟩ := znX (show zvP ks a some = some x from h); cases h; exact e
 | .ags ks, a, x, h => by obtain ⟨n, e, h⟩ := znX (show zvP ks a some = some x from h); cases h; exact e
 | .refs, a, x, h => by obtain ⟨n, e, h⟩ := zu6 (show zAC a some = some x from h); cases h; exact e
 | .nilFunc, a, x, h => by obtain ⟨e, h⟩ := zhE (show zbN a (some ()) = some x from h); exact e
 | .nilIface, a, x, h => by obtain ⟨e, h⟩ := zgr (show zai a (some ()) = some x from h); exact e
 | .ptrNone, a, x, h => by obtain ⟨e, h⟩ := zhF (show zbO a (some ()) = some x from h); exact e
 | .mapNone, a, x, h => by obtain ⟨e, h⟩ := zhD (show zbM a (some ()) = some x from h); exact e
 | .fn1 f b, a, x, h => zu4 (show zAA f b a = some x from h)
 | .fn0 f, a, x, h => by
  obtain ⟨c, d, rfl, h1⟩ := zzE (show pFn f a _ = some x from h)
  obtain ⟨rfl, h2⟩ := zaW h1
  obtain ⟨rfl, -⟩ := zaW h2
  rfl
theorem zn8 : ∀ {l : List Pt} {a : List AV} {x : PvT l}, pvD l a = some x -> a = pvE l x
 | [], a, x, h => by
  unfold pvD at h
  split at h
  ·rfl
  ·cases h
 | p :: r, a, x, h => by
  unfold pvD at h
  split at h
  ·split at h
   ·rename_i b hb
    split at h
    ·rename_i y hy
     cases h
     rw [zsf hb, zn8 hy]; rfl
    ·cases h
   ·cases h
  ·cases h
theorem zsd : ∀ {p : Pb} {a : List AV} {x : PbT p}, pbD p a = some x -> a = pbE p x
 | .tt, a, x, h => by cases h; rfl
 | .row ks, a, x, h => zeW h
 | .mp d, a, x, h => by obtain ⟨n, e, h⟩ := zzG (show pMp d a some = some x from h); cases h; exact e
 | .cells l, a, x, h => zn8 h
theorem zn6 {s : AS} : ∀ {l : List (Nat × Pt)} {x : PsT l}, psD s l = some x -> AtAll s (psE l x)
 | [], x, h => trivial
 | p :: r, x, h => by
  unfold psD at h
  split at h
  ·rename_i a ha
   split at h
   ·rename_i b hb
    cases h
    exact ⟨zsf ha, zn6 hb⟩
   ·cases h
  ·cases h
theorem zn9 {s : AS} : ∀ {l : List (Nat × Pb)} {x : QsT l}, qsD s l = some x -> BxAll s (qsE l x)
 | [], x, h => trivial
 | p :: r, x, h => by
  unfold qsD at h
  split at h
  ·rename_i cs hcs
   split at h
   ·rename_i a ha
    split at h
    ·rename_i b hb
     cases h
     exact ⟨by rw [hcs, zsd ha], zn9 hb⟩
    ·cases h
   ·cases h
  ·cases h
theorem zfm : ∀ (l : List (Nat × Pt)) (x : PsT l), (psE l x).map (·.1) = l.map (·.1)
 | [], _ => rfl
 | p :: r, x => by simp [psE, zfm r]
theorem zfn : ∀ (l : List (Nat × Pb)) (x : QsT l), (qsE l x).map (·.1) = l.map (·.1)
 | [], _ => rfl
 | p :: r, x => by simp [qsE, zfn r]
theorem zsi {X : Type} {nt nin : Nat} {l : List (Nat × Pt)} {q : List (Nat × Pb)} {s : AS} {f : PsT l -> QsT q -> X} {x : X} {kp : Keep} {st : X -> AS} (hc : s = Zz kp s) (h : rdS nt nin l q s f = some x) (hst : ∀ a b, st (f a b) = mkS nt (psE l a) (qsE q b) kp.toks nin) (hk : kp.accs.map (·.1) ++ (kp.vaccs.map (·.1) ++ (kp.lists.map (·.1) ++ kp.plain)) = l.map (·.1)) (hbk : kp.names = q.map (·.1)) (hf : kp.fam = none) : s = st x := by
 unfold rdS at h
 cases e1 : Nat.beq s.env.length nt with
 | false => rw [e1] at h; cases h
 | true =>
  cases e2 : Nat.beq s.nin nin with
  | false => rw [e1, e2] at h; cases h
  | true =>
   rw [e1, e2] at h
   simp only [cond_true] at h
   split at h
   ·rename_i a ha
    split at h
    ·rename_i b hb
     cases h
     rw [hst]
     exact zpt hc (Nat.eq_of_beq_eq_true e1) (Nat.eq_of_beq_eq_true e2) (by rw [zfm]; exact hk) (by rw [zfn]; exact hbk) rfl hf (zn6 ha) (zn9 hb)
    ·cases h
   ·cases h
theorem zz3 {X : Type} {nt nin nm : Nat} {l : List (Nat × Pt)} {q : List (Nat × Pb)} {s : AS} {f : PsT l -> QsT q -> Nat -> Nat -> X} {x : X} {kp : Keep} {st : X -> AS} (hc : s = Zz kp s) (h : rdF nt nin nm l q s f = some x) (hst : ∀ a b j N, st (f a b j N) = mkF nt (psE l a) (qsE q b) kp.toks nin (some (nm, j, N))) (hk : kp.accs.map (·.1) ++ (kp.vaccs.map (·.1) ++ (kp.lists.map (·.1) ++ kp.plain)) = l.map (·.1)) (hbk : kp.names = q.map (·.1)) : s = st x := by
 unfold rdF at h
 split at h
 ·rename_i b j N hf
  cases hb : Nat.beq b nm with
  | false => rw [hb] at h; cases h
  | true =>
   rw [hb] at h
   obtain rfl := Nat.eq_of_beq_eq_true hb
   simp only [cond_true] at h
   unfold rdS at h
   cases e1 : Nat.beq s.env.length nt with
   | false => rw [e1] at h; cases h
   | true =>
    cases e2 : Nat.beq s.nin nin with
    | false => rw [e1, e2] at h; cases h
    | true =>
     rw [e1, e2] at h
     simp only [cond_true] at h
     split at h
     ·rename_i u hu
      split at h
      ·rename_i v hv
       cases h
       rw [hst]
       have e3 : s.fm = znr kp s.fm := congrArg AS.fm hc
       have := zf3 hc (Nat.eq_of_beq_eq_true e1) (Nat.eq_of_beq_eq_true e2) (by rw [zfm]; exact hk) (by rw [zfn]; exact hbk) rfl (zn6 hu) (zn9 hv)
       rw [<- e3, hf] at this
       exact this
      ·cases h
     ·cases h
 ·cases h
theorem zsg : ∀ {l : List Pb} {a : List (List AV)} {x : QvT l}, qvD l a = some x -> a = qvE l x
 | [], a, x, h => by
  unfold qvD at h
  split at h
  ·rfl
  ·cases h
 | p :: r, a, x, h => by
  unfold qvD at h
  split at h
  ·split at h
   ·rename_i b hb
    split at h
    ·rename_i y hy
     cases h
     rw [zsd hb, zsg hy]; rfl
    ·cases h
   ·cases h
  ·cases h
theorem zsh {X : Type} {l : List Pt} {q : List Pb} {a : List AV} {b : List (List AV)} {f : PvT l -> QvT q -> X} {x : X} {args : X -> List AV} {bs : X -> List (List AV)} (h : rdA l q a b f = some x) (h1 : ∀ u v, args (f u v) = pvE l u) (h2 : ∀ u v, bs (f u v) = qvE q v) : a = args x /\ b = bs x := by
 unfold rdA at h
 split at h
 ·rename_i u hu
  split at h
  ·rename_i v hv
   cases h
   exact ⟨by rw [h1]; exact zn8 hu, by rw [h2]; exact zsg hv⟩
  ·cases h
 ·cases h
def zP (P : Program) (An : Nat -> Keep × Keep) (N0 : Nat) (ls : List (Nat × LSpec)) (n : Nat) (c : Code) : Prop := ∀ s o, s = Zz (An n).1 s -> (lam N0 ls).v n s = some o -> ZC P c s o
def zDe (T : Tab) (Γ : GamK) (An : Nat -> Keep × Keep) (N0 : Nat) (ls : List (Nat × LSpec)) (n : Nat) (c : Code) (l : LSpec) : Prop := ∀ (x : l.X) (α : Type) (kn : AS -> Option α) (ke : Out -> Option α), ziy T Γ An (lam N0 ls) n (zd5 (zb n c)) (l.st x) kn ke = l.b x α (λ x' => kn (l.st x')) (λ y => l.sp y α ke)
def zDj (T : Tab) (Γ : GamK) (An : Nat -> Keep × Keep) (N0 : Nat) (ls : List (Nat × LSpec)) (n : Nat) (c : Code) (l : LSpec) : Prop := ∀ (x : l.X) (α : Type) (kn : l.X -> Option α) (ke : Out -> Option α), zbP T Γ An (lam N0 ls) n (zb n c) (l.st x) ke = l.b x α kn (λ y => l.sp y α ke)
def TxOk (T : Tab) (Γ : GamK) (An : Nat -> Keep × Keep) (Λ : LoopK) (fn : Func) (F : FSpec) : Prop := ∀ x : F.X, zpf T Γ An Λ fn F.S (F.args x) (F.bs x) = F.t x Ret (λ y => some (F.ret y))
theorem zzr {P : Program} {T : Tab} {Γ : GamK} (hT : TabOk P T) (hG : GOk P Γ.v) (hm : P.follows .mixedOrders = true) (An : Nat -> Keep × Keep) (N0 : Nat) (ls : List (Nat × LSpec)) (n : Nat) (c : Code) {l : List (Nat × Code)} (hnode : zb n c = .loop (zd5 (zb n c))) (e : zcg An (zd5 (zb n c)) (n + 1) = l) (hL : ∀ p ∈ l, zP P An N0 ls p.1 p.2)
  (L : LSpec) (hl : ls.lookup n = some L) (hp : ∀ s x, s = Zz (An n).1 s -> L.p s = some x -> s = L.st x) (pm : ∀ x, L.p (L.st x) = some x) (hb : zDe T Γ An N0 ls n c L) (hpar : Par L.b) : zP P An N0 ls n (zb n c) :=
 zuN hT hG hm An N0 ls n (zd5 (zb n c)) (zb n c) hnode (λ p hp s o => hL p (e ▸ hp) s o) L hl hp pm (λ x α kn ke => (hb x α kn ke).trans (congrArg (L.b x α _) (funext λ y => L.spe y α ke))) hpar
theorem zve {P : Program} {T : Tab} {Γ : GamK} (hT : TabOk P T) (hG : GOk P Γ.v) (hm : P.follows .mixedOrders = true) (An : Nat -> Keep × Keep) (N0 : Nat) (ls : List (Nat × LSpec)) (n : Nat) (c : Code) {l : List (Nat × Code)} (e : zcg (zgE An n) (zb n c) n = l) (hL : ∀ p ∈ l, zP P An N0 ls p.1 p.2)
  (L : LSpec) (hl : ls.lookup n = some L) (hp : ∀ s x, s = Zz (An n).1 s -> L.p s = some x -> s = L.st x) (hb : zDj T Γ An N0 ls n c L) (hpar : Par L.b) : zP P An N0 ls n (zb n c) :=
 zp8 hT hG hm An N0 ls n (zb n c) (λ p hp s o => hL p (e ▸ hp) s o) L hl hp (λ x α kn ke => (hb x α kn ke).trans (congrArg (L.b x α _) (funext λ y => L.spe y α ke))) hpar
theorem zyQ {An : Nat -> Keep × Keep} {c : Code} {n : Nat} {l : List (Nat × Code)} {Q : Nat × Code -> Prop} (h : ∀ p ∈ l, Q p) (e : zcg An c n = l) : ∀ p ∈ zcg An c n, Q p := by rw [e]; exact h
theorem al {α : Type} {Q : α -> Prop} {a : α} {l : List α} (h : Q a) (t : ∀ p ∈ l, Q p) : ∀ p ∈ a :: l, Q p := λ p hp => (List.mem_cons.1 hp).elim (λ e => e ▸ h) (t p)
theorem an {α : Type} {Q : α -> Prop} : ∀ p ∈ ([] : List α), Q p := λ p hp => by cases hp
def DX.Ok {X : Type} (kp : Keep) : DX X -> Prop
 | .no => True
 | .mk _ _ tk l q _ => (kp.accs.map (·.1) ++ (kp.vaccs.map (·.1) ++ (kp.lists.map (·.1) ++ kp.plain)) = l.map (·.1) /\ kp.names = q.map (·.1)) /\ tk = kp.toks /\ kp.fam = none
 | .fm _ _ tk _ l q _ => (kp.accs.map (·.1) ++ (kp.vaccs.map (·.1) ++ (kp.lists.map (·.1) ++ kp.plain)) = l.map (·.1) /\ kp.names = q.map (·.1)) /\ tk = kp.toks /\ True
theorem DX.hp {X : Type} : ∀ {d : DX X} {kp : Keep} {s : AS} {x : X}, d.Ok kp -> s = Zz kp s -> d.p s = some x -> s = d.st x
 | .no, _, _, _, _, _, h => by cases h
 | .mk nt nin tk l q e, kp, s, x, ⟨⟨o1, o2⟩, o3, o4⟩, hc, h => by
  subst e o3
  exact zsi hc h (λ a b => by simp only [DX.st, cast_eq, zvR, zAG]) o1 o2 o4
 | .fm nt nin tk nm l q e, kp, s, x, ⟨⟨o1, o2⟩, o3, _⟩, hc, h => by
  subst e o3
  exact zz3 hc h (λ a b j N => by simp only [DX.st, cast_eq, zvR, zAG]) o1 o2
theorem DA.hp {X : Type} : ∀ {d : DA X} {a : List AV} {b : List (List AV)} {x : X}, d.pat a b = some x -> a = d.args x /\ b = d.bs x
 | .no, _, _, _, h => by cases h
 | .mk l q e, a, b, x, h => by
  subst e
  exact zsh h (λ u v => by simp only [DA.args, cast_eq, zvR]) (λ u v => by simp only [DA.bs, cast_eq, zvR, zAG])
theorem zy {P : Program} {T : Tab} {An : Nat -> Keep × Keep} {N0 : Nat} {ls : List (Nat × LSpec)} {n : Nat} {c : Code} (hT : TabOk P T) (hm : P.follows .mixedOrders = true) (es : List (Ent P)) {l : List (Nat × Code)} (hL : ∀ p ∈ l, zP P An N0 ls p.1 p.2) (L : LSpec)
  (e : zcg An (zd5 (zb n c)) (n + 1) = l := by kernel_rfl) (hb : zDe T (gam es) An N0 ls n c L := by intro x α kn ke; kernel_rfl) (hnode : zb n c = .loop (zd5 (zb n c)) := by kernel_rfl) (hl : ls.lookup n = some L := by exact rfl) (h1 : L.p = L.dt.p := by exact rfl) (h2 : L.st = L.dt.st := by exact rfl) (h3 : L.dt.Ok (An n).1 := by exact ⟨⟨rfl, rfl⟩, rfl, by trivial⟩) (pm : ∀ x, L.p (L.st x) = some x := by intro x; kernel_rfl) : zP P An N0 ls n (zb n c) :=
 zzr hT (jn es) hm An N0 ls n c hnode e hL L hl (λ s x hc h => by rw [h2]; rw [h1] at h; exact DX.hp h3 hc h) pm hb L.par
theorem Jn {P : Program} {T : Tab} {An : Nat -> Keep × Keep} {N0 : Nat} {ls : List (Nat × LSpec)} {n : Nat} {c : Code} (hT : TabOk P T) (hm : P.follows .mixedOrders = true) (es : List (Ent P)) {l : List (Nat × Code)} (hL : ∀ p ∈ l, zP P An N0 ls p.1 p.2) (L : LSpec)
  (e : zcg (zgE An n) (zb n c) n = l := by kernel_rfl) (hb : zDj T (gam es) An N0 ls n c L := by intro x α kn ke; kernel_rfl) (hl : ls.lookup n = some L := by exact rfl) (h1 : L.p = L.dt.p := by exact rfl) (h2 : L.st = L.dt.st := by exact rfl) (h3 : L.dt.Ok (An n).1 := by exact ⟨⟨rfl, rfl⟩, rfl, by trivial⟩) : zP P An N0 ls n (zb n c) :=
 zve hT (jn es) hm An N0 ls n c e hL L hl (λ s x hc h => by rw [h2]; rw [h1] at h; exact DX.hp h3 hc h) hb L.par
def zG {P : Program} {T : Tab} (hT : TabOk P T) (hm : P.follows .mixedOrders = true) (es : List (Ent P)) (f : FuncId) (fn : Func) (hf : P.funcs[f]? = some fn) (An : Nat -> Keep × Keep) (N0 : Nat) (ls : List (Nat × LSpec)) {l : List (Nat × Code)} (hL : ∀ p ∈ l, zP P An N0 ls p.1 p.2) (F : FSpec)
  (e : zcg An (fn.body.getD .skip) 0 = l := by kernel_rfl) (hb : TxOk T (gam es) An (lam N0 ls) fn F := by intro x; kernel_rfl) (hname : (fn.name == "runtime.NumGoroutine") = false := by exact rfl) (hru : ∀ y, (F.ret y).use = F.S.use /\ (F.ret y).sl = F.S.sl := by intro y; exact ⟨rfl, rfl⟩) (h1 : F.pat = F.ad.pat := by exact rfl) (h2 : F.args = F.ad.args := by exact rfl) (h3 : F.bs = F.ad.bs := by exact rfl) : Ent P :=
 zCI hT (jn es) hm f fn hf hname An (lam N0 ls) (zyQ hL e) F hru hb (λ a b x h => by rw [h2, h3]; rw [h1] at h; exact DA.hp h) F.par
end
section
open Go.RowKit
def ZG (w : World) : Mem := λ g o => w.cell? ⟨g, o, none⟩
theorem CallOk.calls {P : Program} {f : FuncId} {args : List AV} {v : Value} (h : CallOk P f args [] ⟨.v v, [], none, [], [], [], none⟩) (W : World) (cargs : Array Value) (hsz : cargs.size = args.length) (hr : ∀ i (h : i < cargs.size) (h' : i < args.length), Rd (ZG W) (gsR []) jE cargs[i] args[i]) (hgl : zpd (ZG W) W [] (InT jE []) := by exact λ g cs hg => by cases hg) :
  Calls P f cargs W λ e w' => e = .returned v /\ Below W.heap.size W w' := by
 refine (h.2 (ZG W) W cargs [] jE hgl (λ _ _ _ h => h) (λ k g h => by cases h) (λ i j g h => by cases h) rfl hsz hr (λ k h => by cases h) (λ k h => by cases h) ⟨(λ t h => by cases h), (λ t sp h => by cases h), (λ t h => by cases h)⟩).mono λ e w' ⟨c, M', σ', gn, he, left⟩ => ?_
 have hv := left.val
 refine ⟨by rw [he, hv.v_inv], left.frm.os, left.frm.tape, left.frm.output, left.frm.size, λ k hk => left.frm.block k hk (λ h => by cases h) (λ ⟨t, h, _⟩ => by cases h)⟩
def zis (W : World) (v : Value) : Prop := ∃ xs : List Int, (∀ x ∈ xs, -9223372036854775808 <= x /\ x <= 9223372036854775807) /\ xs.length <= 9223372036854775807 /\ ∀ ρ σ, Rd (ZG W) ρ σ v (.list 1 (xs.map λ x => [.v (.int .i64 x)]) none)
theorem zpN (W : World) : zis W (.slice none 0 0) := ⟨[], λ x h => (by cases h), by simp, λ ρ σ => .nil⟩
theorem zkl {P : Program} {w : World} {r : Reach} {base : Nat} {t e : TypeId} (ht : P.underlying t = some (.slice e)) {a : Addr} {l c : Nat} (h : Value.okWide P w r base t (.slice (some a) l c)) : a.spot = none := by
 simp [Value.okWide, ht, Cell.okWide, Cell.ok, World.has] at h
 exact h.2.2.2.1
theorem zuJ {w : World} {x : Addr} {len cap : Nat} {zs : List Int} (hs : x.spot = none) (hl : len <= zs.length) (hlc : len <= cap) (hm : cap <= maxLen) (hcell : ∀ i, i < zs.length -> w.cell? (x.add i) = some (.int .i64 (zs.getD i 0))) (hwz : ∀ n ∈ zs, (Lit.int .i64 n).wf = true) : zis w (.slice (some x) len cap) := by
 have hb : ∀ n ∈ zs, -9223372036854775808 <= n /\ n <= 9223372036854775807 := λ n hn => by
  have := hwz n hn
  simpa [Lit.wf, IntKind.min, IntKind.max, IntKind.bits, show IntKind.i64.signed = true from rfl] using this
 obtain ⟨b, off, spot⟩ := x
 dsimp only at hs
 subst hs
 refine ⟨zs.take len, λ n hn => hb n (List.mem_of_mem_take hn), by simp [maxLen] at hm |-; omega, λ ρ σ => .list (λ i j => .int .i64 (zs.getD i 0)) (by simp; omega) hlc (λ i h => by simp) (λ i j hi hj => ?_) (λ i j => rfl) (λ i j h h' => ?_) .none⟩
 ·have hj0 : j = 0 := by omega
  subst hj0
  have hi' : i < zs.length := by simp at hi; omega
  have := hcell i hi'
  show w.cell? ⟨b, off + i * 1 + 0, none⟩ = _
  by_cases hi0 : i = 0
  ·subst hi0; simpa [Addr.add] using this
  ·simpa [Addr.add, hi0] using this
 ·have hj0 : j = 0 := by simp at h'; exact h'
  subst hj0
  have hi' : i < zs.length := by simp at h; omega
  simp [List.getD_eq_getElem?_getD, List.getElem?_eq_getElem hi']
  exact .v
end
section
open Go.RowKit Go.Shelf
attribute [local go_sem] Oper.semAt_some
def KpS (S : Nat -> Nat -> Prop) (W W' : World) : Prop := ∀ g o v, S g o -> W.cell? ⟨g, o, none⟩ = some v -> W'.cell? ⟨g, o, none⟩ = some v
theorem KpS.refl (S : Nat -> Nat -> Prop) (W : World) : KpS S W W := λ _ _ _ _ h => h
theorem KpS.trans {S : Nat -> Nat -> Prop} {A B C : World} (h : KpS S A B) (k : KpS S B C) : KpS S A C := λ g o v hs hc => k g o v hs (h g o v hs hc)
def zkv (cf : Nat -> Nat -> Value) (m : Nat) : List Value := (List.range 29).map (cf m)
def zvK (cf : Nat -> Nat -> Value) (m : Nat) : Array Value := #[.int .i64 (m : Int), .agg (zkv cf m).toArray]
theorem za2 {F : Fence} {n : Nat} {P : Program} {w : World} {ops : Array Oper} {rest : List Oper} {o : Oper} {a : Act} {Q : Exit -> Act -> World -> Prop} (hgd : o.guard = none) (ty : TypeId) (x : Operand) (hop : o.op = .load ty x)
  (b off : Nat) (hx : a.eval x = .pointer (some ⟨b, off, none⟩)) (cs : List Value) (d : TypeDesc) (hc : w.rangeAt b off cs)
  (hu : P.underlying ty = some d) (hd : d.isRow = true) (hi : (P.info? ty).map (·.size) = some cs.length)
  (h : wpListIn F n P ops Q rest (a.put o.dst (.agg cs.toArray)) w) : wpListIn F n P ops Q (o :: rest) a w := by
 refine wpListIn_plain hgd λ K hK' => ?_
 have hrun : (execOp a.eval o).run P w = .ok (.value (.agg cs.toArray)) w := by
  unfold execOp
  simp only [hop, hx, Instr.loadAt, Instr.sureAddr, Sem.run_bind, Sem.run_pure, Result.andThen_ok, run_loadVar_mid w b off ty cs d hc hu hd hi]
 unfold Oper.wpIn
 refine ⟨?_, ?_⟩
 ·simp [Oper.about, hop]
 ·rw [Oper.semAt_plain F _ _ (by rw [hop]; intro c hc'; cases hc'), hrun]
  exact hK' _ _ h
set_option maxRecDepth 100000 in
set_option maxHeartbeats 4000000 in
theorem zyV (F : Fence) (n : Nat) (hf : F.fn 92) (hro : F.round = none) (hn : 1 <= n) (l Bs : Nat) (p : Option Addr) (len cap : Nat) (cf : Nat -> Nat -> Value) (hlen : len <= 1000000) (S : Nat -> Nat -> Prop) (J : Nat -> World -> Prop) (Jx : World -> Prop)
  (hp : len = 0 \/ ∃ g off, p = some ⟨g, off, none⟩) (hS0 : S Bs 0) (hS : ∀ g off, p = some ⟨g, off, none⟩ -> ∀ i j, i < len -> j < 29 -> S g (off + i * 29 + j))
  (hY : ∀ k W, J k W -> k < len -> YieldAt F (n - 1) Tryz.prog l (zvK cf (len - 1 - k)) W λ e W' =>
    (e = .returned (.bool true) /\ J (k + 1) W' /\ KpS S W W') \/ (e = .returned (.bool false) /\ Jx W'))
  (W : World) (hBs : W.cell? ⟨Bs, 0, none⟩ = some (.slice p len cap)) (hL : ∀ g off, p = some ⟨g, off, none⟩ -> ∀ i j, i < len -> j < 29 -> W.cell? ⟨g, off + i * 29 + j, none⟩ = some (cf i j)) (h0 : J 0 W) :
  CallsIn F n Tryz.prog 92 #[.func (.yield l) #[] #[], .pointer (some ⟨Bs, 0, none⟩)] W λ e W' => (∃ v, e = .returned v) /\
   (J len W' \/ Jx W') := by
 refine callsIn_of_wp Tryz.func92 rfl hf ?_ hro
 simp only [Tryz.ntmps92, List.size_toArray, List.length_cons, List.length_nil, Nat.reduceAdd, Nat.reduceSub, Array.replicate_succ, Array.replicate_zero, List.push_toArray, List.append_toArray, List.nil_append, List.cons_append]
 have HL := zzj hL
 have HP := zzj hp
 have HS := zzj hS
 clear hL hp hS
 gi_wp2
 gi_loopw [3] (λ i wr => ∃ k m : Nat, k + m = len /\ i = .int .i64 ((m : Int) - 1) /\ J k wr /\ KpS S W wr)
  (λ i _ => (intOf i + 1).toNat)
 case atStart => exact ⟨0, len, by omega, rfl, h0, KpS.refl _ _⟩
 case round =>
  obtain ⟨k, m, hkm, rfl, hJs, hnx⟩ := hrel
  have hcb : wr.cell? ⟨Bs, 0, none⟩ = some (.slice p len cap) := hnx _ _ _ hS0 hBs
  cases m with
  | zero =>
   have hk : k = len := by omega
   gi_wp2
   go_end0
   rw [hk] at hJs
   exact ⟨⟨_, rfl⟩, .inl hJs⟩
  | succ m =>
   have hm1 : (((m + 1 : Nat) : Int) - 1) = (m : Int) := by omega
   rw [hm1]
   clear hm1
   rcases HP.out with h0' | ⟨b, off, hp⟩
   ·omega
   have hrow : wr.rangeAt b (off + m * 29) (zkv cf m) := λ j v hv => by
    unfold zkv at hv
    rw [List.getElem?_map] at hv
    obtain ⟨j', e1, e2⟩ := Option.map_eq_some_iff.1 hv
    have hj : j < 29 := by
     have := (List.getElem?_eq_some_iff.1 e1).1
     simpa using this
    rw [List.getElem?_range hj] at e1
    cases e1
    subst e2
    exact hnx _ _ _ (HS.out b off hp m j (by omega) hj) (HL.out b off hp m j (by omega) hj)
   have HROW := zzj hrow
   have hbf : len - 1 - k = m := by omega
   have hY1 := hY k wr hJs (by omega)
   rw [hbf] at hY1
   obtain ⟨fn, tmps, assign, body, hy, hR⟩ := hY1
   dsimp only [zvK] at hy
   have hmI : (m : Int) < (len : Int) := by omega
   have hm0 : (0 : Int) <= (m : Int) := by omega
   have dm : decide ((0 : Int) <= (m : Int)) = true := by simp
   rw [hp] at hcb
   obtain ⟨R, hR0⟩ : ∃ R, zkv cf m = R := ⟨_, rfl⟩
   have hRl : R.length = 29 := by rw [<- hR0]; simp [zkv]
   rw [hR0] at hy HROW
   have HRL := zzj hRl
   clear hbf hp hrow hRl
   gi_wp2_with (first
    | (refine za2 rfl 82 _ rfl b (off + m * 29) rfl R _ HROW.out Tryz.underlying82 rfl (by rw [HRL.out]; kernel_rfl) ?_))
   refine hR.mono ?_
   rintro e W3 (⟨rfl, hJ3, hk3⟩ | ⟨rfl, hJx3⟩)
   ·gi_wp2
    go_roundw
    case rel => exact ⟨k + 1, m, by omega, by first | rfl | (congr 1), hJ3, hnx.trans hk3⟩
    case measure => simp [intOf]
   ·gi_wp2
    refine bodyPost_ret (results_none rfl _ _ _) rfl ?_
    exact ⟨⟨_, rfl⟩, .inr hJx3⟩
end
section
open Go.RowKit
def zaV (o : Oper) : Bool := match o.op with
 | .defer _ => false
 | _ => true
def zaj : Code -> Bool
 | .skip | .label _ | .exit _ | .ret => true
 | .region _ ops _ => ops.toList.all zaV
 | .seq a b => zaj a && zaj b
 | .cond _ a b => zaj a && zaj b
 | .block _ c => zaj c
 | _ => false
section
variable {P : Program} {T : Tab} {Γ : GamK} {B : Base} {s s' : AS} {a : Act} {w : World} {Q : Exit -> Act -> World -> Prop} {l n' : Nat}
abbrev Fr (l : Nat) : Fence := Fence.wide.inRound l
theorem opR {o : Oper} {K K' : Act -> World -> Prop} (hd : zaV o = true) (hk : ∀ a w, K a w -> K' a w) (hQ : ∀ a w, ¬ Q .outgrown a w) (h : o.wp P a w K Q) : o.wpIn (Fr l) n' P a w K' Q := by
 refine ⟨λ _ _ => trivial, ?_⟩
 have hs : o.semAt (Fr l).round a.eval = execOp a.eval o := Oper.semAt_eq _ _ _ (λ c hc => by unfold zaV at hd; rw [hc] at hd; cases hd)
 rw [hs]
 unfold Oper.wp at h
 generalize (execOp a.eval o).run P w = r at h
 cases r with
 | halt x w' =>
  cases x with
  | panic v => exact h
  | _ => exact h.elim
 | ok x w' =>
  cases x with
  | value v => exact hk _ _ h
  | skip => exact hk _ _ h
  | defer d => exact hk _ _ h
  | enter f args =>
   refine ⟨λ e => (by cases e), ?_⟩
   refine CallsIn.inRound l (callsIn_wide.2 (Calls.mono h λ e w'' q => ?_))
   cases e with
   | returned v => exact hk _ _ q
   | panicked c => exact q
   | outgrown => obtain ⟨a0, w0, q0⟩ := q; exact absurd q0 (hQ _ _)
  | row row args =>
   refine ⟨λ e => (by cases e), λ c cs _ => ?_⟩
   obtain ⟨v, w'', r, st⟩ := Rows.mono h (λ v w' q => hk _ _ q) c cs
   exact ⟨v, w'', r, stepsIn_wide.2 st⟩
  | _ => exact h.elim
theorem zgH {ops : Array Oper} (hd : ops.toList.all zaV = true) (hQ : ∀ a w, ¬ Q .outgrown a w) : ∀ (L : List Nat) (a : Act) (w : World), wpOps P ops Q L a w -> wpOpsIn (Fr l) n' P ops Q L a w
 | [], a, w, h => h
 | i :: rest, a, w, h => by
  unfold wpOps at h
  unfold wpOpsIn
  cases ho : ops[i]? with
  | none => rw [ho] at h; exact zgH hd hQ rest a w h
  | some o =>
   rw [ho] at h
   simp only at h |-
   have hdo : zaV o = true := List.all_eq_true.1 hd o (by
    obtain ⟨hlt, e⟩ := Array.getElem?_eq_some_iff.1 ho
    rw [<- e]; simp)
   split
   ·rename_i hw
    rw [if_pos hw] at h
    rcases h with h | ⟨-, a0, w0, h⟩
    ·exact opR hdo (λ a w => zgH hd hQ rest a w) hQ h
    ·exact absurd h (hQ _ _)
   ·rename_i hw
    rw [if_neg hw] at h
    exact ⟨λ _ _ => trivial, zgH hd hQ rest _ w h⟩
theorem RegRun.wpR {ops : Array Oper} {draw : Bool} {id : Nat} (hm : P.follows .mixedOrders = true) (hd : ops.toList.all zaV = true) (hQ : ∀ a w, ¬ Q .outgrown a w) (h : RegRun P ops Q draw a w) : (Code.region id ops draw).wpIn (Fr l) n' P Q a w := by
 cases draw with
 | false => exact wpIn_region (zgH hd hQ _ _ _ h)
 | true =>
  refine wpIn_region_draw λ t => ?_
  simp only [Region.schedule, hm, Bool.true_or, if_true]
  exact zgH hd hQ _ _ _ (wpAny_sound ops.size t _ a _ h)
theorem zfT (hT : TabOk P T) (hG : GOk P Γ.v) (hm : P.follows .mixedOrders = true) (An : Nat -> Keep × Keep) (Λ : LoopK) : ∀ (c : Code) (n : Nat) (hr : zaj c = true) (hL : ∀ p ∈ zK c n, zfx An p = false) (α : Type) (s : AS) (K : Exit -> AS -> Option α) (x : α) (B : Base) (a : Act) (w : World) (Q : Exit -> Act -> World -> Prop), (∀ a w, ¬ Q .outgrown a w) ->
  je T Γ An Λ c n s K = some x -> Sim B s a w -> (∀ e s' a' w', K e s' = some x -> Sim B s' a' w' -> Q e a' w') -> c.wpIn (Fr l) n' P Q a w := by
 intro c
 induction c with
 | skip => intro n hr hL α s K x B a w Q hno h hS hQ; exact wpIn_skip (hQ _ _ _ _ h hS)
 | label l => intro n hr hL α s K x B a w Q hno h hS hQ; exact wpIn_label (hQ _ _ _ _ h hS)
 | region id ops draw =>
  intro n hr hL α s K x B a w Q hno h hS hQ
  obtain ⟨s1, h1, hS1⟩ := znA _ s h hS
  obtain ⟨s2, h2, hS2⟩ := ziV _ s1 h1 hS1
  exact (zcl hT hG h2 hS2 (λ s' a' w' hk => hQ _ s' a' w' hk)).wpR hm hr hno
 | seq c1 c2 ih1 ih2 =>
  intro n hr hL α s K x B a w Q hno h hS hQ
  obtain ⟨r1, r2⟩ := Bool.and_eq_true_iff.1 (show (zaj c1 && zaj c2) = true from hr)
  unfold je at h
  split at h
  ·rename_i hcut
   have := hL (n, .seq c1 c2) List.mem_cons_self
   exact absurd (this.symm.trans hcut) (by simp)
  ·refine wpIn_seq (ih1 (n + 1) r1 (λ p hp => hL p (List.mem_cons_of_mem _ (List.mem_append_left _ hp))) α s _ x B a w _ (λ a w => hno a w) h hS λ e s' a' w' hk hS' => ?_)
   cases e with
   | normal => exact ih2 _ r2 (λ p hp => hL p (List.mem_cons_of_mem _ (List.mem_append_right _ hp))) α s' K x B a' w' Q hno hk hS' hQ
   | _ => exact hQ _ s' a' w' hk hS'
 | cond c x1 y1 ih1 ih2 =>
  intro n hr hL α s K x B a w Q hno h hS hQ
  obtain ⟨r1, r2⟩ := Bool.and_eq_true_iff.1 (show (zaj x1 && zaj y1) = true from hr)
  unfold je at h
  split at h
  ·rename_i hcut
   have := hL (n, .cond c x1 y1) List.mem_cons_self
   exact absurd (this.symm.trans hcut) (by simp)
  ·have hL1 : ∀ p ∈ zK x1 (n + 1), zfx An p = false := λ p hp => hL p (List.mem_cons_of_mem _ (List.mem_append_left _ hp))
   have hL2 : ∀ p ∈ zK y1 (n + 1 + Code.loops x1), zfx An p = false := λ p hp => hL p (List.mem_cons_of_mem _ (List.mem_append_right _ hp))
   split at h
   ·rename_i b hb
    obtain ⟨M, ρ, σ, hs⟩ := hS
    have he := hs.ev c
    rw [hb] at he
    have hc := he.v_inv
    cases b
    ·rw [zaf hb] at h
     exact wpIn_cond_false hc (ih2 _ r2 hL2 α s K x B a w Q hno h ⟨M, ρ, σ, hs⟩ hQ)
    ·rw [zaf hb] at h
     exact wpIn_cond_true hc (ih1 _ r1 hL1 α s K x B a w Q hno h ⟨M, ρ, σ, hs⟩ hQ)
   ·rename_i hb
    obtain ⟨hA, hB⟩ := zcs h
    obtain ⟨M, ρ, σ, hs⟩ := hS
    have he := hs.ev c
    rw [hb] at he
    have kn : ∀ b, a.eval c = .bool b -> Sim B (s.knownO c b) a w := λ b hcb => by
     cases c with
     | tmp t =>
      refine ⟨M, ρ, σ, hs.reread t _ ?_⟩
      have : a.tmps.getD t undef = .bool b := hcb
      rw [this]; exact .v
     | _ => exact ⟨M, ρ, σ, hs⟩
    obtain ⟨b, hcb⟩ : ∃ b, a.eval c = .bool b := by
     generalize a.eval c = cv at he
     cases he; exact ⟨_, rfl⟩
    cases b
    ·exact wpIn_cond_false hcb (ih2 _ r2 hL2 α _ K x B a w Q hno hB (kn false hcb) hQ)
    ·exact wpIn_cond_true hcb (ih1 _ r1 hL1 α _ K x B a w Q hno hA (kn true hcb) hQ)
   ·cases h
 | block id c ih =>
  intro n hr hL α s K x B a w Q hno h hS hQ
  unfold je at h
  split at h
  ·rename_i hcut
   have := hL (n, .block id c) List.mem_cons_self
   exact absurd (this.symm.trans hcut) (by simp)
  ·refine wpIn_block (ih (n + 1) hr (λ p hp => hL p (List.mem_cons_of_mem _ hp)) α s _ x B a w _ (λ a w => hno a w) h hS λ e s' a' w' hk hS' => ?_)
   cases e with
   | exit i =>
    simp only at hk
    show (if i = id then Q .normal a' w' else Q (.exit i) a' w')
    split at hk
    ·rename_i hi; rw [if_pos hi]; exact hQ _ s' a' w' hk hS'
    ·rename_i hi; rw [if_neg hi]; exact hQ _ s' a' w' hk hS'
   | _ => exact hQ _ s' a' w' hk hS'
 | exit id => intro n hr hL α s K x B a w Q hno h hS hQ; exact wpIn_exit (hQ _ _ _ _ h hS)
 | ret => intro n hr hL α s K x B a w Q hno h hS hQ; exact wpIn_ret (hQ _ _ _ _ h hS)
 | _ => intro n hr hL α s K x B a w Q hno h hS hQ; cases hr
end
end
section
open Go.RowKit Go.Shelf
def SBk (gb : Nat) (p : Option Addr) (len : Nat) (g o : Nat) : Prop := (g = gb /\ o = 0) \/ ∃ off, p = some ⟨g, off, none⟩ /\ ∃ i j, i < len /\ j < 29 /\ o = off + i * 29 + j
theorem zzY {ps : Array Tmp} {asg body : Code} {g : Operand} {ex : Nat} {Q : Exit -> Act -> World -> Prop} {a : Act} {w : World} {gb : Nat} {p : Option Addr} {len cap : Nat} {cf : Nat -> Nat -> Value}
  (hg : a.eval g = .func (.func 92) #[] #[.pointer (some ⟨gb, 0, none⟩)]) (hps : ps.size = 2) (hlen : len <= 1000000) (hp : len = 0 \/ ∃ g off, p = some ⟨g, off, none⟩)
  (hBs : w.cell? ⟨gb, 0, none⟩ = some (.slice p len cap)) (hL : ∀ g off, p = some ⟨g, off, none⟩ -> ∀ i j, i < len -> j < 29 -> w.cell? ⟨g, off + i * 29 + j, none⟩ = some (cf i j))
  (J : Nat -> World -> Prop) (Jx : World -> Prop)
  (hJ : ∀ k W W' row, J k W -> W.grownBy W' row -> (∀ r, row = some r -> w.heap.size <= r /\ ∃ o : Obj, W.heap[r]? = some o /\ o.isCells = false) -> J k W')
  (hJx : ∀ W W' row, Jx W -> W.grownBy W' row -> (∀ r, row = some r -> w.heap.size <= r /\ ∃ o : Obj, W.heap[r]? = some o /\ o.isCells = false) -> Jx W')
  (h0 : J 0 w)
  (hround : ∀ k W (l : Nat) (R0 : Loop), J k W -> k < len -> w.heap.size <= l -> W.heap[l]? = some (.loop R0) -> R0.state = .ready -> W.heap[w.heap.size]? = some (.deferred (some [])) ->
    asg.wpIn (Fr l) 2 Tryz.prog (Exit.then (λ a1 w1 => ∃ w2, (Instr.beginRound l).run Tryz.prog w1 = .ok () w2 /\ body.wpIn (Fr l) 2 Tryz.prog (λ e a3 W3 => W3.heap[l]? = some (.loop { R0 with state := .busy }) /\ W3.heap[w.heap.size]? = some (.deferred (some [])) /\ ((e = .normal /\ J (k + 1) (W3.putObj l (.loop R0)) /\ KpS (SBk gb p len) W (W3.putObj l (.loop R0))) \/ (e = .exit ex /\ Jx (W3.putObj l (.loop R0))))) a1 w2) (λ _ _ _ => False))
     { tmps := (ps.zip (zvK cf (len - 1 - k))).foldl (λ t (p, v) => t.setIfInBounds p v) a.tmps, defers := [] } W)
  (hQ : ∀ W, W.heap[w.heap.size]? = some (.deferred (some [])) -> (J len W \/ Jx W) -> Q .normal { a with defers := mkD w.heap.size :: a.defers } W) :
  (Code.block ex (.rangeFunc g ps asg body)).wp Tryz.prog Q a w := by
 refine (wpIn_wide (n := 4)).1 (wpIn_block (wpIn_rangeFunc ?_))
 intro fn hfn
 show ∃ (l : Nat) (mark : List Deferred) (w₁ : World) (d : Deferred) (w₁' : World) (f : FuncId) (args : Array Value) (w₂ : World), (Instr.enterLoop fn a.tmps ps asg body none).run Tryz.prog w = .ok (l, mark) w₁ /\ _
 obtain ⟨rec, hrec⟩ : ∃ rec : LoopState -> Option Code -> Loop, rec = λ st pe => { state := st, pending := pe, fn, tmps := a.tmps, params := ps, assign := asg, body, defers := w.heap.size } := ⟨_, rfl⟩
 obtain ⟨W1, hW1⟩ : ∃ W1, (w.alloc (.deferred (some []))).alloc (.loop (rec .ready none)) = W1 := ⟨_, rfl⟩
 have hL1 : W1.heap[w.heap.size + 1]? = some (.loop (rec .ready none)) := by
  rw [<- hW1]; have := World.alloc_heap_new (w.alloc (.deferred (some []))) (.loop (rec .ready none)); rwa [World.size_alloc] at this
 have hK1 : W1.heap[w.heap.size]? = some (.deferred (some [])) := by
  rw [<- hW1]; exact (Below.heap_alloc _ _ _ (by simp)).trans (World.alloc_heap_new w _)
 have hI1 : J 0 W1 := by
  rw [<- hW1]
  exact hJ _ _ _ none (hJ _ _ _ none h0 (World.grownBy_alloc _ _ none) (λ r e => by cases e)) (World.grownBy_alloc _ _ none) (λ r e => by cases e)
 have hb1 : Below w.heap.size w W1 := by
  rw [<- hW1]; exact ((Below.refl _ w).alloc (Nat.le_refl _) _).alloc (by simp) _
 have up : ∀ g o v, w.cell? ⟨g, o, none⟩ = some v -> W1.cell? ⟨g, o, none⟩ = some v := λ g o v hc => (hb1.cell (p := ⟨g, o, none⟩) (zaP hc)).trans hc
 refine ⟨w.heap.size + 1, [mkD w.heap.size], W1, { target := .fn (.func 92) #[.pointer (some ⟨gb, 0, none⟩)], args := #[.func (.yield (w.heap.size + 1)) #[] #[]] }, W1, 92,
  #[.func (.yield (w.heap.size + 1)) #[] #[], .pointer (some ⟨gb, 0, none⟩)], W1, ?_, ?_, ?_, ?_, λ _ => by omega, ?_⟩
 ·rw [<- hW1, hrec]; exact run_enterLoop_outer _ _ _ _ _
 ·simp only [resolve, hg]
  simp [go_sem]
 ·intro f' hf'; trivial
 ·have eg : ∀ args w, (callFunc 92 args).run Tryz.prog w = .ok (.enter 92 args) w := enters_of Tryz.func92 (by kernel_rfl) rfl
  simp [invoke, go_sem, eg]
 ·refine (zyV Fence.wide 3 trivial rfl (by omega) (w.heap.size + 1) gb p len cap cf hlen (SBk gb p len)
   (λ k W => J k W /\ W.heap[w.heap.size + 1]? = some (.loop (rec .ready none)) /\ W.heap[w.heap.size]? = some (.deferred (some [])))
   (λ W => Jx W /\ W.heap[w.heap.size + 1]? = some (.loop (rec .done (some (.exit ex)))) /\ W.heap[w.heap.size]? = some (.deferred (some [])))
   hp (.inl ⟨rfl, rfl⟩) (λ g off e i j hi hj => .inr ⟨off, e, i, j, hi, hj, rfl⟩) ?_ W1 (up _ _ _ hBs) (λ g off e i j hi hj => up _ _ _ (hL g off e i j hi hj)) ⟨hI1, hL1, hK1⟩).mono ?_
  ·rintro k W ⟨hi, hl, hk⟩ hlt
   have hy := run_yield (P := Tryz.prog) (args := zvK cf (len - 1 - k)) hl (by rw [hrec]; exact hps.symm)
   rw [hrec] at hy
   refine ⟨fn, _, asg, body, hy, roundIn_of_wpIn hfn (wpIn_mono (hround k W _ _ hi hlt (by omega) hl (by rw [hrec]) hk) ?_)⟩
   rintro e a1 w1 h1
   cases e with
   | normal =>
    obtain ⟨w2, h2, h3⟩ := h1
    refine ⟨w2, h2, wpIn_mono h3 ?_⟩
    rintro e a3 W3 ⟨b1, b2, b3⟩
    have hs3 : w.heap.size + 1 < W3.heap.size := (Array.getElem?_eq_some_iff.1 b1).1
    have er : ∀ jump, (Instr.endRound (w.heap.size + 1) jump).run Tryz.prog W3 = .ok (.bool jump.isNone) (W3.putObj (w.heap.size + 1) (.loop (rec (if jump.isNone then .ready else .done) jump))) := λ jump => by
     have := run_endRound (P := Tryz.prog) jump b1
     rw [hrec] at this |-
     exact this
    have kd : ∀ o, (W3.putObj (w.heap.size + 1) o).heap[w.heap.size]? = some (.deferred (some [])) := λ o => (World.putObj_heap_other (by omega)).trans b2
    rcases b3 with ⟨rfl, j1, j2⟩ | ⟨rfl, j1⟩
    ·exact ⟨_, _, er none, .inl ⟨rfl, ⟨j1, World.putObj_heap_same hs3, kd _⟩, j2⟩⟩
    ·refine ⟨_, _, er (some (.exit ex)), .inr ⟨rfl, hJx _ _ (some (w.heap.size + 1)) j1 ⟨rfl, rfl, rfl, by simp, λ k hk hne => ?_⟩ (λ r e => ?_), World.putObj_heap_same hs3, kd _⟩⟩
     ·have hk' : k ≠ w.heap.size + 1 := λ e => hne (by rw [e])
      rw [World.putObj_heap_other hk', World.putObj_heap_other hk']
     ·cases e
      exact ⟨by omega, _, World.putObj_heap_same hs3, rfl⟩
   | _ => exact h1.elim
  ·rintro e W2 ⟨⟨v, rfl⟩, (⟨hi, hl, hk⟩ | ⟨hi, hl, hk⟩)⟩
   ·refine ⟨none, _, by have := run_endLoop (P := Tryz.prog) hl (by rw [hrec]; simp); rw [hrec] at this; exact this, ?_⟩
    exact hQ _ ((World.putObj_heap_other (by omega)).trans hk) (.inl (hJ _ _ _ _ hi (grownBy_putObj' _ _ _) (λ r e => by cases e; exact ⟨by omega, _, hl, rfl⟩)))
   ·refine ⟨some (.exit ex), _, by have := run_endLoop (P := Tryz.prog) hl (by rw [hrec]; simp); rw [hrec] at this; exact this, ?_⟩
    refine wpIn_exit ?_
    show (if ex = ex then _ else _)
    rw [if_pos rfl]
    exact hQ _ ((World.putObj_heap_other (by omega)).trans hk) (.inr (hJx _ _ _ hi (grownBy_putObj' _ _ _) (λ r e => by cases e; exact ⟨by omega, _, hl, rfl⟩)))
end
section
open Go.RowKit
section
variable {P : Program} {T : Tab} {Γ : GamK} {B : Base} {M : Mem} {ρ : Rho} {σ : Sig} {s : AS} {a : Act} {w : World}
def Obj.plainO : Obj -> Bool
 | .cells .. => false
 | .map .. => false
 | .deferred _ => false
 | _ => true
theorem Obj.plainO_nc {o : Obj} (h : Obj.plainO o = true) : o.isCells = false := by cases o <;> first | rfl | cases h
theorem zuW {w : World} {l : Nat} {o : Obj} (h : w.heap[l]? = some o) (ho : Obj.plainO o = true) (k : Nat) : w.cell? ⟨l, k, none⟩ = none := by
 cases hc : w.cell? ⟨l, k, none⟩ with
 | none => rfl
 | some v =>
  obtain ⟨ob, h1, h2⟩ := cells_of_cell hc
  rw [show w.heap[l]? = some o from h] at h1
  cases h1
  rw [Obj.plainO_nc ho] at h2; cases h2
theorem zgp {w : World} {l n : Nat} {o : Obj} (h : w.heap[l]? = some o) (ho : Obj.plainO o = true) : ¬ Row w l n := by
 rintro ⟨ccs, t, ⟨z, h1, -⟩, -⟩
 rw [h] at h1; cases h1; cases ho
theorem SimW.par (h : SimW B M ρ σ s a w) {l : Nat} {o1 : Obj} (o2 : Obj) (hB : B.w0.heap[l]? = some o1) (hw : w.heap[l]? = some o1) (h1 : Obj.plainO o1 = true) (h2 : Obj.plainO o2 = true) : SimW { B with w0 := B.w0.putObj l o2 } M ρ σ s a (w.putObj l o2) := by
 have hsz : (B.w0.putObj l o2).heap.size = B.w0.heap.size := by simp
 have hsw : (w.putObj l o2).heap.size = w.heap.size := by simp
 have hl0 : l < B.w0.heap.size := (Array.getElem?_eq_some_iff.1 hB).1
 have hlw : l < w.heap.size := (Array.getElem?_eq_some_iff.1 hw).1
 have old : ∀ k, k ≠ l -> (w.putObj l o2).heap[k]? = w.heap[k]? := λ k hk => World.putObj_heap_other hk
 have old0 : ∀ k, k ≠ l -> (B.w0.putObj l o2).heap[k]? = B.w0.heap[k]? := λ k hk => World.putObj_heap_other hk
 have cellold : ∀ g o c, w.cell? ⟨g, o, none⟩ = some c -> (w.putObj l o2).cell? ⟨g, o, none⟩ = some c := λ g o c hc => by
  have hne : g ≠ l := λ e => by subst e; rw [zuW hw h1] at hc; cases hc
  rw [zR (old g hne)]; exact hc
 have rowold : ∀ g n, Row w g n -> Row (w.putObj l o2) g n := λ g n hr => by
  have hne : g ≠ l := λ e => by subst e; exact zgp hw h1 hr
  exact hr.of_heap (old g hne)
 have hdef : Marks (B.w0.putObj l o2).heap.size a.defers (w.putObj l o2) := by
  rw [hsz]
  exact h.defers.keep λ D _ hd => (old D (λ e => by subst e; rw [hw] at hd; cases hd; cases h1)).trans hd
 refine { len := h.len, env := h.env, nin := h.nin, own := h.own, fresh := λ b g hn hr => by rw [hsz]; exact h.fresh b g hn hr, defers := hdef, mem := λ g o c hc => cellold g o c (h.mem g o c hc), memB := λ g o hg => h.memB g o (by rw [<- hsz]; exact hg), memS := h.memS, gl := λ g cs hg => ?_, os := h.os, tape := h.tape, output := h.output, size := by rw [hsz, hsw]; exact h.size, block := λ k q1 q2 q3 => ?_, box := λ b cs hb => ?_, rws := λ g n hr => ?_, rlt := λ b g hr => by rw [hsw]; exact h.rlt b g hr, rho := h.rho, inj := h.inj, tok := λ t sp q1 q2 => by rw [hsz]; exact h.tok t sp q1 q2, cap := λ t sp hs => rowold _ _ (h.cap t sp hs), sig := h.sig, capB := h.capB, nink := h.nink, tinj := h.tinj }
 ·obtain ⟨q1, ⟨t, z, q2⟩, q3, q4⟩ := h.gl g cs hg
  have hne : g ≠ l := λ e => by subst e; rw [hB] at q2; cases q2; cases h1
  exact ⟨q1, ⟨t, z, (old0 g hne).trans q2⟩, q3, q4⟩
 ·by_cases e : k = l
  ·subst e
   rw [World.putObj_heap_same hlw]; exact (World.putObj_heap_same hl0).symm
  ·rw [old k e]
   show _ = (B.w0.putObj l o2).heap[k]?
   rw [old0 k e]
   exact h.block k (by rw [<- hsz]; exact q1) q2 q3
 ·rcases h.box b cs hb with e | ⟨g, q1, q2, q3, q4⟩
  ·exact .inl e
  ·refine .inr ⟨g, q1, q2.of_heap (old g (λ e => ?_)) (λ _ _ h => h), q3, by rw [hsz]; exact q4⟩
   subst e
   rcases q2 with ⟨ccs, t, p1, -⟩ | ⟨-, d, xs, -, es, c, rows, p3, -⟩
   ·exact zgp (n := 0) hw h1 ⟨ccs, t, p1, Nat.zero_le _⟩
   ·rw [hw] at p3; cases p3; cases h1
 ·have hr0 : Row B.w0 g n := by
   have hne : g ≠ l := λ e => by subst e; exact zgp (World.putObj_heap_same hl0) h2 hr
   exact hr.of_heap (old0 g hne).symm
  exact rowold g n (h.rws g n hr0)
theorem zhG {w : World} {l : Nat} {o1 : Obj} (o2 : Obj) (h : w.heap[l]? = some o1) : (w.putObj l o2).putObj l o1 = w := by
 have e : ((w.heap.setIfInBounds l o2).setIfInBounds l o1) = w.heap := by
  apply Array.ext
  ·simp
  ·intro i h1 h2
   by_cases hi : i = l
   ·subst hi
    have := (Array.getElem?_eq_some_iff.1 h).2
    simp [this]
   ·rw [Array.getElem_setIfInBounds_ne _ (λ e => hi e.symm), Array.getElem_setIfInBounds_ne _ (λ e => hi e.symm)]
    simpa using h2
 unfold World.putObj
 rw [e]
noncomputable def ziu (T : Tab) (Γ : GamK) (An : Nat -> Keep × Keep) (Λ : LoopK) (asg body : Code) (n1 n2 ex : Nat) (S : Shape) (args : List AV) (bs : List (List AV)) : Option Ret :=
 if S.sl.all (λ k => decide (k < bs.length)) = true /\ (S.use.all λ t => (List.range bs.length).all λ k => decide (t ≠ vk k)) = true then
  je T Γ An Λ asg n1 (zaM args.length S.use S.sl args bs) λ e s => match e with
   | .normal => je T Γ An Λ body n2 s λ e s => (match e with
    | .normal => zhc S s [.v (.bool true)] none
    | .exit i => if i = ex then zhc S s [.v (.bool false)] none else none
    | _ => none)
   | _ => none
 else none
def zmY (P : Program) (asg body : Code) (ex : Nat) (args : List AV) (bs : List (List AV)) (r : Ret) : Prop :=
 ∀ (M : Mem) (w : World) (cargs : Array Value) (gs : List (Option Nat)) (σ : Sig), zpd M w gs (InT σ r.use) -> (∀ g o v, M g o = some v -> w.cell? ⟨g, o, none⟩ = some v) -> (∀ (k g : Nat), gs[k]? = some (some g) -> g < w.heap.size) -> Inj gs -> gs.length = bs.length -> cargs.size = args.length ->
  (∀ i (h : i < cargs.size) (h' : i < args.length), Rd M (gsR gs) σ cargs[i] args[i]) -> (∀ k (h : k < gs.length) (h' : k < bs.length), jR M (gsR gs) σ w gs[k] bs[k]) -> (∀ k ∈ r.sl, ∀ (h : k < gs.length) (h' : k < bs.length), jR M JD jE w gs[k] bs[k]) -> Toks M w σ r.use gs ->
  ∀ (l : Nat) (R0 : Loop), w.heap[l]? = some (.loop R0) -> R0.state = .ready ->
   asg.wpIn (Fr l) 2 P (Exit.then (λ a1 w1 => ∃ w2, (Instr.beginRound l).run P w1 = .ok () w2 /\ body.wpIn (Fr l) 2 P (λ e a3 W3 => W3.heap[l]? = some (.loop { R0 with state := .busy }) /\ (∃ c M' σ' gn, Left M w gs σ r c M' (W3.putObj l (.loop R0)) σ' gn) /\ ((e = .normal /\ r.val = .v (.bool true)) \/ (e = .exit ex /\ r.val = .v (.bool false)))) a1 w2) (λ _ _ _ => False)) { tmps := cargs, defers := [] } w
theorem zm2 (hT : TabOk P T) (hG : GOk P Γ.v) (hm : P.follows .mixedOrders = true) (An : Nat -> Keep × Keep) (Λ : LoopK) {asg body : Code} {n1 n2 ex : Nat} (hr1 : zaj asg = true) (hr2 : zaj body = true) (hL1 : ∀ p ∈ zK asg n1, zfx An p = false) (hL2 : ∀ p ∈ zK body n2, zfx An p = false) {S : Shape} {args : List AV} {bs : List (List AV)} {r : Ret} (ru : r.use = S.use /\ r.sl = S.sl)
  (h : ziu T Γ An Λ asg body n1 n2 ex S args bs = some r) : zmY P asg body ex args bs r := by
 obtain ⟨sh, osh, nsh, use, sl⟩ := S
 unfold ziu at h
 split at h
 ·rename_i hle
  obtain ⟨hsk, huv⟩ := hle
  intro M w cargs gs σ hgl mem hlt hn hl hsz hr hbx hsl0 hT0 l R0 hl0 hready
  rw [ru.1] at hT0 hgl
  rw [ru.2] at hsl0
  obtain ⟨σ1, hσ1, hinit⟩ := znI (nt := args.length) (args := args) (bs := bs) (use := use) (sl := sl) (Nat.le_refl _) hgl mem hlt hn hl hsz hr hbx hsl0 hT0 (λ t ht k hk => of_decide_eq_true (List.all_eq_true.1 (List.all_eq_true.1 huv t ht) k (by simpa using hk)))
  have ea : cargs ++ Array.replicate (args.length - cargs.size) undef = cargs := by
   rw [show args.length - cargs.size = 0 by omega]; simp
  rw [ea] at hinit
  have hpl : Obj.plainO (.loop R0) = true := rfl
  have hllt : l < w.heap.size := (Array.getElem?_eq_some_iff.1 hl0).1
  have hlg : some l ∉ gs := λ hm => by
   obtain ⟨k, hk, e⟩ := List.getElem_of_mem hm
   rcases hbx k hk (by omega) with ⟨-, e2⟩ | ⟨g, e2, ⟨ccs, t, p1, -⟩, -⟩
   ·rw [e] at e2; cases e2
   ·rw [e] at e2; cases e2
    exact zgp (n := 0) hl0 hpl ⟨ccs, t, p1, Nat.zero_le _⟩
  have hlT : ¬ InT σ use l := λ ⟨t, ht, sp, hsp, e⟩ => by
   have := hT0.cap t sp hsp
   rw [e] at this
   exact zgp hl0 hpl this
  refine zfT hT hG hm An Λ asg n1 hr1 hL1 Ret _ _ r _ _ w _ (λ _ _ h => h) h ⟨M, _, _, hinit⟩ λ e s1 a1 w1 hk1 hS1 => ?_
  cases e with
  | normal =>
   simp only at hk1
   obtain ⟨M1, ρ1, σ1', hs1⟩ := hS1
   have hw1 : w1.heap[l]? = some (.loop R0) := (hs1.block l hllt hlg hlT).trans hl0
   refine ⟨_, run_beginRound hw1 hready, ?_⟩
   have hs2 := hs1.par (l := l) (.loop { R0 with state := .busy }) hl0 hw1 hpl rfl
   refine zfT hT hG hm An Λ body n2 hr2 hL2 Ret _ _ r _ _ _ _ (λ a w h => by rcases h.2.2 with ⟨q, -⟩ | ⟨q, -⟩ <;> cases q) hk1 ⟨M1, ρ1, σ1', hs2⟩ λ e s3 a3 w3 hk3 hS3 => ?_
   obtain ⟨M3, ρ3, σ3, hs3⟩ := hS3
   have hl2 : (w.putObj l (.loop { R0 with state := .busy })).heap[l]? = some (.loop { R0 with state := .busy }) := World.putObj_heap_same hllt
   have hw3 : w3.heap[l]? = some (.loop { R0 with state := .busy }) := (hs3.block l (by show l < (w.putObj l _).heap.size; simpa using hllt) hlg hlT).trans hl2
   refine ⟨hw3, ?_⟩
   have hs4 := hs3.par (l := l) (.loop R0) hl2 hw3 rfl rfl
   have eb : (w.putObj l (.loop { R0 with state := .busy })).putObj l (.loop R0) = w := zhG _ hl0
   have hs5 : SimW ⟨w, M, gs, InT σ use, λ k => σ (vk k)⟩ M3 ρ3 σ3 s3 a3 (w3.putObj l (.loop R0)) := by
    have := hs4
    simp only [eb] at this
    exact this
   have fin : ∀ b : Bool, zhc ⟨sh, osh, nsh, use, sl⟩ s3 [.v (.bool b)] none = some r -> (∃ c M' σ' gn, Left M w gs σ r c M' (w3.putObj l (.loop R0)) σ' gn) /\ r.val = .v (.bool b) := λ b hb => by
    obtain ⟨σ', gn, q⟩ := ziS (cs := [.bool b]) hs5 hb (λ b h => by cases h) rfl (λ i h h' => by
     have : i = 0 := by simpa using h
     subst this
     exact .v) ru
    refine ⟨⟨_, _, _, _, q⟩, ?_⟩
    unfold zhc at hb
    split at hb
    ·split at hb
     ·cases hb
      show zr3 s3 _ sh [.v (.bool b)] = _
      simp only [zr3, valV, tagV]
      split <;> rfl
     ·cases hb
    ·cases hb
   cases e with
   | normal =>
    obtain ⟨q1, q2⟩ := fin true hk3
    exact ⟨q1, .inl ⟨rfl, q2⟩⟩
   | exit i =>
    simp only at hk3
    split at hk3
    ·rename_i hi
     obtain ⟨q1, q2⟩ := fin false hk3
     exact ⟨q1, .inr ⟨by rw [hi], q2⟩⟩
    ·cases hk3
   | _ => cases hk3
  | _ => cases hk1
 ·cases h
end
end
section
open Go.RowKit
structure REnt (P : Program) (asg body : Code) (ex : Nat) where
 F : FSpec
 ok : ∀ x y, F.d x = some y -> zmY P asg body ex (F.args x) (F.bs x) (F.ret y)
 hp : ∀ a b x, F.pat a b = some x -> a = F.args x /\ b = F.bs x
def zfh (mask : List Nat) (env : List AV) : List AV := env.mapIdx λ t v => if mask.contains t then v else .any
def ZO (mask : List Nat) (p0 p1 m : Nat) (row : List AV) (s : AS) : List AV := ((zfh mask s.env).set p0 (.v (.int .i64 m))).set p1 (.agg row)
def zfo (An : Nat -> Keep × Keep) (n m' : Nat) (l : List Nat) (vs : List AV) (s : AS) {α : Type} (kn : Nat -> AS -> Option α) (ke : Out -> Option α) (r : Ret) : Option α :=
 match zbu s l none (zaN s 0 vs ++ jv s 0 l) r with
 | some W => (match r.val with
  | .v (.bool b) => (match b with
   | true => (match keep (An n).1 (s.aps W) with | some s' => kn m' s' | none => none)
   | false => (match keep (An n).2 (s.aps W) with | some s' => ke (.normal, s') | none => none))
  | _ => none)
 | none => none
noncomputable def JE (F : FSpec) (An : Nat -> Keep × Keep) (n fB : Nat) (ks : List Ck) (g p0 p1 : Nat) (mask : List Nat) {α : Type} (m : Nat) (s : AS) (kn : Nat -> AS -> Option α) (ke : Out -> Option α) : Option α :=
 match s.at g with
 | .fn (.func f) [] [.ptr bx 0] =>
  (match s.cx bx with
  | some [.list 29 xs t] =>
   bif Nat.beq f fB then
    (if xs.length <= 1000000 then
      (match m with
      | 0 => (match keep (An n).2 s with | some s' => ke (.normal, s') | none => none)
      | m' + 1 =>
       (match xs[m']? with
       | some row0 =>
        (match zpB ks row0 with
        | some e =>
         (match jl s (idx (JA s (ZO mask p0 p1 m' (enc ks e) s))) 0 (JA s (ZO mask p0 p1 m' (enc ks e) s)) with
         | some bs => (match F.pat (jV s (idx (JA s (ZO mask p0 p1 m' (enc ks e) s))) 0 (ZO mask p0 p1 m' (enc ks e) s)) bs with
          | some x => (match F.d x with
           | some y => bif (JA s (ZO mask p0 p1 m' (enc ks e) s)).contains bx then none else zfo An n m' (JA s (ZO mask p0 p1 m' (enc ks e) s)) (ZO mask p0 p1 m' (enc ks e) s) s kn ke (F.ret y)
           | none => none)
          | none => none)
         | none => none)
        | none => none)
       | none => none))
    else none)
   else none
  | _ => none)
 | _ => none
end
section
open Go.RowKit
theorem zi2 {M : Mem} {ρ : Rho} {σ : Sig} {c : Value} {n : Nat} {xs : List (List AV)} {t : Option Nat} (h : Rd M ρ σ c (.list n xs t)) :
  ∃ (p : Option Addr) (len cap : Nat) (cf : Nat -> Nat -> Value), c = .slice p len cap /\ xs.length = len /\ (len = 0 \/ ∃ g off, p = some ⟨g, off, none⟩) /\ (∀ g off, p = some ⟨g, off, none⟩ -> ∀ i j, i < len -> j < n -> M g (off + i * n + j) = some (cf i j)) /\ (∀ i j, (cf i j).oneCell' = true) /\ ∀ i (h : i < xs.length), (xs[i]).length = n /\ ∀ j (h' : j < (xs[i]).length), Rd M JD jE (cf i j) ((xs[i])[j]) := by
 cases h with
 | nil => exact ⟨_, 0, 0, λ _ _ => .bool true, rfl, rfl, .inl rfl, λ g off e i j hi => absurd hi (Nat.not_lt_zero _), λ _ _ => rfl, λ i h => by cases h⟩
 | @list _ _ g off len cap _ _ _ cf hl hc hn hm h1 hr ht =>
  refine ⟨_, _, _, cf, rfl, hl, .inr ⟨g, off, rfl⟩, λ g' off' e i j hi hj => ?_, h1, λ i hi => ⟨hn i hi, λ j hj => hr i j hi hj⟩⟩
  cases e
  exact hm i j (by omega) hj
theorem zhB : ∀ (l l' : List Nat), l.map mkD = l'.map mkD -> l = l'
 | [], [], _ => rfl
 | [], _ :: _, h => by cases h
 | _ :: _, [], h => by cases h
 | x :: l, y :: l', h => by
  simp only [List.map_cons, List.cons.injEq] at h
  obtain ⟨h1, h2⟩ := h
  have : x = y := by
   have := congrArg Deferred.target h1
   simpa [mkD] using this
  rw [this, zhB l l' h2]
theorem zhJ {An : Nat -> Keep × Keep} {n m' : Nat} {l : List Nat} {vs : List AV} {s : AS} {α : Type} {kn : Nat -> AS -> Option α} {ke : Out -> Option α} {r : Ret} {x : α} (h : zfo An n m' l vs s kn ke r = some x) :
  ∃ W, zbu s l none (zaN s 0 vs ++ jv s 0 l) r = some W /\ ((r.val = .v (.bool true) /\ ∃ s', keep (An n).1 (s.aps W) = some s' /\ kn m' s' = some x) \/ (r.val = .v (.bool false) /\ ∃ s', keep (An n).2 (s.aps W) = some s' /\ ke (.normal, s') = some x)) := by
 unfold zfo at h
 split at h
 ·rename_i W hW
  refine ⟨W, hW, ?_⟩
  split at h
  ·rename_i b hb
   cases b with
   | true =>
    simp only at h
    split at h
    ·rename_i s' hs'; exact .inl ⟨hb, s', hs', h⟩
    ·cases h
   | false =>
    simp only at h
    split at h
    ·rename_i s' hs'; exact .inr ⟨hb, s', hs', h⟩
    ·cases h
  ·cases h
 ·cases h
theorem znR (mask : List Nat) (env : List AV) : (zfh mask env).length = env.length /\ ∀ i (h : i < (zfh mask env).length) (h' : i < env.length), (zfh mask env)[i] = env[i] \/ (zfh mask env)[i] = .any := by
 refine ⟨by simp [zfh], λ i h h' => ?_⟩
 simp only [zfh, List.getElem_mapIdx]
 split
 ·exact .inl rfl
 ·exact .inr rfl
abbrev fBk : Nat := 92
theorem Jo {F : FSpec} {An : Nat -> Keep × Keep} {n fB : Nat} {ks : List Ck} {g p0 p1 : Nat} {mask : List Nat} {α : Type} {m : Nat} {s : AS} {kn : Nat -> AS -> Option α} {ke : Out -> Option α} {x : α} (h : JE F An n fB ks g p0 p1 mask m s kn ke = some x) :
  ∃ bx xs t, s.at g = .fn (.func fB) [] [.ptr bx 0] /\ s.cx bx = some [.list 29 xs t] /\ xs.length <= 1000000 /\
   ((m = 0 /\ ∃ s', keep (An n).2 s = some s' /\ ke (.normal, s') = some x) \/ ∃ m' row bs z y, m = m' + 1 /\ xs[m']? = some row /\ jl s (idx (JA s (ZO mask p0 p1 m' row s))) 0 (JA s (ZO mask p0 p1 m' row s)) = some bs /\ F.pat (jV s (idx (JA s (ZO mask p0 p1 m' row s))) 0 (ZO mask p0 p1 m' row s)) bs = some z /\ F.d z = some y /\ bx ∉ JA s (ZO mask p0 p1 m' row s) /\ zfo An n m' (JA s (ZO mask p0 p1 m' row s)) (ZO mask p0 p1 m' row s) s kn ke (F.ret y) = some x) := by
 unfold JE at h
 split at h
 ·rename_i f bx hat
  split at h
  ·rename_i xs t hcx
   cases hc : Nat.beq f fB with
   | false => rw [hc] at h; cases h
   | true =>
    rw [hc] at h
    simp only [cond_true] at h
    have hf := Nat.eq_of_beq_eq_true hc
    split at h
    ·rename_i hlen
     refine ⟨bx, xs, t, by rw [hat, hf], hcx, hlen, ?_⟩
     ·split at h
      ·left
       split at h
       ·rename_i s' hs'; exact ⟨rfl, s', hs', h⟩
       ·cases h
      ·rename_i m'
       right
       split at h
       ·rename_i row0 hrow0
        split at h
        rotate_left
        ·cases h
        rename_i e0 hdec
        obtain ⟨row, hre⟩ : ∃ row, enc ks e0 = row := ⟨_, rfl⟩
        have hrow : xs[m']? = some row := by rw [<- hre, <- zeW hdec]; exact hrow0
        rw [hre] at h
        split at h
        ·rename_i bs hbs
         split at h
         ·rename_i z hz
          split at h
          ·rename_i y hy
           cases hct : (JA s (ZO mask p0 p1 m' row s)).contains bx with
           | true => rw [hct] at h; cases h
           | false =>
            rw [hct] at h
            exact ⟨m', row, bs, z, y, rfl, hrow, hbs, hz, hy, λ hm => (by rw [List.contains_iff_mem.2 hm] at hct; cases hct), h⟩
          ·cases h
         ·cases h
        ·cases h
       ·cases h
    ·cases h
  ·cases h
 ·cases h
theorem gs2 (t : Array Value) (p0 p1 i : Nat) (u v : Value) (h) (h2 : i < t.size) : ((t.setIfInBounds p0 u).setIfInBounds p1 v)[i]'h = if p1 = i then v else if p0 = i then u else t[i] := by
 rw [Array.getElem_setIfInBounds (by simpa using h2)]
 rw [Array.getElem_setIfInBounds h2]
theorem gl2 (t : List AV) (p0 p1 i : Nat) (u v : AV) (h) (h2 : i < t.length) : ((t.set p0 u).set p1 v)[i]'h = if p1 = i then v else if p0 = i then u else t[i] := by
 rw [List.getElem_set]
 split
 ·rfl
 ·rw [List.getElem_set]
theorem zz2 (t : Array Value) (p0 p1 : Nat) (u v : Value) : ((#[p0, p1] : Array Nat).zip #[u, v]).foldl (λ t (q : Nat × Value) => t.setIfInBounds q.1 q.2) t = (t.setIfInBounds p0 u).setIfInBounds p1 v := by
 simp
set_option maxHeartbeats 1000000 in
theorem zvl (An : Nat -> Keep × Keep) (N0 : Nat) (ls : List (Nat × LSpec)) (n : Nat) (c : Code) {asg body : Code} {ex : Nat} {ks : List Ck} {g p0 p1 : Nat} {mask : List Nat} (hnode : zb n c = .block ex (.rangeFunc (.tmp g) #[p0, p1] asg body)) (hp01 : p0 ≠ p1) (R : REnt Tryz.prog asg body ex) (L : LSpec) (cnt : L.X -> Nat) (hl : ls.lookup n = some L)
  (hp : ∀ s x, s = Zz (An n).1 s -> L.p s = some x -> s = L.st x)
  (he : ∀ s x, L.p s = some x -> ∀ bx xs t, (L.st x).at g = .fn (.func fBk) [] [.ptr bx 0] -> (L.st x).cx bx = some [.list 29 xs t] -> cnt x = xs.length)
  (hmap : ∀ x b, (L.st x).bx b ≠ none -> Z8 b = false) (hmapo : ∀ y b, (L.out y).2.bx b ≠ none -> Z8 b = false)
  (hb : ∀ (x : L.X) (α : Type) (kn : Nat -> AS -> Option α) (ke : Out -> Option α), JE R.F An n fBk ks g p0 p1 mask (cnt x) (L.st x) kn ke = L.b x α (λ x' => kn (cnt x') (L.st x')) (λ y => L.sp y α ke)) (hpar : Par L.b) : zP Tryz.prog An N0 ls n (zb n c) := by
 intro s o hc hv
 change lv N0 ls n s = some o at hv
 unfold lv at hv
 rw [hl] at hv
 simp only at hv
 split at hv
 rotate_left
 ·cases hv
 rename_i x hx
 split at hv
 rotate_left
 ·cases hv
 rename_i y hy
 cases hv
 have hst := hp s x hc hx
 intro B a w Q hS hQ
 rw [hnode]
 rw [hst] at hS
 -- one round
 let G : Nat -> Nat -> AS -> Prop := λ N m s => ∃ x' N', L.st x' = s /\ cnt x' = m /\ N' < N /\ L.L N' x' = some y
 have inv : ∀ N x', L.L N x' = some y -> ∃ kn : Nat -> AS -> Option Out, (∀ m s, kn m s = some (L.out y) -> G N m s) /\ JE R.F An n fBk ks g p0 p1 mask (cnt x') (L.st x') kn some = some (L.out y) := λ N x' hN => by
  cases N with
  | zero => cases hN
  | succ N =>
   refine ⟨λ m s => open Classical in if G (N + 1) m s then some (L.out y) else none, λ m s hk => ?_, ?_⟩
   ·simp only at hk
    split at hk
    ·assumption
    ·cases hk
   ·rw [hb x' Out]
    have hN' : L.b x' L.Y (L.L N) some = some y := hN
    refine hpar x' L.Y Out _ _ _ _ y (L.out y) hN' (λ x'' hx'' => ?_) (λ y' hy' => by cases hy'; exact L.spe y Out some)
    exact if_pos ⟨x'', N, rfl, rfl, Nat.lt_succ_self _, hx''⟩
 obtain ⟨M, ρ, σ, hs⟩ := hS
 obtain ⟨kn0, -, hr0⟩ := inv N0 x hy
 obtain ⟨bx, xs, t, hat, hcx, hlen, -⟩ := Jo hr0
 have hcnt := he s x hx bx xs t hat hcx
 -- the iterator's variable
 have hvg := hs.env g
 rw [hat] at hvg
 obtain ⟨hbx, hbm⟩ := AS.cx_some hcx
 obtain ⟨gb, hgv, hgρ⟩ : ∃ gb, a.tmps.getD g undef = .func (.func fBk) #[] #[.pointer (some ⟨gb, 0, none⟩)] /\ ρ bx = some gb := by
  generalize a.tmps.getD g undef = v at hvg
  cases hvg with
  | @fn _ _ _ fs cs _ _ l1 r1 l2 r2 =>
   have e1 : fs = #[] := Array.eq_empty_of_size_eq_zero l1
   obtain ⟨c0, hc0⟩ : ∃ c0, cs = #[c0] := by
    have h1 : cs.size = 1 := l2
    exact ⟨cs[0], by
     apply Array.ext
     ·simpa using h1
     ·intro i h1 h2
      have : i = 0 := by simpa using h2
      subst this; rfl⟩
   subst e1 hc0
   have hr := r2 0 (by simp) (by simp)
   have hr' : Rd M ρ σ c0 (.ptr bx 0) := hr
   cases hr' with
   | @ptr _ _ _ _ gb hg => exact ⟨gb, rfl, hg⟩
 obtain ⟨ccs, ty, r1, r2, r3, r4⟩ : ∃ (ccs : Array Value) (ty : TypeId), At w gb ccs ty /\ 1 <= ccs.size /\ (∀ i (h : i < ccs.size), i < 1 -> (ccs[i]).oneCell' = true) /\ ∀ i (h : i < ccs.size) (h' : i < [AV.list 29 xs t].length), Rd M ρ σ ccs[i] [AV.list 29 xs t][i] := by
  rcases hs.box bx _ hbx with ⟨e, -⟩ | ⟨g', q1, q2, -⟩
  ·cases e
  ·rw [hgρ] at q1; cases q1
   exact q2.cells hbm
 obtain ⟨p, len, cap, cf, hval, hxl, hpp, hcell, hone, hrow⟩ := zi2 (r4 0 (by omega) (by simp))
 have hBs : w.cell? ⟨gb, 0, none⟩ = some (.slice p len cap) := by
  rw [zY r1, Array.getElem?_eq_getElem (by omega), hval]
 have hLc : ∀ g off, p = some ⟨g, off, none⟩ -> ∀ i j, i < len -> j < 29 -> w.cell? ⟨g, off + i * 29 + j, none⟩ = some (cf i j) := λ g off e i j hi hj => hs.mem _ _ _ (hcell g off e i j hi hj)
 obtain ⟨l0, ml1, ml2, ml3⟩ := hs.defers
 have ml4 : ∀ D ∈ l0, D < w.heap.size := λ D hD => Z0 (ml3 D hD).2
 have marks : ∀ W W' row, Marks B.w0.heap.size a.defers W -> W.grownBy W' row -> (∀ r, row = some r -> w.heap.size <= r /\ ∃ o : Obj, W.heap[r]? = some o /\ o.isCells = false) -> Marks B.w0.heap.size a.defers W' := λ W W' row hm hg hr => by
  obtain ⟨l1, e1, e2, e3⟩ := hm
  have : l1 = l0 := zhB _ _ (e1.symm.trans ml1)
  subst this
  refine ⟨l1, e1, e2, λ D hD => ⟨(e3 D hD).1, (hg.block D (Z0 (e3 D hD).2) (λ e => ?_)).trans (e3 D hD).2⟩⟩
  have := (hr D e.symm).1
  have := ml4 D hD
  omega
 have turn : ∀ (s' : AS) (W W' : World) (row : Option Nat), (∀ b, s'.bx b ≠ none -> Z8 b = false) -> Sim B s' a W -> W.grownBy W' row -> (∀ r, row = some r -> w.heap.size <= r /\ ∃ o : Obj, W.heap[r]? = some o /\ o.isCells = false) -> Sim B s' a W' := λ s' W W' row hm ⟨M1, ρ1, σ1, h1⟩ hg hr => by
  refine ⟨M1, ρ1, σ1, h1.turn (row := row) ⟨hg.os, hg.tape, hg.output, hg.size, hg.block, λ r e => ?_⟩ (marks W W' row h1.defers hg hr)⟩
  obtain ⟨q1, o, q2, q3⟩ := hr r e
  refine ⟨Nat.le_trans hs.size q1, λ m hrow => ?_, λ o' => ?_, .inr hm⟩
  ·obtain ⟨ccs, t, ⟨z, h2, -⟩, -⟩ := hrow
   rw [q2] at h2; cases h2; cases q3
  ·cases hc : W.cell? ⟨r, o', none⟩ with
   | none => rfl
   | some v =>
    obtain ⟨ob, h2, h3⟩ := cells_of_cell hc
    rw [show W.heap[r]? = some o from q2] at h2
    cases h2; rw [q3] at h3; cases h3
 have cellk : ∀ (W W' : World) (row : Option Nat) (gg oo : Nat) (v : Value), W.cell? ⟨gg, oo, none⟩ = some v -> W.grownBy W' row -> (∀ r, row = some r -> w.heap.size <= r /\ ∃ o : Obj, W.heap[r]? = some o /\ o.isCells = false) -> W'.cell? ⟨gg, oo, none⟩ = some v := λ W W' row gg oo v hc hg hr => cell_kept hc hg (λ r e => (hr r e).2)
 refine zzY (p := p) (len := len) (cap := cap) (cf := cf) (gb := gb) hgv rfl (by omega) hpp hBs hLc
  (λ k W => (∃ N x', Sim B (L.st x') a W /\ cnt x' + k = len /\ L.L N x' = some y) /\ W.cell? ⟨gb, 0, none⟩ = some (.slice p len cap) /\ ∀ g off, p = some ⟨g, off, none⟩ -> ∀ i j, i < len -> j < 29 -> W.cell? ⟨g, off + i * 29 + j, none⟩ = some (cf i j))
  (λ W => Sim B (L.out y).2 a W /\ (L.out y).1 = .normal)
  (λ k W W' row ⟨⟨N, x', h1, h2, h3⟩, h4, h5⟩ hg hr => ⟨⟨N, x', turn _ W W' row (hmap x') h1 hg hr, h2, h3⟩, cellk _ _ _ _ _ _ h4 hg hr, λ g off e i j hi hj => cellk _ _ _ _ _ _ (h5 g off e i j hi hj) hg hr⟩)
  (λ W W' row ⟨h1, h2⟩ hg hr => ⟨turn _ W W' row (hmapo y) h1 hg hr, h2⟩)
  ⟨⟨N0, x, ⟨M, ρ, σ, hs⟩, by omega, hy⟩, hBs, hLc⟩ ?_ ?_
 ·-- a round
  rintro k W l R0 ⟨⟨N, x', ⟨M1, ρ1, σ1, hs1⟩, hck, hN⟩, hgb, hcl⟩ hk hl hlR hready hdef
  obtain ⟨kn, hkn, hr1⟩ := inv N x' hN
  obtain ⟨bx1, xs1, t1, hat1, hcx1, hlen1, hm1⟩ := Jo hr1
  rcases hm1 with ⟨e0, -⟩ | ⟨m', row, bs, z, y2, em, hrw, hbs, hpat, hd, hnb, hgo⟩
  ·omega
  obtain ⟨hbx1, hbm1⟩ := AS.cx_some hcx1
  have hvg1 := hs1.env g
  rw [hat1, hgv] at hvg1
  have hgρ1 : ρ1 bx1 = some gb := by
   cases hvg1 with
   | fn l1 r1 l2 r2 =>
    have hr := r2 0 (by simp) (by simp)
    have hr' : Rd M1 ρ1 σ1 (.pointer (some ⟨gb, 0, none⟩)) (.ptr bx1 0) := hr
    cases hr' with
    | ptr hg => exact hg
  obtain ⟨ccs1, ty1, r11, r12, r13, r14⟩ : ∃ (ccs : Array Value) (ty : TypeId), At W gb ccs ty /\ 1 <= ccs.size /\ (∀ i (h : i < ccs.size), i < 1 -> (ccs[i]).oneCell' = true) /\ ∀ i (h : i < ccs.size) (h' : i < [AV.list 29 xs1 t1].length), Rd M1 ρ1 σ1 ccs[i] [AV.list 29 xs1 t1][i] := by
   rcases hs1.box bx1 _ hbx1 with ⟨e, -⟩ | ⟨g', q1, q2, -⟩
   ·cases e
   ·rw [hgρ1] at q1; cases q1
    exact q2.cells hbm1
  obtain ⟨p1', zfe, cap1, cf1, hval1, hxl1, hpp1, hcell1, hone1, hrow1⟩ := zi2 (r14 0 (by omega) (by simp))
  have ev : Value.slice p len cap = .slice p1' zfe cap1 := by
   have : W.cell? ⟨gb, 0, none⟩ = some (.slice p1' zfe cap1) := by
    rw [zY r11, Array.getElem?_eq_getElem (by omega)]; exact congrArg some hval1
   rw [hgb] at this; cases this; rfl
  obtain ⟨ep, el, -⟩ : p = p1' /\ len = zfe /\ cap = cap1 := by injection ev with a b c; exact ⟨a, b, c⟩
  subst ep el
  have hmlt : m' < len := by omega
  have hmx : m' < xs1.length := by omega
  have hcfe : ∀ j, j < 29 -> cf1 m' j = cf m' j := λ j hj => by
   rcases hpp1 with h0 | ⟨g2, off2, e2⟩
   ·omega
   ·have h1 := hs1.mem _ _ _ (hcell1 g2 off2 e2 m' j hmlt hj)
    have h2 := hcl g2 off2 e2 m' j hmlt hj
    rw [h1] at h2; exact Option.some.inj h2
  obtain ⟨hrl, hrr⟩ := hrow1 m' hmx
  have hre : xs1[m'] = row := by rw [List.getElem?_eq_getElem hmx] at hrw; cases hrw; rfl
  rw [hre] at hrl hrr
  have em' : len - 1 - k = m' := by omega
  rw [em']
  obtain ⟨Wr, hWr, hcase⟩ := zhJ hgo
  obtain ⟨ha, hbp⟩ := R.hp _ _ _ hpat
  have hRO := R.ok z y2 hd
  obtain ⟨vs, hvs⟩ : ∃ vs, ZO mask p0 p1 m' row (L.st x') = vs := ⟨_, rfl⟩
  rw [hvs] at hbs hpat hnb hWr ha
  obtain ⟨bl, hbl⟩ : ∃ bl, JA (L.st x') vs = bl := ⟨_, rfl⟩
  rw [hbl] at hbs hpat hnb hWr ha
  obtain ⟨cargs, hca⟩ : ∃ cargs, ((#[p0, p1] : Array Nat).zip (zvK cf m')).foldl (λ t (q : Nat × Value) => t.setIfInBounds q.1 q.2) a.tmps = cargs := ⟨_, rfl⟩
  have hca2 : cargs = (a.tmps.setIfInBounds p0 (.int .i64 (m' : Int))).setIfInBounds p1 (.agg (zkv cf m').toArray) := by
   rw [<- hca]; exact zz2 _ _ _ _ _
  have hvl : cargs.size = vs.length := by
   rw [hca2, <- hvs]
   simp [ZO, zfh, hs1.len]
  have hall : ∀ i (h1 : i < cargs.size) (h2 : i < vs.length), Rd M1 ρ1 σ1 cargs[i] vs[i] := λ i h1 h2 => by
   have hi1 : i < a.tmps.size := by rw [hca2] at h1; simpa using h1
   have hi2 : i < (L.st x').env.length := by rw [<- hs1.len]; exact hi1
   obtain ⟨mk1, mk2⟩ := znR mask (L.st x').env
   have ec : cargs[i] = if p1 = i then .agg (zkv cf m').toArray else if p0 = i then .int .i64 (m' : Int) else a.tmps[i] := by
    subst hca2
    exact gs2 _ _ _ _ _ _ _ hi1
   have evs : vs[i] = if p1 = i then .agg row else if p0 = i then .v (.int .i64 (m' : Int)) else (zfh mask (L.st x').env)[i]'(by omega) := by
    subst hvs
    exact gl2 _ _ _ _ _ _ _ (by omega)
   rw [ec, evs]
   by_cases q1 : p1 = i
   ·rw [if_pos q1, if_pos q1]
    refine .agg (by simp [zkv, hrl]) (λ j hj => ?_) (λ j hj hj' => ?_)
    ·have hj2 : j < 29 := by simpa [zkv] using hj
     simp only [zkv, List.getElem_toArray, List.getElem_map, List.getElem_range]
     rw [<- hcfe j hj2]; exact hone1 m' j
    ·have hj2 : j < 29 := by simpa [zkv] using hj
     have := hrr j (by omega)
     simp only [zkv, List.getElem_toArray, List.getElem_map, List.getElem_range]
     rw [<- hcfe j hj2]; exact this.of0
   ·rw [if_neg q1, if_neg q1]
    by_cases q0 : p0 = i
    ·rw [if_pos q0, if_pos q0]; exact .v
    ·rw [if_neg q0, if_neg q0]
     have he := hs1.env i
     have e1 : a.tmps.getD i undef = a.tmps[i] := by simp [Array.getD, hi1]
     have e2 : (L.st x').at i = (L.st x').env[i] := by unfold AS.at; rw [List.getElem?_eq_getElem hi2]; rfl
     rw [e1, e2] at he
     rcases mk2 i (by omega) hi2 with q | q
     ·rw [q]; exact he
     ·rw [q]; exact .any
  obtain ⟨σ0, ⟨C1, C2, C⟩, hT, fin⟩ := zcx (o := { dst := none, op := .move (.tmp 0), type := 0, pos := "", after := #[], guard := none }) (Z := λ M w cargs gs σ => (∀ t sp, σ t = some sp -> Row w sp.g sp.hi) /\ (∀ (k g : Nat), gs[k]? = some (some g) -> ∃ ccs t, At w g ccs t) /\ ∀ (l : Nat) (R0 : Loop), w.heap[l]? = some (.loop R0) -> R0.state = .ready -> asg.wpIn (Fr l) 2 Tryz.prog (Exit.then (λ a1 w1 => ∃ w2, (Instr.beginRound l).run Tryz.prog w1 = .ok () w2 /\ body.wpIn (Fr l) 2 Tryz.prog (λ e a3 W3 => W3.heap[l]? = some (.loop { R0 with state := .busy }) /\ (∃ c M' σ' gn, Left M w gs σ (R.F.ret y2) c M' (W3.putObj l (.loop R0)) σ' gn) /\ ((e = .normal /\ (R.F.ret y2).val = .v (.bool true)) \/ (e = .exit ex /\ (R.F.ret y2).val = .v (.bool false)))) a1 w2) (λ _ _ _ => False)) { tmps := cargs, defers := [] } w) hs1 hvl hall hbl hbs hWr (λ M w cargs gs σ h1 h2 h3 h4 h5 h6 h7 h8 h9 h10 => by
   refine ⟨h10.cap, λ k g hk => ?_, λ l R0 q1 q2 => hRO M w cargs gs σ h1 h2 h3 h4 (by rw [h5, hbp]) (by rw [h6, ha]) (λ i a b => ?_) (λ k a b => ?_) (λ k hk a b => ?_) h10 l R0 q1 q2⟩
   ·obtain ⟨hk1, hk2⟩ := List.getElem?_eq_some_iff.1 hk
    rcases h8 k hk1 (by omega) with ⟨-, e⟩ | ⟨g', e, ⟨ccs, t, q, -⟩, -⟩
    ·rw [hk2] at e; cases e
    ·rw [hk2] at e; cases e; exact ⟨ccs, t, q⟩
   ·have := h7 i a (by rw [ha]; exact b)
    simp only [ha] at this
    exact this
   ·have := h8 k a (by rw [hbp]; exact b)
    simp only [hbp] at this
    exact this
   ·have := h9 k hk a (by rw [hbp]; exact b)
    simp only [hbp] at this
    exact this)
  -- what is no cells stays
  have keepO : ∀ (D : Nat) (ob : Obj), W.heap[D]? = some ob -> ob.isCells = false -> ∀ {c : Value} {M' : Mem} {W4 : World} {σ' : Sig} {gn : List (Option Nat)}, Left M1 W (bl.map ρ1) σ0 (R.F.ret y2) c M' W4 σ' gn -> W4.heap[D]? = some ob := λ D ob hD hob c M' W4 σ' gn left => by
   refine (left.frm.block D (Z0 hD) (λ hm => ?_) (λ hm => ?_)).trans hD
   ·obtain ⟨k, hk, e⟩ := List.getElem_of_mem hm
    obtain ⟨ccs, t, ⟨z, q, -⟩⟩ := C2 k D (List.getElem?_eq_some_iff.2 ⟨hk, e⟩)
    rw [hD] at q; cases q; cases hob
   ·obtain ⟨t', sp, -, q2, q3⟩ := hT D hm
    obtain ⟨ccs, t, ⟨z, q, -⟩, -⟩ := hs1.cap t' sp q2
    rw [q3, hD] at q; cases q; cases hob
  show asg.wpIn (Fr l) 2 Tryz.prog _ { tmps := ((#[p0, p1] : Array Nat).zip (zvK cf m')).foldl (λ t (q : Nat × Value) => t.setIfInBounds q.1 q.2) a.tmps, defers := [] } W
  rw [hca]
  refine wpIn_mono (C l R0 hlR hready) ?_
  rintro e a1 w1 h1
  cases e with
  | normal =>
   obtain ⟨w2, h2, h3⟩ := h1
   refine ⟨w2, h2, wpIn_mono h3 ?_⟩
   rintro e a3 W3 ⟨b1, ⟨c, M', σ', gn, left⟩, b3⟩
   have hne : w.heap.size ≠ l := λ e => by rw [e, hlR] at hdef; cases hdef
   refine ⟨b1, ?_, ?_⟩
   ·have := keepO _ _ hdef rfl left
    rwa [World.putObj_heap_other hne] at this
   ·have hS4 : Sim B ((L.st x').aps Wr) a (W3.putObj l (.loop R0)) := fin c M' _ σ' gn left
    have hKp : KpS (SBk gb p len) W (W3.putObj l (.loop R0)) := by
     rintro gg oo v (⟨rfl, rfl⟩ | ⟨off, e2, i, j, hi, hj, rfl⟩) hcv
     ·refine (zR (left.frm.block gg (zaP hcv) (λ hm => ?_) (λ hm => ?_)) 0).trans hcv
      ·obtain ⟨b', hb1, hb2⟩ := List.mem_map.1 hm
       have hb3 : (L.st x').bx b' ≠ none := by
        obtain ⟨q1, q2⟩ := JU (L.st x') _ _ _ _ hbs
        obtain ⟨k', hk', e'⟩ := List.getElem_of_mem hb1
        obtain ⟨cs, c1, -⟩ := q2 k' hk' (by omega)
        rw [<- e', c1]; simp
       have := hs1.inj b' bx1 gg hb3 (by rw [hbx1]; simp) hb2 hgρ1
       exact hnb (this ▸ hb1)
      ·obtain ⟨t', sp, q1, q2, q3⟩ := hT gg hm
       exact (hs1.tok t' sp q1 q2).2.2.2 bx1 (by rw [hbx1]; simp) (by rw [q3]; exact hgρ1)
     ·have hM := hcell1 gg off e2 i j hi hj
      have hv1 := hs1.mem _ _ _ hM
      rw [hcv] at hv1
      cases hv1
      exact left.mem _ _ _ (left.sub _ _ _ hM)
    rcases b3 with ⟨rfl, hv⟩ | ⟨rfl, hv⟩
    ·refine .inl ⟨rfl, ⟨?_, hKp _ _ _ (.inl ⟨rfl, rfl⟩) hgb, λ g off e i j hi hj => hKp _ _ _ (.inr ⟨off, e, i, j, hi, hj, rfl⟩) (hcl g off e i j hi hj)⟩, hKp⟩
     rcases hcase with ⟨-, s', hs', hk'⟩ | ⟨hv', -⟩
     ·obtain ⟨x'', N', e1, e2, -, e3⟩ := hkn _ _ hk'
      exact ⟨N', x'', by rw [e1]; exact jq hS4 hs', by omega, e3⟩
     ·rw [hv] at hv'; cases hv'
    ·refine .inr ⟨rfl, ?_⟩
     rcases hcase with ⟨hv', -⟩ | ⟨-, s', hs', hk'⟩
     ·rw [hv] at hv'; cases hv'
     ·have e := Option.some.inj hk'
      rw [<- e]
      exact ⟨jq hS4 hs', rfl⟩
  | _ => exact h1.elim
 ·-- the end
  intro W hdef hJ
  have hend : Sim B (L.out y).2 a W /\ (L.out y).1 = .normal := by
   rcases hJ with ⟨⟨N, x', hS1, hck, hN⟩, -⟩ | h
   ·obtain ⟨kn, hkn, hr1⟩ := inv N x' hN
    obtain ⟨bx1, xs1, t1, hat1, hcx1, hlen1, hm1⟩ := Jo hr1
    rcases hm1 with ⟨e0, s', hs', hk'⟩ | ⟨m', row, bs, z, y2, em, -⟩
    ·have e := Option.some.inj hk'
     rw [<- e]
     exact ⟨jq hS1 hs', rfl⟩
    ·omega
   ·exact h
  obtain ⟨⟨M1, ρ1, σ1, hs1⟩, hno⟩ := hend
  rw [<- hno]
  refine hQ _ _ ⟨M1, ρ1, σ1, hs1.turn (row := none) ⟨rfl, rfl, rfl, Nat.le_refl _, λ _ _ _ => rfl, λ r e => by cases e⟩ ?_⟩
  obtain ⟨l1, e1, e2, e3⟩ := hs1.defers
  have : l1 = l0 := zhB _ _ (e1.symm.trans ml1)
  subst this
  refine ⟨w.heap.size :: l1, by rw [e1]; rfl, List.nodup_cons.2 ⟨λ hm => ?_, e2⟩, λ D hD => ?_⟩
  ·have := ml4 _ hm; omega
  ·rcases List.mem_cons.1 hD with e | e
   ·subst e; exact ⟨hs.size, hdef⟩
   ·exact e3 D e
noncomputable def zz5 {P : Program} {T : Tab} {Γ : GamK} (hT : TabOk P T) (hG : GOk P Γ.v) (hm : P.follows .mixedOrders = true) (An : Nat -> Keep × Keep) (Λ : LoopK) (asg body : Code) (n1 n2 ex : Nat) (hr : (zaj asg && zaj body) = true) (hL : ((zK asg n1).all (λ p => !(zfx An p)) && (zK body n2).all (λ p => !(zfx An p))) = true) (F : FSpec) (hru : ∀ y, (F.ret y).use = F.S.use /\ (F.ret y).sl = F.S.sl)
  (hb : ∀ x, ziu T Γ An Λ asg body n1 n2 ex F.S (F.args x) (F.bs x) = F.t x Ret (λ y => some (F.ret y))) (hp : ∀ a b x, F.pat a b = some x -> a = F.args x /\ b = F.bs x) (hpar : zCp F.t) : REnt P asg body ex where
 F := F
 ok := λ x y h => by
  obtain ⟨r1, r2⟩ := Bool.and_eq_true_iff.1 hr
  obtain ⟨l1, l2⟩ := Bool.and_eq_true_iff.1 hL
  refine zm2 hT hG hm An Λ (n1 := n1) (n2 := n2) r1 r2 (λ p hp => ?_) (λ p hp => ?_) (hru y) (by rw [hb]; exact hpar x F.Y Ret _ _ y (F.ret y) h (λ y' hy' => by cases hy'; rfl))
  ·simpa using List.all_eq_true.1 l1 p hp
  ·simpa using List.all_eq_true.1 l2 p hp
 hp := hp
theorem zz4 {X : Type} {nt nin : Nat} {l : List (Nat × Pt)} {q : List (Nat × Pb)} {s : AS} {f : PsT l -> QsT q -> X} {x : X} (h : rdS nt nin l q s f = some x) : ∃ a b, x = f a b := by
 unfold rdS at h
 cases e1 : Nat.beq s.env.length nt with
 | false => rw [e1] at h; cases h
 | true =>
  cases e2 : Nat.beq s.nin nin with
  | false => rw [e1, e2] at h; cases h
  | true =>
   rw [e1, e2] at h
   simp only [cond_true] at h
   split at h
   ·split at h
    ·cases h; exact ⟨_, _, rfl⟩
    ·cases h
   ·cases h
def zzV : Code -> Code
 | .block _ (.rangeFunc _ _ a _) => a
 | _ => .skip
def zvj : Code -> Code
 | .block _ (.rangeFunc _ _ _ b) => b
 | _ => .skip
theorem znT {len nin : Nat} {l : List (Nat × AV)} {bx : List (Nat × List AV)} {tk : List (Nat × Bool)} {b : Nat} (h : bx.all (λ p => !(Z8 p.1)) = true) (hb : (mkS len l bx tk nin).bx b ≠ none) : Z8 b = false := by
 have key : ∀ (q : List (Nat × List AV)), q.all (λ p => !(Z8 p.1)) = true -> (q.map λ p => (p.1, some p.2)).lookup b ≠ none -> Z8 b = false := by
  intro q
  induction q with
  | nil => intro _ h2; exact absurd rfl h2
  | cons p r ih =>
   intro h1 h2
   rw [List.all_cons, Bool.and_eq_true] at h1
   rw [List.map_cons, List.lookup_cons] at h2
   cases e : (b == p.1) with
   | true =>
    have : b = p.1 := by simpa using e
    rw [this]; simpa using h1.1
   | false => rw [e] at h2; exact ih h1.2 h2
 refine key bx h (λ e => hb ?_)
 unfold AS.bx mkS
 rw [e]
theorem zvm (An : Nat -> Keep × Keep) (N0 : Nat) (ls : List (Nat × LSpec)) (n : Nat) (c : Code) {asg body : Code} {ex : Nat} {ks : List Ck} {g p0 p1 : Nat} {mask : List Nat} (hnode : zb n c = .block ex (.rangeFunc (.tmp g) #[p0, p1] asg body)) (hp01 : p0 ≠ p1) (R : REnt Tryz.prog asg body ex) (L : LSpec) (cnt : L.X -> Nat) (hl : ls.lookup n = some L)
  (hp : ∀ s x, s = Zz (An n).1 s -> L.p s = some x -> s = L.st x) (BX : Nat) (XS : L.X -> List (List AV)) (h1 : ∀ x, (L.st x).at g = .fn (.func fBk) [] [.ptr BX 0]) (h2 : ∀ x, (L.st x).cx BX = some [.list 29 (XS x) none]) (h3 : ∀ s x, L.p s = some x -> cnt x = (XS x).length)
  (hmap : ∀ x b, (L.st x).bx b ≠ none -> Z8 b = false) (hmapo : ∀ y b, (L.out y).2.bx b ≠ none -> Z8 b = false)
  (hb : ∀ (x : L.X) (α : Type) (kn : Nat -> AS -> Option α) (ke : Out -> Option α), JE R.F An n fBk ks g p0 p1 mask (cnt x) (L.st x) kn ke = L.b x α (λ x' => kn (cnt x') (L.st x')) (λ y => L.sp y α ke)) (hpar : Par L.b) : zP Tryz.prog An N0 ls n (zb n c) :=
 zvl An N0 ls n c hnode hp01 R L cnt hl hp (λ s x h bx xs t e1 e2 => by
  rw [h1 x] at e1
  cases e1
  rw [h2 x] at e2
  cases e2
  exact h3 s x h) hmap hmapo hb hpar
end
section
noncomputable section
abbrev qL : Type := List (List AV)
abbrev qA : Type := List AV
@[reducible] def qI (x : Int) : AV := .v (.int .i64 x)
def qK (a : List Nat) (b : List (Nat × Nat)) (c : List Nat) : Keep := ⟨a, b, c, [], [], [], [], [], false, none, []⟩
abbrev qP : Program := Tryz.prog
@[reducible] def qR (a : AV) : Ret := ⟨a, [], none, [], [], [], none⟩
open Go.RowKit
set_option maxRecDepth 4000
set_option maxHeartbeats 4000000
def zhV : Nat -> Keep × Keep := anL [(4, qK [0, 5, 6] [] [], qK [0, 2] [] [])]
def zv0 (N : Nat) : List (Ent qP) := []
def jf (N : Nat) : LSpec where
 X := ByteArray × Int × Int
 Y := (ByteArray × Bool) ⊕ (ByteArray)
 dt := .mk 28 0 (zhV 4).1.toks [(0, .str), (5, .int .i64), (6, .int .i64)] [] rfl
 od := .mk 28 0 (zhV 4).2.toks [⟨.ret, [(0, .str), (2, .bool)], [], none⟩, ⟨.exit 0, [(0, .str)], [], none⟩] rfl
 b := λ u4 α kn ke => (match (decide (u4.2.2 < u4.2.1)) with | true => (if 0 <= u4.2.2 then (match u4.1[u4.2.2.toNat]? with | some c1 => (match (decide ((c1.toNat : Int) < 97)) with | true => (ke (.inl (u4.1, false))) | false => (if 0 <= u4.2.2 then (match u4.1[u4.2.2.toNat]? with | some c2 => (match (decide ((c2.toNat : Int) > 122)) with | true => (ke (.inl (u4.1, false))) | false => (kn (u4.1, u4.2.1, (i64 (u4.2.2 + 1))))) | none => none) else none)) | none => none) else none) | false => (ke (.inr u4.1)))
abbrev zkA (N : Nat) (x : ByteArray × Int × Int) : Option ((ByteArray × Bool) ⊕ (ByteArray)) := (jf N).L N x
def zkC (N : Nat) : FSpec where
 X := ByteArray
 Y := Bool
 ad := .mk [.str] [] rfl
 ret := λ y => qR (AV.v (.bool y))
 t := λ x α k => (match zkA N (x, (x.size : Int), 0) with | some y3 => (match y3 with | .inl z4 => (k z4.2) | .inr z5 => (match (decide ((z5.size : Int) >= 1)) with | true => (k (decide ((z5.size : Int) <= 16))) | false => (k false))) | none => none)
abbrev zsr (N : Nat) (x : ByteArray) : Option (Bool) := (zkC N).d x
def zqF (N : Nat) : List (Nat × LSpec) := [(4, jf N)]
def zvY : Code := Tryz.f81.body.getD .skip
theorem zkB (N : Nat) : zP qP zhV N (zqF N) 4 (zb 4 zvY) :=
 zy (zc qP) zf (zv0 N) (l := []) an (jf N)
def zvZ (N : Nat) : Ent qP := zG (zc qP) zf (zv0 N) 81 Tryz.f81 Tryz.func81 zhV N (zqF N) (l := [(4, zb 4 zvY)]) (al (zkB N) an) (zkC N)
def zhW : Nat -> Keep × Keep := anL [(4, qK [0, 3] [] [], qK [0, 2] [] [])]
def zv3 (N : Nat) : List (Ent qP) := []
def jg (N : Nat) : LSpec where
 X := ByteArray × Int
 Y := (ByteArray × Bool) ⊕ (ByteArray)
 dt := .mk 28 0 (zhW 4).1.toks [(0, .str), (3, .int .i64)] [] rfl
 od := .mk 28 0 (zhW 4).2.toks [⟨.ret, [(0, .str), (2, .bool)], [], none⟩, ⟨.exit 0, [(0, .str)], [], none⟩] rfl
 b := λ u4 α kn ke => (match (decide (u4.2 < (u4.1.size : Int))) with | true => (if 0 <= u4.2 then (match u4.1[u4.2.toNat]? with | some c1 => (match (decide ((c1.toNat : Int) < 97)) with | true => (ke (.inl (u4.1, false))) | false => (if 0 <= u4.2 then (match u4.1[u4.2.toNat]? with | some c2 => (match (decide ((c2.toNat : Int) > 122)) with | true => (ke (.inl (u4.1, false))) | false => (kn (u4.1, (i64 (u4.2 + 1))))) | none => none) else none)) | none => none) else none) | false => (ke (.inr u4.1)))
abbrev zkD (N : Nat) (x : ByteArray × Int) : Option ((ByteArray × Bool) ⊕ (ByteArray)) := (jg N).L N x
def zkF (N : Nat) : FSpec where
 X := ByteArray
 Y := Bool
 ad := .mk [.str] [] rfl
 ret := λ y => qR (AV.v (.bool y))
 t := λ x α k => (match zkD N (x, 0) with | some y3 => (match y3 with | .inl z4 => (k z4.2) | .inr z5 => (match (decide ((z5.size : Int) >= 1)) with | true => (k (decide ((z5.size : Int) <= 16))) | false => (k false))) | none => none)
abbrev zss (N : Nat) (x : ByteArray) : Option (Bool) := (zkF N).d x
def zqG (N : Nat) : List (Nat × LSpec) := [(4, jg N)]
def zv1 : Code := Tryz.f84.body.getD .skip
theorem zkE (N : Nat) : zP qP zhW N (zqG N) 4 (zb 4 zv1) :=
 zy (zc qP) zf (zv3 N) (l := []) an (jg N)
def zv2 (N : Nat) : Ent qP := zG (zc qP) zf (zv3 N) 84 Tryz.f84 Tryz.func84 zhW N (zqG N) (l := [(4, zb 4 zv1)]) (al (zkE N) an) (zkF N)
abbrev QK0 : List Ck := [.int .i64, .int .i64, .str, .int .i64, .str, .str, .str, .str, .int .i64, .int .i64, .int .i64, .int .i64, .int .i64, .sl 9, .int .i64, .int .i64, .int .i64, .int .i64, .int .i64, .int .i64, .int .i64, .int .i64, .int .i64, .int .i64, .int .i64, .int .i64, .int .i64, .int .i64, .int .i64]
abbrev QT0 : Type := Int × Int × ByteArray × Int × ByteArray × ByteArray × ByteArray × ByteArray × Int × Int × Int × Int × Int × qL × Int × Int × Int × Int × Int × Int × Int × Int × Int × Int × Int × Int × Int × Int × Int × Unit
def zDk (c : List AV) : Option QT0 := dec QK0 c
abbrev QK1 : List Ck := [.str, .str, .str, .str, .int .i64, .int .i64, .int .i64, .int .i64, .int .i64, .sl 9, .int .i64, .int .i64, .int .i64, .int .i64, .int .i64, .int .i64, .int .i64, .int .i64, .int .i64, .int .i64, .int .i64, .int .i64, .int .i64, .int .i64, .int .i64]
abbrev QT1 : Type := ByteArray × ByteArray × ByteArray × ByteArray × Int × Int × Int × Int × Int × qL × Int × Int × Int × Int × Int × Int × Int × Int × Int × Int × Int × Int × Int × Int × Int × Unit
def zDl (c : List AV) : Option QT1 := dec QK1 c
def zAM : Nat -> Keep × Keep := anL []
def B7_g (N : Nat) : List (Ent qP) := []
def zAN (N : Nat) : FSpec where
 X := QT1
 Y := Bool
 ad := .mk [.agg QK1] [] rfl
 ret := λ y => qR (AV.v (.bool y))
 t := λ x α k => (match (decide ((x.2.2.2.2.2.2.2.2.2.1.length : Int) <= 20)) with | true => (match (decide (x.2.2.2.2.2.2.2.2.2.2.2.2.2.1 > (-1152921504606846976))) with | true => (k (decide (x.2.2.2.2.2.2.2.2.2.2.2.2.2.1 < 1152921504606846976))) | false => (k false)) | false => (k false))
abbrev zvX (N : Nat) (x : QT1) : Option (Bool) := (zAN N).d x
def zDd (N : Nat) : Ent qP := zG (zc qP) zf (B7_g N) 7 Tryz.f7 Tryz.func7 zAM N [] (l := []) an (zAN N)
@[reducible] def zit (e : QT0) : QT1 := (e.2.2.2.2)
def zgK : Nat -> Keep × Keep := anL [(4, qK [1, 8, 9] [] [1], qK [1, 2] [] [1]), (17, ⟨[1, 8, 9, 26, 27], [], [1], [(25, 29)], [], [], [], [], false, none, []⟩, qK [1, 2, 8, 9] [] [1])]
def zAL (N : Nat) : List (Ent qP) := [zDd N]
def jZ (N : Nat) : LSpec where
 X := qL × Int × Int × Int × Int × qL
 Y := (Bool × Int × Int × qL) ⊕ (Int × Int × qL)
 dt := .mk 41 0 (zgK 17).1.toks [(25, .lst 29), (1, .ptr 1 0), (8, .int .i64), (9, .int .i64), (26, .int .i64), (27, .int .i64)] [(1, .cells [.lst 1])] rfl
 od := .mk 41 0 (zgK 17).2.toks [⟨.ret, [(1, .ptr 1 0), (2, .bool), (8, .int .i64), (9, .int .i64)], [(1, .cells [.lst 1])], none⟩, ⟨.exit 2, [(1, .ptr 1 0), (8, .int .i64), (9, .int .i64)], [(1, .cells [.lst 1])], none⟩] rfl
 b := λ u17 α kn ke => (match (decide (u17.2.2.2.2.1 < u17.2.2.2.1)) with | true => (if 0 <= u17.2.2.2.2.1 then (match u17.1[u17.2.2.2.2.1.toNat]? with | some c10 => (match zDk c10 with | some e11 => (match zvX N (zit e11) with | some y12 => (match (!y12) with | true => (ke (.inl (false, u17.2.1, u17.2.2.1, u17.2.2.2.2.2))) | false => (kn (u17.1, u17.2.1, u17.2.2.1, u17.2.2.2.1, (i64 (u17.2.2.2.2.1 + 1)), u17.2.2.2.2.2))) | none => none) | none => none) | none => none) else none) | false => (ke (.inr (u17.2.1, u17.2.2.1, u17.2.2.2.2.2))))
abbrev zkz (N : Nat) (x : qL × Int × Int × Int × Int × qL) : Option ((Bool × Int × Int × qL) ⊕ (Int × Int × qL)) := (jZ N).L N x
def J5 (N : Nat) : LSpec where
 X := Int × Int × qL
 Y := (Bool × qL) ⊕ (qL)
 dt := .mk 41 0 (zgK 4).1.toks [(1, .ptr 1 0), (8, .int .i64), (9, .int .i64)] [(1, .cells [.lst 1])] rfl
 od := .mk 41 0 (zgK 4).2.toks [⟨.ret, [(1, .ptr 1 0), (2, .bool)], [(1, .cells [.lst 1])], none⟩, ⟨.exit 0, [(1, .ptr 1 0)], [(1, .cells [.lst 1])], none⟩] rfl
 b := λ u4 α kn ke => (match (decide (u4.2.1 < u4.1)) with | true => (if 0 <= u4.2.1 then (match u4.2.2[u4.2.1.toNat]? with | some c16 => (match (c16.drop 0)[0]? with | some x17 => (match Zf 29 x17 with | some l18 => (match (decide ((l18.length : Int) > 20)) with | true => (ke (.inl (false, u4.2.2))) | false => (if 0 <= u4.2.1 then (match u4.2.2[u4.2.1.toNat]? with | some c19 => (match (c19.drop 0)[0]? with | some x20 => (match Zf 29 x20 with | some l21 => (match zkz N (l21, u4.1, u4.2.1, (l21.length : Int), 0, u4.2.2) with | some y22 => (match y22 with | .inl z23 => (ke (.inl (z23.1, z23.2.2.2))) | .inr z24 => (kn (z24.1, (i64 (z24.2.1 + 1)), z24.2.2))) | none => none) | none => none) | none => none) | none => none) else none)) | none => none) | none => none) | none => none) else none) | false => (ke (.inr u4.2.2)))
abbrev zsp (N : Nat) (x : Int × Int × qL) : Option ((Bool × qL) ⊕ (qL)) := (J5 N).L N x
def zvW (N : Nat) : FSpec where
 X := qL
 Y := Bool
 ad := .mk [.ags [.sl 1]] [] rfl
 ret := λ y => qR (AV.v (.bool y))
 t := λ x α k => (match zsp N ((x.length : Int), 0, x) with | some y25 => (match y25 with | .inl z26 => (k z26.1) | .inr z27 => (k (decide ((z27.length : Int) <= 10)))) | none => none)
abbrev zAK (N : Nat) (x : qL) : Option (Bool) := (zvW N).d x
def zsq (N : Nat) : List (Nat × LSpec) := [(4, J5 N), (17, jZ N)]
def zvV : Code := Tryz.f6.body.getD .skip
theorem zfC (N : Nat) : zP qP zgK N (zsq N) 17 (zb 17 zvV) :=
 zy (zc qP) zf (zAL N) (l := []) an (jZ N)
theorem zoH (N : Nat) : zP qP zgK N (zsq N) 4 (zb 4 zvV) :=
 zy (zc qP) zf (zAL N) (l := [(17, zb 17 zvV)]) (al (zfC N) an) (J5 N)
def zDc (N : Nat) : Ent qP := zG (zc qP) zf (zAL N) 6 Tryz.f6 Tryz.func6 zgK N (zsq N) (l := [(4, zb 4 zvV), (17, zb 17 zvV)]) (al (zoH N) (al (zfC N) an)) (zvW N)
end
end
section
open Go.RowKit
def okc (u : UInt8) : Bool := !(decide ((u.toNat : Int) < 97)) && !(decide ((u.toNat : Int) > 122))
def zdl (s : ByteArray) : Bool := s.data.toList.all okc && (decide ((s.size : Int) >= 1) && decide ((s.size : Int) <= 16))
theorem zf1 {x : Int} (h : -9223372036854775808 <= x /\ x <= 9223372036854775807) : i64 x = x := IntWalk.i64_in _ (by omega)
theorem znf (s : ByteArray) (i : Nat) (h : i < s.size) : s[i]? = some (s.data.toList[i]'(by simpa using h)) := by
 have h' : i < s.data.size := h
 show (if _ : i < s.size then some _ else none) = _
 rw [dif_pos h]
 rfl
theorem zgs (N : Nat) (s : ByteArray) (hs : s.size <= 9223372036854775807) : ∀ (k i f : Nat), k < f -> i + k = s.size -> (jf N).L f (s, (s.size : Int), (i : Int)) = some (if (s.data.toList.drop i).all okc = true then .inr s else .inl (s, false))
 | 0, i, f, hf, hi2 => by
  obtain ⟨f, rfl⟩ : ∃ f', f = f' + 1 := ⟨f - 1, by omega⟩
  have e : s.data.toList.drop i = [] := List.drop_eq_nil_of_le (by simp; omega)
  rw [e]
  show (jf N).b _ _ ((jf N).L f) some = _
  have c : decide ((i : Int) < (s.size : Int)) = false := by rw [decide_eq_false_iff_not]; omega
  simp only [jf, c]
  rfl
 | k + 1, i, f, hf, hi2 => by
  obtain ⟨f, rfl⟩ : ∃ f', f = f' + 1 := ⟨f - 1, by omega⟩
  have hlt : i < s.size := by omega
  have hlt' : i < s.data.toList.length := by simpa using hlt
  have r := zgs N s hs k (i + 1) f (by omega) (by omega)
  rw [List.drop_eq_getElem_cons hlt', List.all_cons]
  show (jf N).b _ _ ((jf N).L f) some = _
  obtain ⟨Lf, hL⟩ : ∃ Lf, Lf = (jf N).L f := ⟨_, rfl⟩
  rw [<- hL] at r |-
  have c1 : decide ((i : Int) < (s.size : Int)) = true := by rw [decide_eq_true_iff]; omega
  have c2 : (0 : Int) <= (i : Int) := by omega
  have e1 : i64 ((i : Int) + 1) = ((i + 1 : Nat) : Int) := by rw [zf1 (by omega)]; omega
  have hb := znf s i hlt
  obtain ⟨u, hu⟩ : ∃ u, u = s.data.toList[i]'hlt' := ⟨_, rfl⟩
  rw [<- hu] at hb |-
  unfold okc
  simp only [jf, c1, c2, if_true, Int.toNat_natCast, hb, e1]
  cases decide ((u.toNat : Int) < 97) <;> cases decide ((u.toNat : Int) > 122) <;> first | exact r | rfl
theorem zn2 (s : ByteArray) (hs : s.size <= 9223372036854775807) : zsr (s.size + 1) s = some (zdl s) := by
 have r := zgs (s.size + 1) s hs s.size 0 (s.size + 1) (by omega) (by omega)
 replace r : (jf (s.size + 1)).L (s.size + 1) (s, (s.size : Int), 0) = _ := r
 rw [List.drop_zero] at r
 unfold zdl
 cases ha : s.data.toList.all okc with
 | false =>
  rw [ha] at r
  replace r : (jf (s.size + 1)).L (s.size + 1) (s, (s.size : Int), 0) = some (.inl (s, false)) := r
  simp only [zsr, FSpec.d, zkC, zkA, r, Bool.false_and]
 | true =>
  rw [ha] at r
  replace r : (jf (s.size + 1)).L (s.size + 1) (s, (s.size : Int), 0) = some (.inr s) := r
  simp only [zsr, FSpec.d, zkC, zkA, r, Bool.true_and]
  cases decide ((s.size : Int) >= 1) <;> rfl
noncomputable def zyh (N : Nat) : FSpec := { zkC N with t := λ (x : ByteArray) α k => if x.size <= 9223372036854775807 then k (zdl x) else none, par := by intro x α β k k' r r' h h1; revert h; dsimp only; (repeat' split) <;> intro h <;> first | exact h1 _ h | cases h }
noncomputable abbrev zmQ (N : Nat) (x : ByteArray) : Option Bool := (zyh N).d x
noncomputable def zyg (N : Nat) : Ent Tryz.prog where
 f := 81
 F := zyh N
 ok := λ (x : ByteArray) y h => by
  have h : (if x.size <= 9223372036854775807 then some (zdl x) else none) = some y := h
  split at h
  ·rename_i hx
   cases h
   exact (zvZ (x.size + 1)).ok x _ (zn2 x hx)
  ·cases h
 hp := (zvZ 0).hp
 hsl := λ y => rfl
theorem zgt (N : Nat) (s : ByteArray) (hs : s.size <= 9223372036854775807) : ∀ (k i f : Nat), k < f -> i + k = s.size -> (jg N).L f (s, (i : Int)) = some (if (s.data.toList.drop i).all okc = true then .inr s else .inl (s, false))
 | 0, i, f, hf, hi2 => by
  obtain ⟨f, rfl⟩ : ∃ f', f = f' + 1 := ⟨f - 1, by omega⟩
  have e : s.data.toList.drop i = [] := List.drop_eq_nil_of_le (by simp; omega)
  rw [e]
  show (jg N).b _ _ ((jg N).L f) some = _
  have c : decide ((i : Int) < (s.size : Int)) = false := by rw [decide_eq_false_iff_not]; omega
  simp only [jg, c]
  rfl
 | k + 1, i, f, hf, hi2 => by
  obtain ⟨f, rfl⟩ : ∃ f', f = f' + 1 := ⟨f - 1, by omega⟩
  have hlt : i < s.size := by omega
  have hlt' : i < s.data.toList.length := by simpa using hlt
  have r := zgt N s hs k (i + 1) f (by omega) (by omega)
  rw [List.drop_eq_getElem_cons hlt', List.all_cons]
  show (jg N).b _ _ ((jg N).L f) some = _
  obtain ⟨Lf, hL⟩ : ∃ Lf, Lf = (jg N).L f := ⟨_, rfl⟩
  rw [<- hL] at r |-
  have c1 : decide ((i : Int) < (s.size : Int)) = true := by rw [decide_eq_true_iff]; omega
  have c2 : (0 : Int) <= (i : Int) := by omega
  have e1 : i64 ((i : Int) + 1) = ((i + 1 : Nat) : Int) := by rw [zf1 (by omega)]; omega
  have hb := znf s i hlt
  obtain ⟨u, hu⟩ : ∃ u, u = s.data.toList[i]'hlt' := ⟨_, rfl⟩
  rw [<- hu] at hb |-
  unfold okc
  simp only [jg, c1, c2, if_true, Int.toNat_natCast, hb, e1]
  cases decide ((u.toNat : Int) < 97) <;> cases decide ((u.toNat : Int) > 122) <;> first | exact r | rfl
theorem zn3 (s : ByteArray) (hs : s.size <= 9223372036854775807) : zss (s.size + 1) s = some (zdl s) := by
 have r := zgt (s.size + 1) s hs s.size 0 (s.size + 1) (by omega) (by omega)
 replace r : (jg (s.size + 1)).L (s.size + 1) (s, 0) = _ := r
 rw [List.drop_zero] at r
 unfold zdl
 cases ha : s.data.toList.all okc with
 | false =>
  rw [ha] at r
  replace r : (jg (s.size + 1)).L (s.size + 1) (s, 0) = some (.inl (s, false)) := r
  simp only [zss, FSpec.d, zkF, zkD, r, Bool.false_and]
 | true =>
  rw [ha] at r
  replace r : (jg (s.size + 1)).L (s.size + 1) (s, 0) = some (.inr s) := r
  simp only [zss, FSpec.d, zkF, zkD, r, Bool.true_and]
  cases decide ((s.size : Int) >= 1) <;> rfl
noncomputable def zyo (N : Nat) : FSpec := { zkF N with t := λ (x : ByteArray) α k => if x.size <= 9223372036854775807 then k (zdl x) else none, par := by intro x α β k k' r r' h h1; revert h; dsimp only; (repeat' split) <;> intro h <;> first | exact h1 _ h | cases h }
noncomputable abbrev zjW (N : Nat) (x : ByteArray) : Option Bool := (zyo N).d x
noncomputable def zyn (N : Nat) : Ent Tryz.prog where
 f := 84
 F := zyo N
 ok := λ (x : ByteArray) y h => by
  have h : (if x.size <= 9223372036854775807 then some (zdl x) else none) = some y := h
  split at h
  ·rename_i hx
   cases h
   exact (zv2 (x.size + 1)).ok x _ (zn3 x hx)
  ·cases h
 hp := (zv2 0).hp
 hsl := λ y => rfl
end
section
noncomputable section
open Go.RowKit
set_option maxRecDepth 4000
set_option maxHeartbeats 4000000
abbrev RK0 : List Ck := [.str, .str, .str, .str, .int .i64, .int .i64, .int .i64, .int .i64, .int .i64, .sl 9, .int .i64, .int .i64, .int .i64, .int .i64, .int .i64, .int .i64, .int .i64, .int .i64, .int .i64, .int .i64, .int .i64, .int .i64, .int .i64, .int .i64, .int .i64]
abbrev RT0 : Type := ByteArray × ByteArray × ByteArray × ByteArray × Int × Int × Int × Int × Int × qL × Int × Int × Int × Int × Int × Int × Int × Int × Int × Int × Int × Int × Int × Int × Int × Unit
def zeE (c : List AV) : Option RT0 := dec RK0 c
def zl (e : RT0) : List AV := enc RK0 e
theorem Zh (e : RT0) : zeE (zl e) = some e := zbD (ks := RK0) e rfl
theorem zaa (e : RT0) : (zl e).length = 25 := zeY (ks := RK0) e
abbrev RK1 : List Ck := [.str, .str, .str, .str, .int .i64, .int .i64, .int .i64, .int .i64, .int .i64]
abbrev RT1 : Type := ByteArray × ByteArray × ByteArray × ByteArray × Int × Int × Int × Int × Int × Unit
def jk (c : List AV) : Option RT1 := dec RK1 c
def zh (e : RT1) : List AV := enc RK1 e
theorem zI (e : RT1) : jk (zh e) = some e := zbD (ks := RK1) e rfl
theorem zbx (e : RT1) (r : List AV) : jk (zh e ++ r) = some e := zhm (ks := RK1) e r rfl
theorem Zn (e : RT1) : (zh e).length = 9 := zeY (ks := RK1) e
abbrev RK2 : List Ck := [.str, .str, .str, .str]
abbrev RT2 : Type := ByteArray × ByteArray × ByteArray × ByteArray × Unit
def Ren2 (e : RT2) : List AV := enc RK2 e
def zsG : Nat -> Keep × Keep := anL []
def zwv (N : Nat) : List (Ent qP) := []
def zh2 (N : Nat) : FSpec where
 X := ByteArray
 Y := Bool
 ad := .mk [.str] [] rfl
 ret := λ y => qR (AV.v (.bool y))
 t := λ x α k => (k (!(x.toList == x.toList)))
abbrev zds (N : Nat) (x : ByteArray) : Option (Bool) := (zh2 N).d x
def zwu (N : Nat) : Ent qP := zG (zc qP) zf (zwv N) 116 Tryz.f116 Tryz.func116 zsG N [] (l := []) an (zh2 N)
def zsF : Nat -> Keep × Keep := anL []
def zwt (N : Nat) : List (Ent qP) := [zwu N]
def zh1 (N : Nat) : FSpec where
 X := ByteArray × ByteArray
 Y := Int
 ad := .mk [.str, .str] [] rfl
 ret := λ y => qR (AV.v (.int .i64 y))
 t := λ x α k => (match zds N x.1 with | some y1 => (match zds N x.2 with | some y2 => (match y1 with | true => (match y2 with | true => (k 0) | false => (k (-1))) | false => (match y2 with | true => (k 1) | false => (match (Go.Op.bytesLess x.1.toList x.2.toList) with | true => (k (-1)) | false => (match (!((Go.Op.bytesLess x.1.toList x.2.toList) || (x.1.toList == x.2.toList))) with | true => (k 1) | false => (k 0))))) | none => none) | none => none)
abbrev zbQ (N : Nat) (x : ByteArray × ByteArray) : Option (Int) := (zh1 N).d x
def zws (N : Nat) : Ent qP := zG (zc qP) zf (zwt N) 115 Tryz.f115 Tryz.func115 zsF N [] (l := []) an (zh1 N)
def zen : Nat -> Keep × Keep := anL [(5, ⟨[3, 7, 8], [], [], [(6, 1)], [], [], [], [], false, none, []⟩, qK [2, 3] [] [])]
def zqK (N : Nat) : List (Ent qP) := []
def Zq (N : Nat) : LSpec where
 X := qL × Int × Int × Int
 Y := (Int × Int) ⊕ (Int)
 dt := .mk 18 0 (zen 5).1.toks [(6, .lst 1), (3, .int .i64), (7, .int .i64), (8, .int .i64)] [] rfl
 od := .mk 18 0 (zen 5).2.toks [⟨.ret, [(2, .int .i64), (3, .int .i64)], [], none⟩, ⟨.exit 0, [(3, .int .i64)], [], none⟩] rfl
 b := λ u5 α kn ke => (match (decide (u5.2.2.2 < u5.2.2.1)) with | true => (if 0 <= u5.2.2.2 then (match u5.1[u5.2.2.2.toNat]? with | some c1 => (match c1[0]? with | some x2 => (match x2 with | .v (.int q4 n3) => (if q4 = .i64 then (match (n3 != u5.2.1) with | true => (ke (.inl (n3, u5.2.1))) | false => (kn (u5.1, u5.2.1, u5.2.2.1, (i64 (u5.2.2.2 + 1))))) else none) | _ => none) | none => none) | none => none) else none) | false => (ke (.inr u5.2.1)))
abbrev zkK (N : Nat) (x : qL × Int × Int × Int) : Option ((Int × Int) ⊕ (Int)) := (Zq N).L N x
def zkN (N : Nat) : FSpec where
 X := qL
 Y := Int
 ad := .mk [.lst 1] [] rfl
 ret := λ y => qR (AV.v (.int .i64 y))
 t := λ x α k => (match zkK N (x, 0, (x.length : Int), 0) with | some y5 => (match y5 with | .inl z6 => (k z6.1) | .inr z7 => (k z7)) | none => none)
abbrev za3 (N : Nat) (x : qL) : Option (Int) := (zkN N).d x
def zkM (N : Nat) : List (Nat × LSpec) := [(5, Zq N)]
def zqJ : Code := Tryz.f101.body.getD .skip
theorem zjr (N : Nat) : zP qP zen N (zkM N) 5 (zb 5 zqJ) :=
 zy (zc qP) zf (zqK N) (l := []) an (Zq N)
def zkL (N : Nat) : Ent qP := zG (zc qP) zf (zqK N) 101 Tryz.f101 Tryz.func101 zen N (zkM N) (l := [(5, zb 5 zqJ)]) (al (zjr N) an) (zkN N)
def zsC : Nat -> Keep × Keep := anL []
def zwm (N : Nat) : List (Ent qP) := [zws N, zkL N]
def zk5 (N : Nat) : FSpec where
 X := RT2 × RT2
 Y := Int
 ad := .mk [.agg RK2, .agg RK2] [] rfl
 ret := λ y => qR (AV.v (.int .i64 y))
 t := λ x α k => (match zbQ N (x.1.1, x.2.1) with | some y1 => (match zbQ N (x.1.2.1, x.2.2.1) with | some y2 => (match zbQ N (x.1.2.2.1, x.2.2.2.1) with | some y3 => (match zbQ N (x.1.2.2.2.1, x.2.2.2.2.1) with | some y4 => (match za3 N ([[(AV.v (.int .i64 y1))], [(AV.v (.int .i64 y2))], [(AV.v (.int .i64 y3))], [(AV.v (.int .i64 y4))]]) with | some y5 => (k y5) | none => none) | none => none) | none => none) | none => none) | none => none)
abbrev zk4 (N : Nat) (x : RT2 × RT2) : Option (Int) := (zk5 N).d x
def zwl (N : Nat) : Ent qP := zG (zc qP) zf (zwm N) 111 Tryz.f111 Tryz.func111 zsC N [] (l := []) an (zk5 N)
@[reducible] def j7 (e : RT1) : RT2 := (e.1, e.2.1, e.2.2.1, e.2.2.2.1, ())
def zsD : Nat -> Keep × Keep := anL []
def zwo (N : Nat) : List (Ent qP) := []
def zk6 (N : Nat) : FSpec where
 X := Int
 Y := Bool
 ad := .mk [.int .i64] [] rfl
 ret := λ y => qR (AV.v (.bool y))
 t := λ x α k => (k (x != x))
abbrev zh0 (N : Nat) (x : Int) : Option (Bool) := (zk6 N).d x
def zwn (N : Nat) : Ent qP := zG (zc qP) zf (zwo N) 112 Tryz.f112 Tryz.func112 zsD N [] (l := []) an (zk6 N)
def zsv : Nat -> Keep × Keep := anL []
def zv7 (N : Nat) : List (Ent qP) := [zwn N]
def zkO (N : Nat) : FSpec where
 X := Int × Int
 Y := Int
 ad := .mk [.int .i64, .int .i64] [] rfl
 ret := λ y => qR (AV.v (.int .i64 y))
 t := λ x α k => (match zh0 N x.1 with | some y1 => (match zh0 N x.2 with | some y2 => (match y1 with | true => (match y2 with | true => (k 0) | false => (k (-1))) | false => (match y2 with | true => (k 1) | false => (match (decide (x.1 < x.2)) with | true => (k (-1)) | false => (match (decide (x.1 > x.2)) with | true => (k 1) | false => (k 0))))) | none => none) | none => none)
abbrev za4 (N : Nat) (x : Int × Int) : Option (Int) := (zkO N).d x
def zqL (N : Nat) : Ent qP := zG (zc qP) zf (zv7 N) 102 Tryz.f102 Tryz.func102 zsv N [] (l := []) an (zkO N)
def zyK : Nat -> Keep × Keep := anL []
def zCk (N : Nat) : List (Ent qP) := [zwl N, zqL N, zkL N]
def zuc (N : Nat) : FSpec where
 X := RT1 × RT1
 Y := Int
 ad := .mk [.agg RK1, .agg RK1] [] rfl
 ret := λ y => qR (AV.v (.int .i64 y))
 t := λ x α k => (match zk4 N ((j7 x.1), (j7 x.2)) with | some y1 => (match za4 N (x.1.2.2.2.2.1, x.2.2.2.2.2.1) with | some y2 => (match za4 N (x.1.2.2.2.2.2.1, x.2.2.2.2.2.2.1) with | some y3 => (match za4 N (x.1.2.2.2.2.2.2.1, x.2.2.2.2.2.2.2.1) with | some y4 => (match za4 N (x.1.2.2.2.2.2.2.2.1, x.2.2.2.2.2.2.2.2.1) with | some y5 => (match za4 N (x.1.2.2.2.2.2.2.2.2.1, x.2.2.2.2.2.2.2.2.2.1) with | some y6 => (match za3 N ([[(AV.v (.int .i64 y1))], [(AV.v (.int .i64 y2))], [(AV.v (.int .i64 y3))], [(AV.v (.int .i64 y4))], [(AV.v (.int .i64 y5))], [(AV.v (.int .i64 y6))]]) with | some y7 => (k y7) | none => none) | none => none) | none => none) | none => none) | none => none) | none => none) | none => none)
abbrev zpc (N : Nat) (x : RT1 × RT1) : Option (Int) := (zuc N).d x
def zyL (N : Nat) : Ent qP := zG (zc qP) zf (zCk N) 99 Tryz.f99 Tryz.func99 zyK N [] (l := []) an (zuc N)
def ziq : Nat -> Keep × Keep := anL [(4, ⟨[3], [], [], [(0, 9)], [], [], [], [], false, none, []⟩, qK [2] [] [])]
def zys (N : Nat) : List (Ent qP) := [zyL N]
def Z5 (N : Nat) : LSpec where
 X := qL × Int
 Y := (Bool) ⊕ (Unit)
 dt := .mk 21 0 (ziq 4).1.toks [(0, .lst 9), (3, .int .i64)] [] rfl
 od := .mk 21 0 (ziq 4).2.toks [⟨.ret, [(2, .bool)], [], none⟩, ⟨.exit 0, [], [], none⟩] rfl
 b := λ u4 α kn ke => (match (decide (u4.2 < (u4.1.length : Int))) with | true => (if 0 <= (i64 (u4.2 - 1)) then (match u4.1[(i64 (u4.2 - 1)).toNat]? with | some c1 => (match jk c1 with | some e2 => (if 0 <= u4.2 then (match u4.1[u4.2.toNat]? with | some c3 => (match jk c3 with | some e4 => (match zpc N (e2, e4) with | some y5 => (match (decide (y5 >= 0)) with | true => (ke (.inl false)) | false => (kn (u4.1, (i64 (u4.2 + 1))))) | none => none) | none => none) | none => none) else none) | none => none) | none => none) else none) | false => (ke (.inr ())))
abbrev zrJ (N : Nat) (x : qL × Int) : Option ((Bool) ⊕ (Unit)) := (Z5 N).L N x
def ztX (N : Nat) : FSpec where
 X := qL
 Y := Bool
 ad := .mk [.lst 9] [] rfl
 ret := λ y => qR (AV.v (.bool y))
 t := λ x α k => (match zrJ N (x, 1) with | some y6 => (match y6 with | .inl z7 => (k z7) | .inr z8 => (k true)) | none => none)
abbrev ztW (N : Nat) (x : qL) : Option (Bool) := (ztX N).d x
def zrK (N : Nat) : List (Nat × LSpec) := [(4, Z5 N)]
def zyr : Code := Tryz.f86.body.getD .skip
theorem zmR (N : Nat) : zP qP ziq N (zrK N) 4 (zb 4 zyr) :=
 zy (zc qP) zf (zys N) (l := []) an (Z5 N)
def zBZ (N : Nat) : Ent qP := zG (zc qP) zf (zys N) 86 Tryz.f86 Tryz.func86 ziq N (zrK N) (l := [(4, zb 4 zyr)]) (al (zmR N) an) (ztX N)
def zyu : Nat -> Keep × Keep := anL []
def zB2 (N : Nat) : List (Ent qP) := [zqL N, zyL N, zkL N]
def zt0 (N : Nat) : FSpec where
 X := RT1 × RT1
 Y := Int
 ad := .mk [.agg RK1, .agg RK1] [] rfl
 ret := λ y => qR (AV.v (.int .i64 y))
 t := λ x α k => (match za4 N (x.1.2.2.2.2.1, x.2.2.2.2.2.1) with | some y1 => (match zpc N x with | some y2 => (match za3 N ([[(AV.v (.int .i64 y1))], [(AV.v (.int .i64 y2))]]) with | some y3 => (k y3) | none => none) | none => none) | none => none)
abbrev zmS (N : Nat) (x : RT1 × RT1) : Option (Int) := (zt0 N).d x
def zyv (N : Nat) : Ent qP := zG (zc qP) zf (zB2 N) 88 Tryz.f88 Tryz.func88 zyu N [] (l := []) an (zt0 N)
def zem : Nat -> Keep × Keep := anL [(8, ⟨[1, 4, 5, 6], [], [4, 5], [(0, 9)], [], [], [], [], false, none, []⟩, qK [4, 5] [] [4, 5])]
def zqI (N : Nat) : List (Ent qP) := [zyv N]
def ZQ (N : Nat) : LSpec where
 X := qL × Int × RT1 × RT1
 Y := (RT1 × RT1)
 dt := .mk 33 0 (zem 8).1.toks [(0, .lst 9), (1, .fn0 88), (4, .ptr 4 0), (5, .ptr 5 0), (6, .int .i64)] [(4, .row RK1), (5, .row RK1)] rfl
 od := .mk 33 0 (zem 8).2.toks [⟨.exit 0, [(4, .ptr 4 0), (5, .ptr 5 0)], [(4, .row RK1), (5, .row RK1)], none⟩] rfl
 b := λ u8 α kn ke => (match (decide (u8.2.1 < (u8.1.length : Int))) with | true => (if 0 <= u8.2.1 then (match u8.1[u8.2.1.toNat]? with | some c8 => (match jk c8 with | some e9 => (match zmS N (e9, u8.2.2.2) with | some y10 => (match (decide (y10 < 0)) with | true => (if 0 <= u8.2.1 then (match u8.1[u8.2.1.toNat]? with | some c11 => (match jk c11 with | some e12 => (kn (u8.1, (i64 (u8.2.1 + 1)), u8.2.2.1, e12)) | none => none) | none => none) else none) | false => (kn (u8.1, (i64 (u8.2.1 + 1)), u8.2.2))) | none => none) | none => none) | none => none) else none) | false => (ke u8.2.2))
abbrev zkH (N : Nat) (x : qL × Int × RT1 × RT1) : Option ((RT1 × RT1)) := (ZQ N).L N x
def zkJ (N : Nat) : FSpec where
 X := qL
 Y := RT1
 ad := .mk [.lst 9, .fn0 88] [] rfl
 S := ⟨[[none, none, none, none, none, none, none, none, none]], [], [], [], []⟩
 ret := λ y => qR (AV.agg (zh y))
 t := λ x α k => (match (decide ((x.length : Int) < 1)) with | true => none | false => (if 0 <= (0 : Int) then (match x[(0 : Int).toNat]? with | some c1 => (match jk c1 with | some e2 => (match zkH N (x, 1, ((⟨#[]⟩ : ByteArray), (⟨#[]⟩ : ByteArray), (⟨#[]⟩ : ByteArray), (⟨#[]⟩ : ByteArray), 0, 0, 0, 0, 0, ()), e2) with | some y13 => (k y13.2) | none => none) | none => none) | none => none) else none))
abbrev zkG (N : Nat) (x : qL) : Option (RT1) := (zkJ N).d x
def zkI (N : Nat) : List (Nat × LSpec) := [(8, ZQ N)]
def zqH : Code := Tryz.f100.body.getD .skip
theorem zjq (N : Nat) : zP qP zem N (zkI N) 8 (zb 8 zqH) :=
 zy (zc qP) zf (zqI N) (l := []) an (ZQ N)
def zv6 (N : Nat) : Ent qP := zG (zc qP) zf (zqI N) 100 Tryz.f100 Tryz.func100 zem N (zkI N) (l := [(8, zb 8 zqH)]) (al (zjq N) an) (zkJ N)
def zyt : Nat -> Keep × Keep := anL []
def zB1 (N : Nat) : List (Ent qP) := [zv6 N]
def ztZ (N : Nat) : FSpec where
 X := qL
 Y := RT1
 ad := .mk [.lst 9] [] rfl
 S := ⟨[[none, none, none, none, none, none, none, none, none]], [], [], [], []⟩
 ret := λ y => qR (AV.agg (zh y))
 t := λ x α k => (match ((x.length : Int) == 0) with | true => (k ((⟨#[]⟩ : ByteArray), (⟨#[]⟩ : ByteArray), (⟨#[]⟩ : ByteArray), (⟨#[]⟩ : ByteArray), 0, 0, 0, 0, 0, ())) | false => (match zkG N x with | some y1 => (k y1) | none => none))
abbrev ztY (N : Nat) (x : qL) : Option (RT1) := (ztZ N).d x
def zB0 (N : Nat) : Ent qP := zG (zc qP) zf (zB1 N) 87 Tryz.f87 Tryz.func87 zyt N [] (l := []) an (ztZ N)
@[reducible] def zm0 (e : RT0) : RT1 := (e.1, e.2.1, e.2.2.1, e.2.2.2.1, e.2.2.2.2.1, e.2.2.2.2.2.1, e.2.2.2.2.2.2.1, e.2.2.2.2.2.2.2.1, e.2.2.2.2.2.2.2.2.1, ())
def zb4 : Nat -> Keep × Keep := anL [(5, ⟨[3, 13, 14], [], [1500011], [(0, 25), (12, 25)], [], [], [], [], false, none, []⟩, qK [2] [] []), (19, ⟨[3, 13, 14, 54, 55], [], [1500011], [(0, 25), (12, 25), (53, 9)], [], [], [], [], false, none, []⟩, ⟨[2, 3, 13, 14], [], [1500011], [(0, 25), (12, 25)], [], [], [], [], false, none, []⟩)]
def ztg (N : Nat) : List (Ent qP) := [zBZ N, zB0 N, zyv N]
def JR (N : Nat) : LSpec where
 X := qL × qL × qL × Int × Int × Int × Int × qL
 Y := (qL × qL × Bool × Int × Int × qL) ⊕ (qL × qL × Int × Int × qL)
 dt := .mk 71 0 (zb4 19).1.toks [(0, .lst 25), (12, .lst 25), (53, .lst 9), (3, .mref 1500011), (13, .int .i64), (14, .int .i64), (54, .int .i64), (55, .int .i64)] [(1500011, .mp (MK.mk true true [.str, .str, .str, .str, .int .i64, .int .i64, .int .i64, .int .i64, .int .i64] []))] rfl
 od := .mk 71 0 (zb4 19).2.toks [⟨.ret, [(0, .lst 25), (12, .lst 25), (2, .bool), (3, .mref 1500011), (13, .int .i64), (14, .int .i64)], [(1500011, .mp (MK.mk true true [.str, .str, .str, .str, .int .i64, .int .i64, .int .i64, .int .i64, .int .i64] []))], none⟩, ⟨.exit 2, [(0, .lst 25), (12, .lst 25), (3, .mref 1500011), (13, .int .i64), (14, .int .i64)], [(1500011, .mp (MK.mk true true [.str, .str, .str, .str, .int .i64, .int .i64, .int .i64, .int .i64, .int .i64] []))], none⟩] rfl
 b := λ u19 α kn ke => (match (decide (u19.2.2.2.2.2.2.1 < u19.2.2.2.2.2.1)) with | true => (if 0 <= u19.2.2.2.2.2.2.1 then (match u19.2.2.1[u19.2.2.2.2.2.2.1.toNat]? with | some c10 => (match jk c10 with | some e11 => (match (zdi (zh e11) u19.2.2.2.2.2.2.2) with | true => (ke (.inl (u19.1, u19.2.1, false, u19.2.2.2.1, u19.2.2.2.2.1, u19.2.2.2.2.2.2.2))) | false => (kn (u19.1, u19.2.1, u19.2.2.1, u19.2.2.2.1, u19.2.2.2.2.1, u19.2.2.2.2.2.1, (i64 (u19.2.2.2.2.2.2.1 + 1)), (zbt (zh e11) (zh e11) u19.2.2.2.2.2.2.2)))) | none => none) | none => none) else none) | false => (ke (.inr (u19.1, u19.2.1, u19.2.2.2.1, u19.2.2.2.2.1, u19.2.2.2.2.2.2.2))))
abbrev zaI (N : Nat) (x : qL × qL × qL × Int × Int × Int × Int × qL) : Option ((qL × qL × Bool × Int × Int × qL) ⊕ (qL × qL × Int × Int × qL)) := (JR N).L N x
def zdK (N : Nat) : LSpec where
 X := qL × qL × Int × Int × qL
 Y := (Bool) ⊕ (Unit)
 dt := .mk 71 0 (zb4 5).1.toks [(0, .lst 25), (12, .lst 25), (3, .mref 1500011), (13, .int .i64), (14, .int .i64)] [(1500011, .mp (MK.mk true true [.str, .str, .str, .str, .int .i64, .int .i64, .int .i64, .int .i64, .int .i64] []))] rfl
 od := .mk 71 0 (zb4 5).2.toks [⟨.ret, [(2, .bool)], [], none⟩, ⟨.exit 0, [], [], none⟩] rfl
 b := λ u5 α kn ke => (match (decide (u5.2.2.2.1 < u5.2.2.1)) with | true => (if 0 <= u5.2.2.2.1 then (match u5.2.1[u5.2.2.2.1.toNat]? with | some c1 => (match zeE c1 with | some e2 => (match ((e2.2.2.2.2.2.2.2.2.2.1.length : Int) == 0) with | true => (ke (.inl false)) | false => (match ztW N e2.2.2.2.2.2.2.2.2.2.1 with | some y3 => (match (!y3) with | true => (ke (.inl false)) | false => (match ztY N e2.2.2.2.2.2.2.2.2.2.1 with | some y4 => (match (!(((e2.1 == y4.1) && ((e2.2.1 == y4.2.1) && ((e2.2.2.1 == y4.2.2.1) && ((e2.2.2.2.1 == y4.2.2.2.1) && true)))) && ((e2.2.2.2.2.1 == y4.2.2.2.2.1) && ((e2.2.2.2.2.2.1 == y4.2.2.2.2.2.1) && ((e2.2.2.2.2.2.2.1 == y4.2.2.2.2.2.2.1) && ((e2.2.2.2.2.2.2.2.1 == y4.2.2.2.2.2.2.2.1) && ((e2.2.2.2.2.2.2.2.2.1 == y4.2.2.2.2.2.2.2.2.1) && true))))))) with | true => (ke (.inl false)) | false => (match (decide (u5.2.2.2.1 > 0)) with | true => (if 0 <= (i64 (u5.2.2.2.1 - 1)) then (match u5.1[(i64 (u5.2.2.2.1 - 1)).toNat]? with | some c5 => (match jk (c5.drop 0) with | some e6 => (match zmS N (e6, (zm0 e2)) with | some y7 => (match (decide (y7 >= 0)) with | true => (ke (.inl false)) | false => (match zaI N (u5.1, u5.2.1, e2.2.2.2.2.2.2.2.2.2.1, u5.2.2.1, u5.2.2.2.1, (e2.2.2.2.2.2.2.2.2.2.1.length : Int), 0, u5.2.2.2.2) with | some y12 => (match y12 with | .inl z13 => (ke (.inl z13.2.2.1)) | .inr z14 => (kn (z14.1, z14.2.1, z14.2.2.1, (i64 (z14.2.2.2.1 + 1)), z14.2.2.2.2))) | none => none)) | none => none) | none => none) | none => none) else none) | false => (match zaI N (u5.1, u5.2.1, e2.2.2.2.2.2.2.2.2.2.1, u5.2.2.1, u5.2.2.2.1, (e2.2.2.2.2.2.2.2.2.2.1.length : Int), 0, u5.2.2.2.2) with | some y15 => (match y15 with | .inl z16 => (ke (.inl z16.2.2.1)) | .inr z17 => (kn (z17.1, z17.2.1, z17.2.2.1, (i64 (z17.2.2.2.1 + 1)), z17.2.2.2.2))) | none => none))) | none => none)) | none => none)) | none => none) | none => none) else none) | false => (ke (.inr ())))
abbrev zrm (N : Nat) (x : qL × qL × Int × Int × qL) : Option ((Bool) ⊕ (Unit)) := (zdK N).L N x
def zth (N : Nat) : FSpec where
 X := qL
 Y := Bool
 ad := .mk [.lst 25] [] rfl
 ret := λ y => qR (AV.v (.bool y))
 t := λ x α k => (match zrm N (x, x, (x.length : Int), 0, ([] : qL)) with | some y18 => (match y18 with | .inl z19 => (k z19) | .inr z20 => (k true)) | none => none)
abbrev zg2 (N : Nat) (x : qL) : Option (Bool) := (zth N).d x
def zl7 (N : Nat) : List (Nat × LSpec) := [(5, zdK N), (19, JR N)]
def zl5 : Code := Tryz.f50.body.getD .skip
theorem zdL (N : Nat) : zP qP zb4 N (zl7 N) 19 (zb 19 zl5) :=
 zy (zc qP) zf (ztg N) (l := []) an (JR N)
theorem zl6 (N : Nat) : zP qP zb4 N (zl7 N) 5 (zb 5 zl5) :=
 zy (zc qP) zf (ztg N) (l := [(19, zb 19 zl5)]) (al (zdL N) an) (zdK N)
def zxu (N : Nat) : Ent qP := zG (zc qP) zf (ztg N) 50 Tryz.f50 Tryz.func50 zb4 N (zl7 N) (l := [(5, zb 5 zl5), (19, zb 19 zl5)]) (al (zl6 N) (al (zdL N) an)) (zth N)
abbrev RK3 : List Ck := [.sl 9, .int .i64, .int .i64, .int .i64, .int .i64, .int .i64, .int .i64, .int .i64, .int .i64, .int .i64, .int .i64, .int .i64, .int .i64, .int .i64, .int .i64, .int .i64]
abbrev RT3 : Type := qL × Int × Int × Int × Int × Int × Int × Int × Int × Int × Int × Int × Int × Int × Int × Int × Unit
def zCt (c : List AV) : Option RT3 := dec RK3 c
def zes : Nat -> Keep × Keep := anL [(8, ⟨[12, 13], [], [], [(0, 9), (1, 9)], [], [], [], [], false, none, []⟩, qK [4] [] [])]
def zq1 (N : Nat) : List (Ent qP) := []
def Zt (N : Nat) : LSpec where
 X := qL × qL × Int × Int
 Y := (Bool) ⊕ (Unit)
 dt := .mk 26 0 (zes 8).1.toks [(0, .lst 9), (1, .lst 9), (12, .int .i64), (13, .int .i64)] [] rfl
 od := .mk 26 0 (zes 8).2.toks [⟨.ret, [(4, .bool)], [], none⟩, ⟨.exit 0, [], [], none⟩] rfl
 b := λ u8 α kn ke => (match (decide (u8.2.2.2 < u8.2.2.1)) with | true => (if 0 <= u8.2.2.2 then (match u8.1[u8.2.2.2.toNat]? with | some c1 => (match jk c1 with | some e2 => (if 0 <= u8.2.2.2 then (match u8.2.1[u8.2.2.2.toNat]? with | some c3 => (match jk c3 with | some e4 => (match (!(((e2.1 == e4.1) && ((e2.2.1 == e4.2.1) && ((e2.2.2.1 == e4.2.2.1) && ((e2.2.2.2.1 == e4.2.2.2.1) && true)))) && ((e2.2.2.2.2.1 == e4.2.2.2.2.1) && ((e2.2.2.2.2.2.1 == e4.2.2.2.2.2.1) && ((e2.2.2.2.2.2.2.1 == e4.2.2.2.2.2.2.1) && ((e2.2.2.2.2.2.2.2.1 == e4.2.2.2.2.2.2.2.1) && ((e2.2.2.2.2.2.2.2.2.1 == e4.2.2.2.2.2.2.2.2.1) && true))))))) with | true => (ke (.inl false)) | false => (kn (u8.1, u8.2.1, u8.2.2.1, (i64 (u8.2.2.2 + 1))))) | none => none) | none => none) else none) | none => none) | none => none) else none) | false => (ke (.inr ())))
abbrev zk7 (N : Nat) (x : qL × qL × Int × Int) : Option ((Bool) ⊕ (Unit)) := (Zt N).L N x
def zk9 (N : Nat) : FSpec where
 X := qL × qL
 Y := Bool
 ad := .mk [.lst 9, .lst 9] [] rfl
 ret := λ y => qR (AV.v (.bool y))
 t := λ x α k => (match ((x.1.length : Int) != (x.2.length : Int)) with | true => (k false) | false => (match zk7 N (x.1, x.2, (x.1.length : Int), 0) with | some y5 => (match y5 with | .inl z6 => (k z6) | .inr z7 => (k true)) | none => none))
abbrev zfE (N : Nat) (x : qL × qL) : Option (Bool) := (zk9 N).d x
def zk8 (N : Nat) : List (Nat × LSpec) := [(8, Zt N)]
def zq0 : Code := Tryz.f113.body.getD .skip
theorem zjw (N : Nat) : zP qP zes N (zk8 N) 8 (zb 8 zq0) :=
 zy (zc qP) zf (zq1 N) (l := []) an (Zt N)
def zwp (N : Nat) : Ent qP := zG (zc qP) zf (zq1 N) 113 Tryz.f113 Tryz.func113 zes N (zk8 N) (l := [(8, zb 8 zq0)]) (al (zjw N) an) (zk9 N)
def zsx : Nat -> Keep × Keep := anL []
def zwc (N : Nat) : List (Ent qP) := [zwp N]
def zkU (N : Nat) : FSpec where
 X := RT3 × RT3
 Y := Bool
 ad := .mk [.agg RK3, .agg RK3] [] rfl
 ret := λ y => qR (AV.v (.bool y))
 t := λ x α k => (match zfE N (x.1.1, x.2.1) with | some y1 => (match y1 with | true => (match (((x.1.2.1 == x.2.2.1) && ((x.1.2.2.1 == x.2.2.2.1) && ((x.1.2.2.2.1 == x.2.2.2.2.1) && true))) && ((x.1.2.2.2.2.1 == x.2.2.2.2.2.1) && ((x.1.2.2.2.2.2.1 == x.2.2.2.2.2.2.1) && ((x.1.2.2.2.2.2.2.1 == x.2.2.2.2.2.2.2.1) && ((((x.1.2.2.2.2.2.2.2.1 == x.2.2.2.2.2.2.2.2.1) && ((x.1.2.2.2.2.2.2.2.2.1 == x.2.2.2.2.2.2.2.2.2.1) && ((x.1.2.2.2.2.2.2.2.2.2.1 == x.2.2.2.2.2.2.2.2.2.2.1) && true))) && (((x.1.2.2.2.2.2.2.2.2.2.2.1 == x.2.2.2.2.2.2.2.2.2.2.2.1) && ((x.1.2.2.2.2.2.2.2.2.2.2.2.1 == x.2.2.2.2.2.2.2.2.2.2.2.2.1) && ((x.1.2.2.2.2.2.2.2.2.2.2.2.2.1 == x.2.2.2.2.2.2.2.2.2.2.2.2.2.1) && true))) && true)) && true))))) with | true => (match ((x.1.2.2.2.2.2.2.2.2.2.2.2.2.2.1 == x.2.2.2.2.2.2.2.2.2.2.2.2.2.2.1) && ((x.1.2.2.2.2.2.2.2.2.2.2.2.2.2.2.1 == x.2.2.2.2.2.2.2.2.2.2.2.2.2.2.2.1) && true)) with | true => (k (x.1.2.2.2.2.2.2.2.2.2.2.2.2.2.2.2.1 == x.2.2.2.2.2.2.2.2.2.2.2.2.2.2.2.2.1)) | false => (k false)) | false => (k false)) | false => (k false)) | none => none)
abbrev zkT (N : Nat) (x : RT3 × RT3) : Option (Bool) := (zkU N).d x
def zwb (N : Nat) : Ent qP := zG (zc qP) zf (zwc N) 105 Tryz.f105 Tryz.func105 zsx N [] (l := []) an (zkU N)
@[reducible] def zu (e : RT0) : RT3 := (e.2.2.2.2.2.2.2.2.2.1, e.2.2.2.2.2.2.2.2.2.2.1, e.2.2.2.2.2.2.2.2.2.2.2.1, e.2.2.2.2.2.2.2.2.2.2.2.2.1, e.2.2.2.2.2.2.2.2.2.2.2.2.2.1, e.2.2.2.2.2.2.2.2.2.2.2.2.2.2.1, e.2.2.2.2.2.2.2.2.2.2.2.2.2.2.2.1, e.2.2.2.2.2.2.2.2.2.2.2.2.2.2.2.2.1, e.2.2.2.2.2.2.2.2.2.2.2.2.2.2.2.2.2.1, e.2.2.2.2.2.2.2.2.2.2.2.2.2.2.2.2.2.2.1, e.2.2.2.2.2.2.2.2.2.2.2.2.2.2.2.2.2.2.2.1, e.2.2.2.2.2.2.2.2.2.2.2.2.2.2.2.2.2.2.2.2.1, e.2.2.2.2.2.2.2.2.2.2.2.2.2.2.2.2.2.2.2.2.2.1, e.2.2.2.2.2.2.2.2.2.2.2.2.2.2.2.2.2.2.2.2.2.2.1, e.2.2.2.2.2.2.2.2.2.2.2.2.2.2.2.2.2.2.2.2.2.2.2.1, e.2.2.2.2.2.2.2.2.2.2.2.2.2.2.2.2.2.2.2.2.2.2.2.2.1, ())
def zsw : Nat -> Keep × Keep := anL []
def zwa (N : Nat) : List (Ent qP) := [zwb N]
def zkS (N : Nat) : FSpec where
 X := RT0 × RT0
 Y := Bool
 ad := .mk [.agg RK0, .agg RK0] [] rfl
 ret := λ y => qR (AV.v (.bool y))
 t := λ x α k => (match (((x.1.1 == x.2.1) && ((x.1.2.1 == x.2.2.1) && ((x.1.2.2.1 == x.2.2.2.1) && ((x.1.2.2.2.1 == x.2.2.2.2.1) && true)))) && ((x.1.2.2.2.2.1 == x.2.2.2.2.2.1) && ((x.1.2.2.2.2.2.1 == x.2.2.2.2.2.2.1) && ((x.1.2.2.2.2.2.2.1 == x.2.2.2.2.2.2.2.1) && ((x.1.2.2.2.2.2.2.2.1 == x.2.2.2.2.2.2.2.2.1) && ((x.1.2.2.2.2.2.2.2.2.1 == x.2.2.2.2.2.2.2.2.2.1) && true)))))) with | true => (match zkT N ((zu x.1), (zu x.2)) with | some y1 => (k y1) | none => none) | false => (k false))
abbrev zkR (N : Nat) (x : RT0 × RT0) : Option (Bool) := (zkS N).d x
def zv9 (N : Nat) : Ent qP := zG (zc qP) zf (zwa N) 104 Tryz.f104 Tryz.func104 zsw N [] (l := []) an (zkS N)
def zeo : Nat -> Keep × Keep := anL [(8, ⟨[2, 16, 17], [], [], [(1, 25), (15, 25)], [], [], [], [], false, none, []⟩, qK [6] [] [])]
def zqO (N : Nat) : List (Ent qP) := [zv9 N]
def jo (N : Nat) : LSpec where
 X := qL × qL × Int × Int
 Y := (Bool) ⊕ (Unit)
 dt := .mk 32 0 (zeo 8).1.toks [(1, .lst 25), (15, .lst 25), (2, .fn0 104), (16, .int .i64), (17, .int .i64)] [] rfl
 od := .mk 32 0 (zeo 8).2.toks [⟨.ret, [(6, .bool)], [], none⟩, ⟨.exit 0, [], [], none⟩] rfl
 b := λ u8 α kn ke => (match (decide (u8.2.2.2 < u8.2.2.1)) with | true => (if 0 <= u8.2.2.2 then (match u8.2.1[u8.2.2.2.toNat]? with | some c1 => (match zeE c1 with | some e2 => (if 0 <= u8.2.2.2 then (match u8.1[u8.2.2.2.toNat]? with | some c3 => (match zeE c3 with | some e4 => (match zkR N (e2, e4) with | some y5 => (match (!y5) with | true => (ke (.inl false)) | false => (kn (u8.1, u8.2.1, u8.2.2.1, (i64 (u8.2.2.2 + 1))))) | none => none) | none => none) | none => none) else none) | none => none) | none => none) else none) | false => (ke (.inr ())))
abbrev zgL (N : Nat) (x : qL × qL × Int × Int) : Option ((Bool) ⊕ (Unit)) := (jo N).L N x
def zkQ (N : Nat) : FSpec where
 X := qL × qL
 Y := Bool
 ad := .mk [.lst 25, .lst 25, .fn0 104] [] rfl
 ret := λ y => qR (AV.v (.bool y))
 t := λ x α k => (match ((x.1.length : Int) != (x.2.length : Int)) with | true => (k false) | false => (match zgL N (x.2, x.1, (x.1.length : Int), 0) with | some y6 => (match y6 with | .inl z7 => (k z7) | .inr z8 => (k true)) | none => none))
abbrev zqN (N : Nat) (x : qL × qL) : Option (Bool) := (zkQ N).d x
def zkP (N : Nat) : List (Nat × LSpec) := [(8, jo N)]
def zqM : Code := Tryz.f103.body.getD .skip
theorem zjs (N : Nat) : zP qP zeo N (zkP N) 8 (zb 8 zqM) :=
 zy (zc qP) zf (zqO N) (l := []) an (jo N)
def zv8 (N : Nat) : Ent qP := zG (zc qP) zf (zqO N) 103 Tryz.f103 Tryz.func103 zeo N (zkP N) (l := [(8, zb 8 zqM)]) (al (zjs N) an) (zkQ N)
def zyx : Nat -> Keep × Keep := anL []
def zB6 (N : Nat) : List (Ent qP) := [zv8 N]
def zt3 (N : Nat) : FSpec where
 X := qL × qL
 Y := Bool
 ad := .mk [.lst 25, .lst 25] [] rfl
 ret := λ y => qR (AV.v (.bool y))
 t := λ x α k => (match zqN N x with | some y1 => (k y1) | none => none)
abbrev zyy (N : Nat) (x : qL × qL) : Option (Bool) := (zt3 N).d x
def zB5 (N : Nat) : Ent qP := zG (zc qP) zf (zB6 N) 90 Tryz.f90 Tryz.func90 zyx N [] (l := []) an (zt3 N)
end
end
end Go.Proofs.YthdgnfcbehcplaaGreatDoor
