/- Code without memory: how it runs, and that the model does so. -/
import Derived.Test.YtdmedeaknnldcaaGreatDoorSymR
namespace Go.Proofs.YtdmedeaknnldcaaGreatDoor
open Go.RowKit
set_option linter.unusedVariables false
set_option linter.unusedSimpArgs false
set_option linter.unnecessarySimpa false
def AS.known (s : AS) (t : Nat) (b : Bool) : AS := s.ap (.env t (.v (.bool b)))
def AS.knownO (s : AS) (x : Operand) (b : Bool) : AS := match x with
  | .tmp t => s.known t b
  | _ => s
/-- A region in the text's order; where a guard's value is open, both ways. -/
def rrun (T : Tab) (Γ : GamK) (ops : List Oper) {α : Type} (K : AS → Trc → Option α) : List Oper → Trc → AS → Option α
  | [], tr, s => K s tr
  | o :: r, tr, s =>
    match o.guard with
    | none => stepK T Γ o s fun W => rrun T Γ ops K r ((W, greads ops s o) :: tr) (s.aps W)
    | some _ =>
      match gslot ops o with
      | some (t, true) => (match s.at t with
        | .v (.bool b) => bif b then (stepK T Γ o (s.known t true) fun W => rrun T Γ ops K r ((W, greads ops (s.known t true) o) :: tr) ((s.known t true).aps W)) else rrun T Γ ops K r ((AS.out o.dst (.v undef), greads ops (s.known t false) o) :: tr) ((s.known t false).aps (AS.out o.dst (.v undef)))
        | .v _ => rrun T Γ ops K r ((AS.out o.dst (.v undef), greads ops s o) :: tr) (s.aps (AS.out o.dst (.v undef)))
        | _ => none)
      | some (t, false) => (match s.at t with
        | .v (.bool b) => bif b then rrun T Γ ops K r ((AS.out o.dst (.v undef), greads ops (s.known t true) o) :: tr) ((s.known t true).aps (AS.out o.dst (.v undef))) else (stepK T Γ o (s.known t false) fun W => rrun T Γ ops K r ((W, greads ops (s.known t false) o) :: tr) ((s.known t false).aps W))
        | .v _ => rrun T Γ ops K r ((AS.out o.dst (.v undef), greads ops s o) :: tr) (s.aps (AS.out o.dst (.v undef)))
        | _ => none)
      | none => none
def aregion (T : Tab) (Γ : GamK) (ops : List Oper) (draw : Bool) {α : Type} (s : AS) (K : AS → Option α) : Option α :=
  match draw with
  | false => rrun T Γ ops (fun s' _ => K s') ops [] s
  | true => rrun T Γ ops (fun s' tr => if (noconf tr.reverse (befs ops []) 0 && downB ops.toArray) = true then K s' else none) ops [] s
/-- What is kept at a loop's head, and behind it: slots, slots that are appended to (with the size of their elements), variables; slots and cells whose slices lie over a variable that gets their name; which variables slices lie over. -/
structure Keep where
  plain : List Nat
  accs : List (Nat × Nat)
  boxes : List Nat
  lists : List (Nat × Nat)
  baccs : List ((Nat × Nat) × Nat)
  vaccs : List (Nat × Nat)
  vcells : List ((Nat × Nat) × Nat)
  sl : List Nat
  cut : Bool
/-- The token of a variable's cell. -/
def tb (p : Nat × Nat) : Nat := tC p.1 p.2 0
/-- A nil slice read as a list. -/
def nilL (n : Nat) : AV → AV
  | .v (.slice none 0 0) => .list n [] none
  | x => dat2 x
def accV (s : AS) (v : AV) (n : Nat) : Option (List (List AV) × Option Nat) :=
  match v with
  | .list n' xs (some k) => if n' = n then (match s.tk k with | some true => some (xs, some k) | _ => none) else none
  | .v (.slice none 0 0) => some ([], none)
  | _ => none
def accOf (s : AS) (t n : Nat) : Option (List (List AV) × Option Nat) := accV s (s.at t) n
def accsOf (s : AS) : List (Nat × Nat) → Option (List (Nat × (AV × Option Nat)))
  | [] => some []
  | (t, n) :: r =>
    match accOf s t n, accsOf s r with
    | some (xs, k), some l => some ((t, (.list n xs (some (tA t)), k)) :: l)
    | _, _ => none
def AS.cell (s : AS) (p : Nat × Nat) : AV := match s.bx p.1 with
  | some cs => (cs[p.2]?).getD .any
  | none => .any
def baccsOf (s : AS) : List ((Nat × Nat) × Nat) → Option (List ((Nat × Nat) × (AV × Option Nat)))
  | [] => some []
  | (p, n) :: r =>
    match accV s (s.cell p) n, baccsOf s r with
    | some (xs, k), some l => some ((p, (.list n xs (some (tb p)), k)) :: l)
    | _, _ => none
/-- A slice over a variable that gets another name. -/
structure VE where
  name : Nat
  act : Option Nat
  val : AV
  cs : List AV
def vOf (s : AS) (v : AV) (n name : Nat) : Option VE :=
  match v with
  | .vs b off len n' =>
    if n' = n ∧ s.nin ≤ b then
      (match s.bx b with
      | some cs => some ⟨name, some b, .vs name off len n, cs⟩
      | none => none)
    else none
  | .v (.slice none 0 0) => some ⟨name, none, .vs name 0 0 n, []⟩
  | _ => none
def vaccsOf (s : AS) : List (Nat × Nat) → Option (List (Nat × VE))
  | [] => some []
  | (t, n) :: r =>
    match vOf s (s.at t) n (vA t), vaccsOf s r with
    | some e, some l => some ((t, e) :: l)
    | _, _ => none
def vcellsOf (s : AS) : List ((Nat × Nat) × Nat) → Option (List ((Nat × Nat) × VE))
  | [] => some []
  | (p, n) :: r =>
    match vOf s (s.cell p) n (vB p.1 p.2), vcellsOf s r with
    | some e, some l => some ((p, e) :: l)
    | _, _ => none
/-- The variables' old and new names. -/
def fmOf (kp : Keep) (ves : List VE) : List (Nat × Nat) := kp.boxes.map (fun b => (b, b)) ++ ves.filterMap fun e => match e.act with | some b => some (b, e.name) | none => none
/-- A variable, of which some cells are appended to. -/
def keepB (kp : Keep) (bl : List ((Nat × Nat) × (AV × Option Nat))) (vc : List ((Nat × Nat) × VE)) (f : Nat → Option Nat) (b : Nat) (cs : List AV) : List AV :=
  bif kp.sl.contains b then cs.map dat0 else
  bif bl.any (fun q => q.1.1 == b) || vc.any (fun q => q.1.1 == b) then cs.mapIdx (fun j v => match bl.lookup (b, j) with | some p => p.1 | none => (match vc.lookup (b, j) with | some e => e.val | none => mp0 f no1 v)) else cs.map (mp0 f no1)
def Keep.names (kp : Keep) : List Nat := kp.boxes ++ (kp.vaccs.map (fun p => vA p.1) ++ kp.vcells.map fun p => vB p.1.1 p.1.2)
def Keep.toks (kp : Keep) : List (Nat × Bool) := (kp.accs.map (fun p => tA p.1) ++ kp.baccs.map fun p => tb p.1).map (fun t => (t, true)) ++ (kp.names.map (fun b => (vk b, false)) ++ (kp.sl ++ (kp.vaccs.map (fun p => vA p.1) ++ kp.vcells.map fun p => vB p.1.1 p.1.2)).map (fun b => (vm b, false)))
def keepS (kp : Keep) (al : List (Nat × (AV × Option Nat))) (bl : List ((Nat × Nat) × (AV × Option Nat))) (va : List (Nat × VE)) (vc : List ((Nat × Nat) × VE)) (s : AS) : AS := {
  env := (List.range s.env.length).map fun t => match al.lookup t with
    | some p => p.1
    | none => (match va.lookup t with
      | some e => e.val
      | none => (match kp.lists.lookup t with
        | some n => nilL n (s.at t)
        | none => if kp.plain.contains t then mp2 (fun b => (fmOf kp (va.map (·.2) ++ vc.map (·.2))).lookup b) no1 (s.at t) else .any))
  box := kp.boxes.map (fun b => (b, match s.bx b with | some cs => some (keepB kp bl vc (fun b => (fmOf kp (va.map (·.2) ++ vc.map (·.2))).lookup b) b cs) | none => none)) ++ (va.map (·.2) ++ vc.map (·.2)).map (fun e => (e.name, some (e.cs.map dat0)))
  tok := kp.toks
  nin := s.nin }
def keep (kp : Keep) (s : AS) : Option AS :=
  match accsOf s kp.accs, baccsOf s kp.baccs, vaccsOf s kp.vaccs, vcellsOf s kp.vcells with
  | some al, some bl, some va, some vc =>
    if (distinct (al.map (fun p => tA p.1) ++ (bl.map (fun p => tb p.1) ++ kp.names.map vk)) && (distinct ((al.filterMap fun p => p.2.2) ++ (bl.filterMap fun p => p.2.2)) && (distinct kp.names && (distinct (kp.boxes ++ (va.map (·.2) ++ vc.map (·.2)).filterMap (·.act)) && ((List.range s.nin).all kp.boxes.contains && (va.map (·.2) ++ vc.map (·.2)).all (fun e => decide (s.nin ≤ e.name))))))) = true then some (keepS kp al bl va vc s) else none
  | _, _, _, _ => none
/-- A state of which no more is known than what is kept. -/
def canon (kp : Keep) (s : AS) : AS := {
  env := (List.range s.env.length).map fun t => if (kp.accs.map (·.1)).contains t || ((kp.vaccs.map (·.1)).contains t || ((kp.lists.map (·.1)).contains t || kp.plain.contains t)) then s.at t else .any
  box := kp.names.map fun b => (b, s.bx b)
  tok := kp.toks
  nin := s.nin }
def Code.loops : Code → Nat
  | .seq x y => Code.loops x + Code.loops y + 1
  | .cond _ x y => Code.loops x + Code.loops y + 1
  | .block _ x => Code.loops x + 1
  | .loop x => Code.loops x + 1
  | _ => 0
abbrev Out := Exit × AS
/-- What loops do, by number. -/
structure LoopK where
  v : Nat → AS → Option Out
  K : Nat → AS → (α : Type) → (Out → Option α) → Option α
  eq : ∀ n s (α : Type) (k : Out → Option α) (x : α), K n s α k = some x → ∃ o, v n s = some o ∧ k o = some x
def loopsOf : Code → Nat → List (Nat × Code)
  | .seq x y, n => (n, .seq x y) :: (loopsOf x (n + 1) ++ loopsOf y (n + 1 + Code.loops x))
  | .cond c x y, n => (n, .cond c x y) :: (loopsOf x (n + 1) ++ loopsOf y (n + 1 + Code.loops x))
  | .block id x, n => (n, .block id x) :: loopsOf x (n + 1)
  | .loop x, n => (n, .loop x) :: loopsOf x (n + 1)
  | _, _ => []
/-- Two ways that lead to one answer. -/
noncomputable def both {α : Type} (a b : Option α) : Option α := open Classical in if a = b then a else none
theorem both_spec {α : Type} {a b : Option α} {x : α} (h : both a b = some x) : a = some x ∧ b = some x := by
  unfold both at h
  split at h
  · rename_i e; exact ⟨h, e ▸ h⟩
  · cases h
theorem both_self {α : Type} (a : Option α) : both a a = a := by unfold both; rw [if_pos rfl]
noncomputable def aexec (T : Tab) (Γ : GamK) (An : Nat → Keep × Keep) (Λ : LoopK) : Code → Nat → {α : Type} → AS → (Exit → AS → Option α) → Option α
  | .skip, _, _, s, K => K .normal s
  | .label _, _, _, s, K => K .normal s
  | .region id ops draw, _, _, s, K => fzs (An (100000 + id)).1.plain s fun s => fzc ((An (100000 + id)).1.vcells.map (·.1)) s fun s => aregion T Γ ops.toList draw s (K .normal)
  | .seq x y, n, α, s, K =>
    match (An n).1.cut with
    | true => (match keep (An n).1 s with
      | some s' => Λ.K n s' α fun p => K p.1 p.2
      | none => none)
    | false => aexec T Γ An Λ x (n + 1) s fun e s' => match e with
      | .normal => aexec T Γ An Λ y (n + 1 + Code.loops x) s' K
      | e => K e s'
  | .cond c x y, n, α, s, K =>
    match (An n).1.cut with
    | true => (match keep (An n).1 s with
      | some s' => Λ.K n s' α fun p => K p.1 p.2
      | none => none)
    | false => (match s.ev c with
      | .v (.bool b) => bif b then aexec T Γ An Λ x (n + 1) (s.knownO c true) K else aexec T Γ An Λ y (n + 1 + Code.loops x) (s.knownO c false) K
      | .ub => both (aexec T Γ An Λ x (n + 1) (s.knownO c true) K) (aexec T Γ An Λ y (n + 1 + Code.loops x) (s.knownO c false) K)
      | _ => none)
  | .block id x, n, α, s, K =>
    match (An n).1.cut with
    | true => (match keep (An n).1 s with
      | some s' => Λ.K n s' α fun p => K p.1 p.2
      | none => none)
    | false => aexec T Γ An Λ x (n + 1) s fun e s' => match e with
      | .exit i => if i = id then K .normal s' else K (.exit i) s'
      | e => K e s'
  | .loop x, n, α, s, K =>
    match keep (An n).1 s with
    | some s' => Λ.K n s' α fun p => K p.1 p.2
    | none => none
  | .exit id, _, _, s, K => K (.exit id) s
  | .ret, _, _, s, K => K .ret s
  | _, _, _, _, _ => none
/-- Is this part run by its number? -/
def actB (An : Nat → Keep × Keep) (p : Nat × Code) : Bool := match p.2 with
  | .loop _ => true
  | _ => (An p.1).1.cut
def actOf (An : Nat → Keep × Keep) (c : Code) (n : Nat) : List (Nat × Code) := (loopsOf c n).filter (actB An)
/-- A part that is run by its number, opened. -/
def uncut (An : Nat → Keep × Keep) (n m : Nat) : Keep × Keep := if m = n then ({ (An n).1 with cut := false }, (An n).2) else An m
noncomputable def pieceRun (T : Tab) (Γ : GamK) (An : Nat → Keep × Keep) (Λ : LoopK) (n : Nat) (c : Code) {α : Type} (s : AS) (ke : Out → Option α) : Option α :=
  aexec T Γ (uncut An n) Λ c n s fun e s' => match keep (An n).2 s' with | some s3 => ke (e, s3) | none => none
/-- One round of a loop, and what is handed on behind it. -/
noncomputable def around (T : Tab) (Γ : GamK) (An : Nat → Keep × Keep) (Λ : LoopK) (n : Nat) (c : Code) {α : Type} (s : AS) (kn : AS → Option α) (ke : Out → Option α) : Option α :=
  aexec T Γ An Λ c (n + 1) s fun e s' => match e with
    | .normal => (match keep (An n).1 s' with | some s2 => kn s2 | none => none)
    | e => (match keep (An n).2 s' with | some s3 => ke (e, s3) | none => none)
section
variable {P : Program} {T : Tab} {Γ : GamK} {B : Base} {M : Mem} {ρ : Rho} {σ : Sig} {s s' : AS} {a : Act} {w : World} {ops : List Oper} {Q : Exit → Act → World → Prop}
theorem known_eq {t : Nat} {b : Bool} (h : s.at t = .v (.bool b)) : s.known t b = s := by
  unfold AS.known AS.ap
  have : s.env.set t (.v (.bool b)) = s.env := by
    apply List.ext_getElem?
    intro j
    rw [List.getElem?_set]
    by_cases hj : t = j
    · subst hj
      unfold AS.at at h
      cases hq : s.env[t]? with
      | none => rw [hq] at h; cases h
      | some v =>
        rw [hq] at h
        have hlt := (List.getElem?_eq_some_iff.1 hq).1
        simp at h
        simp [hlt, h]
    · simp [hj]
  simp only [this]
theorem knownO_eq {x : Operand} {b : Bool} (h : s.ev x = .v (.bool b)) : s.knownO x b = s := by
  cases x with
  | tmp t => exact known_eq h
  | _ => rfl
theorem rrun_crun {α : Type} {K : AS → Trc → Option α} {x : α} : ∀ (r : List Oper) (tr : Trc) (s : AS), rrun T Γ ops K r tr s = some x → ∃ tr' s', crun T Γ.v ops r s = some (tr', s') ∧ K s' (tr'.reverse ++ tr) = some x
  | [], tr, s, h => ⟨[], s, rfl, h⟩
  | o :: r, tr, s, h => by
    have fin : ∀ W, gstep T Γ.v ops o s = some W → rrun T Γ ops K r ((W, greads ops s o) :: tr) (s.aps W) = some x → ∃ tr' s', crun T Γ.v ops (o :: r) s = some (tr', s') ∧ K s' (tr'.reverse ++ tr) = some x := fun W hW hr => by
      obtain ⟨tr', s', h1, h2⟩ := rrun_crun r _ _ hr
      refine ⟨(W, greads ops s o) :: tr', s', ?_, by simpa using h2⟩
      unfold crun
      rw [hW]
      simp only [h1]
    have viaStep : ∀ t want b, gslot ops o = some (t, want) → o.guard ≠ none → s.at t = .v (.bool b) → (b == want) = true → (stepK T Γ o s fun W => rrun T Γ ops K r ((W, greads ops s o) :: tr) (s.aps W)) = some x → ∃ tr' s', crun T Γ.v ops (o :: r) s = some (tr', s') ∧ K s' (tr'.reverse ++ tr) = some x := fun t want b hg hne hb hw hm => by
      obtain ⟨W, hW, hm⟩ := stepK_eq hm
      refine fin W ?_ hm
      unfold gstep gval
      cases hq : o.guard with
      | none => exact absurd hq hne
      | some p => simp only [hg, hb, hw]; exact hW
    have viaSkip : ∀ t want b, gslot ops o = some (t, want) → o.guard ≠ none → s.at t = .v (.bool b) → (b == want) = false → rrun T Γ ops K r ((AS.out o.dst (.v undef), greads ops s o) :: tr) (s.aps (AS.out o.dst (.v undef))) = some x → ∃ tr' s', crun T Γ.v ops (o :: r) s = some (tr', s') ∧ K s' (tr'.reverse ++ tr) = some x := fun t want b hg hne hb hw hm => by
      refine fin _ ?_ hm
      unfold gstep gval
      cases hq : o.guard with
      | none => exact absurd hq hne
      | some p => simp only [hg, hb, hw]
    have viaFlat : ∀ t want v, gslot ops o = some (t, want) → o.guard ≠ none → s.at t = .v v → (∀ b, v = .bool b → False) → rrun T Γ ops K r ((AS.out o.dst (.v undef), greads ops s o) :: tr) (s.aps (AS.out o.dst (.v undef))) = some x → ∃ tr' s', crun T Γ.v ops (o :: r) s = some (tr', s') ∧ K s' (tr'.reverse ++ tr) = some x := fun t want v hg hne hb hnb hm => by
      refine fin _ ?_ hm
      unfold gstep gval
      cases hq : o.guard with
      | none => exact absurd hq hne
      | some p =>
        simp only [hg, hb]
        try (cases v <;> first | rfl | exact (hnb _ rfl).elim)
    unfold rrun at h
    split at h
    · rename_i hg
      obtain ⟨W, hW, h⟩ := stepK_eq h
      refine fin W ?_ h
      unfold gstep gval
      rw [hg]
      exact hW
    · rename_i p hp
      have hne : o.guard ≠ none := by rw [hp]; simp
      split at h
      · rename_i t hg
        split at h
        · rename_i b hb
          cases b
          · rw [known_eq hb] at h; exact viaSkip t true false hg hne hb rfl h
          · rw [known_eq hb] at h; exact viaStep t true true hg hne hb rfl h
        · rename_i v hnb hb; exact viaFlat t true v hg hne hb (fun b e => hnb b e) h
        · cases h
      · rename_i t hg
        split at h
        · rename_i b hb
          cases b
          · rw [known_eq hb] at h; exact viaStep t false false hg hne hb rfl h
          · rw [known_eq hb] at h; exact viaSkip t false true hg hne hb rfl h
        · rename_i v hnb hb; exact viaFlat t false v hg hne hb (fun b e => hnb b e) h
        · cases h
      · cases h
theorem wpOps_run (hT : TabOk P T) (hG : GOk P Γ.v) : ∀ (r : List Oper) (i : Nat) (s s' : AS) (tr : Trc) (a : Act) (w : World), (∀ k, r[k]? = ops[i + k]?) → crun T Γ.v ops r s = some (tr, s') → Sim B s a w → (∀ a' w', Sim B s' a' w' → Q .normal a' w') →
    wpOps P ops.toArray Q ((List.range' i r.length)) a w
  | [], i, s, s', tr, a, w, _, h, hS, hQ => by cases h; exact hQ a w hS
  | o :: r, i, s, s', tr, a, w, hr, h, hS, hQ => by
    have h0 : ops[i]? = some o := by simpa using (hr 0).symm
    unfold crun at h
    split at h
    · rename_i W hW
      split at h
      · rename_i tr' s'' hc
        cases h
        have hx : ops.toArray[i]? = some o := by simpa using h0
        rw [List.length_cons, List.range'_succ]
        unfold wpOps
        rw [hx]
        simp only
        have hk : ∀ a' w', Sim B (s.aps W) a' w' → wpOps P ops.toArray Q (List.range' (i + 1) r.length) a' w' := fun a' w' hS' =>
          wpOps_run hT hG r (i + 1) _ _ _ a' w' (fun k => by have := hr (k + 1); simpa [Nat.add_assoc, Nat.add_comm 1 k] using this) hc hS' hQ
        have g := gstep_ok (Q := Q) hT hG hS hW (wpOps P ops.toArray Q (List.range' (i + 1) r.length)) hk
        split at g
        · rename_i hw; rw [if_pos hw]; exact .inl g
        · rename_i hw; rw [if_neg hw]; exact g
      · cases h
    · cases h
theorem aregion_ok {α : Type} {id : Nat} {draw : Bool} (hT : TabOk P T) (hG : GOk P Γ.v) (hm : P.follows .mixedOrders = true) {K : AS → Option α} {x : α} {opa : Array Oper} (h : aregion T Γ opa.toList draw s K = some x) (hS : Sim B s a w) (hQ : ∀ s' a' w', K s' = some x → Sim B s' a' w' → Q .normal a' w') : (Code.region id opa draw).wp P Q a w := by
  unfold aregion at h
  have ea : opa = opa.toList.toArray := by simp
  split at h
  · obtain ⟨tr, s', h1, h2⟩ := rrun_crun _ _ _ h
    refine wp_region ?_
    have := wpOps_run (Q := Q) hT hG opa.toList 0 s s' tr a w (fun k => by simp) h1 hS (fun a' w' => hQ s' a' w' h2)
    rw [ea, List.range_eq_range']
    simpa using this
  · obtain ⟨tr, s', h1, h2⟩ := rrun_crun _ _ _ h
    split at h2
    · rename_i hc
      rw [Bool.and_eq_true] at hc
      obtain ⟨c1, c2⟩ := hc
      simp only [List.append_nil, List.reverse_reverse] at c1
      rw [ea]
      exact region_any hT hG hm c2 h1 c1 hS (fun a' w' => hQ s' a' w' h2)
    · cases h2
end
end Go.Proofs.YtdmedeaknnldcaaGreatDoor
