/- Functions without memory. (written by sx.py) -/
import Derived.Test.YtdmedeaknnldcaaGreatDoorPkCode
namespace Go.Proofs.YtdmedeaknnldcaaGreatDoor
open Go.RowKit
set_option linter.unusedVariables false
set_option linter.unusedSimpArgs false
set_option linter.unnecessarySimpa false
set_option maxRecDepth 4000
/-! ### seismonet/steim.in (function 102) -/
def F102_an : Nat → Keep × Keep := anL []
noncomputable def F102_g (N : Nat) : GamK := gam (P := Tryz.prog) []
noncomputable def F102_s (N : Nat) : FSpec where
  X := Int × Int × Int
  Y := Bool
  ash := [[none], [none], [none]]
  bsh := []
  S := ⟨[[none]], [], [], [], []⟩
  bm := false
  pat := fun a b => match a, b with
    | [(AV.v (.int .i64 a0)), (AV.v (.int .i64 a1)), (AV.v (.int .i64 a2))], [] => some (a0, a1, a2)
    | _, _ => none
  args := fun x => [(AV.v (.int .i64 x.1)), (AV.v (.int .i64 x.2.1)), (AV.v (.int .i64 x.2.2))]
  bs := fun x => []
  ret := fun y => ⟨(AV.v (.bool y)), [], none, [], [], []⟩
  t := fun x α k => (match (decide (x.1 ≥ x.2.1)) with | true => (k (decide (x.1 ≤ x.2.2))) | false => (k false))
noncomputable abbrev F102_d (N : Nat) (x : Int × Int × Int) : Option (Bool) := (F102_s N).d x
theorem F102_parF (N : Nat) : ParF (F102_s N).t := by
  intro x α β k k' r r' h h1
  revert h
  dsimp only [F102_s]
  (repeat' (first | (with_reducible refine par_ite ?_ ?_) | (with_reducible refine par_both ?_ ?_) | split)) <;> intro h <;> first | exact h1 _ h | (cases h; done)
theorem F102_text (N : Nat) (x : (F102_s N).X) : acall (tabOf Tryz.prog) (F102_g N) F102_an (lam N []) Tryz.f102 (F102_s N).S ((F102_s N).args x) ((F102_s N).bs x) = (F102_s N).t x Ret (fun y => some ((F102_s N).ret y)) := by kernel_rfl
theorem F102_pat (N : Nat) (a : List AV) (b : List (List AV)) (x : (F102_s N).X) (h : (F102_s N).pat a b = some x) : a = (F102_s N).args x ∧ b = (F102_s N).bs x := by
  dsimp only [F102_s] at h
  split at h
  · cases h; exact ⟨rfl, rfl⟩
  · cases h
noncomputable def F102_e (N : Nat) : Ent Tryz.prog := entOf (tabOf_ok Tryz.prog) (gam_ok _) mixed 102 Tryz.f102 Tryz.func102 rfl F102_an (lam N []) (by
    have e : actOf F102_an (Tryz.f102.body.getD .skip) 0 = [] := by kernel_rfl
    rw [e]
    intro p hp
    cases hp) (F102_s N) (fun _ => ⟨rfl, rfl⟩) (F102_text N) (F102_pat N) (F102_parF N)
/-! ### seismonet/steim.sample (function 90) -/
def F90_an : Nat → Keep × Keep := anL []
noncomputable def F90_g (N : Nat) : GamK := gam (P := Tryz.prog) [F102_e N]
noncomputable def F90_s (N : Nat) : FSpec where
  X := Int
  Y := Bool
  ash := [[none]]
  bsh := []
  S := ⟨[[none]], [], [], [], []⟩
  bm := false
  pat := fun a b => match a, b with
    | [(AV.v (.int .i64 a0))], [] => some a0
    | _, _ => none
  args := fun x => [(AV.v (.int .i64 x))]
  bs := fun x => []
  ret := fun y => ⟨(AV.v (.bool y)), [], none, [], [], []⟩
  t := fun x α k => (match F102_d N (x, (-1073741823), 1073741823) with | some y1 => (k y1) | none => none)
noncomputable abbrev F90_d (N : Nat) (x : Int) : Option (Bool) := (F90_s N).d x
theorem F90_parF (N : Nat) : ParF (F90_s N).t := by
  intro x α β k k' r r' h h1
  revert h
  dsimp only [F90_s]
  (repeat' (first | (with_reducible refine par_ite ?_ ?_) | (with_reducible refine par_both ?_ ?_) | split)) <;> intro h <;> first | exact h1 _ h | (cases h; done)
theorem F90_text (N : Nat) (x : (F90_s N).X) : acall (tabOf Tryz.prog) (F90_g N) F90_an (lam N []) Tryz.f90 (F90_s N).S ((F90_s N).args x) ((F90_s N).bs x) = (F90_s N).t x Ret (fun y => some ((F90_s N).ret y)) := by kernel_rfl
theorem F90_pat (N : Nat) (a : List AV) (b : List (List AV)) (x : (F90_s N).X) (h : (F90_s N).pat a b = some x) : a = (F90_s N).args x ∧ b = (F90_s N).bs x := by
  dsimp only [F90_s] at h
  split at h
  · cases h; exact ⟨rfl, rfl⟩
  · cases h
noncomputable def F90_e (N : Nat) : Ent Tryz.prog := entOf (tabOf_ok Tryz.prog) (gam_ok _) mixed 90 Tryz.f90 Tryz.func90 rfl F90_an (lam N []) (by
    have e : actOf F90_an (Tryz.f90.body.getD .skip) 0 = [] := by kernel_rfl
    rw [e]
    intro p hp
    cases hp) (F90_s N) (fun _ => ⟨rfl, rfl⟩) (F90_text N) (F90_pat N) (F90_parF N)
/-! ### seismonet/steim.compress$1 (function 89) -/
def F89_an : Nat → Keep × Keep := anL []
noncomputable def F89_g (N : Nat) : GamK := gam (P := Tryz.prog) [F90_e N]
noncomputable def F89_s (N : Nat) : FSpec where
  X := Int
  Y := Bool
  ash := [[none]]
  bsh := []
  S := ⟨[[none]], [], [], [], []⟩
  bm := false
  pat := fun a b => match a, b with
    | [(AV.v (.int .i64 a0))], [] => some a0
    | _, _ => none
  args := fun x => [(AV.v (.int .i64 x))]
  bs := fun x => []
  ret := fun y => ⟨(AV.v (.bool y)), [], none, [], [], []⟩
  t := fun x α k => (match F90_d N x with | some y1 => (k (!y1)) | none => none)
noncomputable abbrev F89_d (N : Nat) (x : Int) : Option (Bool) := (F89_s N).d x
theorem F89_parF (N : Nat) : ParF (F89_s N).t := by
  intro x α β k k' r r' h h1
  revert h
  dsimp only [F89_s]
  (repeat' (first | (with_reducible refine par_ite ?_ ?_) | (with_reducible refine par_both ?_ ?_) | split)) <;> intro h <;> first | exact h1 _ h | (cases h; done)
theorem F89_text (N : Nat) (x : (F89_s N).X) : acall (tabOf Tryz.prog) (F89_g N) F89_an (lam N []) Tryz.f89 (F89_s N).S ((F89_s N).args x) ((F89_s N).bs x) = (F89_s N).t x Ret (fun y => some ((F89_s N).ret y)) := by kernel_rfl
theorem F89_pat (N : Nat) (a : List AV) (b : List (List AV)) (x : (F89_s N).X) (h : (F89_s N).pat a b = some x) : a = (F89_s N).args x ∧ b = (F89_s N).bs x := by
  dsimp only [F89_s] at h
  split at h
  · cases h; exact ⟨rfl, rfl⟩
  · cases h
noncomputable def F89_e (N : Nat) : Ent Tryz.prog := entOf (tabOf_ok Tryz.prog) (gam_ok _) mixed 89 Tryz.f89 Tryz.func89 rfl F89_an (lam N []) (by
    have e : actOf F89_an (Tryz.f89.body.getD .skip) 0 = [] := by kernel_rfl
    rw [e]
    intro p hp
    cases hp) (F89_s N) (fun _ => ⟨rfl, rfl⟩) (F89_text N) (F89_pat N) (F89_parF N)
/-! ### slices.IndexFunc[[]int,int] (function 110) -/
def F110_an : Nat → Keep × Keep := anL [(4, ⟨[1, 7, 8], [], [], [(0, 1)], [], [], [], [], false⟩, ⟨[4], [], [], [], [], [], [], [], false⟩)]
noncomputable def F110_g (N : Nat) : GamK := gam (P := Tryz.prog) [F89_e N]
noncomputable def F110_l4 (N : Nat) : LSpec where
  X := (List (List AV)) × Int × Int
  Y := (Int) ⊕ (Unit)
  p := fun s => match s.env.length, s.nin, s.at 0, s.at 1, s.at 7, s.at 8 with
    | 19, 0, (AV.list 1 a0 none), (AV.fn (.func 89) [] []), (AV.v (.int .i64 a1)), (AV.v (.int .i64 a2)) => some (a0, a1, a2)
    | _, _, _, _, _, _ => none
  st := fun x => mkS 19 [(0, (AV.list 1 x.1 none)), (1, (AV.fn (.func 89) [] [])), (7, (AV.v (.int .i64 x.2.1))), (8, (AV.v (.int .i64 x.2.2)))] [] (F110_an 4).1.toks 0
  out := fun y => match y with
    | .inl y => (.ret, mkS 19 [(4, (AV.v (.int .i64 y)))] [] (F110_an 4).2.toks 0)
    | .inr y => (.exit 0, mkS 19 [] [] (F110_an 4).2.toks 0)
  sp := fun y α k => match y with
    | .inl y => k (.ret, mkS 19 [(4, (AV.v (.int .i64 y)))] [] (F110_an 4).2.toks 0)
    | .inr y => k (.exit 0, mkS 19 [] [] (F110_an 4).2.toks 0)
  spe := fun y α k => by rcases y with _ | _ <;> rfl
  b := fun x α kn ke => (match (decide (x.2.2 < x.2.1)) with | true => (if 0 ≤ x.2.2 then (match x.1[x.2.2.toNat]? with | some c1 => (match c1[0]? with | some x2 => (match x2 with | .v (.int q4 n3) => (if q4 = .i64 then (match F89_d N n3 with | some y5 => (match y5 with | true => (ke (.inl x.2.2)) | false => (kn (x.1, x.2.1, (i64 (x.2.2 + 1))))) | none => none) else none) | _ => none) | none => none) | none => none) else none) | false => (ke (.inr ())))
noncomputable abbrev F110_d4 (N : Nat) (x : (List (List AV)) × Int × Int) : Option ((Int) ⊕ (Unit)) := (F110_l4 N).L N x
noncomputable def F110_s (N : Nat) : FSpec where
  X := (List (List AV))
  Y := Int
  ash := [[some 1], [none]]
  bsh := []
  S := ⟨[[none]], [], [], [], []⟩
  bm := false
  pat := fun a b => match a, b with
    | [(AV.list 1 a0 none), (AV.fn (.func 89) [] [])], [] => some a0
    | _, _ => none
  args := fun x => [(AV.list 1 x none), (AV.fn (.func 89) [] [])]
  bs := fun x => []
  ret := fun y => ⟨(AV.v (.int .i64 y)), [], none, [], [], []⟩
  t := fun x α k => (match F110_d4 N (x, (x.length : Int), 0) with | some y6 => (match y6 with | .inl z7 => (k z7) | .inr z8 => (k (-1))) | none => none)
noncomputable abbrev F110_d (N : Nat) (x : (List (List AV))) : Option (Int) := (F110_s N).d x
theorem F110_par4 (N : Nat) : Par (F110_l4 N).b := by
  intro x α β kn ke kn' ke' r r' h h1 h2
  revert h
  dsimp only [F110_l4]
  (repeat' (first | (with_reducible refine par_ite ?_ ?_) | (with_reducible refine par_both ?_ ?_) | split)) <;> intro h <;> first | exact h1 _ h | exact h2 _ h | (cases h; done)
theorem F110_body4 (N : Nat) (x : (F110_l4 N).X) (α : Type) (kn : AS → Option α) (ke : Out → Option α) : around (tabOf Tryz.prog) (F110_g N) F110_an (lam N [(4, F110_l4 N)]) 4 (bodyOf (nthLoop 4 (Tryz.f110.body.getD .skip))) ((F110_l4 N).st x) kn ke = (F110_l4 N).b x α (fun x' => kn ((F110_l4 N).st x')) (fun y => (F110_l4 N).sp y α ke) := by kernel_rfl
theorem F110_pat4 (N : Nat) (s : AS) (x : (F110_l4 N).X) (hc : s = canon (F110_an 4).1 s) (h : (F110_l4 N).p s = some x) : s = (F110_l4 N).st x := by
  dsimp only [F110_l4] at h
  split at h
  · cases h
    exact canon_mk hc ‹_› ‹_› rfl rfl rfl ⟨‹_›, ‹_›, ‹_›, ‹_›, trivial⟩ trivial
  · cases h
theorem F110_loop4 (N : Nat) : ∀ s o, s = canon (F110_an 4).1 s → (lam N [(4, F110_l4 N)]).v 4 s = some o → LoopSem Tryz.prog (nthLoop 4 (Tryz.f110.body.getD .skip)) s o :=
  loop_ok (tabOf_ok Tryz.prog) (gam_ok _) mixed F110_an N [(4, F110_l4 N)] 4 (bodyOf (nthLoop 4 (Tryz.f110.body.getD .skip))) (nthLoop 4 (Tryz.f110.body.getD .skip)) (by kernel_rfl) (by
    have e : actOf F110_an (bodyOf (nthLoop 4 (Tryz.f110.body.getD .skip))) (4 + 1) = [] := by kernel_rfl
    rw [e]
    intro p hp
    cases hp) (F110_l4 N) rfl (fun s x hc h => F110_pat4 N s x hc h) (fun x => rfl) (fun x α kn ke => (F110_body4 N x α kn ke).trans (congrArg ((F110_l4 N).b x α _) (funext fun y => (F110_l4 N).spe y α ke))) (F110_par4 N)
theorem F110_parF (N : Nat) : ParF (F110_s N).t := by
  intro x α β k k' r r' h h1
  revert h
  dsimp only [F110_s]
  (repeat' (first | (with_reducible refine par_ite ?_ ?_) | (with_reducible refine par_both ?_ ?_) | split)) <;> intro h <;> first | exact h1 _ h | (cases h; done)
theorem F110_text (N : Nat) (x : (F110_s N).X) : acall (tabOf Tryz.prog) (F110_g N) F110_an (lam N [(4, F110_l4 N)]) Tryz.f110 (F110_s N).S ((F110_s N).args x) ((F110_s N).bs x) = (F110_s N).t x Ret (fun y => some ((F110_s N).ret y)) := by kernel_rfl
theorem F110_pat (N : Nat) (a : List AV) (b : List (List AV)) (x : (F110_s N).X) (h : (F110_s N).pat a b = some x) : a = (F110_s N).args x ∧ b = (F110_s N).bs x := by
  dsimp only [F110_s] at h
  split at h
  · cases h; exact ⟨rfl, rfl⟩
  · cases h
noncomputable def F110_e (N : Nat) : Ent Tryz.prog := entOf (tabOf_ok Tryz.prog) (gam_ok _) mixed 110 Tryz.f110 Tryz.func110 rfl F110_an (lam N [(4, F110_l4 N)]) (by
    have e : actOf F110_an (Tryz.f110.body.getD .skip) 0 = [(4, nthLoop 4 (Tryz.f110.body.getD .skip))] := by kernel_rfl
    rw [e]
    intro p hp
    rcases List.mem_cons.1 hp with rfl | hp
    · exact F110_loop4 N
    cases hp) (F110_s N) (fun _ => ⟨rfl, rfl⟩) (F110_text N) (F110_pat N) (F110_parF N)
/-! ### slices.ContainsFunc[[]int,int] (function 88) -/
def F88_an : Nat → Keep × Keep := anL []
noncomputable def F88_g (N : Nat) : GamK := gam (P := Tryz.prog) [F110_e N]
noncomputable def F88_s (N : Nat) : FSpec where
  X := (List (List AV))
  Y := Bool
  ash := [[some 1], [none]]
  bsh := []
  S := ⟨[[none]], [], [], [], []⟩
  bm := false
  pat := fun a b => match a, b with
    | [(AV.list 1 a0 none), (AV.fn (.func 89) [] [])], [] => some a0
    | _, _ => none
  args := fun x => [(AV.list 1 x none), (AV.fn (.func 89) [] [])]
  bs := fun x => []
  ret := fun y => ⟨(AV.v (.bool y)), [], none, [], [], []⟩
  t := fun x α k => (match F110_d N x with | some y1 => (k (decide (y1 ≥ 0))) | none => none)
noncomputable abbrev F88_d (N : Nat) (x : (List (List AV))) : Option (Bool) := (F88_s N).d x
theorem F88_parF (N : Nat) : ParF (F88_s N).t := by
  intro x α β k k' r r' h h1
  revert h
  dsimp only [F88_s]
  (repeat' (first | (with_reducible refine par_ite ?_ ?_) | (with_reducible refine par_both ?_ ?_) | split)) <;> intro h <;> first | exact h1 _ h | (cases h; done)
theorem F88_text (N : Nat) (x : (F88_s N).X) : acall (tabOf Tryz.prog) (F88_g N) F88_an (lam N []) Tryz.f88 (F88_s N).S ((F88_s N).args x) ((F88_s N).bs x) = (F88_s N).t x Ret (fun y => some ((F88_s N).ret y)) := by kernel_rfl
theorem F88_pat (N : Nat) (a : List AV) (b : List (List AV)) (x : (F88_s N).X) (h : (F88_s N).pat a b = some x) : a = (F88_s N).args x ∧ b = (F88_s N).bs x := by
  dsimp only [F88_s] at h
  split at h
  · cases h; exact ⟨rfl, rfl⟩
  · cases h
noncomputable def F88_e (N : Nat) : Ent Tryz.prog := entOf (tabOf_ok Tryz.prog) (gam_ok _) mixed 88 Tryz.f88 Tryz.func88 rfl F88_an (lam N []) (by
    have e : actOf F88_an (Tryz.f88.body.getD .skip) 0 = [] := by kernel_rfl
    rw [e]
    intro p hp
    cases hp) (F88_s N) (fun _ => ⟨rfl, rfl⟩) (F88_text N) (F88_pat N) (F88_parF N)
/-! ### seismonet/steim.differences (function 91) -/
def F91_an : Nat → Keep × Keep := anF [(5, ⟨[3, 4], [], [7], [(0, 1)], [], [], [], [7], false⟩, ⟨[3], [], [7], [], [], [], [], [7], false⟩)] [(100006, ([3], []))]
noncomputable def F91_g (N : Nat) : GamK := gam (P := Tryz.prog) []
noncomputable def F91_l5 (N : Nat) : LSpec where
  X := (List (List AV)) × Nat × Int × (List AV)
  Y := (Nat × (List AV))
  p := fun s => match s.env.length, s.nin, s.at 0, s.at 3, s.at 4, s.bx 7 with
    | 28, 0, (AV.list 1 a0 none), (AV.vs 7 0 a1 1), (AV.v (.int .i64 a2)), some a3 => some (a0, a1, a2, a3)
    | _, _, _, _, _, _ => none
  st := fun x => mkS 28 [(0, (AV.list 1 x.1 none)), (3, (AV.vs 7 0 x.2.1 1)), (4, (AV.v (.int .i64 x.2.2.1)))] [(7, x.2.2.2)] (F91_an 5).1.toks 0
  out := fun y => (.exit 0, mkS 28 [(3, (AV.vs 7 0 y.1 1))] [(7, y.2)] (F91_an 5).2.toks 0)
  sp := fun y α k => k (.exit 0, mkS 28 [(3, (AV.vs 7 0 y.1 1))] [(7, y.2)] (F91_an 5).2.toks 0)
  spe := fun y α k => rfl
  b := fun x α kn ke => (match (decide (x.2.2.1 < (x.1.length : Int))) with | true => (if 0 ≤ x.2.2.1 then (match x.1[x.2.2.1.toNat]? with | some c9 => (match c9[0]? with | some x10 => (match x10 with | .v (.int q12 n11) => (if q12 = .i64 then (if 0 ≤ (i64 (x.2.2.1 - 1)) then (match x.1[(i64 (x.2.2.1 - 1)).toNat]? with | some c13 => (match c13[0]? with | some x14 => (match x14 with | .v (.int q16 n15) => (if q16 = .i64 then (if 0 ≤ x.2.2.1 ∧ x.2.2.1 < (x.2.1 : Int) then (if ((0 + x.2.2.1.toNat) * 1) + 1 ≤ x.2.2.2.length then (kn (x.1, x.2.1, (i64 (x.2.2.1 + 1)), ((x.2.2.2.set (((0 + x.2.2.1.toNat) * 1)) (AV.v (.int .i64 (i64 (n11 - n15))))).map dat0))) else none) else none) else none) | _ => none) | none => none) | none => none) else none) else none) | _ => none) | none => none) | none => none) else none) | false => (ke (x.2.1, (x.2.2.2.map dat0))))
noncomputable abbrev F91_d5 (N : Nat) (x : (List (List AV)) × Nat × Int × (List AV)) : Option ((Nat × (List AV))) := (F91_l5 N).L N x
noncomputable def F91_s (N : Nat) : FSpec where
  X := (List (List AV))
  Y := (List (List AV))
  ash := [[some 1]]
  bsh := []
  S := ⟨[[some 2000001]], [], [], [], []⟩
  bm := false
  pat := fun a b => match a, b with
    | [(AV.list 1 a0 none)], [] => some a0
    | _, _ => none
  args := fun x => [(AV.list 1 x none)]
  bs := fun x => []
  ret := fun y => ⟨(AV.list 1 y (some 2560000000)), [], none, [], [2560000000], []⟩
  t := fun x α k => (if 0 ≤ (x.length : Int) ∧ (x.length : Int) ≤ (x.length : Int) ∧ (x.length : Int).toNat * 8 ≤ maxBytes then (match F91_d5 N (x, ((x.length : Int).toNat), 1, ((List.replicate (x.length : Int).toNat (AV.v (.int .i64 0))).map dat0)) with | some y17 => (if y17.1 * 1 ≤ y17.2.length then (k (chunks (y17.2.take (y17.1 * 1)) 1 y17.1)) else none) | none => none) else none)
noncomputable abbrev F91_d (N : Nat) (x : (List (List AV))) : Option ((List (List AV))) := (F91_s N).d x
theorem F91_par5 (N : Nat) : Par (F91_l5 N).b := by
  intro x α β kn ke kn' ke' r r' h h1 h2
  revert h
  dsimp only [F91_l5]
  (repeat' (first | (with_reducible refine par_ite ?_ ?_) | (with_reducible refine par_both ?_ ?_) | split)) <;> intro h <;> first | exact h1 _ h | exact h2 _ h | (cases h; done)
theorem F91_body5 (N : Nat) (x : (F91_l5 N).X) (α : Type) (kn : AS → Option α) (ke : Out → Option α) : around (tabOf Tryz.prog) (F91_g N) F91_an (lam N [(5, F91_l5 N)]) 5 (bodyOf (nthLoop 5 (Tryz.f91.body.getD .skip))) ((F91_l5 N).st x) kn ke = (F91_l5 N).b x α (fun x' => kn ((F91_l5 N).st x')) (fun y => (F91_l5 N).sp y α ke) := by kernel_rfl
theorem F91_pat5 (N : Nat) (s : AS) (x : (F91_l5 N).X) (hc : s = canon (F91_an 5).1 s) (h : (F91_l5 N).p s = some x) : s = (F91_l5 N).st x := by
  dsimp only [F91_l5] at h
  split at h
  · cases h
    exact canon_mk hc ‹_› ‹_› rfl rfl rfl ⟨‹_›, ‹_›, ‹_›, trivial⟩ ⟨‹_›, trivial⟩
  · cases h
theorem F91_loop5 (N : Nat) : ∀ s o, s = canon (F91_an 5).1 s → (lam N [(5, F91_l5 N)]).v 5 s = some o → LoopSem Tryz.prog (nthLoop 5 (Tryz.f91.body.getD .skip)) s o :=
  loop_ok (tabOf_ok Tryz.prog) (gam_ok _) mixed F91_an N [(5, F91_l5 N)] 5 (bodyOf (nthLoop 5 (Tryz.f91.body.getD .skip))) (nthLoop 5 (Tryz.f91.body.getD .skip)) (by kernel_rfl) (by
    have e : actOf F91_an (bodyOf (nthLoop 5 (Tryz.f91.body.getD .skip))) (5 + 1) = [] := by kernel_rfl
    rw [e]
    intro p hp
    cases hp) (F91_l5 N) rfl (fun s x hc h => F91_pat5 N s x hc h) (fun x => rfl) (fun x α kn ke => (F91_body5 N x α kn ke).trans (congrArg ((F91_l5 N).b x α _) (funext fun y => (F91_l5 N).spe y α ke))) (F91_par5 N)
theorem F91_parF (N : Nat) : ParF (F91_s N).t := by
  intro x α β k k' r r' h h1
  revert h
  dsimp only [F91_s]
  (repeat' (first | (with_reducible refine par_ite ?_ ?_) | (with_reducible refine par_both ?_ ?_) | split)) <;> intro h <;> first | exact h1 _ h | (cases h; done)
theorem F91_text (N : Nat) (x : (F91_s N).X) : acall (tabOf Tryz.prog) (F91_g N) F91_an (lam N [(5, F91_l5 N)]) Tryz.f91 (F91_s N).S ((F91_s N).args x) ((F91_s N).bs x) = (F91_s N).t x Ret (fun y => some ((F91_s N).ret y)) := by kernel_rfl
theorem F91_pat (N : Nat) (a : List AV) (b : List (List AV)) (x : (F91_s N).X) (h : (F91_s N).pat a b = some x) : a = (F91_s N).args x ∧ b = (F91_s N).bs x := by
  dsimp only [F91_s] at h
  split at h
  · cases h; exact ⟨rfl, rfl⟩
  · cases h
noncomputable def F91_e (N : Nat) : Ent Tryz.prog := entOf (tabOf_ok Tryz.prog) (gam_ok _) mixed 91 Tryz.f91 Tryz.func91 rfl F91_an (lam N [(5, F91_l5 N)]) (by
    have e : actOf F91_an (Tryz.f91.body.getD .skip) 0 = [(5, nthLoop 5 (Tryz.f91.body.getD .skip))] := by kernel_rfl
    rw [e]
    intro p hp
    rcases List.mem_cons.1 hp with rfl | hp
    · exact F91_loop5 N
    cases hp) (F91_s N) (fun _ => ⟨rfl, rfl⟩) (F91_text N) (F91_pat N) (F91_parF N)
/-! ### seismonet/steim.counts (function 92) -/
def F92_an : Nat → Keep × Keep := anL []
noncomputable def F92_g (N : Nat) : GamK := gam (P := Tryz.prog) []
noncomputable def F92_s (N : Nat) : FSpec where
  X := Unit
  Y := Int × Int × Int × Int
  ash := []
  bsh := []
  S := ⟨[[none, none, none, none]], [], [], [], []⟩
  bm := false
  pat := fun a b => match a, b with
    | [], [] => some ()
    | _, _ => none
  args := fun x => []
  bs := fun x => []
  ret := fun y => ⟨(AV.agg [(AV.v (.int .i64 y.1)), (AV.v (.int .i64 y.2.1)), (AV.v (.int .i64 y.2.2.1)), (AV.v (.int .i64 y.2.2.2))]), [], none, [], [], []⟩
  t := fun x α k => (k (0, 4, 2, 1))
noncomputable abbrev F92_d (N : Nat) (x : Unit) : Option (Int × Int × Int × Int) := (F92_s N).d x
theorem F92_parF (N : Nat) : ParF (F92_s N).t := by
  intro x α β k k' r r' h h1
  revert h
  dsimp only [F92_s]
  (repeat' (first | (with_reducible refine par_ite ?_ ?_) | (with_reducible refine par_both ?_ ?_) | split)) <;> intro h <;> first | exact h1 _ h | (cases h; done)
theorem F92_text (N : Nat) (x : (F92_s N).X) : acall (tabOf Tryz.prog) (F92_g N) F92_an (lam N []) Tryz.f92 (F92_s N).S ((F92_s N).args x) ((F92_s N).bs x) = (F92_s N).t x Ret (fun y => some ((F92_s N).ret y)) := by kernel_rfl
theorem F92_pat (N : Nat) (a : List AV) (b : List (List AV)) (x : (F92_s N).X) (h : (F92_s N).pat a b = some x) : a = (F92_s N).args x ∧ b = (F92_s N).bs x := by
  dsimp only [F92_s] at h
  split at h
  · cases h; exact ⟨rfl, rfl⟩
  · cases h
noncomputable def F92_e (N : Nat) : Ent Tryz.prog := entOf (tabOf_ok Tryz.prog) (gam_ok _) mixed 92 Tryz.f92 Tryz.func92 rfl F92_an (lam N []) (by
    have e : actOf F92_an (Tryz.f92.body.getD .skip) 0 = [] := by kernel_rfl
    rw [e]
    intro p hp
    cases hp) (F92_s N) (fun _ => ⟨rfl, rfl⟩) (F92_text N) (F92_pat N) (F92_parF N)
/-! ### seismonet/bits.in (function 64) -/
def F64_an : Nat → Keep × Keep := anL []
noncomputable def F64_g (N : Nat) : GamK := gam (P := Tryz.prog) []
noncomputable def F64_s (N : Nat) : FSpec where
  X := Int × Int × Int
  Y := Bool
  ash := [[none], [none], [none]]
  bsh := []
  S := ⟨[[none]], [], [], [], []⟩
  bm := false
  pat := fun a b => match a, b with
    | [(AV.v (.int .i64 a0)), (AV.v (.int .i64 a1)), (AV.v (.int .i64 a2))], [] => some (a0, a1, a2)
    | _, _ => none
  args := fun x => [(AV.v (.int .i64 x.1)), (AV.v (.int .i64 x.2.1)), (AV.v (.int .i64 x.2.2))]
  bs := fun x => []
  ret := fun y => ⟨(AV.v (.bool y)), [], none, [], [], []⟩
  t := fun x α k => (match (decide (x.1 ≥ x.2.1)) with | true => (k (decide (x.1 ≤ x.2.2))) | false => (k false))
noncomputable abbrev F64_d (N : Nat) (x : Int × Int × Int) : Option (Bool) := (F64_s N).d x
theorem F64_parF (N : Nat) : ParF (F64_s N).t := by
  intro x α β k k' r r' h h1
  revert h
  dsimp only [F64_s]
  (repeat' (first | (with_reducible refine par_ite ?_ ?_) | (with_reducible refine par_both ?_ ?_) | split)) <;> intro h <;> first | exact h1 _ h | (cases h; done)
theorem F64_text (N : Nat) (x : (F64_s N).X) : acall (tabOf Tryz.prog) (F64_g N) F64_an (lam N []) Tryz.f64 (F64_s N).S ((F64_s N).args x) ((F64_s N).bs x) = (F64_s N).t x Ret (fun y => some ((F64_s N).ret y)) := by kernel_rfl
theorem F64_pat (N : Nat) (a : List AV) (b : List (List AV)) (x : (F64_s N).X) (h : (F64_s N).pat a b = some x) : a = (F64_s N).args x ∧ b = (F64_s N).bs x := by
  dsimp only [F64_s] at h
  split at h
  · cases h; exact ⟨rfl, rfl⟩
  · cases h
noncomputable def F64_e (N : Nat) : Ent Tryz.prog := entOf (tabOf_ok Tryz.prog) (gam_ok _) mixed 64 Tryz.f64 Tryz.func64 rfl F64_an (lam N []) (by
    have e : actOf F64_an (Tryz.f64.body.getD .skip) 0 = [] := by kernel_rfl
    rw [e]
    intro p hp
    cases hp) (F64_s N) (fun _ => ⟨rfl, rfl⟩) (F64_text N) (F64_pat N) (F64_parF N)
/-! ### seismonet/bits.Fits (function 96) -/
def F96_an : Nat → Keep × Keep := anL []
noncomputable def F96_g (N : Nat) : GamK := gam (P := Tryz.prog) [F64_e N]
noncomputable def F96_s (N : Nat) : FSpec where
  X := Int × Int
  Y := Bool
  ash := [[none], [none]]
  bsh := []
  S := ⟨[[none]], [], [], [], []⟩
  bm := false
  pat := fun a b => match a, b with
    | [(AV.v (.int .i64 a0)), (AV.v (.int .i64 a1))], [] => some (a0, a1)
    | _, _ => none
  args := fun x => [(AV.v (.int .i64 x.1)), (AV.v (.int .i64 x.2))]
  bs := fun x => []
  ret := fun y => ⟨(AV.v (.bool y)), [], none, [], [], []⟩
  t := fun x α k => (match F64_d N (x.2, 1, 56) with | some y1 => (match y1 with | true => (if (i64 (x.2 - 1)) < 0 then none else (if (i64 (x.2 - 1)) < 0 then none else (match F64_d N (x.1, (shL .i64 ((-1) : Int) (i64 (x.2 - 1))), (i64 ((shL .i64 (1 : Int) (i64 (x.2 - 1))) - 1))) with | some y2 => (k y2) | none => none))) | false => (k false)) | none => none)
noncomputable abbrev F96_d (N : Nat) (x : Int × Int) : Option (Bool) := (F96_s N).d x
theorem F96_parF (N : Nat) : ParF (F96_s N).t := by
  intro x α β k k' r r' h h1
  revert h
  dsimp only [F96_s]
  (repeat' (first | (with_reducible refine par_ite ?_ ?_) | (with_reducible refine par_both ?_ ?_) | split)) <;> intro h <;> first | exact h1 _ h | (cases h; done)
theorem F96_text (N : Nat) (x : (F96_s N).X) : acall (tabOf Tryz.prog) (F96_g N) F96_an (lam N []) Tryz.f96 (F96_s N).S ((F96_s N).args x) ((F96_s N).bs x) = (F96_s N).t x Ret (fun y => some ((F96_s N).ret y)) := by kernel_rfl
theorem F96_pat (N : Nat) (a : List AV) (b : List (List AV)) (x : (F96_s N).X) (h : (F96_s N).pat a b = some x) : a = (F96_s N).args x ∧ b = (F96_s N).bs x := by
  dsimp only [F96_s] at h
  split at h
  · cases h; exact ⟨rfl, rfl⟩
  · cases h
noncomputable def F96_e (N : Nat) : Ent Tryz.prog := entOf (tabOf_ok Tryz.prog) (gam_ok _) mixed 96 Tryz.f96 Tryz.func96 rfl F96_an (lam N []) (by
    have e : actOf F96_an (Tryz.f96.body.getD .skip) 0 = [] := by kernel_rfl
    rw [e]
    intro p hp
    cases hp) (F96_s N) (fun _ => ⟨rfl, rfl⟩) (F96_text N) (F96_pat N) (F96_parF N)
/-! ### seismonet/steim.fit$1 (function 111) -/
def F111_an : Nat → Keep × Keep := anL []
noncomputable def F111_g (N : Nat) : GamK := gam (P := Tryz.prog) [F96_e N]
noncomputable def F111_s (N : Nat) : FSpec where
  X := Int × Int
  Y := Bool × Int
  ash := [[none], [none]]
  bsh := [[none]]
  S := ⟨[[none]], [[]], [], [], []⟩
  bm := false
  pat := fun a b => match a, b with
    | [(AV.v (.int .i64 a0)), (AV.ptr 0 0)], [[(AV.v (.int .i64 a1))]] => some (a0, a1)
    | _, _ => none
  args := fun x => [(AV.v (.int .i64 x.1)), (AV.ptr 0 0)]
  bs := fun x => [[(AV.v (.int .i64 x.2))]]
  ret := fun y => ⟨(AV.v (.bool y.1)), [[(AV.v (.int .i64 y.2))]], none, [], [], []⟩
  t := fun x α k => (match F96_d N (x.1, x.2) with | some y1 => (k ((!y1), x.2)) | none => none)
noncomputable abbrev F111_d (N : Nat) (x : Int × Int) : Option (Bool × Int) := (F111_s N).d x
theorem F111_parF (N : Nat) : ParF (F111_s N).t := by
  intro x α β k k' r r' h h1
  revert h
  dsimp only [F111_s]
  (repeat' (first | (with_reducible refine par_ite ?_ ?_) | (with_reducible refine par_both ?_ ?_) | split)) <;> intro h <;> first | exact h1 _ h | (cases h; done)
theorem F111_text (N : Nat) (x : (F111_s N).X) : acall (tabOf Tryz.prog) (F111_g N) F111_an (lam N []) Tryz.f111 (F111_s N).S ((F111_s N).args x) ((F111_s N).bs x) = (F111_s N).t x Ret (fun y => some ((F111_s N).ret y)) := by kernel_rfl
theorem F111_pat (N : Nat) (a : List AV) (b : List (List AV)) (x : (F111_s N).X) (h : (F111_s N).pat a b = some x) : a = (F111_s N).args x ∧ b = (F111_s N).bs x := by
  dsimp only [F111_s] at h
  split at h
  · cases h; exact ⟨rfl, rfl⟩
  · cases h
noncomputable def F111_e (N : Nat) : Ent Tryz.prog := entOf (tabOf_ok Tryz.prog) (gam_ok _) mixed 111 Tryz.f111 Tryz.func111 rfl F111_an (lam N []) (by
    have e : actOf F111_an (Tryz.f111.body.getD .skip) 0 = [] := by kernel_rfl
    rw [e]
    intro p hp
    cases hp) (F111_s N) (fun _ => ⟨rfl, rfl⟩) (F111_text N) (F111_pat N) (F111_parF N)
/-! ### slices.IndexFunc[[]int,int] (function 110) -/
def F110a_an : Nat → Keep × Keep := anL [(4, ⟨[1, 7, 8], [], [0], [(0, 1)], [], [], [], [], false⟩, ⟨[4], [], [0], [], [], [], [], [], false⟩)]
noncomputable def F110a_g (N : Nat) : GamK := gam (P := Tryz.prog) [F111_e N]
noncomputable def F110a_l4 (N : Nat) : LSpec where
  X := (List (List AV)) × Int × Int × Int
  Y := (Int × Int) ⊕ (Int)
  p := fun s => match s.env.length, s.nin, s.at 0, s.at 1, s.at 7, s.at 8, s.bx 0 with
    | 19, 1, (AV.list 1 a0 none), (AV.fn (.func 111) [] [(AV.ptr 0 0)]), (AV.v (.int .i64 a1)), (AV.v (.int .i64 a2)), some [(AV.v (.int .i64 a3))] => some (a0, a1, a2, a3)
    | _, _, _, _, _, _, _ => none
  st := fun x => mkS 19 [(0, (AV.list 1 x.1 none)), (1, (AV.fn (.func 111) [] [(AV.ptr 0 0)])), (7, (AV.v (.int .i64 x.2.1))), (8, (AV.v (.int .i64 x.2.2.1)))] [(0, [(AV.v (.int .i64 x.2.2.2))])] (F110a_an 4).1.toks 1
  out := fun y => match y with
    | .inl y => (.ret, mkS 19 [(4, (AV.v (.int .i64 y.1)))] [(0, [(AV.v (.int .i64 y.2))])] (F110a_an 4).2.toks 1)
    | .inr y => (.exit 0, mkS 19 [] [(0, [(AV.v (.int .i64 y))])] (F110a_an 4).2.toks 1)
  sp := fun y α k => match y with
    | .inl y => k (.ret, mkS 19 [(4, (AV.v (.int .i64 y.1)))] [(0, [(AV.v (.int .i64 y.2))])] (F110a_an 4).2.toks 1)
    | .inr y => k (.exit 0, mkS 19 [] [(0, [(AV.v (.int .i64 y))])] (F110a_an 4).2.toks 1)
  spe := fun y α k => by rcases y with _ | _ <;> rfl
  b := fun x α kn ke => (match (decide (x.2.2.1 < x.2.1)) with | true => (if 0 ≤ x.2.2.1 then (match x.1[x.2.2.1.toNat]? with | some c6 => (match c6[0]? with | some x7 => (match x7 with | .v (.int q9 n8) => (if q9 = .i64 then (match F111_d N (n8, x.2.2.2) with | some y10 => (match y10.1 with | true => (ke (.inl (x.2.2.1, y10.2))) | false => (kn (x.1, x.2.1, (i64 (x.2.2.1 + 1)), y10.2))) | none => none) else none) | _ => none) | none => none) | none => none) else none) | false => (ke (.inr x.2.2.2)))
noncomputable abbrev F110a_d4 (N : Nat) (x : (List (List AV)) × Int × Int × Int) : Option ((Int × Int) ⊕ (Int)) := (F110a_l4 N).L N x
noncomputable def F110a_s (N : Nat) : FSpec where
  X := (List (List AV)) × Int
  Y := Int × Int
  ash := [[some 1], [none]]
  bsh := [[none]]
  S := ⟨[[none]], [[]], [], [], []⟩
  bm := false
  pat := fun a b => match a, b with
    | [(AV.list 1 a0 none), (AV.fn (.func 111) [] [(AV.ptr 0 0)])], [[(AV.v (.int .i64 a1))]] => some (a0, a1)
    | _, _ => none
  args := fun x => [(AV.list 1 x.1 none), (AV.fn (.func 111) [] [(AV.ptr 0 0)])]
  bs := fun x => [[(AV.v (.int .i64 x.2))]]
  ret := fun y => ⟨(AV.v (.int .i64 y.1)), [[(AV.v (.int .i64 y.2))]], none, [], [], []⟩
  t := fun x α k => (match F110a_d4 N (x.1, (x.1.length : Int), 0, x.2) with | some y11 => (match y11 with | .inl z12 => (k (z12.1, z12.2)) | .inr z13 => (k ((-1), z13))) | none => none)
noncomputable abbrev F110a_d (N : Nat) (x : (List (List AV)) × Int) : Option (Int × Int) := (F110a_s N).d x
theorem F110a_par4 (N : Nat) : Par (F110a_l4 N).b := by
  intro x α β kn ke kn' ke' r r' h h1 h2
  revert h
  dsimp only [F110a_l4]
  (repeat' (first | (with_reducible refine par_ite ?_ ?_) | (with_reducible refine par_both ?_ ?_) | split)) <;> intro h <;> first | exact h1 _ h | exact h2 _ h | (cases h; done)
theorem F110a_body4 (N : Nat) (x : (F110a_l4 N).X) (α : Type) (kn : AS → Option α) (ke : Out → Option α) : around (tabOf Tryz.prog) (F110a_g N) F110a_an (lam N [(4, F110a_l4 N)]) 4 (bodyOf (nthLoop 4 (Tryz.f110.body.getD .skip))) ((F110a_l4 N).st x) kn ke = (F110a_l4 N).b x α (fun x' => kn ((F110a_l4 N).st x')) (fun y => (F110a_l4 N).sp y α ke) := by kernel_rfl
theorem F110a_pat4 (N : Nat) (s : AS) (x : (F110a_l4 N).X) (hc : s = canon (F110a_an 4).1 s) (h : (F110a_l4 N).p s = some x) : s = (F110a_l4 N).st x := by
  dsimp only [F110a_l4] at h
  split at h
  · cases h
    exact canon_mk hc ‹_› ‹_› rfl rfl rfl ⟨‹_›, ‹_›, ‹_›, ‹_›, trivial⟩ ⟨‹_›, trivial⟩
  · cases h
theorem F110a_loop4 (N : Nat) : ∀ s o, s = canon (F110a_an 4).1 s → (lam N [(4, F110a_l4 N)]).v 4 s = some o → LoopSem Tryz.prog (nthLoop 4 (Tryz.f110.body.getD .skip)) s o :=
  loop_ok (tabOf_ok Tryz.prog) (gam_ok _) mixed F110a_an N [(4, F110a_l4 N)] 4 (bodyOf (nthLoop 4 (Tryz.f110.body.getD .skip))) (nthLoop 4 (Tryz.f110.body.getD .skip)) (by kernel_rfl) (by
    have e : actOf F110a_an (bodyOf (nthLoop 4 (Tryz.f110.body.getD .skip))) (4 + 1) = [] := by kernel_rfl
    rw [e]
    intro p hp
    cases hp) (F110a_l4 N) rfl (fun s x hc h => F110a_pat4 N s x hc h) (fun x => rfl) (fun x α kn ke => (F110a_body4 N x α kn ke).trans (congrArg ((F110a_l4 N).b x α _) (funext fun y => (F110a_l4 N).spe y α ke))) (F110a_par4 N)
theorem F110a_parF (N : Nat) : ParF (F110a_s N).t := by
  intro x α β k k' r r' h h1
  revert h
  dsimp only [F110a_s]
  (repeat' (first | (with_reducible refine par_ite ?_ ?_) | (with_reducible refine par_both ?_ ?_) | split)) <;> intro h <;> first | exact h1 _ h | (cases h; done)
theorem F110a_text (N : Nat) (x : (F110a_s N).X) : acall (tabOf Tryz.prog) (F110a_g N) F110a_an (lam N [(4, F110a_l4 N)]) Tryz.f110 (F110a_s N).S ((F110a_s N).args x) ((F110a_s N).bs x) = (F110a_s N).t x Ret (fun y => some ((F110a_s N).ret y)) := by kernel_rfl
theorem F110a_pat (N : Nat) (a : List AV) (b : List (List AV)) (x : (F110a_s N).X) (h : (F110a_s N).pat a b = some x) : a = (F110a_s N).args x ∧ b = (F110a_s N).bs x := by
  dsimp only [F110a_s] at h
  split at h
  · cases h; exact ⟨rfl, rfl⟩
  · cases h
noncomputable def F110a_e (N : Nat) : Ent Tryz.prog := entOf (tabOf_ok Tryz.prog) (gam_ok _) mixed 110 Tryz.f110 Tryz.func110 rfl F110a_an (lam N [(4, F110a_l4 N)]) (by
    have e : actOf F110a_an (Tryz.f110.body.getD .skip) 0 = [(4, nthLoop 4 (Tryz.f110.body.getD .skip))] := by kernel_rfl
    rw [e]
    intro p hp
    rcases List.mem_cons.1 hp with rfl | hp
    · exact F110a_loop4 N
    cases hp) (F110a_s N) (fun _ => ⟨rfl, rfl⟩) (F110a_text N) (F110a_pat N) (F110a_parF N)
/-! ### slices.ContainsFunc[[]int,int] (function 88) -/
def F88a_an : Nat → Keep × Keep := anL []
noncomputable def F88a_g (N : Nat) : GamK := gam (P := Tryz.prog) [F110a_e N]
noncomputable def F88a_s (N : Nat) : FSpec where
  X := (List (List AV)) × Int
  Y := Bool × Int
  ash := [[some 1], [none]]
  bsh := [[none]]
  S := ⟨[[none]], [[none]], [], [], []⟩
  bm := false
  pat := fun a b => match a, b with
    | [(AV.list 1 a0 none), (AV.fn (.func 111) [] [(AV.ptr 0 0)])], [[(AV.v (.int .i64 a1))]] => some (a0, a1)
    | _, _ => none
  args := fun x => [(AV.list 1 x.1 none), (AV.fn (.func 111) [] [(AV.ptr 0 0)])]
  bs := fun x => [[(AV.v (.int .i64 x.2))]]
  ret := fun y => ⟨(AV.v (.bool y.1)), [[(AV.v (.int .i64 y.2))]], none, [], [], []⟩
  t := fun x α k => (match F110a_d N (x.1, x.2) with | some y1 => (k ((decide (y1.1 ≥ 0)), y1.2)) | none => none)
noncomputable abbrev F88a_d (N : Nat) (x : (List (List AV)) × Int) : Option (Bool × Int) := (F88a_s N).d x
theorem F88a_parF (N : Nat) : ParF (F88a_s N).t := by
  intro x α β k k' r r' h h1
  revert h
  dsimp only [F88a_s]
  (repeat' (first | (with_reducible refine par_ite ?_ ?_) | (with_reducible refine par_both ?_ ?_) | split)) <;> intro h <;> first | exact h1 _ h | (cases h; done)
theorem F88a_text (N : Nat) (x : (F88a_s N).X) : acall (tabOf Tryz.prog) (F88a_g N) F88a_an (lam N []) Tryz.f88 (F88a_s N).S ((F88a_s N).args x) ((F88a_s N).bs x) = (F88a_s N).t x Ret (fun y => some ((F88a_s N).ret y)) := by kernel_rfl
theorem F88a_pat (N : Nat) (a : List AV) (b : List (List AV)) (x : (F88a_s N).X) (h : (F88a_s N).pat a b = some x) : a = (F88a_s N).args x ∧ b = (F88a_s N).bs x := by
  dsimp only [F88a_s] at h
  split at h
  · cases h; exact ⟨rfl, rfl⟩
  · cases h
noncomputable def F88a_e (N : Nat) : Ent Tryz.prog := entOf (tabOf_ok Tryz.prog) (gam_ok _) mixed 88 Tryz.f88 Tryz.func88 rfl F88a_an (lam N []) (by
    have e : actOf F88a_an (Tryz.f88.body.getD .skip) 0 = [] := by kernel_rfl
    rw [e]
    intro p hp
    cases hp) (F88a_s N) (fun _ => ⟨rfl, rfl⟩) (F88a_text N) (F88a_pat N) (F88a_parF N)
/-! ### seismonet/steim.fit (function 93) -/
def F93_an : Nat → Keep × Keep := anL []
noncomputable def F93_g (N : Nat) : GamK := gam (P := Tryz.prog) [F88a_e N]
noncomputable def F93_s (N : Nat) : FSpec where
  X := (List (List AV)) × Int × Int
  Y := Bool
  ash := [[some 1], [none], [none]]
  bsh := []
  S := ⟨[[none]], [], [], [], []⟩
  bm := false
  pat := fun a b => match a, b with
    | [(AV.list 1 a0 none), (AV.v (.int .i64 a1)), (AV.v (.int .i64 a2))], [] => some (a0, a1, a2)
    | _, _ => none
  args := fun x => [(AV.list 1 x.1 none), (AV.v (.int .i64 x.2.1)), (AV.v (.int .i64 x.2.2))]
  bs := fun x => []
  ret := fun y => ⟨(AV.v (.bool y)), [], none, [], [], []⟩
  t := fun x α k => (match (decide ((x.1.length : Int) ≥ x.2.1)) with | true => (if 0 ≤ x.2.1 ∧ x.2.1 ≤ x.1.length then (match F88a_d N ((x.1.take x.2.1.toNat), x.2.2) with | some y1 => (k (!y1.1)) | none => none) else none) | false => (k false))
noncomputable abbrev F93_d (N : Nat) (x : (List (List AV)) × Int × Int) : Option (Bool) := (F93_s N).d x
theorem F93_parF (N : Nat) : ParF (F93_s N).t := by
  intro x α β k k' r r' h h1
  revert h
  dsimp only [F93_s]
  (repeat' (first | (with_reducible refine par_ite ?_ ?_) | (with_reducible refine par_both ?_ ?_) | split)) <;> intro h <;> first | exact h1 _ h | (cases h; done)
theorem F93_text (N : Nat) (x : (F93_s N).X) : acall (tabOf Tryz.prog) (F93_g N) F93_an (lam N []) Tryz.f93 (F93_s N).S ((F93_s N).args x) ((F93_s N).bs x) = (F93_s N).t x Ret (fun y => some ((F93_s N).ret y)) := by kernel_rfl
theorem F93_pat (N : Nat) (a : List AV) (b : List (List AV)) (x : (F93_s N).X) (h : (F93_s N).pat a b = some x) : a = (F93_s N).args x ∧ b = (F93_s N).bs x := by
  dsimp only [F93_s] at h
  split at h
  · cases h; exact ⟨rfl, rfl⟩
  · cases h
noncomputable def F93_e (N : Nat) : Ent Tryz.prog := entOf (tabOf_ok Tryz.prog) (gam_ok _) mixed 93 Tryz.f93 Tryz.func93 rfl F93_an (lam N []) (by
    have e : actOf F93_an (Tryz.f93.body.getD .skip) 0 = [] := by kernel_rfl
    rw [e]
    intro p hp
    cases hp) (F93_s N) (fun _ => ⟨rfl, rfl⟩) (F93_text N) (F93_pat N) (F93_parF N)
/-! ### seismonet/bits.Wrap (function 62) -/
def F62_an : Nat → Keep × Keep := anL []
noncomputable def F62_g (N : Nat) : GamK := gam (P := Tryz.prog) [F96_e N]
noncomputable def F62_s (N : Nat) : FSpec where
  X := Int × Int
  Y := Int × Int
  ash := [[none], [none]]
  bsh := []
  S := ⟨[[none], [none]], [], [], [], []⟩
  bm := false
  pat := fun a b => match a, b with
    | [(AV.v (.int .i64 a0)), (AV.v (.int .i64 a1))], [] => some (a0, a1)
    | _, _ => none
  args := fun x => [(AV.v (.int .i64 x.1)), (AV.v (.int .i64 x.2))]
  bs := fun x => []
  ret := fun y => ⟨(AV.tup [(AV.v (.int .i64 y.1)), (AV.v (.int .i64 y.2))]), [], none, [], [], []⟩
  t := fun x α k => (match F96_d N (x.1, x.2) with | some y1 => (match (!y1) with | true => (k (0, 2)) | false => (if x.2 < 0 then none else (k ((bAnd .i64 x.1 (i64 ((shL .i64 (1 : Int) x.2) - 1))), 0)))) | none => none)
noncomputable abbrev F62_d (N : Nat) (x : Int × Int) : Option (Int × Int) := (F62_s N).d x
theorem F62_parF (N : Nat) : ParF (F62_s N).t := by
  intro x α β k k' r r' h h1
  revert h
  dsimp only [F62_s]
  (repeat' (first | (with_reducible refine par_ite ?_ ?_) | (with_reducible refine par_both ?_ ?_) | split)) <;> intro h <;> first | exact h1 _ h | (cases h; done)
theorem F62_text (N : Nat) (x : (F62_s N).X) : acall (tabOf Tryz.prog) (F62_g N) F62_an (lam N []) Tryz.f62 (F62_s N).S ((F62_s N).args x) ((F62_s N).bs x) = (F62_s N).t x Ret (fun y => some ((F62_s N).ret y)) := by kernel_rfl
theorem F62_pat (N : Nat) (a : List AV) (b : List (List AV)) (x : (F62_s N).X) (h : (F62_s N).pat a b = some x) : a = (F62_s N).args x ∧ b = (F62_s N).bs x := by
  dsimp only [F62_s] at h
  split at h
  · cases h; exact ⟨rfl, rfl⟩
  · cases h
noncomputable def F62_e (N : Nat) : Ent Tryz.prog := entOf (tabOf_ok Tryz.prog) (gam_ok _) mixed 62 Tryz.f62 Tryz.func62 rfl F62_an (lam N []) (by
    have e : actOf F62_an (Tryz.f62.body.getD .skip) 0 = [] := by kernel_rfl
    rw [e]
    intro p hp
    cases hp) (F62_s N) (fun _ => ⟨rfl, rfl⟩) (F62_text N) (F62_pat N) (F62_parF N)
/-! ### seismonet/steim.pack (function 94) -/
def F94_an : Nat → Keep × Keep := anL [(5, ⟨[1, 5, 11, 12], [], [], [(10, 1)], [], [], [], [], false⟩, ⟨[5], [], [], [], [], [], [], [], false⟩)]
noncomputable def F94_g (N : Nat) : GamK := gam (P := Tryz.prog) [F62_e N]
noncomputable def F94_l5 (N : Nat) : LSpec where
  X := (List (List AV)) × Int × Int × Int × Int
  Y := (Int)
  p := fun s => match s.env.length, s.nin, s.at 10, s.at 1, s.at 5, s.at 11, s.at 12 with
    | 29, 0, (AV.list 1 a0 none), (AV.v (.int .i64 a1)), (AV.v (.int .i64 a2)), (AV.v (.int .i64 a3)), (AV.v (.int .i64 a4)) => some (a0, a1, a2, a3, a4)
    | _, _, _, _, _, _, _ => none
  st := fun x => mkS 29 [(10, (AV.list 1 x.1 none)), (1, (AV.v (.int .i64 x.2.1))), (5, (AV.v (.int .i64 x.2.2.1))), (11, (AV.v (.int .i64 x.2.2.2.1))), (12, (AV.v (.int .i64 x.2.2.2.2)))] [] (F94_an 5).1.toks 0
  out := fun y => (.exit 0, mkS 29 [(5, (AV.v (.int .i64 y)))] [] (F94_an 5).2.toks 0)
  sp := fun y α k => k (.exit 0, mkS 29 [(5, (AV.v (.int .i64 y)))] [] (F94_an 5).2.toks 0)
  spe := fun y α k => rfl
  b := fun x α kn ke => (match (decide (x.2.2.2.2 < x.2.2.2.1)) with | true => (if 0 ≤ x.2.2.2.2 then (match x.1[x.2.2.2.2.toNat]? with | some c1 => (match c1[0]? with | some x2 => (match x2 with | .v (.int q4 n3) => (if q4 = .i64 then (match F62_d N (n3, x.2.1) with | some y5 => (if x.2.1 < 0 then none else (kn (x.1, x.2.1, (bOr .i64 (shL .i64 x.2.2.1 x.2.1) y5.1), x.2.2.2.1, (i64 (x.2.2.2.2 + 1))))) | none => none) else none) | _ => none) | none => none) | none => none) else none) | false => (ke x.2.2.1))
noncomputable abbrev F94_d5 (N : Nat) (x : (List (List AV)) × Int × Int × Int × Int) : Option ((Int)) := (F94_l5 N).L N x
noncomputable def F94_s (N : Nat) : FSpec where
  X := (List (List AV)) × Int
  Y := Int
  ash := [[some 1], [none]]
  bsh := []
  S := ⟨[[none]], [], [], [], []⟩
  bm := false
  pat := fun a b => match a, b with
    | [(AV.list 1 a0 none), (AV.v (.int .i64 a1))], [] => some (a0, a1)
    | _, _ => none
  args := fun x => [(AV.list 1 x.1 none), (AV.v (.int .i64 x.2))]
  bs := fun x => []
  ret := fun y => ⟨(AV.v (.int .i64 y)), [], none, [], [], []⟩
  t := fun x α k => (match F94_d5 N (x.1, x.2, 0, (x.1.length : Int), 0) with | some y6 => (k y6) | none => none)
noncomputable abbrev F94_d (N : Nat) (x : (List (List AV)) × Int) : Option (Int) := (F94_s N).d x
theorem F94_par5 (N : Nat) : Par (F94_l5 N).b := by
  intro x α β kn ke kn' ke' r r' h h1 h2
  revert h
  dsimp only [F94_l5]
  (repeat' (first | (with_reducible refine par_ite ?_ ?_) | (with_reducible refine par_both ?_ ?_) | split)) <;> intro h <;> first | exact h1 _ h | exact h2 _ h | (cases h; done)
theorem F94_body5 (N : Nat) (x : (F94_l5 N).X) (α : Type) (kn : AS → Option α) (ke : Out → Option α) : around (tabOf Tryz.prog) (F94_g N) F94_an (lam N [(5, F94_l5 N)]) 5 (bodyOf (nthLoop 5 (Tryz.f94.body.getD .skip))) ((F94_l5 N).st x) kn ke = (F94_l5 N).b x α (fun x' => kn ((F94_l5 N).st x')) (fun y => (F94_l5 N).sp y α ke) := by kernel_rfl
theorem F94_pat5 (N : Nat) (s : AS) (x : (F94_l5 N).X) (hc : s = canon (F94_an 5).1 s) (h : (F94_l5 N).p s = some x) : s = (F94_l5 N).st x := by
  dsimp only [F94_l5] at h
  split at h
  · cases h
    exact canon_mk hc ‹_› ‹_› rfl rfl rfl ⟨‹_›, ‹_›, ‹_›, ‹_›, ‹_›, trivial⟩ trivial
  · cases h
theorem F94_loop5 (N : Nat) : ∀ s o, s = canon (F94_an 5).1 s → (lam N [(5, F94_l5 N)]).v 5 s = some o → LoopSem Tryz.prog (nthLoop 5 (Tryz.f94.body.getD .skip)) s o :=
  loop_ok (tabOf_ok Tryz.prog) (gam_ok _) mixed F94_an N [(5, F94_l5 N)] 5 (bodyOf (nthLoop 5 (Tryz.f94.body.getD .skip))) (nthLoop 5 (Tryz.f94.body.getD .skip)) (by kernel_rfl) (by
    have e : actOf F94_an (bodyOf (nthLoop 5 (Tryz.f94.body.getD .skip))) (5 + 1) = [] := by kernel_rfl
    rw [e]
    intro p hp
    cases hp) (F94_l5 N) rfl (fun s x hc h => F94_pat5 N s x hc h) (fun x => rfl) (fun x α kn ke => (F94_body5 N x α kn ke).trans (congrArg ((F94_l5 N).b x α _) (funext fun y => (F94_l5 N).spe y α ke))) (F94_par5 N)
theorem F94_parF (N : Nat) : ParF (F94_s N).t := by
  intro x α β k k' r r' h h1
  revert h
  dsimp only [F94_s]
  (repeat' (first | (with_reducible refine par_ite ?_ ?_) | (with_reducible refine par_both ?_ ?_) | split)) <;> intro h <;> first | exact h1 _ h | (cases h; done)
theorem F94_text (N : Nat) (x : (F94_s N).X) : acall (tabOf Tryz.prog) (F94_g N) F94_an (lam N [(5, F94_l5 N)]) Tryz.f94 (F94_s N).S ((F94_s N).args x) ((F94_s N).bs x) = (F94_s N).t x Ret (fun y => some ((F94_s N).ret y)) := by kernel_rfl
theorem F94_pat (N : Nat) (a : List AV) (b : List (List AV)) (x : (F94_s N).X) (h : (F94_s N).pat a b = some x) : a = (F94_s N).args x ∧ b = (F94_s N).bs x := by
  dsimp only [F94_s] at h
  split at h
  · cases h; exact ⟨rfl, rfl⟩
  · cases h
noncomputable def F94_e (N : Nat) : Ent Tryz.prog := entOf (tabOf_ok Tryz.prog) (gam_ok _) mixed 94 Tryz.f94 Tryz.func94 rfl F94_an (lam N [(5, F94_l5 N)]) (by
    have e : actOf F94_an (Tryz.f94.body.getD .skip) 0 = [(5, nthLoop 5 (Tryz.f94.body.getD .skip))] := by kernel_rfl
    rw [e]
    intro p hp
    rcases List.mem_cons.1 hp with rfl | hp
    · exact F94_loop5 N
    cases hp) (F94_s N) (fun _ => ⟨rfl, rfl⟩) (F94_text N) (F94_pat N) (F94_parF N)
/-! ### seismonet/steim.compress (function 60) -/
def F60_an : Nat → Keep × Keep := anL [(9, ⟨[], [(4, 2)], [], [(5, 1)], [], [], [], [], false⟩, ⟨[], [(4, 2)], [], [], [], [], [], [], false⟩), (16, ⟨[6], [(4, 2)], [], [(5, 1)], [], [], [], [], false⟩, ⟨[], [(4, 2)], [], [(5, 1)], [], [], [], [], false⟩)]
noncomputable def F60_g (N : Nat) : GamK := gam (P := Tryz.prog) [F88_e N, F91_e N, F92_e N, F93_e N, F94_e N]
noncomputable def F60_l16 (N : Nat) : LSpec where
  X := (List (List AV)) × (List (List AV)) × Int
  Y := ((List (List AV)) × (List (List AV)))
  p := fun s => match s.env.length, s.nin, s.at 4, s.at 5, s.at 6 with
    | 48, 0, (AV.list 2 a0 (some 1280000256)), (AV.list 1 a1 none), (AV.v (.int .i64 a2)) => some (a0, a1, a2)
    | _, _, _, _, _ => none
  st := fun x => mkS 48 [(4, (AV.list 2 x.1 (some 1280000256))), (5, (AV.list 1 x.2.1 none)), (6, (AV.v (.int .i64 x.2.2)))] [] (F60_an 16).1.toks 0
  out := fun y => (.exit 2, mkS 48 [(4, (AV.list 2 y.1 (some 1280000256))), (5, (AV.list 1 y.2 none))] [] (F60_an 16).2.toks 0)
  sp := fun y α k => k (.exit 2, mkS 48 [(4, (AV.list 2 y.1 (some 1280000256))), (5, (AV.list 1 y.2 none))] [] (F60_an 16).2.toks 0)
  spe := fun y α k => rfl
  b := fun x α kn ke => (match (decide (x.2.2 ≤ 3)) with | true => (match F92_d N () with | some y3 => (if 0 ≤ x.2.2 ∧ x.2.2 < 4 then (match [(AV.v (.int .i64 y3.1)), (AV.v (.int .i64 y3.2.1)), (AV.v (.int .i64 y3.2.2.1)), (AV.v (.int .i64 y3.2.2.2))][(x.2.2.toNat * 1)]? with | some x4 => (match x4 with | .v (.int q6 n5) => (if q6 = .i64 then (if n5 = 0 then none else (match F93_d N (x.2.1, n5, (i64 ((32 : Int).tdiv n5))) with | some y7 => (match (!y7) with | true => (kn (x.1, x.2.1, (i64 (x.2.2 + 1)))) | false => (if 0 ≤ n5 ∧ n5 ≤ x.2.1.length then (if n5 = 0 then none else (match F94_d N ((x.2.1.take n5.toNat), (i64 ((32 : Int).tdiv n5))) with | some y8 => (if (x.1.length + [[(AV.v (.int .i64 x.2.2)), (AV.v (.int .i64 y8))]].length) * 16 ≤ maxBytes then (if 0 ≤ n5 ∧ n5 ≤ x.2.1.length then (ke ((x.1 ++ [[(AV.v (.int .i64 x.2.2)), (AV.v (.int .i64 y8))]]), (x.2.1.drop n5.toNat))) else none) else none) | none => none)) else none)) | none => none)) else none) | _ => none) | none => none) else none) | none => none) | false => (ke (x.1, x.2.1)))
noncomputable abbrev F60_d16 (N : Nat) (x : (List (List AV)) × (List (List AV)) × Int) : Option (((List (List AV)) × (List (List AV)))) := (F60_l16 N).L N x
noncomputable def F60_l9 (N : Nat) : LSpec where
  X := (List (List AV)) × (List (List AV))
  Y := ((List (List AV)))
  p := fun s => match s.env.length, s.nin, s.at 4, s.at 5 with
    | 48, 0, (AV.list 2 a0 (some 1280000256)), (AV.list 1 a1 none) => some (a0, a1)
    | _, _, _, _ => none
  st := fun x => mkS 48 [(4, (AV.list 2 x.1 (some 1280000256))), (5, (AV.list 1 x.2 none))] [] (F60_an 9).1.toks 0
  out := fun y => (.exit 0, mkS 48 [(4, (AV.list 2 y (some 1280000256)))] [] (F60_an 9).2.toks 0)
  sp := fun y α k => k (.exit 0, mkS 48 [(4, (AV.list 2 y (some 1280000256)))] [] (F60_an 9).2.toks 0)
  spe := fun y α k => rfl
  b := fun x α kn ke => (match (decide ((x.2.length : Int) > 0)) with | true => (match F60_d16 N (x.1, x.2, 1) with | some y9 => (kn (y9.1, y9.2)) | none => none) | false => (ke x.1))
noncomputable abbrev F60_d9 (N : Nat) (x : (List (List AV)) × (List (List AV))) : Option (((List (List AV)))) := (F60_l9 N).L N x
noncomputable def F60_s (N : Nat) : FSpec where
  X := (List (List AV))
  Y := (List (List AV)) × Bool
  ash := [[some 1]]
  bsh := []
  S := ⟨[[some 2000002], [none]], [], [], [], []⟩
  bm := false
  pat := fun a b => match a, b with
    | [(AV.list 1 a0 none)], [] => some a0
    | _, _ => none
  args := fun x => [(AV.list 1 x none)]
  bs := fun x => []
  ret := fun y => ⟨(AV.tup [(AV.list 2 y.1 (some 2560000000)), (AV.v (.bool y.2))]), [], none, [], [2560000000], []⟩
  t := fun x α k => (match ((x.length : Int) == 0) with | true => (k (([] : List (List AV)), false)) | false => (match F88_d N x with | some y1 => (match y1 with | true => (k (([] : List (List AV)), false)) | false => (match F91_d N x with | some y2 => (match F60_d9 N (([] : List (List AV)), y2) with | some y10 => (k (y10, true)) | none => none) | none => none)) | none => none))
noncomputable abbrev F60_d (N : Nat) (x : (List (List AV))) : Option ((List (List AV)) × Bool) := (F60_s N).d x
theorem F60_par16 (N : Nat) : Par (F60_l16 N).b := by
  intro x α β kn ke kn' ke' r r' h h1 h2
  revert h
  dsimp only [F60_l16]
  (repeat' (first | (with_reducible refine par_ite ?_ ?_) | (with_reducible refine par_both ?_ ?_) | split)) <;> intro h <;> first | exact h1 _ h | exact h2 _ h | (cases h; done)
theorem F60_body16 (N : Nat) (x : (F60_l16 N).X) (α : Type) (kn : AS → Option α) (ke : Out → Option α) : around (tabOf Tryz.prog) (F60_g N) F60_an (lam N [(9, F60_l9 N), (16, F60_l16 N)]) 16 (bodyOf (nthLoop 16 (Tryz.f60.body.getD .skip))) ((F60_l16 N).st x) kn ke = (F60_l16 N).b x α (fun x' => kn ((F60_l16 N).st x')) (fun y => (F60_l16 N).sp y α ke) := by kernel_rfl
theorem F60_pat16 (N : Nat) (s : AS) (x : (F60_l16 N).X) (hc : s = canon (F60_an 16).1 s) (h : (F60_l16 N).p s = some x) : s = (F60_l16 N).st x := by
  dsimp only [F60_l16] at h
  split at h
  · cases h
    exact canon_mk hc ‹_› ‹_› rfl rfl rfl ⟨‹_›, ‹_›, ‹_›, trivial⟩ trivial
  · cases h
theorem F60_loop16 (N : Nat) : ∀ s o, s = canon (F60_an 16).1 s → (lam N [(9, F60_l9 N), (16, F60_l16 N)]).v 16 s = some o → LoopSem Tryz.prog (nthLoop 16 (Tryz.f60.body.getD .skip)) s o :=
  loop_ok (tabOf_ok Tryz.prog) (gam_ok _) mixed F60_an N [(9, F60_l9 N), (16, F60_l16 N)] 16 (bodyOf (nthLoop 16 (Tryz.f60.body.getD .skip))) (nthLoop 16 (Tryz.f60.body.getD .skip)) (by kernel_rfl) (by
    have e : actOf F60_an (bodyOf (nthLoop 16 (Tryz.f60.body.getD .skip))) (16 + 1) = [] := by kernel_rfl
    rw [e]
    intro p hp
    cases hp) (F60_l16 N) rfl (fun s x hc h => F60_pat16 N s x hc h) (fun x => rfl) (fun x α kn ke => (F60_body16 N x α kn ke).trans (congrArg ((F60_l16 N).b x α _) (funext fun y => (F60_l16 N).spe y α ke))) (F60_par16 N)
theorem F60_par9 (N : Nat) : Par (F60_l9 N).b := by
  intro x α β kn ke kn' ke' r r' h h1 h2
  revert h
  dsimp only [F60_l9]
  (repeat' (first | (with_reducible refine par_ite ?_ ?_) | (with_reducible refine par_both ?_ ?_) | split)) <;> intro h <;> first | exact h1 _ h | exact h2 _ h | (cases h; done)
theorem F60_body9 (N : Nat) (x : (F60_l9 N).X) (α : Type) (kn : AS → Option α) (ke : Out → Option α) : around (tabOf Tryz.prog) (F60_g N) F60_an (lam N [(9, F60_l9 N), (16, F60_l16 N)]) 9 (bodyOf (nthLoop 9 (Tryz.f60.body.getD .skip))) ((F60_l9 N).st x) kn ke = (F60_l9 N).b x α (fun x' => kn ((F60_l9 N).st x')) (fun y => (F60_l9 N).sp y α ke) := by kernel_rfl
theorem F60_pat9 (N : Nat) (s : AS) (x : (F60_l9 N).X) (hc : s = canon (F60_an 9).1 s) (h : (F60_l9 N).p s = some x) : s = (F60_l9 N).st x := by
  dsimp only [F60_l9] at h
  split at h
  · cases h
    exact canon_mk hc ‹_› ‹_› rfl rfl rfl ⟨‹_›, ‹_›, trivial⟩ trivial
  · cases h
theorem F60_loop9 (N : Nat) : ∀ s o, s = canon (F60_an 9).1 s → (lam N [(9, F60_l9 N), (16, F60_l16 N)]).v 9 s = some o → LoopSem Tryz.prog (nthLoop 9 (Tryz.f60.body.getD .skip)) s o :=
  loop_ok (tabOf_ok Tryz.prog) (gam_ok _) mixed F60_an N [(9, F60_l9 N), (16, F60_l16 N)] 9 (bodyOf (nthLoop 9 (Tryz.f60.body.getD .skip))) (nthLoop 9 (Tryz.f60.body.getD .skip)) (by kernel_rfl) (by
    have e : actOf F60_an (bodyOf (nthLoop 9 (Tryz.f60.body.getD .skip))) (9 + 1) = [(16, nthLoop 16 (Tryz.f60.body.getD .skip))] := by kernel_rfl
    rw [e]
    intro p hp
    rcases List.mem_cons.1 hp with rfl | hp
    · exact F60_loop16 N
    cases hp) (F60_l9 N) rfl (fun s x hc h => F60_pat9 N s x hc h) (fun x => rfl) (fun x α kn ke => (F60_body9 N x α kn ke).trans (congrArg ((F60_l9 N).b x α _) (funext fun y => (F60_l9 N).spe y α ke))) (F60_par9 N)
theorem F60_parF (N : Nat) : ParF (F60_s N).t := by
  intro x α β k k' r r' h h1
  revert h
  dsimp only [F60_s]
  (repeat' (first | (with_reducible refine par_ite ?_ ?_) | (with_reducible refine par_both ?_ ?_) | split)) <;> intro h <;> first | exact h1 _ h | (cases h; done)
theorem F60_text (N : Nat) (x : (F60_s N).X) : acall (tabOf Tryz.prog) (F60_g N) F60_an (lam N [(9, F60_l9 N), (16, F60_l16 N)]) Tryz.f60 (F60_s N).S ((F60_s N).args x) ((F60_s N).bs x) = (F60_s N).t x Ret (fun y => some ((F60_s N).ret y)) := by kernel_rfl
theorem F60_pat (N : Nat) (a : List AV) (b : List (List AV)) (x : (F60_s N).X) (h : (F60_s N).pat a b = some x) : a = (F60_s N).args x ∧ b = (F60_s N).bs x := by
  dsimp only [F60_s] at h
  split at h
  · cases h; exact ⟨rfl, rfl⟩
  · cases h
noncomputable def F60_e (N : Nat) : Ent Tryz.prog := entOf (tabOf_ok Tryz.prog) (gam_ok _) mixed 60 Tryz.f60 Tryz.func60 rfl F60_an (lam N [(9, F60_l9 N), (16, F60_l16 N)]) (by
    have e : actOf F60_an (Tryz.f60.body.getD .skip) 0 = [(9, nthLoop 9 (Tryz.f60.body.getD .skip)), (16, nthLoop 16 (Tryz.f60.body.getD .skip))] := by kernel_rfl
    rw [e]
    intro p hp
    rcases List.mem_cons.1 hp with rfl | hp
    · exact F60_loop9 N
    rcases List.mem_cons.1 hp with rfl | hp
    · exact F60_loop16 N
    cases hp) (F60_s N) (fun _ => ⟨rfl, rfl⟩) (F60_text N) (F60_pat N) (F60_parF N)
/-! ### seismonet/steim.Words (function 95) -/
def F95_an : Nat → Keep × Keep := anL []
noncomputable def F95_g (N : Nat) : GamK := gam (P := Tryz.prog) [F60_e N]
noncomputable def F95_s (N : Nat) : FSpec where
  X := (List (List AV))
  Y := Int
  ash := [[some 1]]
  bsh := []
  S := ⟨[[none]], [], [], [], []⟩
  bm := false
  pat := fun a b => match a, b with
    | [(AV.list 1 a0 none)], [] => some a0
    | _, _ => none
  args := fun x => [(AV.list 1 x none)]
  bs := fun x => []
  ret := fun y => ⟨(AV.v (.int .i64 y)), [], none, [], [], []⟩
  t := fun x α k => (match F60_d N x with | some y1 => (k (y1.1.length : Int)) | none => none)
noncomputable abbrev F95_d (N : Nat) (x : (List (List AV))) : Option (Int) := (F95_s N).d x
theorem F95_parF (N : Nat) : ParF (F95_s N).t := by
  intro x α β k k' r r' h h1
  revert h
  dsimp only [F95_s]
  (repeat' (first | (with_reducible refine par_ite ?_ ?_) | (with_reducible refine par_both ?_ ?_) | split)) <;> intro h <;> first | exact h1 _ h | (cases h; done)
theorem F95_text (N : Nat) (x : (F95_s N).X) : acall (tabOf Tryz.prog) (F95_g N) F95_an (lam N []) Tryz.f95 (F95_s N).S ((F95_s N).args x) ((F95_s N).bs x) = (F95_s N).t x Ret (fun y => some ((F95_s N).ret y)) := by kernel_rfl
theorem F95_pat (N : Nat) (a : List AV) (b : List (List AV)) (x : (F95_s N).X) (h : (F95_s N).pat a b = some x) : a = (F95_s N).args x ∧ b = (F95_s N).bs x := by
  dsimp only [F95_s] at h
  split at h
  · cases h; exact ⟨rfl, rfl⟩
  · cases h
noncomputable def F95_e (N : Nat) : Ent Tryz.prog := entOf (tabOf_ok Tryz.prog) (gam_ok _) mixed 95 Tryz.f95 Tryz.func95 rfl F95_an (lam N []) (by
    have e : actOf F95_an (Tryz.f95.body.getD .skip) 0 = [] := by kernel_rfl
    rw [e]
    intro p hp
    cases hp) (F95_s N) (fun _ => ⟨rfl, rfl⟩) (F95_text N) (F95_pat N) (F95_parF N)
/-! ### seismonet/steim.Frames (function 61) -/
def F61_an : Nat → Keep × Keep := anL []
noncomputable def F61_g (N : Nat) : GamK := gam (P := Tryz.prog) [F95_e N]
noncomputable def F61_s (N : Nat) : FSpec where
  X := (List (List AV))
  Y := Int
  ash := [[some 1]]
  bsh := []
  S := ⟨[[none]], [], [], [], []⟩
  bm := false
  pat := fun a b => match a, b with
    | [(AV.list 1 a0 none)], [] => some a0
    | _, _ => none
  args := fun x => [(AV.list 1 x none)]
  bs := fun x => []
  ret := fun y => ⟨(AV.v (.int .i64 y)), [], none, [], [], []⟩
  t := fun x α k => (match F95_d N x with | some y1 => (match (y1 == 0) with | true => (k 0) | false => (k (i64 ((i64 ((i64 ((i64 (y1 + 2)) + 16)) - 2)).tdiv 15)))) | none => none)
noncomputable abbrev F61_d (N : Nat) (x : (List (List AV))) : Option (Int) := (F61_s N).d x
theorem F61_parF (N : Nat) : ParF (F61_s N).t := by
  intro x α β k k' r r' h h1
  revert h
  dsimp only [F61_s]
  (repeat' (first | (with_reducible refine par_ite ?_ ?_) | (with_reducible refine par_both ?_ ?_) | split)) <;> intro h <;> first | exact h1 _ h | (cases h; done)
theorem F61_text (N : Nat) (x : (F61_s N).X) : acall (tabOf Tryz.prog) (F61_g N) F61_an (lam N []) Tryz.f61 (F61_s N).S ((F61_s N).args x) ((F61_s N).bs x) = (F61_s N).t x Ret (fun y => some ((F61_s N).ret y)) := by kernel_rfl
theorem F61_pat (N : Nat) (a : List AV) (b : List (List AV)) (x : (F61_s N).X) (h : (F61_s N).pat a b = some x) : a = (F61_s N).args x ∧ b = (F61_s N).bs x := by
  dsimp only [F61_s] at h
  split at h
  · cases h; exact ⟨rfl, rfl⟩
  · cases h
noncomputable def F61_e (N : Nat) : Ent Tryz.prog := entOf (tabOf_ok Tryz.prog) (gam_ok _) mixed 61 Tryz.f61 Tryz.func61 rfl F61_an (lam N []) (by
    have e : actOf F61_an (Tryz.f61.body.getD .skip) 0 = [] := by kernel_rfl
    rw [e]
    intro p hp
    cases hp) (F61_s N) (fun _ => ⟨rfl, rfl⟩) (F61_text N) (F61_pat N) (F61_parF N)
/-! ### seismonet/bits.shift (function 97) -/
def F97_an : Nat → Keep × Keep := anL []
noncomputable def F97_g (N : Nat) : GamK := gam (P := Tryz.prog) [F64_e N]
noncomputable def F97_s (N : Nat) : FSpec where
  X := Int × Int
  Y := Int × Bool
  ash := [[none], [none]]
  bsh := []
  S := ⟨[[none], [none]], [], [], [], []⟩
  bm := false
  pat := fun a b => match a, b with
    | [(AV.v (.int .i64 a0)), (AV.v (.int .i64 a1))], [] => some (a0, a1)
    | _, _ => none
  args := fun x => [(AV.v (.int .i64 x.1)), (AV.v (.int .i64 x.2))]
  bs := fun x => []
  ret := fun y => ⟨(AV.tup [(AV.v (.int .i64 y.1)), (AV.v (.bool y.2))]), [], none, [], [], []⟩
  t := fun x α k => (match F64_d N (x.1, 0, 4294967295) with | some y1 => (match y1 with | true => (match F64_d N (x.2, 0, 15) with | some y2 => (k ((i64 (30 - (i64 (2 * x.2)))), y2)) | none => none) | false => (k ((i64 (30 - (i64 (2 * x.2)))), false))) | none => none)
noncomputable abbrev F97_d (N : Nat) (x : Int × Int) : Option (Int × Bool) := (F97_s N).d x
theorem F97_parF (N : Nat) : ParF (F97_s N).t := by
  intro x α β k k' r r' h h1
  revert h
  dsimp only [F97_s]
  (repeat' (first | (with_reducible refine par_ite ?_ ?_) | (with_reducible refine par_both ?_ ?_) | split)) <;> intro h <;> first | exact h1 _ h | (cases h; done)
theorem F97_text (N : Nat) (x : (F97_s N).X) : acall (tabOf Tryz.prog) (F97_g N) F97_an (lam N []) Tryz.f97 (F97_s N).S ((F97_s N).args x) ((F97_s N).bs x) = (F97_s N).t x Ret (fun y => some ((F97_s N).ret y)) := by kernel_rfl
theorem F97_pat (N : Nat) (a : List AV) (b : List (List AV)) (x : (F97_s N).X) (h : (F97_s N).pat a b = some x) : a = (F97_s N).args x ∧ b = (F97_s N).bs x := by
  dsimp only [F97_s] at h
  split at h
  · cases h; exact ⟨rfl, rfl⟩
  · cases h
noncomputable def F97_e (N : Nat) : Ent Tryz.prog := entOf (tabOf_ok Tryz.prog) (gam_ok _) mixed 97 Tryz.f97 Tryz.func97 rfl F97_an (lam N []) (by
    have e : actOf F97_an (Tryz.f97.body.getD .skip) 0 = [] := by kernel_rfl
    rw [e]
    intro p hp
    cases hp) (F97_s N) (fun _ => ⟨rfl, rfl⟩) (F97_text N) (F97_pat N) (F97_parF N)
/-! ### seismonet/bits.SetPair (function 63) -/
def F63_an : Nat → Keep × Keep := anL []
noncomputable def F63_g (N : Nat) : GamK := gam (P := Tryz.prog) [F97_e N, F64_e N]
noncomputable def F63_s (N : Nat) : FSpec where
  X := Int × Int × Int
  Y := Int × Int
  ash := [[none], [none], [none]]
  bsh := []
  S := ⟨[[none], [none]], [], [], [], []⟩
  bm := false
  pat := fun a b => match a, b with
    | [(AV.v (.int .i64 a0)), (AV.v (.int .i64 a1)), (AV.v (.int .i64 a2))], [] => some (a0, a1, a2)
    | _, _ => none
  args := fun x => [(AV.v (.int .i64 x.1)), (AV.v (.int .i64 x.2.1)), (AV.v (.int .i64 x.2.2))]
  bs := fun x => []
  ret := fun y => ⟨(AV.tup [(AV.v (.int .i64 y.1)), (AV.v (.int .i64 y.2))]), [], none, [], [], []⟩
  t := fun x α k => (match F97_d N (x.1, x.2.1) with | some y1 => (match (!y1.2) with | true => (k (0, 2)) | false => (match F64_d N (x.2.2, 0, 3) with | some y2 => (match (!y2) with | true => (k (0, 2)) | false => (if y1.1 < 0 then none else (if y1.1 < 0 then none else (k ((bOr .i64 (bNot .i64 x.1 (shL .i64 (3 : Int) y1.1)) (shL .i64 x.2.2 y1.1)), 0))))) | none => none)) | none => none)
noncomputable abbrev F63_d (N : Nat) (x : Int × Int × Int) : Option (Int × Int) := (F63_s N).d x
theorem F63_parF (N : Nat) : ParF (F63_s N).t := by
  intro x α β k k' r r' h h1
  revert h
  dsimp only [F63_s]
  (repeat' (first | (with_reducible refine par_ite ?_ ?_) | (with_reducible refine par_both ?_ ?_) | split)) <;> intro h <;> first | exact h1 _ h | (cases h; done)
theorem F63_text (N : Nat) (x : (F63_s N).X) : acall (tabOf Tryz.prog) (F63_g N) F63_an (lam N []) Tryz.f63 (F63_s N).S ((F63_s N).args x) ((F63_s N).bs x) = (F63_s N).t x Ret (fun y => some ((F63_s N).ret y)) := by kernel_rfl
theorem F63_pat (N : Nat) (a : List AV) (b : List (List AV)) (x : (F63_s N).X) (h : (F63_s N).pat a b = some x) : a = (F63_s N).args x ∧ b = (F63_s N).bs x := by
  dsimp only [F63_s] at h
  split at h
  · cases h; exact ⟨rfl, rfl⟩
  · cases h
noncomputable def F63_e (N : Nat) : Ent Tryz.prog := entOf (tabOf_ok Tryz.prog) (gam_ok _) mixed 63 Tryz.f63 Tryz.func63 rfl F63_an (lam N []) (by
    have e : actOf F63_an (Tryz.f63.body.getD .skip) 0 = [] := by kernel_rfl
    rw [e]
    intro p hp
    cases hp) (F63_s N) (fun _ => ⟨rfl, rfl⟩) (F63_text N) (F63_pat N) (F63_parF N)
/-! ### seismonet/bits.Put (function 35) -/
def F35_an : Nat → Keep × Keep := anL [(9, ⟨[1, 9], [(8, 1)], [], [], [], [], [], [], false⟩, ⟨[], [(8, 1)], [], [], [], [], [], [], false⟩)]
noncomputable def F35_g (N : Nat) : GamK := gam (P := Tryz.prog) [F64_e N]
noncomputable def F35_l9 (N : Nat) : LSpec where
  X := (List (List AV)) × Int × Int
  Y := ((List (List AV)))
  p := fun s => match s.env.length, s.nin, s.at 8, s.at 1, s.at 9 with
    | 40, 0, (AV.list 1 a0 (some 1280000512)), (AV.v (.int .i64 a1)), (AV.v (.int .i64 a2)) => some (a0, a1, a2)
    | _, _, _, _, _ => none
  st := fun x => mkS 40 [(8, (AV.list 1 x.1 (some 1280000512))), (1, (AV.v (.int .i64 x.2.1))), (9, (AV.v (.int .i64 x.2.2)))] [] (F35_an 9).1.toks 0
  out := fun y => (.exit 0, mkS 40 [(8, (AV.list 1 y (some 1280000512)))] [] (F35_an 9).2.toks 0)
  sp := fun y α k => k (.exit 0, mkS 40 [(8, (AV.list 1 y (some 1280000512)))] [] (F35_an 9).2.toks 0)
  spe := fun y α k => rfl
  b := fun x α kn ke => (match (decide (x.2.2 ≥ 0)) with | true => (if (i64 (8 * x.2.2)) < 0 then none else (if (x.1.length + [[(AV.v (.int .u8 (IntKind.u8.wrap (shR .i64 x.2.1 (i64 (8 * x.2.2))))))]].length) * 1 ≤ maxBytes then (kn ((x.1 ++ [[(AV.v (.int .u8 (IntKind.u8.wrap (shR .i64 x.2.1 (i64 (8 * x.2.2))))))]]), x.2.1, (i64 (x.2.2 - 1)))) else none)) | false => (ke x.1))
noncomputable abbrev F35_d9 (N : Nat) (x : (List (List AV)) × Int × Int) : Option (((List (List AV)))) := (F35_l9 N).L N x
noncomputable def F35_s (N : Nat) : FSpec where
  X := ByteArray × Int × Int
  Y := ByteArray × Int
  ash := [[none], [none], [none]]
  bsh := []
  S := ⟨[[none], [none]], [], [], [], []⟩
  bm := false
  pat := fun a b => match a, b with
    | [(AV.v (.string a0)), (AV.v (.int .i64 a1)), (AV.v (.int .i64 a2))], [] => some (a0, a1, a2)
    | _, _ => none
  args := fun x => [(AV.v (.string x.1)), (AV.v (.int .i64 x.2.1)), (AV.v (.int .i64 x.2.2))]
  bs := fun x => []
  ret := fun y => ⟨(AV.tup [(AV.v (.string y.1)), (AV.v (.int .i64 y.2))]), [], none, [], [], []⟩
  t := fun x α k => (match F64_d N (x.2.2, 1, 7) with | some y1 => (match (!y1) with | true => (k ((⟨#[]⟩ : ByteArray), 2)) | false => (if (i64 (8 * x.2.2)) < 0 then none else (match F64_d N (x.2.1, 0, (i64 ((shL .i64 (1 : Int) (i64 (8 * x.2.2))) - 1))) with | some y2 => (match (!y2) with | true => (k ((⟨#[]⟩ : ByteArray), 2)) | false => (match F35_d9 N ((bytesL x.1), x.2.1, (i64 (x.2.2 - 1))) with | some y3 => (match numsOf y3 with | some s4 => (k ((strOfNums s4), 0)) | none => none) | none => none)) | none => none))) | none => none)
noncomputable abbrev F35_d (N : Nat) (x : ByteArray × Int × Int) : Option (ByteArray × Int) := (F35_s N).d x
theorem F35_par9 (N : Nat) : Par (F35_l9 N).b := by
  intro x α β kn ke kn' ke' r r' h h1 h2
  revert h
  dsimp only [F35_l9]
  (repeat' (first | (with_reducible refine par_ite ?_ ?_) | (with_reducible refine par_both ?_ ?_) | split)) <;> intro h <;> first | exact h1 _ h | exact h2 _ h | (cases h; done)
theorem F35_body9 (N : Nat) (x : (F35_l9 N).X) (α : Type) (kn : AS → Option α) (ke : Out → Option α) : around (tabOf Tryz.prog) (F35_g N) F35_an (lam N [(9, F35_l9 N)]) 9 (bodyOf (nthLoop 9 (Tryz.f35.body.getD .skip))) ((F35_l9 N).st x) kn ke = (F35_l9 N).b x α (fun x' => kn ((F35_l9 N).st x')) (fun y => (F35_l9 N).sp y α ke) := by kernel_rfl
theorem F35_pat9 (N : Nat) (s : AS) (x : (F35_l9 N).X) (hc : s = canon (F35_an 9).1 s) (h : (F35_l9 N).p s = some x) : s = (F35_l9 N).st x := by
  dsimp only [F35_l9] at h
  split at h
  · cases h
    exact canon_mk hc ‹_› ‹_› rfl rfl rfl ⟨‹_›, ‹_›, ‹_›, trivial⟩ trivial
  · cases h
theorem F35_loop9 (N : Nat) : ∀ s o, s = canon (F35_an 9).1 s → (lam N [(9, F35_l9 N)]).v 9 s = some o → LoopSem Tryz.prog (nthLoop 9 (Tryz.f35.body.getD .skip)) s o :=
  loop_ok (tabOf_ok Tryz.prog) (gam_ok _) mixed F35_an N [(9, F35_l9 N)] 9 (bodyOf (nthLoop 9 (Tryz.f35.body.getD .skip))) (nthLoop 9 (Tryz.f35.body.getD .skip)) (by kernel_rfl) (by
    have e : actOf F35_an (bodyOf (nthLoop 9 (Tryz.f35.body.getD .skip))) (9 + 1) = [] := by kernel_rfl
    rw [e]
    intro p hp
    cases hp) (F35_l9 N) rfl (fun s x hc h => F35_pat9 N s x hc h) (fun x => rfl) (fun x α kn ke => (F35_body9 N x α kn ke).trans (congrArg ((F35_l9 N).b x α _) (funext fun y => (F35_l9 N).spe y α ke))) (F35_par9 N)
theorem F35_parF (N : Nat) : ParF (F35_s N).t := by
  intro x α β k k' r r' h h1
  revert h
  dsimp only [F35_s]
  (repeat' (first | (with_reducible refine par_ite ?_ ?_) | (with_reducible refine par_both ?_ ?_) | split)) <;> intro h <;> first | exact h1 _ h | (cases h; done)
theorem F35_text (N : Nat) (x : (F35_s N).X) : acall (tabOf Tryz.prog) (F35_g N) F35_an (lam N [(9, F35_l9 N)]) Tryz.f35 (F35_s N).S ((F35_s N).args x) ((F35_s N).bs x) = (F35_s N).t x Ret (fun y => some ((F35_s N).ret y)) := by kernel_rfl
theorem F35_pat (N : Nat) (a : List AV) (b : List (List AV)) (x : (F35_s N).X) (h : (F35_s N).pat a b = some x) : a = (F35_s N).args x ∧ b = (F35_s N).bs x := by
  dsimp only [F35_s] at h
  split at h
  · cases h; exact ⟨rfl, rfl⟩
  · cases h
noncomputable def F35_e (N : Nat) : Ent Tryz.prog := entOf (tabOf_ok Tryz.prog) (gam_ok _) mixed 35 Tryz.f35 Tryz.func35 rfl F35_an (lam N [(9, F35_l9 N)]) (by
    have e : actOf F35_an (Tryz.f35.body.getD .skip) 0 = [(9, nthLoop 9 (Tryz.f35.body.getD .skip))] := by kernel_rfl
    rw [e]
    intro p hp
    rcases List.mem_cons.1 hp with rfl | hp
    · exact F35_loop9 N
    cases hp) (F35_s N) (fun _ => ⟨rfl, rfl⟩) (F35_text N) (F35_pat N) (F35_parF N)
/-! ### seismonet/steim.Encode (function 34) -/
def F34_an : Nat → Keep × Keep := anL [(22, ⟨[11, 54, 55], [], [], [(4, 2)], [], [], [], [], false⟩, ⟨[11], [], [], [], [], [], [], [], false⟩), (32, ⟨[11, 12, 13, 14, 54, 55], [], [], [(4, 2)], [], [], [], [], false⟩, ⟨[11, 12, 13, 54, 55], [], [], [(4, 2)], [], [], [], [], false⟩)]
noncomputable def F34_g (N : Nat) : GamK := gam (P := Tryz.prog) [F60_e N, F61_e N, F62_e N, F63_e N, F35_e N]
noncomputable def F34_l32 (N : Nat) : LSpec where
  X := (List (List AV)) × ByteArray × Int × ByteArray × Int × Int × Int
  Y := ((List (List AV)) × ByteArray × Int × ByteArray × Int × Int)
  p := fun s => match s.env.length, s.nin, s.at 4, s.at 11, s.at 12, s.at 13, s.at 14, s.at 54, s.at 55 with
    | 95, 0, (AV.list 2 a0 none), (AV.v (.string a1)), (AV.v (.int .i64 a2)), (AV.v (.string a3)), (AV.v (.int .i64 a4)), (AV.v (.int .i64 a5)), (AV.v (.int .i64 a6)) => some (a0, a1, a2, a3, a4, a5, a6)
    | _, _, _, _, _, _, _, _, _ => none
  st := fun x => mkS 95 [(4, (AV.list 2 x.1 none)), (11, (AV.v (.string x.2.1))), (12, (AV.v (.int .i64 x.2.2.1))), (13, (AV.v (.string x.2.2.2.1))), (14, (AV.v (.int .i64 x.2.2.2.2.1))), (54, (AV.v (.int .i64 x.2.2.2.2.2.1))), (55, (AV.v (.int .i64 x.2.2.2.2.2.2)))] [] (F34_an 32).1.toks 0
  out := fun y => (.exit 2, mkS 95 [(4, (AV.list 2 y.1 none)), (11, (AV.v (.string y.2.1))), (12, (AV.v (.int .i64 y.2.2.1))), (13, (AV.v (.string y.2.2.2.1))), (54, (AV.v (.int .i64 y.2.2.2.2.1))), (55, (AV.v (.int .i64 y.2.2.2.2.2)))] [] (F34_an 32).2.toks 0)
  sp := fun y α k => k (.exit 2, mkS 95 [(4, (AV.list 2 y.1 none)), (11, (AV.v (.string y.2.1))), (12, (AV.v (.int .i64 y.2.2.1))), (13, (AV.v (.string y.2.2.2.1))), (54, (AV.v (.int .i64 y.2.2.2.2.1))), (55, (AV.v (.int .i64 y.2.2.2.2.2)))] [] (F34_an 32).2.toks 0)
  spe := fun y α k => rfl
  b := fun x α kn ke => (match (decide (x.2.2.2.2.1 < 16)) with | true => (match (decide ((x.1.length : Int) > 0)) with | true => (if 0 ≤ (0 : Int) then (match x.1[(0 : Int).toNat]? with | some c13 => (match c13[0]? with | some x14 => (match x14 with | .v (.int q16 n15) => (if q16 = .i64 then (match c13[1]? with | some x17 => (match x17 with | .v (.int q19 n18) => (if q19 = .i64 then (if 0 ≤ (1 : Int) ∧ (1 : Int) ≤ x.1.length then (match F63_d N (x.2.2.1, x.2.2.2.2.1, n15) with | some y20 => (match F35_d N (x.2.2.2.1, n18, 4) with | some y21 => (kn ((x.1.drop (1 : Int).toNat), x.2.1, y20.1, y21.1, (i64 (x.2.2.2.2.1 + 1)), x.2.2.2.2.2.1, x.2.2.2.2.2.2)) | none => none) | none => none) else none) else none) | _ => none) | none => none) else none) | _ => none) | none => none) | none => none) else none) | false => (match F63_d N (x.2.2.1, x.2.2.2.2.1, 0) with | some y22 => (match F35_d N (x.2.2.2.1, 0, 4) with | some y23 => (kn (x.1, x.2.1, y22.1, y23.1, (i64 (x.2.2.2.2.1 + 1)), x.2.2.2.2.2.1, x.2.2.2.2.2.2)) | none => none) | none => none)) | false => (ke (x.1, x.2.1, x.2.2.1, x.2.2.2.1, x.2.2.2.2.2.1, x.2.2.2.2.2.2)))
noncomputable abbrev F34_d32 (N : Nat) (x : (List (List AV)) × ByteArray × Int × ByteArray × Int × Int × Int) : Option (((List (List AV)) × ByteArray × Int × ByteArray × Int × Int)) := (F34_l32 N).L N x
noncomputable def F34_l22 (N : Nat) : LSpec where
  X := (List (List AV)) × ByteArray × Int × Int
  Y := (ByteArray)
  p := fun s => match s.env.length, s.nin, s.at 4, s.at 11, s.at 54, s.at 55 with
    | 95, 0, (AV.list 2 a0 none), (AV.v (.string a1)), (AV.v (.int .i64 a2)), (AV.v (.int .i64 a3)) => some (a0, a1, a2, a3)
    | _, _, _, _, _, _ => none
  st := fun x => mkS 95 [(4, (AV.list 2 x.1 none)), (11, (AV.v (.string x.2.1))), (54, (AV.v (.int .i64 x.2.2.1))), (55, (AV.v (.int .i64 x.2.2.2)))] [] (F34_an 22).1.toks 0
  out := fun y => (.exit 0, mkS 95 [(11, (AV.v (.string y)))] [] (F34_an 22).2.toks 0)
  sp := fun y α k => k (.exit 0, mkS 95 [(11, (AV.v (.string y)))] [] (F34_an 22).2.toks 0)
  spe := fun y α k => rfl
  b := fun x α kn ke => (match (decide (x.2.2.2 < x.2.2.1)) with | true => (match F34_d32 N (x.1, x.2.1, 0, (⟨#[]⟩ : ByteArray), 1, x.2.2.1, x.2.2.2) with | some y24 => (match F35_d N (y24.2.1, y24.2.2.1, 4) with | some y25 => (if y25.1.size + y24.2.2.2.1.size ≤ 9223372036854775807 then (kn (y24.1, (y25.1 ++ y24.2.2.2.1), y24.2.2.2.2.1, (i64 (y24.2.2.2.2.2 + 1)))) else none) | none => none) | none => none) | false => (ke x.2.1))
noncomputable abbrev F34_d22 (N : Nat) (x : (List (List AV)) × ByteArray × Int × Int) : Option ((ByteArray)) := (F34_l22 N).L N x
noncomputable def F34_s (N : Nat) : FSpec where
  X := (List (List AV))
  Y := ByteArray × Int
  ash := [[some 1]]
  bsh := []
  S := ⟨[[none], [none]], [], [], [], []⟩
  bm := false
  pat := fun a b => match a, b with
    | [(AV.list 1 a0 none)], [] => some a0
    | _, _ => none
  args := fun x => [(AV.list 1 x none)]
  bs := fun x => []
  ret := fun y => ⟨(AV.tup [(AV.v (.string y.1)), (AV.v (.int .i64 y.2))]), [], none, [], [], []⟩
  t := fun x α k => (match ((x.length : Int) == 0) with | true => (k ((⟨#[]⟩ : ByteArray), 1)) | false => (match F60_d N x with | some y1 => (match (!y1.2) with | true => (k ((⟨#[]⟩ : ByteArray), 2)) | false => (match F61_d N x with | some y2 => (match (decide (y2 > 8)) with | true => (k ((⟨#[]⟩ : ByteArray), 8)) | false => (if 0 ≤ (0 : Int) then (match x[(0 : Int).toNat]? with | some c3 => (match c3[0]? with | some x4 => (match x4 with | .v (.int q6 n5) => (if q6 = .i64 then (match F62_d N (n5, 32) with | some y7 => (if 0 ≤ (i64 ((x.length : Int) - 1)) then (match x[(i64 ((x.length : Int) - 1)).toNat]? with | some c8 => (match c8[0]? with | some x9 => (match x9 with | .v (.int q11 n10) => (if q11 = .i64 then (match F62_d N (n10, 32) with | some y12 => (if ([[(AV.v (.int .i64 0)), (AV.v (.int .i64 y7.1))], [(AV.v (.int .i64 0)), (AV.v (.int .i64 y12.1))]].length + y1.1.length) * 16 ≤ maxBytes then (match F34_d22 N (([[(AV.v (.int .i64 0)), (AV.v (.int .i64 y7.1))], [(AV.v (.int .i64 0)), (AV.v (.int .i64 y12.1))]] ++ y1.1), (⟨#[]⟩ : ByteArray), y2, 0) with | some y26 => (k (y26, 0)) | none => none) else none) | none => none) else none) | _ => none) | none => none) | none => none) else none) | none => none) else none) | _ => none) | none => none) | none => none) else none)) | none => none)) | none => none))
noncomputable abbrev F34_d (N : Nat) (x : (List (List AV))) : Option (ByteArray × Int) := (F34_s N).d x
theorem F34_par32 (N : Nat) : Par (F34_l32 N).b := by
  intro x α β kn ke kn' ke' r r' h h1 h2
  revert h
  dsimp only [F34_l32]
  (repeat' (first | (with_reducible refine par_ite ?_ ?_) | (with_reducible refine par_both ?_ ?_) | split)) <;> intro h <;> first | exact h1 _ h | exact h2 _ h | (cases h; done)
theorem F34_body32 (N : Nat) (x : (F34_l32 N).X) (α : Type) (kn : AS → Option α) (ke : Out → Option α) : around (tabOf Tryz.prog) (F34_g N) F34_an (lam N [(22, F34_l22 N), (32, F34_l32 N)]) 32 (bodyOf (nthLoop 32 (Tryz.f34.body.getD .skip))) ((F34_l32 N).st x) kn ke = (F34_l32 N).b x α (fun x' => kn ((F34_l32 N).st x')) (fun y => (F34_l32 N).sp y α ke) := by kernel_rfl
theorem F34_pat32 (N : Nat) (s : AS) (x : (F34_l32 N).X) (hc : s = canon (F34_an 32).1 s) (h : (F34_l32 N).p s = some x) : s = (F34_l32 N).st x := by
  dsimp only [F34_l32] at h
  split at h
  · cases h
    exact canon_mk hc ‹_› ‹_› rfl rfl rfl ⟨‹_›, ‹_›, ‹_›, ‹_›, ‹_›, ‹_›, ‹_›, trivial⟩ trivial
  · cases h
theorem F34_loop32 (N : Nat) : ∀ s o, s = canon (F34_an 32).1 s → (lam N [(22, F34_l22 N), (32, F34_l32 N)]).v 32 s = some o → LoopSem Tryz.prog (nthLoop 32 (Tryz.f34.body.getD .skip)) s o :=
  loop_ok (tabOf_ok Tryz.prog) (gam_ok _) mixed F34_an N [(22, F34_l22 N), (32, F34_l32 N)] 32 (bodyOf (nthLoop 32 (Tryz.f34.body.getD .skip))) (nthLoop 32 (Tryz.f34.body.getD .skip)) (by kernel_rfl) (by
    have e : actOf F34_an (bodyOf (nthLoop 32 (Tryz.f34.body.getD .skip))) (32 + 1) = [] := by kernel_rfl
    rw [e]
    intro p hp
    cases hp) (F34_l32 N) rfl (fun s x hc h => F34_pat32 N s x hc h) (fun x => rfl) (fun x α kn ke => (F34_body32 N x α kn ke).trans (congrArg ((F34_l32 N).b x α _) (funext fun y => (F34_l32 N).spe y α ke))) (F34_par32 N)
theorem F34_par22 (N : Nat) : Par (F34_l22 N).b := by
  intro x α β kn ke kn' ke' r r' h h1 h2
  revert h
  dsimp only [F34_l22]
  (repeat' (first | (with_reducible refine par_ite ?_ ?_) | (with_reducible refine par_both ?_ ?_) | split)) <;> intro h <;> first | exact h1 _ h | exact h2 _ h | (cases h; done)
theorem F34_body22 (N : Nat) (x : (F34_l22 N).X) (α : Type) (kn : AS → Option α) (ke : Out → Option α) : around (tabOf Tryz.prog) (F34_g N) F34_an (lam N [(22, F34_l22 N), (32, F34_l32 N)]) 22 (bodyOf (nthLoop 22 (Tryz.f34.body.getD .skip))) ((F34_l22 N).st x) kn ke = (F34_l22 N).b x α (fun x' => kn ((F34_l22 N).st x')) (fun y => (F34_l22 N).sp y α ke) := by kernel_rfl
theorem F34_pat22 (N : Nat) (s : AS) (x : (F34_l22 N).X) (hc : s = canon (F34_an 22).1 s) (h : (F34_l22 N).p s = some x) : s = (F34_l22 N).st x := by
  dsimp only [F34_l22] at h
  split at h
  · cases h
    exact canon_mk hc ‹_› ‹_› rfl rfl rfl ⟨‹_›, ‹_›, ‹_›, ‹_›, trivial⟩ trivial
  · cases h
theorem F34_loop22 (N : Nat) : ∀ s o, s = canon (F34_an 22).1 s → (lam N [(22, F34_l22 N), (32, F34_l32 N)]).v 22 s = some o → LoopSem Tryz.prog (nthLoop 22 (Tryz.f34.body.getD .skip)) s o :=
  loop_ok (tabOf_ok Tryz.prog) (gam_ok _) mixed F34_an N [(22, F34_l22 N), (32, F34_l32 N)] 22 (bodyOf (nthLoop 22 (Tryz.f34.body.getD .skip))) (nthLoop 22 (Tryz.f34.body.getD .skip)) (by kernel_rfl) (by
    have e : actOf F34_an (bodyOf (nthLoop 22 (Tryz.f34.body.getD .skip))) (22 + 1) = [(32, nthLoop 32 (Tryz.f34.body.getD .skip))] := by kernel_rfl
    rw [e]
    intro p hp
    rcases List.mem_cons.1 hp with rfl | hp
    · exact F34_loop32 N
    cases hp) (F34_l22 N) rfl (fun s x hc h => F34_pat22 N s x hc h) (fun x => rfl) (fun x α kn ke => (F34_body22 N x α kn ke).trans (congrArg ((F34_l22 N).b x α _) (funext fun y => (F34_l22 N).spe y α ke))) (F34_par22 N)
theorem F34_parF (N : Nat) : ParF (F34_s N).t := by
  intro x α β k k' r r' h h1
  revert h
  dsimp only [F34_s]
  (repeat' (first | (with_reducible refine par_ite ?_ ?_) | (with_reducible refine par_both ?_ ?_) | split)) <;> intro h <;> first | exact h1 _ h | (cases h; done)
theorem F34_text (N : Nat) (x : (F34_s N).X) : acall (tabOf Tryz.prog) (F34_g N) F34_an (lam N [(22, F34_l22 N), (32, F34_l32 N)]) Tryz.f34 (F34_s N).S ((F34_s N).args x) ((F34_s N).bs x) = (F34_s N).t x Ret (fun y => some ((F34_s N).ret y)) := by kernel_rfl
theorem F34_pat (N : Nat) (a : List AV) (b : List (List AV)) (x : (F34_s N).X) (h : (F34_s N).pat a b = some x) : a = (F34_s N).args x ∧ b = (F34_s N).bs x := by
  dsimp only [F34_s] at h
  split at h
  · cases h; exact ⟨rfl, rfl⟩
  · cases h
noncomputable def F34_e (N : Nat) : Ent Tryz.prog := entOf (tabOf_ok Tryz.prog) (gam_ok _) mixed 34 Tryz.f34 Tryz.func34 rfl F34_an (lam N [(22, F34_l22 N), (32, F34_l32 N)]) (by
    have e : actOf F34_an (Tryz.f34.body.getD .skip) 0 = [(22, nthLoop 22 (Tryz.f34.body.getD .skip)), (32, nthLoop 32 (Tryz.f34.body.getD .skip))] := by kernel_rfl
    rw [e]
    intro p hp
    rcases List.mem_cons.1 hp with rfl | hp
    · exact F34_loop22 N
    rcases List.mem_cons.1 hp with rfl | hp
    · exact F34_loop32 N
    cases hp) (F34_s N) (fun _ => ⟨rfl, rfl⟩) (F34_text N) (F34_pat N) (F34_parF N)
/-! ### seismonet/bits.Get (function 100) -/
def F100_an : Nat → Keep × Keep := anL [(13, ⟨[0, 1, 8, 23, 24], [], [], [], [], [], [], [], false⟩, ⟨[8], [], [], [], [], [], [], [], false⟩)]
noncomputable def F100_g (N : Nat) : GamK := gam (P := Tryz.prog) [F64_e N]
noncomputable def F100_l13 (N : Nat) : LSpec where
  X := ByteArray × Int × Int × Int × Int
  Y := (Int)
  p := fun s => match s.env.length, s.nin, s.at 0, s.at 1, s.at 8, s.at 23, s.at 24 with
    | 38, 0, (AV.v (.string a0)), (AV.v (.int .i64 a1)), (AV.v (.int .i64 a2)), (AV.v (.int .i64 a3)), (AV.v (.int .i64 a4)) => some (a0, a1, a2, a3, a4)
    | _, _, _, _, _, _, _ => none
  st := fun x => mkS 38 [(0, (AV.v (.string x.1))), (1, (AV.v (.int .i64 x.2.1))), (8, (AV.v (.int .i64 x.2.2.1))), (23, (AV.v (.int .i64 x.2.2.2.1))), (24, (AV.v (.int .i64 x.2.2.2.2)))] [] (F100_an 13).1.toks 0
  out := fun y => (.exit 0, mkS 38 [(8, (AV.v (.int .i64 y)))] [] (F100_an 13).2.toks 0)
  sp := fun y α k => k (.exit 0, mkS 38 [(8, (AV.v (.int .i64 y)))] [] (F100_an 13).2.toks 0)
  spe := fun y α k => rfl
  b := fun x α kn ke => (match (decide (x.2.2.2.2 < x.2.2.2.1)) with | true => (if 0 ≤ (i64 (x.2.1 + x.2.2.2.2)) then (match x.1[(i64 (x.2.1 + x.2.2.2.2)).toNat]? with | some c2 => (kn (x.1, x.2.1, (bOr .i64 (shL .i64 x.2.2.1 (8 : Int)) (IntKind.i64.wrap (c2.toNat : Int))), x.2.2.2.1, (i64 (x.2.2.2.2 + 1)))) | none => none) else none) | false => (ke x.2.2.1))
noncomputable abbrev F100_d13 (N : Nat) (x : ByteArray × Int × Int × Int × Int) : Option ((Int)) := (F100_l13 N).L N x
noncomputable def F100_s (N : Nat) : FSpec where
  X := ByteArray × Int × Int
  Y := Int × Int
  ash := [[none], [none], [none]]
  bsh := []
  S := ⟨[[none], [none]], [], [], [], []⟩
  bm := false
  pat := fun a b => match a, b with
    | [(AV.v (.string a0)), (AV.v (.int .i64 a1)), (AV.v (.int .i64 a2))], [] => some (a0, a1, a2)
    | _, _ => none
  args := fun x => [(AV.v (.string x.1)), (AV.v (.int .i64 x.2.1)), (AV.v (.int .i64 x.2.2))]
  bs := fun x => []
  ret := fun y => ⟨(AV.tup [(AV.v (.int .i64 y.1)), (AV.v (.int .i64 y.2))]), [], none, [], [], []⟩
  t := fun x α k => (match F64_d N (x.2.2, 1, 7) with | some y1 => (match (!y1) with | true => (k (0, 2)) | false => (match (decide (x.2.1 < 0)) with | true => (k (0, 2)) | false => (match (decide (x.2.1 > (i64 ((x.1.size : Int) - x.2.2)))) with | true => (k (0, 4)) | false => (match F100_d13 N (x.1, x.2.1, 0, x.2.2, 0) with | some y3 => (k (y3, 0)) | none => none)))) | none => none)
noncomputable abbrev F100_d (N : Nat) (x : ByteArray × Int × Int) : Option (Int × Int) := (F100_s N).d x
theorem F100_par13 (N : Nat) : Par (F100_l13 N).b := by
  intro x α β kn ke kn' ke' r r' h h1 h2
  revert h
  dsimp only [F100_l13]
  (repeat' (first | (with_reducible refine par_ite ?_ ?_) | (with_reducible refine par_both ?_ ?_) | split)) <;> intro h <;> first | exact h1 _ h | exact h2 _ h | (cases h; done)
theorem F100_body13 (N : Nat) (x : (F100_l13 N).X) (α : Type) (kn : AS → Option α) (ke : Out → Option α) : around (tabOf Tryz.prog) (F100_g N) F100_an (lam N [(13, F100_l13 N)]) 13 (bodyOf (nthLoop 13 (Tryz.f100.body.getD .skip))) ((F100_l13 N).st x) kn ke = (F100_l13 N).b x α (fun x' => kn ((F100_l13 N).st x')) (fun y => (F100_l13 N).sp y α ke) := by kernel_rfl
theorem F100_pat13 (N : Nat) (s : AS) (x : (F100_l13 N).X) (hc : s = canon (F100_an 13).1 s) (h : (F100_l13 N).p s = some x) : s = (F100_l13 N).st x := by
  dsimp only [F100_l13] at h
  split at h
  · cases h
    exact canon_mk hc ‹_› ‹_› rfl rfl rfl ⟨‹_›, ‹_›, ‹_›, ‹_›, ‹_›, trivial⟩ trivial
  · cases h
theorem F100_loop13 (N : Nat) : ∀ s o, s = canon (F100_an 13).1 s → (lam N [(13, F100_l13 N)]).v 13 s = some o → LoopSem Tryz.prog (nthLoop 13 (Tryz.f100.body.getD .skip)) s o :=
  loop_ok (tabOf_ok Tryz.prog) (gam_ok _) mixed F100_an N [(13, F100_l13 N)] 13 (bodyOf (nthLoop 13 (Tryz.f100.body.getD .skip))) (nthLoop 13 (Tryz.f100.body.getD .skip)) (by kernel_rfl) (by
    have e : actOf F100_an (bodyOf (nthLoop 13 (Tryz.f100.body.getD .skip))) (13 + 1) = [] := by kernel_rfl
    rw [e]
    intro p hp
    cases hp) (F100_l13 N) rfl (fun s x hc h => F100_pat13 N s x hc h) (fun x => rfl) (fun x α kn ke => (F100_body13 N x α kn ke).trans (congrArg ((F100_l13 N).b x α _) (funext fun y => (F100_l13 N).spe y α ke))) (F100_par13 N)
theorem F100_parF (N : Nat) : ParF (F100_s N).t := by
  intro x α β k k' r r' h h1
  revert h
  dsimp only [F100_s]
  (repeat' (first | (with_reducible refine par_ite ?_ ?_) | (with_reducible refine par_both ?_ ?_) | split)) <;> intro h <;> first | exact h1 _ h | (cases h; done)
theorem F100_text (N : Nat) (x : (F100_s N).X) : acall (tabOf Tryz.prog) (F100_g N) F100_an (lam N [(13, F100_l13 N)]) Tryz.f100 (F100_s N).S ((F100_s N).args x) ((F100_s N).bs x) = (F100_s N).t x Ret (fun y => some ((F100_s N).ret y)) := by kernel_rfl
theorem F100_pat (N : Nat) (a : List AV) (b : List (List AV)) (x : (F100_s N).X) (h : (F100_s N).pat a b = some x) : a = (F100_s N).args x ∧ b = (F100_s N).bs x := by
  dsimp only [F100_s] at h
  split at h
  · cases h; exact ⟨rfl, rfl⟩
  · cases h
noncomputable def F100_e (N : Nat) : Ent Tryz.prog := entOf (tabOf_ok Tryz.prog) (gam_ok _) mixed 100 Tryz.f100 Tryz.func100 rfl F100_an (lam N [(13, F100_l13 N)]) (by
    have e : actOf F100_an (Tryz.f100.body.getD .skip) 0 = [(13, nthLoop 13 (Tryz.f100.body.getD .skip))] := by kernel_rfl
    rw [e]
    intro p hp
    rcases List.mem_cons.1 hp with rfl | hp
    · exact F100_loop13 N
    cases hp) (F100_s N) (fun _ => ⟨rfl, rfl⟩) (F100_text N) (F100_pat N) (F100_parF N)
/-! ### seismonet/bits.Pair (function 122) -/
def F122_an : Nat → Keep × Keep := anL []
noncomputable def F122_g (N : Nat) : GamK := gam (P := Tryz.prog) [F97_e N]
noncomputable def F122_s (N : Nat) : FSpec where
  X := Int × Int
  Y := Int × Int
  ash := [[none], [none]]
  bsh := []
  S := ⟨[[none], [none]], [], [], [], []⟩
  bm := false
  pat := fun a b => match a, b with
    | [(AV.v (.int .i64 a0)), (AV.v (.int .i64 a1))], [] => some (a0, a1)
    | _, _ => none
  args := fun x => [(AV.v (.int .i64 x.1)), (AV.v (.int .i64 x.2))]
  bs := fun x => []
  ret := fun y => ⟨(AV.tup [(AV.v (.int .i64 y.1)), (AV.v (.int .i64 y.2))]), [], none, [], [], []⟩
  t := fun x α k => (match F97_d N (x.1, x.2) with | some y1 => (match (!y1.2) with | true => (k (0, 2)) | false => (if y1.1 < 0 then none else (k ((bAnd .i64 (shR .i64 x.1 y1.1) (3 : Int)), 0)))) | none => none)
noncomputable abbrev F122_d (N : Nat) (x : Int × Int) : Option (Int × Int) := (F122_s N).d x
theorem F122_parF (N : Nat) : ParF (F122_s N).t := by
  intro x α β k k' r r' h h1
  revert h
  dsimp only [F122_s]
  (repeat' (first | (with_reducible refine par_ite ?_ ?_) | (with_reducible refine par_both ?_ ?_) | split)) <;> intro h <;> first | exact h1 _ h | (cases h; done)
theorem F122_text (N : Nat) (x : (F122_s N).X) : acall (tabOf Tryz.prog) (F122_g N) F122_an (lam N []) Tryz.f122 (F122_s N).S ((F122_s N).args x) ((F122_s N).bs x) = (F122_s N).t x Ret (fun y => some ((F122_s N).ret y)) := by kernel_rfl
theorem F122_pat (N : Nat) (a : List AV) (b : List (List AV)) (x : (F122_s N).X) (h : (F122_s N).pat a b = some x) : a = (F122_s N).args x ∧ b = (F122_s N).bs x := by
  dsimp only [F122_s] at h
  split at h
  · cases h; exact ⟨rfl, rfl⟩
  · cases h
noncomputable def F122_e (N : Nat) : Ent Tryz.prog := entOf (tabOf_ok Tryz.prog) (gam_ok _) mixed 122 Tryz.f122 Tryz.func122 rfl F122_an (lam N []) (by
    have e : actOf F122_an (Tryz.f122.body.getD .skip) 0 = [] := by kernel_rfl
    rw [e]
    intro p hp
    cases hp) (F122_s N) (fun _ => ⟨rfl, rfl⟩) (F122_text N) (F122_pat N) (F122_parF N)
/-! ### seismonet/steim.Codes (function 114) -/
def F114_an : Nat → Keep × Keep := anL [(10, ⟨[4, 18], [(6, 1)], [], [], [], [], [], [], false⟩, ⟨[], [(6, 1)], [], [], [], [], [], [], false⟩)]
noncomputable def F114_g (N : Nat) : GamK := gam (P := Tryz.prog) [F100_e N, F122_e N]
noncomputable def F114_l10 (N : Nat) : LSpec where
  X := (List (List AV)) × Int × Int
  Y := ((List (List AV)))
  p := fun s => match s.env.length, s.nin, s.at 6, s.at 4, s.at 18 with
    | 33, 0, (AV.list 1 a0 (some 1280000384)), (AV.v (.int .i64 a1)), (AV.v (.int .i64 a2)) => some (a0, a1, a2)
    | _, _, _, _, _ => none
  st := fun x => mkS 33 [(6, (AV.list 1 x.1 (some 1280000384))), (4, (AV.v (.int .i64 x.2.1))), (18, (AV.v (.int .i64 x.2.2)))] [] (F114_an 10).1.toks 0
  out := fun y => (.exit 0, mkS 33 [(6, (AV.list 1 y (some 1280000384)))] [] (F114_an 10).2.toks 0)
  sp := fun y α k => k (.exit 0, mkS 33 [(6, (AV.list 1 y (some 1280000384)))] [] (F114_an 10).2.toks 0)
  spe := fun y α k => rfl
  b := fun x α kn ke => (match (decide (x.2.2 < 16)) with | true => (match F122_d N (x.2.1, x.2.2) with | some y2 => (if (x.1.length + [[(AV.v (.int .i64 y2.1))]].length) * 8 ≤ maxBytes then (kn ((x.1 ++ [[(AV.v (.int .i64 y2.1))]]), x.2.1, (i64 (x.2.2 + 1)))) else none) | none => none) | false => (ke x.1))
noncomputable abbrev F114_d10 (N : Nat) (x : (List (List AV)) × Int × Int) : Option (((List (List AV)))) := (F114_l10 N).L N x
noncomputable def F114_s (N : Nat) : FSpec where
  X := ByteArray
  Y := (List (List AV)) × Int
  ash := [[none]]
  bsh := []
  S := ⟨[[some 2000001], [none]], [], [], [], []⟩
  bm := false
  pat := fun a b => match a, b with
    | [(AV.v (.string a0))], [] => some a0
    | _, _ => none
  args := fun x => [(AV.v (.string x))]
  bs := fun x => []
  ret := fun y => ⟨(AV.tup [(AV.list 1 y.1 (some 2560000000)), (AV.v (.int .i64 y.2))]), [], none, [], [2560000000], []⟩
  t := fun x α k => (match ((x.size : Int) != 64) with | true => (k (([] : List (List AV)), 3)) | false => (match F100_d N (x, 0, 4) with | some y1 => (match F114_d10 N (([] : List (List AV)), y1.1, 0) with | some y3 => (k (y3, 0)) | none => none) | none => none))
noncomputable abbrev F114_d (N : Nat) (x : ByteArray) : Option ((List (List AV)) × Int) := (F114_s N).d x
theorem F114_par10 (N : Nat) : Par (F114_l10 N).b := by
  intro x α β kn ke kn' ke' r r' h h1 h2
  revert h
  dsimp only [F114_l10]
  (repeat' (first | (with_reducible refine par_ite ?_ ?_) | (with_reducible refine par_both ?_ ?_) | split)) <;> intro h <;> first | exact h1 _ h | exact h2 _ h | (cases h; done)
theorem F114_body10 (N : Nat) (x : (F114_l10 N).X) (α : Type) (kn : AS → Option α) (ke : Out → Option α) : around (tabOf Tryz.prog) (F114_g N) F114_an (lam N [(10, F114_l10 N)]) 10 (bodyOf (nthLoop 10 (Tryz.f114.body.getD .skip))) ((F114_l10 N).st x) kn ke = (F114_l10 N).b x α (fun x' => kn ((F114_l10 N).st x')) (fun y => (F114_l10 N).sp y α ke) := by kernel_rfl
theorem F114_pat10 (N : Nat) (s : AS) (x : (F114_l10 N).X) (hc : s = canon (F114_an 10).1 s) (h : (F114_l10 N).p s = some x) : s = (F114_l10 N).st x := by
  dsimp only [F114_l10] at h
  split at h
  · cases h
    exact canon_mk hc ‹_› ‹_› rfl rfl rfl ⟨‹_›, ‹_›, ‹_›, trivial⟩ trivial
  · cases h
theorem F114_loop10 (N : Nat) : ∀ s o, s = canon (F114_an 10).1 s → (lam N [(10, F114_l10 N)]).v 10 s = some o → LoopSem Tryz.prog (nthLoop 10 (Tryz.f114.body.getD .skip)) s o :=
  loop_ok (tabOf_ok Tryz.prog) (gam_ok _) mixed F114_an N [(10, F114_l10 N)] 10 (bodyOf (nthLoop 10 (Tryz.f114.body.getD .skip))) (nthLoop 10 (Tryz.f114.body.getD .skip)) (by kernel_rfl) (by
    have e : actOf F114_an (bodyOf (nthLoop 10 (Tryz.f114.body.getD .skip))) (10 + 1) = [] := by kernel_rfl
    rw [e]
    intro p hp
    cases hp) (F114_l10 N) rfl (fun s x hc h => F114_pat10 N s x hc h) (fun x => rfl) (fun x α kn ke => (F114_body10 N x α kn ke).trans (congrArg ((F114_l10 N).b x α _) (funext fun y => (F114_l10 N).spe y α ke))) (F114_par10 N)
theorem F114_parF (N : Nat) : ParF (F114_s N).t := by
  intro x α β k k' r r' h h1
  revert h
  dsimp only [F114_s]
  (repeat' (first | (with_reducible refine par_ite ?_ ?_) | (with_reducible refine par_both ?_ ?_) | split)) <;> intro h <;> first | exact h1 _ h | (cases h; done)
theorem F114_text (N : Nat) (x : (F114_s N).X) : acall (tabOf Tryz.prog) (F114_g N) F114_an (lam N [(10, F114_l10 N)]) Tryz.f114 (F114_s N).S ((F114_s N).args x) ((F114_s N).bs x) = (F114_s N).t x Ret (fun y => some ((F114_s N).ret y)) := by kernel_rfl
theorem F114_pat (N : Nat) (a : List AV) (b : List (List AV)) (x : (F114_s N).X) (h : (F114_s N).pat a b = some x) : a = (F114_s N).args x ∧ b = (F114_s N).bs x := by
  dsimp only [F114_s] at h
  split at h
  · cases h; exact ⟨rfl, rfl⟩
  · cases h
noncomputable def F114_e (N : Nat) : Ent Tryz.prog := entOf (tabOf_ok Tryz.prog) (gam_ok _) mixed 114 Tryz.f114 Tryz.func114 rfl F114_an (lam N [(10, F114_l10 N)]) (by
    have e : actOf F114_an (Tryz.f114.body.getD .skip) 0 = [(10, nthLoop 10 (Tryz.f114.body.getD .skip))] := by kernel_rfl
    rw [e]
    intro p hp
    rcases List.mem_cons.1 hp with rfl | hp
    · exact F114_loop10 N
    cases hp) (F114_s N) (fun _ => ⟨rfl, rfl⟩) (F114_text N) (F114_pat N) (F114_parF N)
/-! ### seismonet/bits.Sign (function 105) -/
def F105_an : Nat → Keep × Keep := anL []
noncomputable def F105_g (N : Nat) : GamK := gam (P := Tryz.prog) [F64_e N]
noncomputable def F105_s (N : Nat) : FSpec where
  X := Int × Int
  Y := Int × Int
  ash := [[none], [none]]
  bsh := []
  S := ⟨[[none], [none]], [], [], [], []⟩
  bm := false
  pat := fun a b => match a, b with
    | [(AV.v (.int .i64 a0)), (AV.v (.int .i64 a1))], [] => some (a0, a1)
    | _, _ => none
  args := fun x => [(AV.v (.int .i64 x.1)), (AV.v (.int .i64 x.2))]
  bs := fun x => []
  ret := fun y => ⟨(AV.tup [(AV.v (.int .i64 y.1)), (AV.v (.int .i64 y.2))]), [], none, [], [], []⟩
  t := fun x α k => (match F64_d N (x.2, 1, 56) with | some y1 => (match (!y1) with | true => (k (0, 2)) | false => (if x.2 < 0 then none else (match F64_d N (x.1, 0, (i64 ((shL .i64 (1 : Int) x.2) - 1))) with | some y2 => (match (!y2) with | true => (k (0, 2)) | false => (if (i64 (x.2 - 1)) < 0 then none else (match ((shR .i64 x.1 (i64 (x.2 - 1))) == 1) with | true => (if x.2 < 0 then none else (k ((i64 (x.1 - (shL .i64 (1 : Int) x.2))), 0))) | false => (k (x.1, 0))))) | none => none))) | none => none)
noncomputable abbrev F105_d (N : Nat) (x : Int × Int) : Option (Int × Int) := (F105_s N).d x
theorem F105_parF (N : Nat) : ParF (F105_s N).t := by
  intro x α β k k' r r' h h1
  revert h
  dsimp only [F105_s]
  (repeat' (first | (with_reducible refine par_ite ?_ ?_) | (with_reducible refine par_both ?_ ?_) | split)) <;> intro h <;> first | exact h1 _ h | (cases h; done)
theorem F105_text (N : Nat) (x : (F105_s N).X) : acall (tabOf Tryz.prog) (F105_g N) F105_an (lam N []) Tryz.f105 (F105_s N).S ((F105_s N).args x) ((F105_s N).bs x) = (F105_s N).t x Ret (fun y => some ((F105_s N).ret y)) := by kernel_rfl
theorem F105_pat (N : Nat) (a : List AV) (b : List (List AV)) (x : (F105_s N).X) (h : (F105_s N).pat a b = some x) : a = (F105_s N).args x ∧ b = (F105_s N).bs x := by
  dsimp only [F105_s] at h
  split at h
  · cases h; exact ⟨rfl, rfl⟩
  · cases h
noncomputable def F105_e (N : Nat) : Ent Tryz.prog := entOf (tabOf_ok Tryz.prog) (gam_ok _) mixed 105 Tryz.f105 Tryz.func105 rfl F105_an (lam N []) (by
    have e : actOf F105_an (Tryz.f105.body.getD .skip) 0 = [] := by kernel_rfl
    rw [e]
    intro p hp
    cases hp) (F105_s N) (fun _ => ⟨rfl, rfl⟩) (F105_text N) (F105_pat N) (F105_parF N)
/-! ### seismonet/steim.unpack (function 115) -/
def F115_an : Nat → Keep × Keep := anL [(6, ⟨[1, 5, 7], [(6, 1)], [], [], [], [], [], [], false⟩, ⟨[], [(6, 1)], [], [], [], [], [], [], false⟩)]
noncomputable def F115_g (N : Nat) : GamK := gam (P := Tryz.prog) [F92_e N, F105_e N]
noncomputable def F115_l6 (N : Nat) : LSpec where
  X := (List (List AV)) × Int × Int × Int
  Y := ((List (List AV)))
  p := fun s => match s.env.length, s.nin, s.at 6, s.at 1, s.at 5, s.at 7 with
    | 41, 0, (AV.list 1 a0 (some 1280000384)), (AV.v (.int .i64 a1)), (AV.v (.int .i64 a2)), (AV.v (.int .i64 a3)) => some (a0, a1, a2, a3)
    | _, _, _, _, _, _ => none
  st := fun x => mkS 41 [(6, (AV.list 1 x.1 (some 1280000384))), (1, (AV.v (.int .i64 x.2.1))), (5, (AV.v (.int .i64 x.2.2.1))), (7, (AV.v (.int .i64 x.2.2.2)))] [] (F115_an 6).1.toks 0
  out := fun y => (.exit 0, mkS 41 [(6, (AV.list 1 y (some 1280000384)))] [] (F115_an 6).2.toks 0)
  sp := fun y α k => k (.exit 0, mkS 41 [(6, (AV.list 1 y (some 1280000384)))] [] (F115_an 6).2.toks 0)
  spe := fun y α k => rfl
  b := fun x α kn ke => (match (decide (x.2.2.2 ≥ 0)) with | true => (if x.2.2.1 = 0 then none else (if (i64 (x.2.2.2 * (i64 ((32 : Int).tdiv x.2.2.1)))) < 0 then none else (if (i64 ((32 : Int).tdiv x.2.2.1)) < 0 then none else (match F105_d N ((bAnd .i64 (shR .i64 x.2.1 (i64 (x.2.2.2 * (i64 ((32 : Int).tdiv x.2.2.1))))) (i64 ((shL .i64 (1 : Int) (i64 ((32 : Int).tdiv x.2.2.1))) - 1))), (i64 ((32 : Int).tdiv x.2.2.1))) with | some y5 => (if (x.1.length + [[(AV.v (.int .i64 y5.1))]].length) * 8 ≤ maxBytes then (kn ((x.1 ++ [[(AV.v (.int .i64 y5.1))]]), x.2.1, x.2.2.1, (i64 (x.2.2.2 - 1)))) else none) | none => none)))) | false => (ke x.1))
noncomputable abbrev F115_d6 (N : Nat) (x : (List (List AV)) × Int × Int × Int) : Option (((List (List AV)))) := (F115_l6 N).L N x
noncomputable def F115_s (N : Nat) : FSpec where
  X := Int × Int
  Y := (List (List AV))
  ash := [[none], [none]]
  bsh := []
  S := ⟨[[some 2000001]], [], [], [], []⟩
  bm := false
  pat := fun a b => match a, b with
    | [(AV.v (.int .i64 a0)), (AV.v (.int .i64 a1))], [] => some (a0, a1)
    | _, _ => none
  args := fun x => [(AV.v (.int .i64 x.1)), (AV.v (.int .i64 x.2))]
  bs := fun x => []
  ret := fun y => ⟨(AV.list 1 y (some 2560000000)), [], none, [], [2560000000], []⟩
  t := fun x α k => (match F92_d N () with | some y1 => (if 0 ≤ x.1 ∧ x.1 < 4 then (match [(AV.v (.int .i64 y1.1)), (AV.v (.int .i64 y1.2.1)), (AV.v (.int .i64 y1.2.2.1)), (AV.v (.int .i64 y1.2.2.2))][(x.1.toNat * 1)]? with | some x2 => (match x2 with | .v (.int q4 n3) => (if q4 = .i64 then (match F115_d6 N (([] : List (List AV)), x.2, n3, (i64 (n3 - 1))) with | some y6 => (k y6) | none => none) else none) | _ => none) | none => none) else none) | none => none)
noncomputable abbrev F115_d (N : Nat) (x : Int × Int) : Option ((List (List AV))) := (F115_s N).d x
theorem F115_par6 (N : Nat) : Par (F115_l6 N).b := by
  intro x α β kn ke kn' ke' r r' h h1 h2
  revert h
  dsimp only [F115_l6]
  (repeat' (first | (with_reducible refine par_ite ?_ ?_) | (with_reducible refine par_both ?_ ?_) | split)) <;> intro h <;> first | exact h1 _ h | exact h2 _ h | (cases h; done)
theorem F115_body6 (N : Nat) (x : (F115_l6 N).X) (α : Type) (kn : AS → Option α) (ke : Out → Option α) : around (tabOf Tryz.prog) (F115_g N) F115_an (lam N [(6, F115_l6 N)]) 6 (bodyOf (nthLoop 6 (Tryz.f115.body.getD .skip))) ((F115_l6 N).st x) kn ke = (F115_l6 N).b x α (fun x' => kn ((F115_l6 N).st x')) (fun y => (F115_l6 N).sp y α ke) := by kernel_rfl
theorem F115_pat6 (N : Nat) (s : AS) (x : (F115_l6 N).X) (hc : s = canon (F115_an 6).1 s) (h : (F115_l6 N).p s = some x) : s = (F115_l6 N).st x := by
  dsimp only [F115_l6] at h
  split at h
  · cases h
    exact canon_mk hc ‹_› ‹_› rfl rfl rfl ⟨‹_›, ‹_›, ‹_›, ‹_›, trivial⟩ trivial
  · cases h
theorem F115_loop6 (N : Nat) : ∀ s o, s = canon (F115_an 6).1 s → (lam N [(6, F115_l6 N)]).v 6 s = some o → LoopSem Tryz.prog (nthLoop 6 (Tryz.f115.body.getD .skip)) s o :=
  loop_ok (tabOf_ok Tryz.prog) (gam_ok _) mixed F115_an N [(6, F115_l6 N)] 6 (bodyOf (nthLoop 6 (Tryz.f115.body.getD .skip))) (nthLoop 6 (Tryz.f115.body.getD .skip)) (by kernel_rfl) (by
    have e : actOf F115_an (bodyOf (nthLoop 6 (Tryz.f115.body.getD .skip))) (6 + 1) = [] := by kernel_rfl
    rw [e]
    intro p hp
    cases hp) (F115_l6 N) rfl (fun s x hc h => F115_pat6 N s x hc h) (fun x => rfl) (fun x α kn ke => (F115_body6 N x α kn ke).trans (congrArg ((F115_l6 N).b x α _) (funext fun y => (F115_l6 N).spe y α ke))) (F115_par6 N)
theorem F115_parF (N : Nat) : ParF (F115_s N).t := by
  intro x α β k k' r r' h h1
  revert h
  dsimp only [F115_s]
  (repeat' (first | (with_reducible refine par_ite ?_ ?_) | (with_reducible refine par_both ?_ ?_) | split)) <;> intro h <;> first | exact h1 _ h | (cases h; done)
theorem F115_text (N : Nat) (x : (F115_s N).X) : acall (tabOf Tryz.prog) (F115_g N) F115_an (lam N [(6, F115_l6 N)]) Tryz.f115 (F115_s N).S ((F115_s N).args x) ((F115_s N).bs x) = (F115_s N).t x Ret (fun y => some ((F115_s N).ret y)) := by kernel_rfl
theorem F115_pat (N : Nat) (a : List AV) (b : List (List AV)) (x : (F115_s N).X) (h : (F115_s N).pat a b = some x) : a = (F115_s N).args x ∧ b = (F115_s N).bs x := by
  dsimp only [F115_s] at h
  split at h
  · cases h; exact ⟨rfl, rfl⟩
  · cases h
noncomputable def F115_e (N : Nat) : Ent Tryz.prog := entOf (tabOf_ok Tryz.prog) (gam_ok _) mixed 115 Tryz.f115 Tryz.func115 rfl F115_an (lam N [(6, F115_l6 N)]) (by
    have e : actOf F115_an (Tryz.f115.body.getD .skip) 0 = [(6, nthLoop 6 (Tryz.f115.body.getD .skip))] := by kernel_rfl
    rw [e]
    intro p hp
    rcases List.mem_cons.1 hp with rfl | hp
    · exact F115_loop6 N
    cases hp) (F115_s N) (fun _ => ⟨rfl, rfl⟩) (F115_text N) (F115_pat N) (F115_parF N)
/-! ### seismonet/steim.decompress (function 103) -/
def F103_an : Nat → Keep × Keep := anL [(10, ⟨[0, 25, 26], [(5, 1)], [], [], [], [], [], [], false⟩, ⟨[3], [(5, 1)], [], [(2, 1)], [], [], [], [], false⟩), (25, ⟨[0, 7, 10, 25, 26], [(5, 1)], [], [(8, 1)], [], [], [], [], false⟩, ⟨[0, 25, 26], [(5, 1)], [], [], [], [], [], [], false⟩)]
noncomputable def F103_g (N : Nat) : GamK := gam (P := Tryz.prog) [F102_e N, F114_e N, F100_e N, F115_e N]
noncomputable def F103_l25 (N : Nat) : LSpec where
  X := (List (List AV)) × (List (List AV)) × ByteArray × ByteArray × Int × Int × Int
  Y := ((List (List AV)) × ByteArray × Int × Int)
  p := fun s => match s.env.length, s.nin, s.at 5, s.at 8, s.at 0, s.at 7, s.at 10, s.at 25, s.at 26 with
    | 82, 0, (AV.list 1 a0 (some 1280000320)), (AV.list 1 a1 none), (AV.v (.string a2)), (AV.v (.string a3)), (AV.v (.int .i64 a4)), (AV.v (.int .i64 a5)), (AV.v (.int .i64 a6)) => some (a0, a1, a2, a3, a4, a5, a6)
    | _, _, _, _, _, _, _, _, _ => none
  st := fun x => mkS 82 [(5, (AV.list 1 x.1 (some 1280000320))), (8, (AV.list 1 x.2.1 none)), (0, (AV.v (.string x.2.2.1))), (7, (AV.v (.string x.2.2.2.1))), (10, (AV.v (.int .i64 x.2.2.2.2.1))), (25, (AV.v (.int .i64 x.2.2.2.2.2.1))), (26, (AV.v (.int .i64 x.2.2.2.2.2.2)))] [] (F103_an 25).1.toks 0
  out := fun y => (.exit 2, mkS 82 [(5, (AV.list 1 y.1 (some 1280000320))), (0, (AV.v (.string y.2.1))), (25, (AV.v (.int .i64 y.2.2.1))), (26, (AV.v (.int .i64 y.2.2.2)))] [] (F103_an 25).2.toks 0)
  sp := fun y α k => k (.exit 2, mkS 82 [(5, (AV.list 1 y.1 (some 1280000320))), (0, (AV.v (.string y.2.1))), (25, (AV.v (.int .i64 y.2.2.1))), (26, (AV.v (.int .i64 y.2.2.2)))] [] (F103_an 25).2.toks 0)
  spe := fun y α k => rfl
  b := fun x α kn ke => (match (decide (x.2.2.2.2.1 < 16)) with | true => (match F100_d N (x.2.2.2.1, (i64 (x.2.2.2.2.1 * 4)), 4) with | some y15 => (if 0 ≤ x.2.2.2.2.1 then (match x.2.1[x.2.2.2.2.1.toNat]? with | some c16 => (match c16[0]? with | some x17 => (match x17 with | .v (.int q19 n18) => (if q19 = .i64 then (match F115_d N (n18, y15.1) with | some y20 => (if (x.1.length + y20.length) * 8 ≤ maxBytes then (kn ((x.1 ++ y20), x.2.1, x.2.2.1, x.2.2.2.1, (i64 (x.2.2.2.2.1 + 1)), x.2.2.2.2.2.1, x.2.2.2.2.2.2)) else none) | none => none) else none) | _ => none) | none => none) | none => none) else none) | none => none) | false => (ke (x.1, x.2.2.1, x.2.2.2.2.2.1, x.2.2.2.2.2.2)))
noncomputable abbrev F103_d25 (N : Nat) (x : (List (List AV)) × (List (List AV)) × ByteArray × ByteArray × Int × Int × Int) : Option (((List (List AV)) × ByteArray × Int × Int)) := (F103_l25 N).L N x
noncomputable def F103_l10 (N : Nat) : LSpec where
  X := (List (List AV)) × ByteArray × Int × Int
  Y := ((List (List AV)) × (List (List AV)) × Bool) ⊕ ((List (List AV)))
  p := fun s => match s.env.length, s.nin, s.at 5, s.at 0, s.at 25, s.at 26 with
    | 82, 0, (AV.list 1 a0 (some 1280000320)), (AV.v (.string a1)), (AV.v (.int .i64 a2)), (AV.v (.int .i64 a3)) => some (a0, a1, a2, a3)
    | _, _, _, _, _, _ => none
  st := fun x => mkS 82 [(5, (AV.list 1 x.1 (some 1280000320))), (0, (AV.v (.string x.2.1))), (25, (AV.v (.int .i64 x.2.2.1))), (26, (AV.v (.int .i64 x.2.2.2)))] [] (F103_an 10).1.toks 0
  out := fun y => match y with
    | .inl y => (.ret, mkS 82 [(5, (AV.list 1 y.1 (some 1280000320))), (2, (AV.list 1 y.2.1 none)), (3, (AV.v (.bool y.2.2)))] [] (F103_an 10).2.toks 0)
    | .inr y => (.exit 0, mkS 82 [(5, (AV.list 1 y (some 1280000320)))] [] (F103_an 10).2.toks 0)
  sp := fun y α k => match y with
    | .inl y => k (.ret, mkS 82 [(5, (AV.list 1 y.1 (some 1280000320))), (2, (AV.list 1 y.2.1 none)), (3, (AV.v (.bool y.2.2)))] [] (F103_an 10).2.toks 0)
    | .inr y => k (.exit 0, mkS 82 [(5, (AV.list 1 y (some 1280000320)))] [] (F103_an 10).2.toks 0)
  spe := fun y α k => by rcases y with _ | _ <;> rfl
  b := fun x α kn ke => (match (decide (x.2.2.2 < x.2.2.1)) with | true => (if 0 ≤ (i64 (x.2.2.2 * 64)) ∧ (i64 (x.2.2.2 * 64)) ≤ (i64 ((i64 (x.2.2.2 + 1)) * 64)) ∧ (i64 ((i64 (x.2.2.2 + 1)) * 64)) ≤ x.2.1.size then (match F114_d N (x.2.1.extract (i64 (x.2.2.2 * 64)).toNat (i64 ((i64 (x.2.2.2 + 1)) * 64)).toNat) with | some y2 => (if 0 ≤ (0 : Int) then (match y2.1[(0 : Int).toNat]? with | some c3 => (match c3[0]? with | some x4 => (match x4 with | .v (.int q6 n5) => (if q6 = .i64 then (match (n5 != 0) with | true => (ke (.inl (x.1, ([] : List (List AV)), false))) | false => (match (x.2.2.2 == 0) with | true => (if 0 ≤ (1 : Int) then (match y2.1[(1 : Int).toNat]? with | some c7 => (match c7[0]? with | some x8 => (match x8 with | .v (.int q10 n9) => (if q10 = .i64 then (match (n9 != 0) with | true => (ke (.inl (x.1, ([] : List (List AV)), false))) | false => (if 0 ≤ (2 : Int) then (match y2.1[(2 : Int).toNat]? with | some c11 => (match c11[0]? with | some x12 => (match x12 with | .v (.int q14 n13) => (if q14 = .i64 then (match (n13 != 0) with | true => (ke (.inl (x.1, ([] : List (List AV)), false))) | false => (match F103_d25 N (x.1, y2.1, x.2.1, (x.2.1.extract (i64 (x.2.2.2 * 64)).toNat (i64 ((i64 (x.2.2.2 + 1)) * 64)).toNat), 1, x.2.2.1, x.2.2.2) with | some y21 => (kn (y21.1, y21.2.1, y21.2.2.1, (i64 (y21.2.2.2 + 1)))) | none => none)) else none) | _ => none) | none => none) | none => none) else none)) else none) | _ => none) | none => none) | none => none) else none) | false => (match F103_d25 N (x.1, y2.1, x.2.1, (x.2.1.extract (i64 (x.2.2.2 * 64)).toNat (i64 ((i64 (x.2.2.2 + 1)) * 64)).toNat), 1, x.2.2.1, x.2.2.2) with | some y22 => (kn (y22.1, y22.2.1, y22.2.2.1, (i64 (y22.2.2.2 + 1)))) | none => none))) else none) | _ => none) | none => none) | none => none) else none) | none => none) else none) | false => (ke (.inr x.1)))
noncomputable abbrev F103_d10 (N : Nat) (x : (List (List AV)) × ByteArray × Int × Int) : Option (((List (List AV)) × (List (List AV)) × Bool) ⊕ ((List (List AV)))) := (F103_l10 N).L N x
noncomputable def F103_s (N : Nat) : FSpec where
  X := ByteArray
  Y := (List (List AV)) × Bool
  ash := [[none]]
  bsh := []
  S := ⟨[[some 1], [none]], [], [], [], []⟩
  bm := false
  pat := fun a b => match a, b with
    | [(AV.v (.string a0))], [] => some a0
    | _, _ => none
  args := fun x => [(AV.v (.string x))]
  bs := fun x => []
  ret := fun y => ⟨(AV.tup [(AV.list 1 y.1 none), (AV.v (.bool y.2))]), [], none, [], [], []⟩
  t := fun x α k => (match (((x.size : Int).tmod 64) != 0) with | true => (k (([] : List (List AV)), false)) | false => (match F102_d N ((i64 ((x.size : Int).tdiv 64)), 1, 8) with | some y1 => (match (!y1) with | true => (k (([] : List (List AV)), false)) | false => (match F103_d10 N (([] : List (List AV)), x, (i64 ((x.size : Int).tdiv 64)), 0) with | some y23 => (match y23 with | .inl z24 => (k (z24.2.1, z24.2.2)) | .inr z25 => (k (z25, true))) | none => none)) | none => none))
noncomputable abbrev F103_d (N : Nat) (x : ByteArray) : Option ((List (List AV)) × Bool) := (F103_s N).d x
theorem F103_par25 (N : Nat) : Par (F103_l25 N).b := by
  intro x α β kn ke kn' ke' r r' h h1 h2
  revert h
  dsimp only [F103_l25]
  (repeat' (first | (with_reducible refine par_ite ?_ ?_) | (with_reducible refine par_both ?_ ?_) | split)) <;> intro h <;> first | exact h1 _ h | exact h2 _ h | (cases h; done)
theorem F103_body25 (N : Nat) (x : (F103_l25 N).X) (α : Type) (kn : AS → Option α) (ke : Out → Option α) : around (tabOf Tryz.prog) (F103_g N) F103_an (lam N [(10, F103_l10 N), (25, F103_l25 N)]) 25 (bodyOf (nthLoop 25 (Tryz.f103.body.getD .skip))) ((F103_l25 N).st x) kn ke = (F103_l25 N).b x α (fun x' => kn ((F103_l25 N).st x')) (fun y => (F103_l25 N).sp y α ke) := by kernel_rfl
theorem F103_pat25 (N : Nat) (s : AS) (x : (F103_l25 N).X) (hc : s = canon (F103_an 25).1 s) (h : (F103_l25 N).p s = some x) : s = (F103_l25 N).st x := by
  dsimp only [F103_l25] at h
  split at h
  · cases h
    exact canon_mk hc ‹_› ‹_› rfl rfl rfl ⟨‹_›, ‹_›, ‹_›, ‹_›, ‹_›, ‹_›, ‹_›, trivial⟩ trivial
  · cases h
theorem F103_loop25 (N : Nat) : ∀ s o, s = canon (F103_an 25).1 s → (lam N [(10, F103_l10 N), (25, F103_l25 N)]).v 25 s = some o → LoopSem Tryz.prog (nthLoop 25 (Tryz.f103.body.getD .skip)) s o :=
  loop_ok (tabOf_ok Tryz.prog) (gam_ok _) mixed F103_an N [(10, F103_l10 N), (25, F103_l25 N)] 25 (bodyOf (nthLoop 25 (Tryz.f103.body.getD .skip))) (nthLoop 25 (Tryz.f103.body.getD .skip)) (by kernel_rfl) (by
    have e : actOf F103_an (bodyOf (nthLoop 25 (Tryz.f103.body.getD .skip))) (25 + 1) = [] := by kernel_rfl
    rw [e]
    intro p hp
    cases hp) (F103_l25 N) rfl (fun s x hc h => F103_pat25 N s x hc h) (fun x => rfl) (fun x α kn ke => (F103_body25 N x α kn ke).trans (congrArg ((F103_l25 N).b x α _) (funext fun y => (F103_l25 N).spe y α ke))) (F103_par25 N)
theorem F103_par10 (N : Nat) : Par (F103_l10 N).b := by
  intro x α β kn ke kn' ke' r r' h h1 h2
  revert h
  dsimp only [F103_l10]
  (repeat' (first | (with_reducible refine par_ite ?_ ?_) | (with_reducible refine par_both ?_ ?_) | split)) <;> intro h <;> first | exact h1 _ h | exact h2 _ h | (cases h; done)
theorem F103_body10 (N : Nat) (x : (F103_l10 N).X) (α : Type) (kn : AS → Option α) (ke : Out → Option α) : around (tabOf Tryz.prog) (F103_g N) F103_an (lam N [(10, F103_l10 N), (25, F103_l25 N)]) 10 (bodyOf (nthLoop 10 (Tryz.f103.body.getD .skip))) ((F103_l10 N).st x) kn ke = (F103_l10 N).b x α (fun x' => kn ((F103_l10 N).st x')) (fun y => (F103_l10 N).sp y α ke) := by kernel_rfl
theorem F103_pat10 (N : Nat) (s : AS) (x : (F103_l10 N).X) (hc : s = canon (F103_an 10).1 s) (h : (F103_l10 N).p s = some x) : s = (F103_l10 N).st x := by
  dsimp only [F103_l10] at h
  split at h
  · cases h
    exact canon_mk hc ‹_› ‹_› rfl rfl rfl ⟨‹_›, ‹_›, ‹_›, ‹_›, trivial⟩ trivial
  · cases h
theorem F103_loop10 (N : Nat) : ∀ s o, s = canon (F103_an 10).1 s → (lam N [(10, F103_l10 N), (25, F103_l25 N)]).v 10 s = some o → LoopSem Tryz.prog (nthLoop 10 (Tryz.f103.body.getD .skip)) s o :=
  loop_ok (tabOf_ok Tryz.prog) (gam_ok _) mixed F103_an N [(10, F103_l10 N), (25, F103_l25 N)] 10 (bodyOf (nthLoop 10 (Tryz.f103.body.getD .skip))) (nthLoop 10 (Tryz.f103.body.getD .skip)) (by kernel_rfl) (by
    have e : actOf F103_an (bodyOf (nthLoop 10 (Tryz.f103.body.getD .skip))) (10 + 1) = [(25, nthLoop 25 (Tryz.f103.body.getD .skip))] := by kernel_rfl
    rw [e]
    intro p hp
    rcases List.mem_cons.1 hp with rfl | hp
    · exact F103_loop25 N
    cases hp) (F103_l10 N) rfl (fun s x hc h => F103_pat10 N s x hc h) (fun x => rfl) (fun x α kn ke => (F103_body10 N x α kn ke).trans (congrArg ((F103_l10 N).b x α _) (funext fun y => (F103_l10 N).spe y α ke))) (F103_par10 N)
theorem F103_parF (N : Nat) : ParF (F103_s N).t := by
  intro x α β k k' r r' h h1
  revert h
  dsimp only [F103_s]
  (repeat' (first | (with_reducible refine par_ite ?_ ?_) | (with_reducible refine par_both ?_ ?_) | split)) <;> intro h <;> first | exact h1 _ h | (cases h; done)
theorem F103_text (N : Nat) (x : (F103_s N).X) : acall (tabOf Tryz.prog) (F103_g N) F103_an (lam N [(10, F103_l10 N), (25, F103_l25 N)]) Tryz.f103 (F103_s N).S ((F103_s N).args x) ((F103_s N).bs x) = (F103_s N).t x Ret (fun y => some ((F103_s N).ret y)) := by kernel_rfl
theorem F103_pat (N : Nat) (a : List AV) (b : List (List AV)) (x : (F103_s N).X) (h : (F103_s N).pat a b = some x) : a = (F103_s N).args x ∧ b = (F103_s N).bs x := by
  dsimp only [F103_s] at h
  split at h
  · cases h; exact ⟨rfl, rfl⟩
  · cases h
noncomputable def F103_e (N : Nat) : Ent Tryz.prog := entOf (tabOf_ok Tryz.prog) (gam_ok _) mixed 103 Tryz.f103 Tryz.func103 rfl F103_an (lam N [(10, F103_l10 N), (25, F103_l25 N)]) (by
    have e : actOf F103_an (Tryz.f103.body.getD .skip) 0 = [(10, nthLoop 10 (Tryz.f103.body.getD .skip)), (25, nthLoop 25 (Tryz.f103.body.getD .skip))] := by kernel_rfl
    rw [e]
    intro p hp
    rcases List.mem_cons.1 hp with rfl | hp
    · exact F103_loop10 N
    rcases List.mem_cons.1 hp with rfl | hp
    · exact F103_loop25 N
    cases hp) (F103_s N) (fun _ => ⟨rfl, rfl⟩) (F103_text N) (F103_pat N) (F103_parF N)
/-! ### seismonet/steim.Decode$1 (function 104) -/
def F104_an : Nat → Keep × Keep := anL []
noncomputable def F104_g (N : Nat) : GamK := gam (P := Tryz.prog) [F100_e N, F105_e N]
noncomputable def F104_s (N : Nat) : FSpec where
  X := Int × ByteArray
  Y := Int × ByteArray
  ash := [[none], [none]]
  bsh := [[none]]
  S := ⟨[[none]], [[none]], [], [], []⟩
  bm := false
  pat := fun a b => match a, b with
    | [(AV.v (.int .i64 a0)), (AV.ptr 0 0)], [[(AV.v (.string a1))]] => some (a0, a1)
    | _, _ => none
  args := fun x => [(AV.v (.int .i64 x.1)), (AV.ptr 0 0)]
  bs := fun x => [[(AV.v (.string x.2))]]
  ret := fun y => ⟨(AV.v (.int .i64 y.1)), [[(AV.v (.string y.2))]], none, [], [], []⟩
  t := fun x α k => (match F100_d N (x.2, (i64 (x.1 * 4)), 4) with | some y1 => (match F105_d N (y1.1, 32) with | some y2 => (k (y2.1, x.2)) | none => none) | none => none)
noncomputable abbrev F104_d (N : Nat) (x : Int × ByteArray) : Option (Int × ByteArray) := (F104_s N).d x
theorem F104_parF (N : Nat) : ParF (F104_s N).t := by
  intro x α β k k' r r' h h1
  revert h
  dsimp only [F104_s]
  (repeat' (first | (with_reducible refine par_ite ?_ ?_) | (with_reducible refine par_both ?_ ?_) | split)) <;> intro h <;> first | exact h1 _ h | (cases h; done)
theorem F104_text (N : Nat) (x : (F104_s N).X) : acall (tabOf Tryz.prog) (F104_g N) F104_an (lam N []) Tryz.f104 (F104_s N).S ((F104_s N).args x) ((F104_s N).bs x) = (F104_s N).t x Ret (fun y => some ((F104_s N).ret y)) := by kernel_rfl
theorem F104_pat (N : Nat) (a : List AV) (b : List (List AV)) (x : (F104_s N).X) (h : (F104_s N).pat a b = some x) : a = (F104_s N).args x ∧ b = (F104_s N).bs x := by
  dsimp only [F104_s] at h
  split at h
  · cases h; exact ⟨rfl, rfl⟩
  · cases h
noncomputable def F104_e (N : Nat) : Ent Tryz.prog := entOf (tabOf_ok Tryz.prog) (gam_ok _) mixed 104 Tryz.f104 Tryz.func104 rfl F104_an (lam N []) (by
    have e : actOf F104_an (Tryz.f104.body.getD .skip) 0 = [] := by kernel_rfl
    rw [e]
    intro p hp
    cases hp) (F104_s N) (fun _ => ⟨rfl, rfl⟩) (F104_text N) (F104_pat N) (F104_parF N)
/-! ### seismonet/steim.Decode$2 (function 106) -/
def F106_an : Nat → Keep × Keep := anL []
noncomputable def F106_g (N : Nat) : GamK := gam (P := Tryz.prog) [F90_e N]
noncomputable def F106_s (N : Nat) : FSpec where
  X := Int
  Y := Bool
  ash := [[none]]
  bsh := []
  S := ⟨[[none]], [], [], [], []⟩
  bm := false
  pat := fun a b => match a, b with
    | [(AV.v (.int .i64 a0))], [] => some a0
    | _, _ => none
  args := fun x => [(AV.v (.int .i64 x))]
  bs := fun x => []
  ret := fun y => ⟨(AV.v (.bool y)), [], none, [], [], []⟩
  t := fun x α k => (match F90_d N x with | some y1 => (k (!y1)) | none => none)
noncomputable abbrev F106_d (N : Nat) (x : Int) : Option (Bool) := (F106_s N).d x
theorem F106_parF (N : Nat) : ParF (F106_s N).t := by
  intro x α β k k' r r' h h1
  revert h
  dsimp only [F106_s]
  (repeat' (first | (with_reducible refine par_ite ?_ ?_) | (with_reducible refine par_both ?_ ?_) | split)) <;> intro h <;> first | exact h1 _ h | (cases h; done)
theorem F106_text (N : Nat) (x : (F106_s N).X) : acall (tabOf Tryz.prog) (F106_g N) F106_an (lam N []) Tryz.f106 (F106_s N).S ((F106_s N).args x) ((F106_s N).bs x) = (F106_s N).t x Ret (fun y => some ((F106_s N).ret y)) := by kernel_rfl
theorem F106_pat (N : Nat) (a : List AV) (b : List (List AV)) (x : (F106_s N).X) (h : (F106_s N).pat a b = some x) : a = (F106_s N).args x ∧ b = (F106_s N).bs x := by
  dsimp only [F106_s] at h
  split at h
  · cases h; exact ⟨rfl, rfl⟩
  · cases h
noncomputable def F106_e (N : Nat) : Ent Tryz.prog := entOf (tabOf_ok Tryz.prog) (gam_ok _) mixed 106 Tryz.f106 Tryz.func106 rfl F106_an (lam N []) (by
    have e : actOf F106_an (Tryz.f106.body.getD .skip) 0 = [] := by kernel_rfl
    rw [e]
    intro p hp
    cases hp) (F106_s N) (fun _ => ⟨rfl, rfl⟩) (F106_text N) (F106_pat N) (F106_parF N)
/-! ### slices.IndexFunc[[]int,int] (function 110) -/
def F110b_an : Nat → Keep × Keep := anL [(4, ⟨[1, 7, 8], [], [], [(0, 1)], [], [], [], [], false⟩, ⟨[4], [], [], [], [], [], [], [], false⟩)]
noncomputable def F110b_g (N : Nat) : GamK := gam (P := Tryz.prog) [F106_e N]
noncomputable def F110b_l4 (N : Nat) : LSpec where
  X := (List (List AV)) × Int × Int
  Y := (Int) ⊕ (Unit)
  p := fun s => match s.env.length, s.nin, s.at 0, s.at 1, s.at 7, s.at 8 with
    | 19, 0, (AV.list 1 a0 none), (AV.fn (.func 106) [] []), (AV.v (.int .i64 a1)), (AV.v (.int .i64 a2)) => some (a0, a1, a2)
    | _, _, _, _, _, _ => none
  st := fun x => mkS 19 [(0, (AV.list 1 x.1 none)), (1, (AV.fn (.func 106) [] [])), (7, (AV.v (.int .i64 x.2.1))), (8, (AV.v (.int .i64 x.2.2)))] [] (F110b_an 4).1.toks 0
  out := fun y => match y with
    | .inl y => (.ret, mkS 19 [(4, (AV.v (.int .i64 y)))] [] (F110b_an 4).2.toks 0)
    | .inr y => (.exit 0, mkS 19 [] [] (F110b_an 4).2.toks 0)
  sp := fun y α k => match y with
    | .inl y => k (.ret, mkS 19 [(4, (AV.v (.int .i64 y)))] [] (F110b_an 4).2.toks 0)
    | .inr y => k (.exit 0, mkS 19 [] [] (F110b_an 4).2.toks 0)
  spe := fun y α k => by rcases y with _ | _ <;> rfl
  b := fun x α kn ke => (match (decide (x.2.2 < x.2.1)) with | true => (if 0 ≤ x.2.2 then (match x.1[x.2.2.toNat]? with | some c1 => (match c1[0]? with | some x2 => (match x2 with | .v (.int q4 n3) => (if q4 = .i64 then (match F106_d N n3 with | some y5 => (match y5 with | true => (ke (.inl x.2.2)) | false => (kn (x.1, x.2.1, (i64 (x.2.2 + 1))))) | none => none) else none) | _ => none) | none => none) | none => none) else none) | false => (ke (.inr ())))
noncomputable abbrev F110b_d4 (N : Nat) (x : (List (List AV)) × Int × Int) : Option ((Int) ⊕ (Unit)) := (F110b_l4 N).L N x
noncomputable def F110b_s (N : Nat) : FSpec where
  X := (List (List AV))
  Y := Int
  ash := [[some 1], [none]]
  bsh := []
  S := ⟨[[none]], [], [], [], []⟩
  bm := false
  pat := fun a b => match a, b with
    | [(AV.list 1 a0 none), (AV.fn (.func 106) [] [])], [] => some a0
    | _, _ => none
  args := fun x => [(AV.list 1 x none), (AV.fn (.func 106) [] [])]
  bs := fun x => []
  ret := fun y => ⟨(AV.v (.int .i64 y)), [], none, [], [], []⟩
  t := fun x α k => (match F110b_d4 N (x, (x.length : Int), 0) with | some y6 => (match y6 with | .inl z7 => (k z7) | .inr z8 => (k (-1))) | none => none)
noncomputable abbrev F110b_d (N : Nat) (x : (List (List AV))) : Option (Int) := (F110b_s N).d x
theorem F110b_par4 (N : Nat) : Par (F110b_l4 N).b := by
  intro x α β kn ke kn' ke' r r' h h1 h2
  revert h
  dsimp only [F110b_l4]
  (repeat' (first | (with_reducible refine par_ite ?_ ?_) | (with_reducible refine par_both ?_ ?_) | split)) <;> intro h <;> first | exact h1 _ h | exact h2 _ h | (cases h; done)
theorem F110b_body4 (N : Nat) (x : (F110b_l4 N).X) (α : Type) (kn : AS → Option α) (ke : Out → Option α) : around (tabOf Tryz.prog) (F110b_g N) F110b_an (lam N [(4, F110b_l4 N)]) 4 (bodyOf (nthLoop 4 (Tryz.f110.body.getD .skip))) ((F110b_l4 N).st x) kn ke = (F110b_l4 N).b x α (fun x' => kn ((F110b_l4 N).st x')) (fun y => (F110b_l4 N).sp y α ke) := by kernel_rfl
theorem F110b_pat4 (N : Nat) (s : AS) (x : (F110b_l4 N).X) (hc : s = canon (F110b_an 4).1 s) (h : (F110b_l4 N).p s = some x) : s = (F110b_l4 N).st x := by
  dsimp only [F110b_l4] at h
  split at h
  · cases h
    exact canon_mk hc ‹_› ‹_› rfl rfl rfl ⟨‹_›, ‹_›, ‹_›, ‹_›, trivial⟩ trivial
  · cases h
theorem F110b_loop4 (N : Nat) : ∀ s o, s = canon (F110b_an 4).1 s → (lam N [(4, F110b_l4 N)]).v 4 s = some o → LoopSem Tryz.prog (nthLoop 4 (Tryz.f110.body.getD .skip)) s o :=
  loop_ok (tabOf_ok Tryz.prog) (gam_ok _) mixed F110b_an N [(4, F110b_l4 N)] 4 (bodyOf (nthLoop 4 (Tryz.f110.body.getD .skip))) (nthLoop 4 (Tryz.f110.body.getD .skip)) (by kernel_rfl) (by
    have e : actOf F110b_an (bodyOf (nthLoop 4 (Tryz.f110.body.getD .skip))) (4 + 1) = [] := by kernel_rfl
    rw [e]
    intro p hp
    cases hp) (F110b_l4 N) rfl (fun s x hc h => F110b_pat4 N s x hc h) (fun x => rfl) (fun x α kn ke => (F110b_body4 N x α kn ke).trans (congrArg ((F110b_l4 N).b x α _) (funext fun y => (F110b_l4 N).spe y α ke))) (F110b_par4 N)
theorem F110b_parF (N : Nat) : ParF (F110b_s N).t := by
  intro x α β k k' r r' h h1
  revert h
  dsimp only [F110b_s]
  (repeat' (first | (with_reducible refine par_ite ?_ ?_) | (with_reducible refine par_both ?_ ?_) | split)) <;> intro h <;> first | exact h1 _ h | (cases h; done)
theorem F110b_text (N : Nat) (x : (F110b_s N).X) : acall (tabOf Tryz.prog) (F110b_g N) F110b_an (lam N [(4, F110b_l4 N)]) Tryz.f110 (F110b_s N).S ((F110b_s N).args x) ((F110b_s N).bs x) = (F110b_s N).t x Ret (fun y => some ((F110b_s N).ret y)) := by kernel_rfl
theorem F110b_pat (N : Nat) (a : List AV) (b : List (List AV)) (x : (F110b_s N).X) (h : (F110b_s N).pat a b = some x) : a = (F110b_s N).args x ∧ b = (F110b_s N).bs x := by
  dsimp only [F110b_s] at h
  split at h
  · cases h; exact ⟨rfl, rfl⟩
  · cases h
noncomputable def F110b_e (N : Nat) : Ent Tryz.prog := entOf (tabOf_ok Tryz.prog) (gam_ok _) mixed 110 Tryz.f110 Tryz.func110 rfl F110b_an (lam N [(4, F110b_l4 N)]) (by
    have e : actOf F110b_an (Tryz.f110.body.getD .skip) 0 = [(4, nthLoop 4 (Tryz.f110.body.getD .skip))] := by kernel_rfl
    rw [e]
    intro p hp
    rcases List.mem_cons.1 hp with rfl | hp
    · exact F110b_loop4 N
    cases hp) (F110b_s N) (fun _ => ⟨rfl, rfl⟩) (F110b_text N) (F110b_pat N) (F110b_parF N)
/-! ### slices.ContainsFunc[[]int,int] (function 88) -/
def F88b_an : Nat → Keep × Keep := anL []
noncomputable def F88b_g (N : Nat) : GamK := gam (P := Tryz.prog) [F110b_e N]
noncomputable def F88b_s (N : Nat) : FSpec where
  X := (List (List AV))
  Y := Bool
  ash := [[some 1], [none]]
  bsh := []
  S := ⟨[[none]], [], [], [], []⟩
  bm := false
  pat := fun a b => match a, b with
    | [(AV.list 1 a0 none), (AV.fn (.func 106) [] [])], [] => some a0
    | _, _ => none
  args := fun x => [(AV.list 1 x none), (AV.fn (.func 106) [] [])]
  bs := fun x => []
  ret := fun y => ⟨(AV.v (.bool y)), [], none, [], [], []⟩
  t := fun x α k => (match F110b_d N x with | some y1 => (k (decide (y1 ≥ 0))) | none => none)
noncomputable abbrev F88b_d (N : Nat) (x : (List (List AV))) : Option (Bool) := (F88b_s N).d x
theorem F88b_parF (N : Nat) : ParF (F88b_s N).t := by
  intro x α β k k' r r' h h1
  revert h
  dsimp only [F88b_s]
  (repeat' (first | (with_reducible refine par_ite ?_ ?_) | (with_reducible refine par_both ?_ ?_) | split)) <;> intro h <;> first | exact h1 _ h | (cases h; done)
theorem F88b_text (N : Nat) (x : (F88b_s N).X) : acall (tabOf Tryz.prog) (F88b_g N) F88b_an (lam N []) Tryz.f88 (F88b_s N).S ((F88b_s N).args x) ((F88b_s N).bs x) = (F88b_s N).t x Ret (fun y => some ((F88b_s N).ret y)) := by kernel_rfl
theorem F88b_pat (N : Nat) (a : List AV) (b : List (List AV)) (x : (F88b_s N).X) (h : (F88b_s N).pat a b = some x) : a = (F88b_s N).args x ∧ b = (F88b_s N).bs x := by
  dsimp only [F88b_s] at h
  split at h
  · cases h; exact ⟨rfl, rfl⟩
  · cases h
noncomputable def F88b_e (N : Nat) : Ent Tryz.prog := entOf (tabOf_ok Tryz.prog) (gam_ok _) mixed 88 Tryz.f88 Tryz.func88 rfl F88b_an (lam N []) (by
    have e : actOf F88b_an (Tryz.f88.body.getD .skip) 0 = [] := by kernel_rfl
    rw [e]
    intro p hp
    cases hp) (F88b_s N) (fun _ => ⟨rfl, rfl⟩) (F88b_text N) (F88b_pat N) (F88b_parF N)
/-! ### seismonet/steim.Decode (function 75) -/
def F75_an : Nat → Keep × Keep := anF [(20, ⟨[1, 8, 9, 10], [], [2, 27], [(6, 1)], [], [], [], [27], false⟩, ⟨[1, 8, 9], [], [2, 27], [], [], [], [], [27], false⟩)] [(100015, ([9], []))]
noncomputable def F75_g (N : Nat) : GamK := gam (P := Tryz.prog) [F102_e N, F103_e N, F104_e N, F88b_e N]
noncomputable def F75_l20 (N : Nat) : LSpec where
  X := (List (List AV)) × Int × Nat × Int × ByteArray × (List AV)
  Y := (Int × Nat × ByteArray × (List AV))
  p := fun s => match s.env.length, s.nin, s.at 6, s.at 1, s.at 8, s.at 9, s.at 10, s.bx 2, s.bx 27 with
    | 61, 0, (AV.list 1 a0 none), (AV.v (.int .i64 a1)), (AV.fn (.func 104) [] [(AV.ptr 2 0)]), (AV.vs 27 0 a2 1), (AV.v (.int .i64 a3)), some [(AV.v (.string a4))], some a5 => some (a0, a1, a2, a3, a4, a5)
    | _, _, _, _, _, _, _, _, _ => none
  st := fun x => mkS 61 [(6, (AV.list 1 x.1 none)), (1, (AV.v (.int .i64 x.2.1))), (8, (AV.fn (.func 104) [] [(AV.ptr 2 0)])), (9, (AV.vs 27 0 x.2.2.1 1)), (10, (AV.v (.int .i64 x.2.2.2.1)))] [(2, [(AV.v (.string x.2.2.2.2.1))]), (27, x.2.2.2.2.2)] (F75_an 20).1.toks 0
  out := fun y => (.exit 0, mkS 61 [(1, (AV.v (.int .i64 y.1))), (8, (AV.fn (.func 104) [] [(AV.ptr 2 0)])), (9, (AV.vs 27 0 y.2.1 1))] [(2, [(AV.v (.string y.2.2.1))]), (27, y.2.2.2)] (F75_an 20).2.toks 0)
  sp := fun y α k => k (.exit 0, mkS 61 [(1, (AV.v (.int .i64 y.1))), (8, (AV.fn (.func 104) [] [(AV.ptr 2 0)])), (9, (AV.vs 27 0 y.2.1 1))] [(2, [(AV.v (.string y.2.2.1))]), (27, y.2.2.2)] (F75_an 20).2.toks 0)
  spe := fun y α k => rfl
  b := fun x α kn ke => (match (decide (x.2.2.2.1 < x.2.1)) with | true => (if 0 ≤ (i64 (x.2.2.2.1 - 1)) ∧ (i64 (x.2.2.2.1 - 1)) < (x.2.2.1 : Int) then (match x.2.2.2.2.2[((0 + (i64 (x.2.2.2.1 - 1)).toNat) * 1)]? with | some x11 => (match x11 with | .v (.int q13 n12) => (if q13 = .i64 then (if 0 ≤ x.2.2.2.1 then (match x.1[x.2.2.2.1.toNat]? with | some c14 => (match c14[0]? with | some x15 => (match x15 with | .v (.int q17 n16) => (if q17 = .i64 then (if 0 ≤ x.2.2.2.1 ∧ x.2.2.2.1 < (x.2.2.1 : Int) then (if ((0 + x.2.2.2.1.toNat) * 1) + 1 ≤ x.2.2.2.2.2.length then (kn (x.1, x.2.1, x.2.2.1, (i64 (x.2.2.2.1 + 1)), x.2.2.2.2.1, ((x.2.2.2.2.2.set (((0 + x.2.2.2.1.toNat) * 1)) (AV.v (.int .i64 (i64 (n12 + n16))))).map dat0))) else none) else none) else none) | _ => none) | none => none) | none => none) else none) else none) | _ => none) | none => none) else none) | false => (ke (x.2.1, x.2.2.1, x.2.2.2.2.1, (x.2.2.2.2.2.map dat0))))
noncomputable abbrev F75_d20 (N : Nat) (x : (List (List AV)) × Int × Nat × Int × ByteArray × (List AV)) : Option ((Int × Nat × ByteArray × (List AV))) := (F75_l20 N).L N x
noncomputable def F75_s (N : Nat) : FSpec where
  X := ByteArray × Int
  Y := (List (List AV)) × Int
  ash := [[none], [none]]
  bsh := []
  S := ⟨[[some 2000001], [none]], [], [], [], []⟩
  bm := false
  pat := fun a b => match a, b with
    | [(AV.v (.string a0)), (AV.v (.int .i64 a1))], [] => some (a0, a1)
    | _, _ => none
  args := fun x => [(AV.v (.string x.1)), (AV.v (.int .i64 x.2))]
  bs := fun x => []
  ret := fun y => ⟨(AV.tup [(AV.list 1 y.1 (some 2560000000)), (AV.v (.int .i64 y.2))]), [], none, [], [2560000000], []⟩
  t := fun x α k => (match F102_d N (x.2, 1, 420) with | some y1 => (match (!y1) with | true => (k (([] : List (List AV)), 2)) | false => (match F103_d N x.1 with | some y2 => (match (!y2.2) with | true => (k (([] : List (List AV)), 3)) | false => (match (decide ((y2.1.length : Int) < x.2)) with | true => (k (([] : List (List AV)), 4)) | false => (if 0 ≤ x.2 ∧ x.2 ≤ x.2 ∧ x.2.toNat * 8 ≤ maxBytes then (match F104_d N (1, x.1) with | some y3 => (if 0 ≤ (0 : Int) ∧ (0 : Int) < ((x.2.toNat) : Int) then (if ((0 + (0 : Int).toNat) * 1) + 1 ≤ (List.replicate x.2.toNat (AV.v (.int .i64 0))).length then (match F75_d20 N (y2.1, x.2, (x.2.toNat), 1, y3.2, (((List.replicate x.2.toNat (AV.v (.int .i64 0))).set (((0 + (0 : Int).toNat) * 1)) (AV.v (.int .i64 y3.1))).map dat0)) with | some y18 => (if y18.2.1 * 1 ≤ y18.2.2.2.length then (match F88b_d N (chunks (y18.2.2.2.take (y18.2.1 * 1)) 1 y18.2.1) with | some y19 => (match y19 with | true => (k (([] : List (List AV)), 2)) | false => (if 0 ≤ (i64 (y18.1 - 1)) then (match (chunks (y18.2.2.2.take (y18.2.1 * 1)) 1 y18.2.1)[(i64 (y18.1 - 1)).toNat]? with | some c20 => (match c20[0]? with | some x21 => (match x21 with | .v (.int q23 n22) => (if q23 = .i64 then (match F104_d N (2, y18.2.2.1) with | some y24 => (match (n22 != y24.1) with | true => (k (([] : List (List AV)), 11)) | false => (k ((chunks (y18.2.2.2.take (y18.2.1 * 1)) 1 y18.2.1), 0))) | none => none) else none) | _ => none) | none => none) | none => none) else none)) | none => none) else none) | none => none) else none) else none) | none => none) else none))) | none => none)) | none => none)
noncomputable abbrev F75_d (N : Nat) (x : ByteArray × Int) : Option ((List (List AV)) × Int) := (F75_s N).d x
theorem F75_par20 (N : Nat) : Par (F75_l20 N).b := by
  intro x α β kn ke kn' ke' r r' h h1 h2
  revert h
  dsimp only [F75_l20]
  (repeat' (first | (with_reducible refine par_ite ?_ ?_) | (with_reducible refine par_both ?_ ?_) | split)) <;> intro h <;> first | exact h1 _ h | exact h2 _ h | (cases h; done)
theorem F75_body20 (N : Nat) (x : (F75_l20 N).X) (α : Type) (kn : AS → Option α) (ke : Out → Option α) : around (tabOf Tryz.prog) (F75_g N) F75_an (lam N [(20, F75_l20 N)]) 20 (bodyOf (nthLoop 20 (Tryz.f75.body.getD .skip))) ((F75_l20 N).st x) kn ke = (F75_l20 N).b x α (fun x' => kn ((F75_l20 N).st x')) (fun y => (F75_l20 N).sp y α ke) := by kernel_rfl
theorem F75_pat20 (N : Nat) (s : AS) (x : (F75_l20 N).X) (hc : s = canon (F75_an 20).1 s) (h : (F75_l20 N).p s = some x) : s = (F75_l20 N).st x := by
  dsimp only [F75_l20] at h
  split at h
  · cases h
    exact canon_mk hc ‹_› ‹_› rfl rfl rfl ⟨‹_›, ‹_›, ‹_›, ‹_›, ‹_›, trivial⟩ ⟨‹_›, ‹_›, trivial⟩
  · cases h
theorem F75_loop20 (N : Nat) : ∀ s o, s = canon (F75_an 20).1 s → (lam N [(20, F75_l20 N)]).v 20 s = some o → LoopSem Tryz.prog (nthLoop 20 (Tryz.f75.body.getD .skip)) s o :=
  loop_ok (tabOf_ok Tryz.prog) (gam_ok _) mixed F75_an N [(20, F75_l20 N)] 20 (bodyOf (nthLoop 20 (Tryz.f75.body.getD .skip))) (nthLoop 20 (Tryz.f75.body.getD .skip)) (by kernel_rfl) (by
    have e : actOf F75_an (bodyOf (nthLoop 20 (Tryz.f75.body.getD .skip))) (20 + 1) = [] := by kernel_rfl
    rw [e]
    intro p hp
    cases hp) (F75_l20 N) rfl (fun s x hc h => F75_pat20 N s x hc h) (fun x => rfl) (fun x α kn ke => (F75_body20 N x α kn ke).trans (congrArg ((F75_l20 N).b x α _) (funext fun y => (F75_l20 N).spe y α ke))) (F75_par20 N)
theorem F75_parF (N : Nat) : ParF (F75_s N).t := by
  intro x α β k k' r r' h h1
  revert h
  dsimp only [F75_s]
  (repeat' (first | (with_reducible refine par_ite ?_ ?_) | (with_reducible refine par_both ?_ ?_) | split)) <;> intro h <;> first | exact h1 _ h | (cases h; done)
theorem F75_text (N : Nat) (x : (F75_s N).X) : acall (tabOf Tryz.prog) (F75_g N) F75_an (lam N [(20, F75_l20 N)]) Tryz.f75 (F75_s N).S ((F75_s N).args x) ((F75_s N).bs x) = (F75_s N).t x Ret (fun y => some ((F75_s N).ret y)) := by kernel_rfl
theorem F75_pat (N : Nat) (a : List AV) (b : List (List AV)) (x : (F75_s N).X) (h : (F75_s N).pat a b = some x) : a = (F75_s N).args x ∧ b = (F75_s N).bs x := by
  dsimp only [F75_s] at h
  split at h
  · cases h; exact ⟨rfl, rfl⟩
  · cases h
noncomputable def F75_e (N : Nat) : Ent Tryz.prog := entOf (tabOf_ok Tryz.prog) (gam_ok _) mixed 75 Tryz.f75 Tryz.func75 rfl F75_an (lam N [(20, F75_l20 N)]) (by
    have e : actOf F75_an (Tryz.f75.body.getD .skip) 0 = [(20, nthLoop 20 (Tryz.f75.body.getD .skip))] := by kernel_rfl
    rw [e]
    intro p hp
    rcases List.mem_cons.1 hp with rfl | hp
    · exact F75_loop20 N
    cases hp) (F75_s N) (fun _ => ⟨rfl, rfl⟩) (F75_text N) (F75_pat N) (F75_parF N)
/-! ### seismonet/seismonetref05.Same (function 43) -/
def F43_an : Nat → Keep × Keep := anL [(8, ⟨[5], [], [], [(0, 1), (1, 1)], [], [], [], [], false⟩, ⟨[4], [], [], [], [], [], [], [], false⟩)]
noncomputable def F43_g (N : Nat) : GamK := gam (P := Tryz.prog) []
noncomputable def F43_l8 (N : Nat) : LSpec where
  X := (List (List AV)) × (List (List AV)) × Int
  Y := (Bool) ⊕ (Unit)
  p := fun s => match s.env.length, s.nin, s.at 0, s.at 1, s.at 5 with
    | 26, 0, (AV.list 1 a0 none), (AV.list 1 a1 none), (AV.v (.int .i64 a2)) => some (a0, a1, a2)
    | _, _, _, _, _ => none
  st := fun x => mkS 26 [(0, (AV.list 1 x.1 none)), (1, (AV.list 1 x.2.1 none)), (5, (AV.v (.int .i64 x.2.2)))] [] (F43_an 8).1.toks 0
  out := fun y => match y with
    | .inl y => (.ret, mkS 26 [(4, (AV.v (.bool y)))] [] (F43_an 8).2.toks 0)
    | .inr y => (.exit 0, mkS 26 [] [] (F43_an 8).2.toks 0)
  sp := fun y α k => match y with
    | .inl y => k (.ret, mkS 26 [(4, (AV.v (.bool y)))] [] (F43_an 8).2.toks 0)
    | .inr y => k (.exit 0, mkS 26 [] [] (F43_an 8).2.toks 0)
  spe := fun y α k => by rcases y with _ | _ <;> rfl
  b := fun x α kn ke => (match (decide (x.2.2 < (x.1.length : Int))) with | true => (if 0 ≤ x.2.2 then (match x.1[x.2.2.toNat]? with | some c1 => (match c1[0]? with | some x2 => (match x2 with | .v (.int q4 n3) => (if q4 = .i64 then (if 0 ≤ x.2.2 then (match x.2.1[x.2.2.toNat]? with | some c5 => (match c5[0]? with | some x6 => (match x6 with | .v (.int q8 n7) => (if q8 = .i64 then (match (n3 != n7) with | true => (ke (.inl false)) | false => (kn (x.1, x.2.1, (i64 (x.2.2 + 1))))) else none) | _ => none) | none => none) | none => none) else none) else none) | _ => none) | none => none) | none => none) else none) | false => (ke (.inr ())))
noncomputable abbrev F43_d8 (N : Nat) (x : (List (List AV)) × (List (List AV)) × Int) : Option ((Bool) ⊕ (Unit)) := (F43_l8 N).L N x
noncomputable def F43_s (N : Nat) : FSpec where
  X := (List (List AV)) × (List (List AV))
  Y := Bool
  ash := [[some 1], [some 1]]
  bsh := []
  S := ⟨[[none]], [], [], [], []⟩
  bm := false
  pat := fun a b => match a, b with
    | [(AV.list 1 a0 none), (AV.list 1 a1 none)], [] => some (a0, a1)
    | _, _ => none
  args := fun x => [(AV.list 1 x.1 none), (AV.list 1 x.2 none)]
  bs := fun x => []
  ret := fun y => ⟨(AV.v (.bool y)), [], none, [], [], []⟩
  t := fun x α k => (match ((x.1.length : Int) != (x.2.length : Int)) with | true => (k false) | false => (match F43_d8 N (x.1, x.2, 0) with | some y9 => (match y9 with | .inl z10 => (k z10) | .inr z11 => (k true)) | none => none))
noncomputable abbrev F43_d (N : Nat) (x : (List (List AV)) × (List (List AV))) : Option (Bool) := (F43_s N).d x
theorem F43_par8 (N : Nat) : Par (F43_l8 N).b := by
  intro x α β kn ke kn' ke' r r' h h1 h2
  revert h
  dsimp only [F43_l8]
  (repeat' (first | (with_reducible refine par_ite ?_ ?_) | (with_reducible refine par_both ?_ ?_) | split)) <;> intro h <;> first | exact h1 _ h | exact h2 _ h | (cases h; done)
theorem F43_body8 (N : Nat) (x : (F43_l8 N).X) (α : Type) (kn : AS → Option α) (ke : Out → Option α) : around (tabOf Tryz.prog) (F43_g N) F43_an (lam N [(8, F43_l8 N)]) 8 (bodyOf (nthLoop 8 (Tryz.f43.body.getD .skip))) ((F43_l8 N).st x) kn ke = (F43_l8 N).b x α (fun x' => kn ((F43_l8 N).st x')) (fun y => (F43_l8 N).sp y α ke) := by kernel_rfl
theorem F43_pat8 (N : Nat) (s : AS) (x : (F43_l8 N).X) (hc : s = canon (F43_an 8).1 s) (h : (F43_l8 N).p s = some x) : s = (F43_l8 N).st x := by
  dsimp only [F43_l8] at h
  split at h
  · cases h
    exact canon_mk hc ‹_› ‹_› rfl rfl rfl ⟨‹_›, ‹_›, ‹_›, trivial⟩ trivial
  · cases h
theorem F43_loop8 (N : Nat) : ∀ s o, s = canon (F43_an 8).1 s → (lam N [(8, F43_l8 N)]).v 8 s = some o → LoopSem Tryz.prog (nthLoop 8 (Tryz.f43.body.getD .skip)) s o :=
  loop_ok (tabOf_ok Tryz.prog) (gam_ok _) mixed F43_an N [(8, F43_l8 N)] 8 (bodyOf (nthLoop 8 (Tryz.f43.body.getD .skip))) (nthLoop 8 (Tryz.f43.body.getD .skip)) (by kernel_rfl) (by
    have e : actOf F43_an (bodyOf (nthLoop 8 (Tryz.f43.body.getD .skip))) (8 + 1) = [] := by kernel_rfl
    rw [e]
    intro p hp
    cases hp) (F43_l8 N) rfl (fun s x hc h => F43_pat8 N s x hc h) (fun x => rfl) (fun x α kn ke => (F43_body8 N x α kn ke).trans (congrArg ((F43_l8 N).b x α _) (funext fun y => (F43_l8 N).spe y α ke))) (F43_par8 N)
theorem F43_parF (N : Nat) : ParF (F43_s N).t := by
  intro x α β k k' r r' h h1
  revert h
  dsimp only [F43_s]
  (repeat' (first | (with_reducible refine par_ite ?_ ?_) | (with_reducible refine par_both ?_ ?_) | split)) <;> intro h <;> first | exact h1 _ h | (cases h; done)
theorem F43_text (N : Nat) (x : (F43_s N).X) : acall (tabOf Tryz.prog) (F43_g N) F43_an (lam N [(8, F43_l8 N)]) Tryz.f43 (F43_s N).S ((F43_s N).args x) ((F43_s N).bs x) = (F43_s N).t x Ret (fun y => some ((F43_s N).ret y)) := by kernel_rfl
theorem F43_pat (N : Nat) (a : List AV) (b : List (List AV)) (x : (F43_s N).X) (h : (F43_s N).pat a b = some x) : a = (F43_s N).args x ∧ b = (F43_s N).bs x := by
  dsimp only [F43_s] at h
  split at h
  · cases h; exact ⟨rfl, rfl⟩
  · cases h
noncomputable def F43_e (N : Nat) : Ent Tryz.prog := entOf (tabOf_ok Tryz.prog) (gam_ok _) mixed 43 Tryz.f43 Tryz.func43 rfl F43_an (lam N [(8, F43_l8 N)]) (by
    have e : actOf F43_an (Tryz.f43.body.getD .skip) 0 = [(8, nthLoop 8 (Tryz.f43.body.getD .skip))] := by kernel_rfl
    rw [e]
    intro p hp
    rcases List.mem_cons.1 hp with rfl | hp
    · exact F43_loop8 N
    cases hp) (F43_s N) (fun _ => ⟨rfl, rfl⟩) (F43_text N) (F43_pat N) (F43_parF N)
/-! ### seismonet/seismonetmade.Light (function 5) -/
def F5_an : Nat → Keep × Keep := anL []
noncomputable def F5_g (N : Nat) : GamK := gam (P := Tryz.prog) []
noncomputable def F5_s (N : Nat) : FSpec where
  X := (List (List AV))
  Y := Bool
  ash := [[some 1]]
  bsh := []
  S := ⟨[[none]], [], [], [], []⟩
  bm := false
  pat := fun a b => match a, b with
    | [(AV.list 1 a0 none)], [] => some a0
    | _, _ => none
  args := fun x => [(AV.list 1 x none)]
  bs := fun x => []
  ret := fun y => ⟨(AV.v (.bool y)), [], none, [], [], []⟩
  t := fun x α k => (k (decide ((x.length : Int) ≤ 500)))
noncomputable abbrev F5_d (N : Nat) (x : (List (List AV))) : Option (Bool) := (F5_s N).d x
theorem F5_parF (N : Nat) : ParF (F5_s N).t := by
  intro x α β k k' r r' h h1
  revert h
  dsimp only [F5_s]
  (repeat' (first | (with_reducible refine par_ite ?_ ?_) | (with_reducible refine par_both ?_ ?_) | split)) <;> intro h <;> first | exact h1 _ h | (cases h; done)
theorem F5_text (N : Nat) (x : (F5_s N).X) : acall (tabOf Tryz.prog) (F5_g N) F5_an (lam N []) Tryz.f5 (F5_s N).S ((F5_s N).args x) ((F5_s N).bs x) = (F5_s N).t x Ret (fun y => some ((F5_s N).ret y)) := by kernel_rfl
theorem F5_pat (N : Nat) (a : List AV) (b : List (List AV)) (x : (F5_s N).X) (h : (F5_s N).pat a b = some x) : a = (F5_s N).args x ∧ b = (F5_s N).bs x := by
  dsimp only [F5_s] at h
  split at h
  · cases h; exact ⟨rfl, rfl⟩
  · cases h
noncomputable def F5_e (N : Nat) : Ent Tryz.prog := entOf (tabOf_ok Tryz.prog) (gam_ok _) mixed 5 Tryz.f5 Tryz.func5 rfl F5_an (lam N []) (by
    have e : actOf F5_an (Tryz.f5.body.getD .skip) 0 = [] := by kernel_rfl
    rw [e]
    intro p hp
    cases hp) (F5_s N) (fun _ => ⟨rfl, rfl⟩) (F5_text N) (F5_pat N) (F5_parF N)
/-! ### seismonet/seismonetmade.Roll (function 7) -/
def F7_an : Nat → Keep × Keep := anL []
noncomputable def F7_g (N : Nat) : GamK := gam (P := Tryz.prog) []
noncomputable def F7_s (N : Nat) : FSpec where
  X := (List (List AV))
  Y := (List (List AV)) × Int
  ash := [[some 1]]
  bsh := []
  S := ⟨[[none]], [], [some 1, none], [], []⟩
  bm := false
  pat := fun a b => match a, b with
    | [(AV.list 1 a0 none)], [] => some a0
    | _, _ => none
  args := fun x => [(AV.list 1 x none)]
  bs := fun x => []
  ret := fun y => ⟨(AV.ptr 0 0), [], some [(AV.list 1 y.1 none), (AV.v (.int .i64 y.2))], [], [], []⟩
  t := fun x α k => (k (x, 0))
noncomputable abbrev F7_d (N : Nat) (x : (List (List AV))) : Option ((List (List AV)) × Int) := (F7_s N).d x
theorem F7_parF (N : Nat) : ParF (F7_s N).t := by
  intro x α β k k' r r' h h1
  revert h
  dsimp only [F7_s]
  (repeat' (first | (with_reducible refine par_ite ?_ ?_) | (with_reducible refine par_both ?_ ?_) | split)) <;> intro h <;> first | exact h1 _ h | (cases h; done)
theorem F7_text (N : Nat) (x : (F7_s N).X) : acall (tabOf Tryz.prog) (F7_g N) F7_an (lam N []) Tryz.f7 (F7_s N).S ((F7_s N).args x) ((F7_s N).bs x) = (F7_s N).t x Ret (fun y => some ((F7_s N).ret y)) := by kernel_rfl
theorem F7_pat (N : Nat) (a : List AV) (b : List (List AV)) (x : (F7_s N).X) (h : (F7_s N).pat a b = some x) : a = (F7_s N).args x ∧ b = (F7_s N).bs x := by
  dsimp only [F7_s] at h
  split at h
  · cases h; exact ⟨rfl, rfl⟩
  · cases h
noncomputable def F7_e (N : Nat) : Ent Tryz.prog := entOf (tabOf_ok Tryz.prog) (gam_ok _) mixed 7 Tryz.f7 Tryz.func7 rfl F7_an (lam N []) (by
    have e : actOf F7_an (Tryz.f7.body.getD .skip) 0 = [] := by kernel_rfl
    rw [e]
    intro p hp
    cases hp) (F7_s N) (fun _ => ⟨rfl, rfl⟩) (F7_text N) (F7_pat N) (F7_parF N)
/-! ### seismonet/source.Valid (function 37) -/
def F37_an : Nat → Keep × Keep := anL []
noncomputable def F37_g (N : Nat) : GamK := gam (P := Tryz.prog) [F66_e N]
noncomputable def F37_s (N : Nat) : FSpec where
  X := ByteArray × ByteArray × ByteArray × ByteArray
  Y := Bool
  ash := [[none, none, none, none]]
  bsh := []
  S := ⟨[[none]], [], [], [], []⟩
  bm := false
  pat := fun a b => match a, b with
    | [(AV.agg [(AV.v (.string a0)), (AV.v (.string a1)), (AV.v (.string a2)), (AV.v (.string a3))])], [] => some (a0, a1, a2, a3)
    | _, _ => none
  args := fun x => [(AV.agg [(AV.v (.string x.1)), (AV.v (.string x.2.1)), (AV.v (.string x.2.2.1)), (AV.v (.string x.2.2.2))])]
  bs := fun x => []
  ret := fun y => ⟨(AV.v (.bool y)), [], none, [], [], []⟩
  t := fun x α k => (match F66_d N (x.1, 1, 2) with | some y1 => (match y1 with | true => (match F66_d N (x.2.1, 1, 5) with | some y2 => (match y2 with | true => (match F66_d N (x.2.2.1, 0, 2) with | some y3 => (match y3 with | true => (match ((x.2.2.1.size : Int) != 1) with | true => (match F66_d N (x.2.2.2, 3, 3) with | some y4 => (k y4) | none => none) | false => (k false)) | false => (k false)) | none => none) | false => (k false)) | none => none) | false => (k false)) | none => none)
noncomputable abbrev F37_d (N : Nat) (x : ByteArray × ByteArray × ByteArray × ByteArray) : Option (Bool) := (F37_s N).d x
theorem F37_parF (N : Nat) : ParF (F37_s N).t := by
  intro x α β k k' r r' h h1
  revert h
  dsimp only [F37_s]
  (repeat' (first | (with_reducible refine par_ite ?_ ?_) | (with_reducible refine par_both ?_ ?_) | split)) <;> intro h <;> first | exact h1 _ h | (cases h; done)
theorem F37_text (N : Nat) (x : (F37_s N).X) : acall (tabOf Tryz.prog) (F37_g N) F37_an (lam N []) Tryz.f37 (F37_s N).S ((F37_s N).args x) ((F37_s N).bs x) = (F37_s N).t x Ret (fun y => some ((F37_s N).ret y)) := by kernel_rfl
theorem F37_pat (N : Nat) (a : List AV) (b : List (List AV)) (x : (F37_s N).X) (h : (F37_s N).pat a b = some x) : a = (F37_s N).args x ∧ b = (F37_s N).bs x := by
  dsimp only [F37_s] at h
  split at h
  · cases h; exact ⟨rfl, rfl⟩
  · cases h
noncomputable def F37_e (N : Nat) : Ent Tryz.prog := entOf (tabOf_ok Tryz.prog) (gam_ok _) mixed 37 Tryz.f37 Tryz.func37 rfl F37_an (lam N []) (by
    have e : actOf F37_an (Tryz.f37.body.getD .skip) 0 = [] := by kernel_rfl
    rw [e]
    intro p hp
    cases hp) (F37_s N) (fun _ => ⟨rfl, rfl⟩) (F37_text N) (F37_pat N) (F37_parF N)
/-! ### seismonet/source.parts (function 58) -/
def F58_an : Nat → Keep × Keep := anL []
noncomputable def F58_g (N : Nat) : GamK := gam (P := Tryz.prog) []
noncomputable def F58_s (N : Nat) : FSpec where
  X := ByteArray × ByteArray × ByteArray × ByteArray
  Y := ByteArray × ByteArray × ByteArray × ByteArray
  ash := [[none, none, none, none]]
  bsh := []
  S := ⟨[[none, none, none, none]], [], [], [], []⟩
  bm := false
  pat := fun a b => match a, b with
    | [(AV.agg [(AV.v (.string a0)), (AV.v (.string a1)), (AV.v (.string a2)), (AV.v (.string a3))])], [] => some (a0, a1, a2, a3)
    | _, _ => none
  args := fun x => [(AV.agg [(AV.v (.string x.1)), (AV.v (.string x.2.1)), (AV.v (.string x.2.2.1)), (AV.v (.string x.2.2.2))])]
  bs := fun x => []
  ret := fun y => ⟨(AV.agg [(AV.v (.string y.1)), (AV.v (.string y.2.1)), (AV.v (.string y.2.2.1)), (AV.v (.string y.2.2.2))]), [], none, [], [], []⟩
  t := fun x α k => (k (x.1, x.2.1, x.2.2.1, x.2.2.2))
noncomputable abbrev F58_d (N : Nat) (x : ByteArray × ByteArray × ByteArray × ByteArray) : Option (ByteArray × ByteArray × ByteArray × ByteArray) := (F58_s N).d x
theorem F58_parF (N : Nat) : ParF (F58_s N).t := by
  intro x α β k k' r r' h h1
  revert h
  dsimp only [F58_s]
  (repeat' (first | (with_reducible refine par_ite ?_ ?_) | (with_reducible refine par_both ?_ ?_) | split)) <;> intro h <;> first | exact h1 _ h | (cases h; done)
theorem F58_text (N : Nat) (x : (F58_s N).X) : acall (tabOf Tryz.prog) (F58_g N) F58_an (lam N []) Tryz.f58 (F58_s N).S ((F58_s N).args x) ((F58_s N).bs x) = (F58_s N).t x Ret (fun y => some ((F58_s N).ret y)) := by kernel_rfl
theorem F58_pat (N : Nat) (a : List AV) (b : List (List AV)) (x : (F58_s N).X) (h : (F58_s N).pat a b = some x) : a = (F58_s N).args x ∧ b = (F58_s N).bs x := by
  dsimp only [F58_s] at h
  split at h
  · cases h; exact ⟨rfl, rfl⟩
  · cases h
noncomputable def F58_e (N : Nat) : Ent Tryz.prog := entOf (tabOf_ok Tryz.prog) (gam_ok _) mixed 58 Tryz.f58 Tryz.func58 rfl F58_an (lam N []) (by
    have e : actOf F58_an (Tryz.f58.body.getD .skip) 0 = [] := by kernel_rfl
    rw [e]
    intro p hp
    cases hp) (F58_s N) (fun _ => ⟨rfl, rfl⟩) (F58_text N) (F58_pat N) (F58_parF N)
/-! ### seismonet/seismonetref01.In (function 42) -/
def F42_an : Nat → Keep × Keep := anL []
noncomputable def F42_g (N : Nat) : GamK := gam (P := Tryz.prog) []
noncomputable def F42_s (N : Nat) : FSpec where
  X := Int × Int × Int
  Y := Bool
  ash := [[none], [none], [none]]
  bsh := []
  S := ⟨[[none]], [], [], [], []⟩
  bm := false
  pat := fun a b => match a, b with
    | [(AV.v (.int .i64 a0)), (AV.v (.int .i64 a1)), (AV.v (.int .i64 a2))], [] => some (a0, a1, a2)
    | _, _ => none
  args := fun x => [(AV.v (.int .i64 x.1)), (AV.v (.int .i64 x.2.1)), (AV.v (.int .i64 x.2.2))]
  bs := fun x => []
  ret := fun y => ⟨(AV.v (.bool y)), [], none, [], [], []⟩
  t := fun x α k => (match (decide (x.1 ≥ x.2.1)) with | true => (k (decide (x.1 ≤ x.2.2))) | false => (k false))
noncomputable abbrev F42_d (N : Nat) (x : Int × Int × Int) : Option (Bool) := (F42_s N).d x
theorem F42_parF (N : Nat) : ParF (F42_s N).t := by
  intro x α β k k' r r' h h1
  revert h
  dsimp only [F42_s]
  (repeat' (first | (with_reducible refine par_ite ?_ ?_) | (with_reducible refine par_both ?_ ?_) | split)) <;> intro h <;> first | exact h1 _ h | (cases h; done)
theorem F42_text (N : Nat) (x : (F42_s N).X) : acall (tabOf Tryz.prog) (F42_g N) F42_an (lam N []) Tryz.f42 (F42_s N).S ((F42_s N).args x) ((F42_s N).bs x) = (F42_s N).t x Ret (fun y => some ((F42_s N).ret y)) := by kernel_rfl
theorem F42_pat (N : Nat) (a : List AV) (b : List (List AV)) (x : (F42_s N).X) (h : (F42_s N).pat a b = some x) : a = (F42_s N).args x ∧ b = (F42_s N).bs x := by
  dsimp only [F42_s] at h
  split at h
  · cases h; exact ⟨rfl, rfl⟩
  · cases h
noncomputable def F42_e (N : Nat) : Ent Tryz.prog := entOf (tabOf_ok Tryz.prog) (gam_ok _) mixed 42 Tryz.f42 Tryz.func42 rfl F42_an (lam N []) (by
    have e : actOf F42_an (Tryz.f42.body.getD .skip) 0 = [] := by kernel_rfl
    rw [e]
    intro p hp
    cases hp) (F42_s N) (fun _ => ⟨rfl, rfl⟩) (F42_text N) (F42_pat N) (F42_parF N)
/-! ### seismonet/seismonetref05.Sample (function 80) -/
def F80_an : Nat → Keep × Keep := anL []
noncomputable def F80_g (N : Nat) : GamK := gam (P := Tryz.prog) [F42_e N]
noncomputable def F80_s (N : Nat) : FSpec where
  X := Int
  Y := Bool
  ash := [[none]]
  bsh := []
  S := ⟨[[none]], [], [], [], []⟩
  bm := false
  pat := fun a b => match a, b with
    | [(AV.v (.int .i64 a0))], [] => some a0
    | _, _ => none
  args := fun x => [(AV.v (.int .i64 x))]
  bs := fun x => []
  ret := fun y => ⟨(AV.v (.bool y)), [], none, [], [], []⟩
  t := fun x α k => (match F42_d N (x, (-1073741823), 1073741823) with | some y1 => (k y1) | none => none)
noncomputable abbrev F80_d (N : Nat) (x : Int) : Option (Bool) := (F80_s N).d x
theorem F80_parF (N : Nat) : ParF (F80_s N).t := by
  intro x α β k k' r r' h h1
  revert h
  dsimp only [F80_s]
  (repeat' (first | (with_reducible refine par_ite ?_ ?_) | (with_reducible refine par_both ?_ ?_) | split)) <;> intro h <;> first | exact h1 _ h | (cases h; done)
theorem F80_text (N : Nat) (x : (F80_s N).X) : acall (tabOf Tryz.prog) (F80_g N) F80_an (lam N []) Tryz.f80 (F80_s N).S ((F80_s N).args x) ((F80_s N).bs x) = (F80_s N).t x Ret (fun y => some ((F80_s N).ret y)) := by kernel_rfl
theorem F80_pat (N : Nat) (a : List AV) (b : List (List AV)) (x : (F80_s N).X) (h : (F80_s N).pat a b = some x) : a = (F80_s N).args x ∧ b = (F80_s N).bs x := by
  dsimp only [F80_s] at h
  split at h
  · cases h; exact ⟨rfl, rfl⟩
  · cases h
noncomputable def F80_e (N : Nat) : Ent Tryz.prog := entOf (tabOf_ok Tryz.prog) (gam_ok _) mixed 80 Tryz.f80 Tryz.func80 rfl F80_an (lam N []) (by
    have e : actOf F80_an (Tryz.f80.body.getD .skip) 0 = [] := by kernel_rfl
    rw [e]
    intro p hp
    cases hp) (F80_s N) (fun _ => ⟨rfl, rfl⟩) (F80_text N) (F80_pat N) (F80_parF N)
/-! ### seismonet/seismonetref05.InRange (function 51) -/
def F51_an : Nat → Keep × Keep := anL [(4, ⟨[3], [], [], [(0, 1)], [], [], [], [], false⟩, ⟨[2], [], [], [], [], [], [], [], false⟩)]
noncomputable def F51_g (N : Nat) : GamK := gam (P := Tryz.prog) [F80_e N]
noncomputable def F51_l4 (N : Nat) : LSpec where
  X := (List (List AV)) × Int
  Y := (Bool) ⊕ (Unit)
  p := fun s => match s.env.length, s.nin, s.at 0, s.at 3 with
    | 16, 0, (AV.list 1 a0 none), (AV.v (.int .i64 a1)) => some (a0, a1)
    | _, _, _, _ => none
  st := fun x => mkS 16 [(0, (AV.list 1 x.1 none)), (3, (AV.v (.int .i64 x.2)))] [] (F51_an 4).1.toks 0
  out := fun y => match y with
    | .inl y => (.ret, mkS 16 [(2, (AV.v (.bool y)))] [] (F51_an 4).2.toks 0)
    | .inr y => (.exit 0, mkS 16 [] [] (F51_an 4).2.toks 0)
  sp := fun y α k => match y with
    | .inl y => k (.ret, mkS 16 [(2, (AV.v (.bool y)))] [] (F51_an 4).2.toks 0)
    | .inr y => k (.exit 0, mkS 16 [] [] (F51_an 4).2.toks 0)
  spe := fun y α k => by rcases y with _ | _ <;> rfl
  b := fun x α kn ke => (match (decide (x.2 < (x.1.length : Int))) with | true => (if 0 ≤ x.2 then (match x.1[x.2.toNat]? with | some c1 => (match c1[0]? with | some x2 => (match x2 with | .v (.int q4 n3) => (if q4 = .i64 then (match F80_d N n3 with | some y5 => (match (!y5) with | true => (ke (.inl false)) | false => (kn (x.1, (i64 (x.2 + 1))))) | none => none) else none) | _ => none) | none => none) | none => none) else none) | false => (ke (.inr ())))
noncomputable abbrev F51_d4 (N : Nat) (x : (List (List AV)) × Int) : Option ((Bool) ⊕ (Unit)) := (F51_l4 N).L N x
noncomputable def F51_s (N : Nat) : FSpec where
  X := (List (List AV))
  Y := Bool
  ash := [[some 1]]
  bsh := []
  S := ⟨[[none]], [], [], [], []⟩
  bm := false
  pat := fun a b => match a, b with
    | [(AV.list 1 a0 none)], [] => some a0
    | _, _ => none
  args := fun x => [(AV.list 1 x none)]
  bs := fun x => []
  ret := fun y => ⟨(AV.v (.bool y)), [], none, [], [], []⟩
  t := fun x α k => (match F51_d4 N (x, 0) with | some y6 => (match y6 with | .inl z7 => (k z7) | .inr z8 => (k true)) | none => none)
noncomputable abbrev F51_d (N : Nat) (x : (List (List AV))) : Option (Bool) := (F51_s N).d x
theorem F51_par4 (N : Nat) : Par (F51_l4 N).b := by
  intro x α β kn ke kn' ke' r r' h h1 h2
  revert h
  dsimp only [F51_l4]
  (repeat' (first | (with_reducible refine par_ite ?_ ?_) | (with_reducible refine par_both ?_ ?_) | split)) <;> intro h <;> first | exact h1 _ h | exact h2 _ h | (cases h; done)
theorem F51_body4 (N : Nat) (x : (F51_l4 N).X) (α : Type) (kn : AS → Option α) (ke : Out → Option α) : around (tabOf Tryz.prog) (F51_g N) F51_an (lam N [(4, F51_l4 N)]) 4 (bodyOf (nthLoop 4 (Tryz.f51.body.getD .skip))) ((F51_l4 N).st x) kn ke = (F51_l4 N).b x α (fun x' => kn ((F51_l4 N).st x')) (fun y => (F51_l4 N).sp y α ke) := by kernel_rfl
theorem F51_pat4 (N : Nat) (s : AS) (x : (F51_l4 N).X) (hc : s = canon (F51_an 4).1 s) (h : (F51_l4 N).p s = some x) : s = (F51_l4 N).st x := by
  dsimp only [F51_l4] at h
  split at h
  · cases h
    exact canon_mk hc ‹_› ‹_› rfl rfl rfl ⟨‹_›, ‹_›, trivial⟩ trivial
  · cases h
theorem F51_loop4 (N : Nat) : ∀ s o, s = canon (F51_an 4).1 s → (lam N [(4, F51_l4 N)]).v 4 s = some o → LoopSem Tryz.prog (nthLoop 4 (Tryz.f51.body.getD .skip)) s o :=
  loop_ok (tabOf_ok Tryz.prog) (gam_ok _) mixed F51_an N [(4, F51_l4 N)] 4 (bodyOf (nthLoop 4 (Tryz.f51.body.getD .skip))) (nthLoop 4 (Tryz.f51.body.getD .skip)) (by kernel_rfl) (by
    have e : actOf F51_an (bodyOf (nthLoop 4 (Tryz.f51.body.getD .skip))) (4 + 1) = [] := by kernel_rfl
    rw [e]
    intro p hp
    cases hp) (F51_l4 N) rfl (fun s x hc h => F51_pat4 N s x hc h) (fun x => rfl) (fun x α kn ke => (F51_body4 N x α kn ke).trans (congrArg ((F51_l4 N).b x α _) (funext fun y => (F51_l4 N).spe y α ke))) (F51_par4 N)
theorem F51_parF (N : Nat) : ParF (F51_s N).t := by
  intro x α β k k' r r' h h1
  revert h
  dsimp only [F51_s]
  (repeat' (first | (with_reducible refine par_ite ?_ ?_) | (with_reducible refine par_both ?_ ?_) | split)) <;> intro h <;> first | exact h1 _ h | (cases h; done)
theorem F51_text (N : Nat) (x : (F51_s N).X) : acall (tabOf Tryz.prog) (F51_g N) F51_an (lam N [(4, F51_l4 N)]) Tryz.f51 (F51_s N).S ((F51_s N).args x) ((F51_s N).bs x) = (F51_s N).t x Ret (fun y => some ((F51_s N).ret y)) := by kernel_rfl
theorem F51_pat (N : Nat) (a : List AV) (b : List (List AV)) (x : (F51_s N).X) (h : (F51_s N).pat a b = some x) : a = (F51_s N).args x ∧ b = (F51_s N).bs x := by
  dsimp only [F51_s] at h
  split at h
  · cases h; exact ⟨rfl, rfl⟩
  · cases h
noncomputable def F51_e (N : Nat) : Ent Tryz.prog := entOf (tabOf_ok Tryz.prog) (gam_ok _) mixed 51 Tryz.f51 Tryz.func51 rfl F51_an (lam N [(4, F51_l4 N)]) (by
    have e : actOf F51_an (Tryz.f51.body.getD .skip) 0 = [(4, nthLoop 4 (Tryz.f51.body.getD .skip))] := by kernel_rfl
    rw [e]
    intro p hp
    rcases List.mem_cons.1 hp with rfl | hp
    · exact F51_loop4 N
    cases hp) (F51_s N) (fun _ => ⟨rfl, rfl⟩) (F51_text N) (F51_pat N) (F51_parF N)
/-! ### seismonet/seismonetref04.Fits (function 84) -/
def F84_an : Nat → Keep × Keep := anL []
noncomputable def F84_g (N : Nat) : GamK := gam (P := Tryz.prog) [F42_e N]
noncomputable def F84_s (N : Nat) : FSpec where
  X := Int × Int
  Y := Bool
  ash := [[none], [none]]
  bsh := []
  S := ⟨[[none]], [], [], [], []⟩
  bm := false
  pat := fun a b => match a, b with
    | [(AV.v (.int .i64 a0)), (AV.v (.int .i64 a1))], [] => some (a0, a1)
    | _, _ => none
  args := fun x => [(AV.v (.int .i64 x.1)), (AV.v (.int .i64 x.2))]
  bs := fun x => []
  ret := fun y => ⟨(AV.v (.bool y)), [], none, [], [], []⟩
  t := fun x α k => (match F42_d N (x.2, 1, 56) with | some y1 => (match y1 with | true => (if (IntKind.u64.wrap (i64 (x.2 - 1))) < 0 then none else (match (decide (x.1 ≥ (i64 (0 - (shL .i64 (1 : Int) (IntKind.u64.wrap (i64 (x.2 - 1)))))))) with | true => (if (IntKind.u64.wrap (i64 (x.2 - 1))) < 0 then none else (k (decide (x.1 < (shL .i64 (1 : Int) (IntKind.u64.wrap (i64 (x.2 - 1)))))))) | false => (k false))) | false => (k false)) | none => none)
noncomputable abbrev F84_d (N : Nat) (x : Int × Int) : Option (Bool) := (F84_s N).d x
theorem F84_parF (N : Nat) : ParF (F84_s N).t := by
  intro x α β k k' r r' h h1
  revert h
  dsimp only [F84_s]
  (repeat' (first | (with_reducible refine par_ite ?_ ?_) | (with_reducible refine par_both ?_ ?_) | split)) <;> intro h <;> first | exact h1 _ h | (cases h; done)
theorem F84_text (N : Nat) (x : (F84_s N).X) : acall (tabOf Tryz.prog) (F84_g N) F84_an (lam N []) Tryz.f84 (F84_s N).S ((F84_s N).args x) ((F84_s N).bs x) = (F84_s N).t x Ret (fun y => some ((F84_s N).ret y)) := by kernel_rfl
theorem F84_pat (N : Nat) (a : List AV) (b : List (List AV)) (x : (F84_s N).X) (h : (F84_s N).pat a b = some x) : a = (F84_s N).args x ∧ b = (F84_s N).bs x := by
  dsimp only [F84_s] at h
  split at h
  · cases h; exact ⟨rfl, rfl⟩
  · cases h
noncomputable def F84_e (N : Nat) : Ent Tryz.prog := entOf (tabOf_ok Tryz.prog) (gam_ok _) mixed 84 Tryz.f84 Tryz.func84 rfl F84_an (lam N []) (by
    have e : actOf F84_an (Tryz.f84.body.getD .skip) 0 = [] := by kernel_rfl
    rw [e]
    intro p hp
    cases hp) (F84_s N) (fun _ => ⟨rfl, rfl⟩) (F84_text N) (F84_pat N) (F84_parF N)
/-! ### seismonet/seismonetref05.fit (function 82) -/
def F82_an : Nat → Keep × Keep := anL [(8, ⟨[1, 2, 7], [], [], [(0, 1)], [], [], [], [], false⟩, ⟨[6], [], [], [], [], [], [], [], false⟩)]
noncomputable def F82_g (N : Nat) : GamK := gam (P := Tryz.prog) [F84_e N]
noncomputable def F82_l8 (N : Nat) : LSpec where
  X := (List (List AV)) × Int × Int × Int
  Y := (Bool) ⊕ (Unit)
  p := fun s => match s.env.length, s.nin, s.at 0, s.at 1, s.at 2, s.at 7 with
    | 24, 0, (AV.list 1 a0 none), (AV.v (.int .i64 a1)), (AV.v (.int .i64 a2)), (AV.v (.int .i64 a3)) => some (a0, a1, a2, a3)
    | _, _, _, _, _, _ => none
  st := fun x => mkS 24 [(0, (AV.list 1 x.1 none)), (1, (AV.v (.int .i64 x.2.1))), (2, (AV.v (.int .i64 x.2.2.1))), (7, (AV.v (.int .i64 x.2.2.2)))] [] (F82_an 8).1.toks 0
  out := fun y => match y with
    | .inl y => (.ret, mkS 24 [(6, (AV.v (.bool y)))] [] (F82_an 8).2.toks 0)
    | .inr y => (.exit 0, mkS 24 [] [] (F82_an 8).2.toks 0)
  sp := fun y α k => match y with
    | .inl y => k (.ret, mkS 24 [(6, (AV.v (.bool y)))] [] (F82_an 8).2.toks 0)
    | .inr y => k (.exit 0, mkS 24 [] [] (F82_an 8).2.toks 0)
  spe := fun y α k => by rcases y with _ | _ <;> rfl
  b := fun x α kn ke => (match (decide (x.2.2.2 < x.2.1)) with | true => (if 0 ≤ x.2.2.2 then (match x.1[x.2.2.2.toNat]? with | some c1 => (match c1[0]? with | some x2 => (match x2 with | .v (.int q4 n3) => (if q4 = .i64 then (match F84_d N (n3, x.2.2.1) with | some y5 => (match (!y5) with | true => (ke (.inl false)) | false => (kn (x.1, x.2.1, x.2.2.1, (i64 (x.2.2.2 + 1))))) | none => none) else none) | _ => none) | none => none) | none => none) else none) | false => (ke (.inr ())))
noncomputable abbrev F82_d8 (N : Nat) (x : (List (List AV)) × Int × Int × Int) : Option ((Bool) ⊕ (Unit)) := (F82_l8 N).L N x
noncomputable def F82_s (N : Nat) : FSpec where
  X := (List (List AV)) × Int × Int
  Y := Bool
  ash := [[some 1], [none], [none]]
  bsh := []
  S := ⟨[[none]], [], [], [], []⟩
  bm := false
  pat := fun a b => match a, b with
    | [(AV.list 1 a0 none), (AV.v (.int .i64 a1)), (AV.v (.int .i64 a2))], [] => some (a0, a1, a2)
    | _, _ => none
  args := fun x => [(AV.list 1 x.1 none), (AV.v (.int .i64 x.2.1)), (AV.v (.int .i64 x.2.2))]
  bs := fun x => []
  ret := fun y => ⟨(AV.v (.bool y)), [], none, [], [], []⟩
  t := fun x α k => (match (decide ((x.1.length : Int) < x.2.1)) with | true => (k false) | false => (match F82_d8 N (x.1, x.2.1, x.2.2, 0) with | some y6 => (match y6 with | .inl z7 => (k z7) | .inr z8 => (k true)) | none => none))
noncomputable abbrev F82_d (N : Nat) (x : (List (List AV)) × Int × Int) : Option (Bool) := (F82_s N).d x
theorem F82_par8 (N : Nat) : Par (F82_l8 N).b := by
  intro x α β kn ke kn' ke' r r' h h1 h2
  revert h
  dsimp only [F82_l8]
  (repeat' (first | (with_reducible refine par_ite ?_ ?_) | (with_reducible refine par_both ?_ ?_) | split)) <;> intro h <;> first | exact h1 _ h | exact h2 _ h | (cases h; done)
theorem F82_body8 (N : Nat) (x : (F82_l8 N).X) (α : Type) (kn : AS → Option α) (ke : Out → Option α) : around (tabOf Tryz.prog) (F82_g N) F82_an (lam N [(8, F82_l8 N)]) 8 (bodyOf (nthLoop 8 (Tryz.f82.body.getD .skip))) ((F82_l8 N).st x) kn ke = (F82_l8 N).b x α (fun x' => kn ((F82_l8 N).st x')) (fun y => (F82_l8 N).sp y α ke) := by kernel_rfl
theorem F82_pat8 (N : Nat) (s : AS) (x : (F82_l8 N).X) (hc : s = canon (F82_an 8).1 s) (h : (F82_l8 N).p s = some x) : s = (F82_l8 N).st x := by
  dsimp only [F82_l8] at h
  split at h
  · cases h
    exact canon_mk hc ‹_› ‹_› rfl rfl rfl ⟨‹_›, ‹_›, ‹_›, ‹_›, trivial⟩ trivial
  · cases h
theorem F82_loop8 (N : Nat) : ∀ s o, s = canon (F82_an 8).1 s → (lam N [(8, F82_l8 N)]).v 8 s = some o → LoopSem Tryz.prog (nthLoop 8 (Tryz.f82.body.getD .skip)) s o :=
  loop_ok (tabOf_ok Tryz.prog) (gam_ok _) mixed F82_an N [(8, F82_l8 N)] 8 (bodyOf (nthLoop 8 (Tryz.f82.body.getD .skip))) (nthLoop 8 (Tryz.f82.body.getD .skip)) (by kernel_rfl) (by
    have e : actOf F82_an (bodyOf (nthLoop 8 (Tryz.f82.body.getD .skip))) (8 + 1) = [] := by kernel_rfl
    rw [e]
    intro p hp
    cases hp) (F82_l8 N) rfl (fun s x hc h => F82_pat8 N s x hc h) (fun x => rfl) (fun x α kn ke => (F82_body8 N x α kn ke).trans (congrArg ((F82_l8 N).b x α _) (funext fun y => (F82_l8 N).spe y α ke))) (F82_par8 N)
theorem F82_parF (N : Nat) : ParF (F82_s N).t := by
  intro x α β k k' r r' h h1
  revert h
  dsimp only [F82_s]
  (repeat' (first | (with_reducible refine par_ite ?_ ?_) | (with_reducible refine par_both ?_ ?_) | split)) <;> intro h <;> first | exact h1 _ h | (cases h; done)
theorem F82_text (N : Nat) (x : (F82_s N).X) : acall (tabOf Tryz.prog) (F82_g N) F82_an (lam N [(8, F82_l8 N)]) Tryz.f82 (F82_s N).S ((F82_s N).args x) ((F82_s N).bs x) = (F82_s N).t x Ret (fun y => some ((F82_s N).ret y)) := by kernel_rfl
theorem F82_pat (N : Nat) (a : List AV) (b : List (List AV)) (x : (F82_s N).X) (h : (F82_s N).pat a b = some x) : a = (F82_s N).args x ∧ b = (F82_s N).bs x := by
  dsimp only [F82_s] at h
  split at h
  · cases h; exact ⟨rfl, rfl⟩
  · cases h
noncomputable def F82_e (N : Nat) : Ent Tryz.prog := entOf (tabOf_ok Tryz.prog) (gam_ok _) mixed 82 Tryz.f82 Tryz.func82 rfl F82_an (lam N [(8, F82_l8 N)]) (by
    have e : actOf F82_an (Tryz.f82.body.getD .skip) 0 = [(8, nthLoop 8 (Tryz.f82.body.getD .skip))] := by kernel_rfl
    rw [e]
    intro p hp
    rcases List.mem_cons.1 hp with rfl | hp
    · exact F82_loop8 N
    cases hp) (F82_s N) (fun _ => ⟨rfl, rfl⟩) (F82_text N) (F82_pat N) (F82_parF N)
/-! ### seismonet/seismonetref04.Wrap (function 54) -/
def F54_an : Nat → Keep × Keep := anL []
noncomputable def F54_g (N : Nat) : GamK := gam (P := Tryz.prog) [F84_e N]
noncomputable def F54_s (N : Nat) : FSpec where
  X := Int × Int
  Y := Int × Int
  ash := [[none], [none]]
  bsh := []
  S := ⟨[[none], [none]], [], [], [], []⟩
  bm := false
  pat := fun a b => match a, b with
    | [(AV.v (.int .i64 a0)), (AV.v (.int .i64 a1))], [] => some (a0, a1)
    | _, _ => none
  args := fun x => [(AV.v (.int .i64 x.1)), (AV.v (.int .i64 x.2))]
  bs := fun x => []
  ret := fun y => ⟨(AV.tup [(AV.v (.int .i64 y.1)), (AV.v (.int .i64 y.2))]), [], none, [], [], []⟩
  t := fun x α k => (match F84_d N (x.1, x.2) with | some y1 => (match (!y1) with | true => (k (0, 2)) | false => (match (decide (x.1 < 0)) with | true => (if (IntKind.u64.wrap x.2) < 0 then none else (k ((i64 (x.1 + (shL .i64 (1 : Int) (IntKind.u64.wrap x.2)))), 0))) | false => (k (x.1, 0)))) | none => none)
noncomputable abbrev F54_d (N : Nat) (x : Int × Int) : Option (Int × Int) := (F54_s N).d x
theorem F54_parF (N : Nat) : ParF (F54_s N).t := by
  intro x α β k k' r r' h h1
  revert h
  dsimp only [F54_s]
  (repeat' (first | (with_reducible refine par_ite ?_ ?_) | (with_reducible refine par_both ?_ ?_) | split)) <;> intro h <;> first | exact h1 _ h | (cases h; done)
theorem F54_text (N : Nat) (x : (F54_s N).X) : acall (tabOf Tryz.prog) (F54_g N) F54_an (lam N []) Tryz.f54 (F54_s N).S ((F54_s N).args x) ((F54_s N).bs x) = (F54_s N).t x Ret (fun y => some ((F54_s N).ret y)) := by kernel_rfl
theorem F54_pat (N : Nat) (a : List AV) (b : List (List AV)) (x : (F54_s N).X) (h : (F54_s N).pat a b = some x) : a = (F54_s N).args x ∧ b = (F54_s N).bs x := by
  dsimp only [F54_s] at h
  split at h
  · cases h; exact ⟨rfl, rfl⟩
  · cases h
noncomputable def F54_e (N : Nat) : Ent Tryz.prog := entOf (tabOf_ok Tryz.prog) (gam_ok _) mixed 54 Tryz.f54 Tryz.func54 rfl F54_an (lam N []) (by
    have e : actOf F54_an (Tryz.f54.body.getD .skip) 0 = [] := by kernel_rfl
    rw [e]
    intro p hp
    cases hp) (F54_s N) (fun _ => ⟨rfl, rfl⟩) (F54_text N) (F54_pat N) (F54_parF N)
/-! ### seismonet/seismonetref05.pack (function 83) -/
def F83_an : Nat → Keep × Keep := anL [(5, ⟨[1, 5, 6], [], [], [(0, 1)], [], [], [], [], false⟩, ⟨[5], [], [], [], [], [], [], [], false⟩)]
noncomputable def F83_g (N : Nat) : GamK := gam (P := Tryz.prog) [F54_e N]
noncomputable def F83_l5 (N : Nat) : LSpec where
  X := (List (List AV)) × Int × Int × Int
  Y := (Int)
  p := fun s => match s.env.length, s.nin, s.at 0, s.at 1, s.at 5, s.at 6 with
    | 31, 0, (AV.list 1 a0 none), (AV.v (.int .i64 a1)), (AV.v (.int .i64 a2)), (AV.v (.int .i64 a3)) => some (a0, a1, a2, a3)
    | _, _, _, _, _, _ => none
  st := fun x => mkS 31 [(0, (AV.list 1 x.1 none)), (1, (AV.v (.int .i64 x.2.1))), (5, (AV.v (.int .i64 x.2.2.1))), (6, (AV.v (.int .i64 x.2.2.2)))] [] (F83_an 5).1.toks 0
  out := fun y => (.exit 0, mkS 31 [(5, (AV.v (.int .i64 y)))] [] (F83_an 5).2.toks 0)
  sp := fun y α k => k (.exit 0, mkS 31 [(5, (AV.v (.int .i64 y)))] [] (F83_an 5).2.toks 0)
  spe := fun y α k => rfl
  b := fun x α kn ke => (match (decide (x.2.2.2 < (x.1.length : Int))) with | true => (if 0 ≤ x.2.2.2 then (match x.1[x.2.2.2.toNat]? with | some c1 => (match c1[0]? with | some x2 => (match x2 with | .v (.int q4 n3) => (if q4 = .i64 then (match F54_d N (n3, x.2.1) with | some y5 => (if (IntKind.u64.wrap x.2.1) < 0 then none else (kn (x.1, x.2.1, (bOr .i64 (shL .i64 x.2.2.1 (IntKind.u64.wrap x.2.1)) y5.1), (i64 (x.2.2.2 + 1))))) | none => none) else none) | _ => none) | none => none) | none => none) else none) | false => (ke x.2.2.1))
noncomputable abbrev F83_d5 (N : Nat) (x : (List (List AV)) × Int × Int × Int) : Option ((Int)) := (F83_l5 N).L N x
noncomputable def F83_s (N : Nat) : FSpec where
  X := (List (List AV)) × Int
  Y := Int
  ash := [[some 1], [none]]
  bsh := []
  S := ⟨[[none]], [], [], [], []⟩
  bm := false
  pat := fun a b => match a, b with
    | [(AV.list 1 a0 none), (AV.v (.int .i64 a1))], [] => some (a0, a1)
    | _, _ => none
  args := fun x => [(AV.list 1 x.1 none), (AV.v (.int .i64 x.2))]
  bs := fun x => []
  ret := fun y => ⟨(AV.v (.int .i64 y)), [], none, [], [], []⟩
  t := fun x α k => (match F83_d5 N (x.1, x.2, 0, 0) with | some y6 => (k y6) | none => none)
noncomputable abbrev F83_d (N : Nat) (x : (List (List AV)) × Int) : Option (Int) := (F83_s N).d x
theorem F83_par5 (N : Nat) : Par (F83_l5 N).b := by
  intro x α β kn ke kn' ke' r r' h h1 h2
  revert h
  dsimp only [F83_l5]
  (repeat' (first | (with_reducible refine par_ite ?_ ?_) | (with_reducible refine par_both ?_ ?_) | split)) <;> intro h <;> first | exact h1 _ h | exact h2 _ h | (cases h; done)
theorem F83_body5 (N : Nat) (x : (F83_l5 N).X) (α : Type) (kn : AS → Option α) (ke : Out → Option α) : around (tabOf Tryz.prog) (F83_g N) F83_an (lam N [(5, F83_l5 N)]) 5 (bodyOf (nthLoop 5 (Tryz.f83.body.getD .skip))) ((F83_l5 N).st x) kn ke = (F83_l5 N).b x α (fun x' => kn ((F83_l5 N).st x')) (fun y => (F83_l5 N).sp y α ke) := by kernel_rfl
theorem F83_pat5 (N : Nat) (s : AS) (x : (F83_l5 N).X) (hc : s = canon (F83_an 5).1 s) (h : (F83_l5 N).p s = some x) : s = (F83_l5 N).st x := by
  dsimp only [F83_l5] at h
  split at h
  · cases h
    exact canon_mk hc ‹_› ‹_› rfl rfl rfl ⟨‹_›, ‹_›, ‹_›, ‹_›, trivial⟩ trivial
  · cases h
theorem F83_loop5 (N : Nat) : ∀ s o, s = canon (F83_an 5).1 s → (lam N [(5, F83_l5 N)]).v 5 s = some o → LoopSem Tryz.prog (nthLoop 5 (Tryz.f83.body.getD .skip)) s o :=
  loop_ok (tabOf_ok Tryz.prog) (gam_ok _) mixed F83_an N [(5, F83_l5 N)] 5 (bodyOf (nthLoop 5 (Tryz.f83.body.getD .skip))) (nthLoop 5 (Tryz.f83.body.getD .skip)) (by kernel_rfl) (by
    have e : actOf F83_an (bodyOf (nthLoop 5 (Tryz.f83.body.getD .skip))) (5 + 1) = [] := by kernel_rfl
    rw [e]
    intro p hp
    cases hp) (F83_l5 N) rfl (fun s x hc h => F83_pat5 N s x hc h) (fun x => rfl) (fun x α kn ke => (F83_body5 N x α kn ke).trans (congrArg ((F83_l5 N).b x α _) (funext fun y => (F83_l5 N).spe y α ke))) (F83_par5 N)
theorem F83_parF (N : Nat) : ParF (F83_s N).t := by
  intro x α β k k' r r' h h1
  revert h
  dsimp only [F83_s]
  (repeat' (first | (with_reducible refine par_ite ?_ ?_) | (with_reducible refine par_both ?_ ?_) | split)) <;> intro h <;> first | exact h1 _ h | (cases h; done)
theorem F83_text (N : Nat) (x : (F83_s N).X) : acall (tabOf Tryz.prog) (F83_g N) F83_an (lam N [(5, F83_l5 N)]) Tryz.f83 (F83_s N).S ((F83_s N).args x) ((F83_s N).bs x) = (F83_s N).t x Ret (fun y => some ((F83_s N).ret y)) := by kernel_rfl
theorem F83_pat (N : Nat) (a : List AV) (b : List (List AV)) (x : (F83_s N).X) (h : (F83_s N).pat a b = some x) : a = (F83_s N).args x ∧ b = (F83_s N).bs x := by
  dsimp only [F83_s] at h
  split at h
  · cases h; exact ⟨rfl, rfl⟩
  · cases h
noncomputable def F83_e (N : Nat) : Ent Tryz.prog := entOf (tabOf_ok Tryz.prog) (gam_ok _) mixed 83 Tryz.f83 Tryz.func83 rfl F83_an (lam N [(5, F83_l5 N)]) (by
    have e : actOf F83_an (Tryz.f83.body.getD .skip) 0 = [(5, nthLoop 5 (Tryz.f83.body.getD .skip))] := by kernel_rfl
    rw [e]
    intro p hp
    rcases List.mem_cons.1 hp with rfl | hp
    · exact F83_loop5 N
    cases hp) (F83_s N) (fun _ => ⟨rfl, rfl⟩) (F83_text N) (F83_pat N) (F83_parF N)
/-! ### seismonet/seismonetref05.words (function 53) -/
def F53_an : Nat → Keep × Keep := anL [(5, ⟨[4], [(3, 1)], [], [(0, 1)], [], [], [], [], false⟩, ⟨[], [(3, 1)], [], [], [], [], [], [], false⟩), (16, ⟨[], [(5, 2)], [], [(3, 1)], [], [], [], [], false⟩, ⟨[], [(5, 2)], [], [], [], [], [], [], false⟩)]
noncomputable def F53_g (N : Nat) : GamK := gam (P := Tryz.prog) [F82_e N, F83_e N]
noncomputable def F53_l16 (N : Nat) : LSpec where
  X := (List (List AV)) × (List (List AV))
  Y := ((List (List AV)))
  p := fun s => match s.env.length, s.nin, s.at 5, s.at 3 with
    | 67, 0, (AV.list 2 a0 (some 1280000320)), (AV.list 1 a1 none) => some (a0, a1)
    | _, _, _, _ => none
  st := fun x => mkS 67 [(5, (AV.list 2 x.1 (some 1280000320))), (3, (AV.list 1 x.2 none))] [] (F53_an 16).1.toks 0
  out := fun y => (.exit 2, mkS 67 [(5, (AV.list 2 y (some 1280000320)))] [] (F53_an 16).2.toks 0)
  sp := fun y α k => k (.exit 2, mkS 67 [(5, (AV.list 2 y (some 1280000320)))] [] (F53_an 16).2.toks 0)
  spe := fun y α k => rfl
  b := fun x α kn ke => (match (decide ((x.2.length : Int) > 0)) with | true => (match F82_d N (x.2, 4, 8) with | some y10 => (match y10 with | true => (if 0 ≤ (4 : Int) ∧ (4 : Int) ≤ x.2.length then (match F83_d N ((x.2.take (4 : Int).toNat), 8) with | some y11 => (if (x.1.length + [[(AV.v (.int .i64 1)), (AV.v (.int .i64 y11))]].length) * 16 ≤ maxBytes then (if 0 ≤ (4 : Int) ∧ (4 : Int) ≤ x.2.length then (kn ((x.1 ++ [[(AV.v (.int .i64 1)), (AV.v (.int .i64 y11))]]), (x.2.drop (4 : Int).toNat))) else none) else none) | none => none) else none) | false => (match F82_d N (x.2, 2, 16) with | some y12 => (match y12 with | true => (if 0 ≤ (2 : Int) ∧ (2 : Int) ≤ x.2.length then (match F83_d N ((x.2.take (2 : Int).toNat), 16) with | some y13 => (if (x.1.length + [[(AV.v (.int .i64 2)), (AV.v (.int .i64 y13))]].length) * 16 ≤ maxBytes then (if 0 ≤ (2 : Int) ∧ (2 : Int) ≤ x.2.length then (kn ((x.1 ++ [[(AV.v (.int .i64 2)), (AV.v (.int .i64 y13))]]), (x.2.drop (2 : Int).toNat))) else none) else none) | none => none) else none) | false => (if 0 ≤ (1 : Int) ∧ (1 : Int) ≤ x.2.length then (match F83_d N ((x.2.take (1 : Int).toNat), 32) with | some y14 => (if (x.1.length + [[(AV.v (.int .i64 3)), (AV.v (.int .i64 y14))]].length) * 16 ≤ maxBytes then (if 0 ≤ (1 : Int) ∧ (1 : Int) ≤ x.2.length then (kn ((x.1 ++ [[(AV.v (.int .i64 3)), (AV.v (.int .i64 y14))]]), (x.2.drop (1 : Int).toNat))) else none) else none) | none => none) else none)) | none => none)) | none => none) | false => (ke x.1))
noncomputable abbrev F53_d16 (N : Nat) (x : (List (List AV)) × (List (List AV))) : Option (((List (List AV)))) := (F53_l16 N).L N x
noncomputable def F53_l5 (N : Nat) : LSpec where
  X := (List (List AV)) × (List (List AV)) × Int
  Y := ((List (List AV)))
  p := fun s => match s.env.length, s.nin, s.at 3, s.at 0, s.at 4 with
    | 67, 0, (AV.list 1 a0 (some 1280000192)), (AV.list 1 a1 none), (AV.v (.int .i64 a2)) => some (a0, a1, a2)
    | _, _, _, _, _ => none
  st := fun x => mkS 67 [(3, (AV.list 1 x.1 (some 1280000192))), (0, (AV.list 1 x.2.1 none)), (4, (AV.v (.int .i64 x.2.2)))] [] (F53_an 5).1.toks 0
  out := fun y => (.exit 0, mkS 67 [(3, (AV.list 1 y (some 1280000192)))] [] (F53_an 5).2.toks 0)
  sp := fun y α k => k (.exit 0, mkS 67 [(3, (AV.list 1 y (some 1280000192)))] [] (F53_an 5).2.toks 0)
  spe := fun y α k => rfl
  b := fun x α kn ke => (match (decide (x.2.2 < (x.2.1.length : Int))) with | true => (match (x.2.2 == 0) with | true => (if (x.1.length + [[(AV.v (.int .i64 0))]].length) * 8 ≤ maxBytes then (kn ((x.1 ++ [[(AV.v (.int .i64 0))]]), x.2.1, (i64 (x.2.2 + 1)))) else none) | false => (if 0 ≤ x.2.2 then (match x.2.1[x.2.2.toNat]? with | some c1 => (match c1[0]? with | some x2 => (match x2 with | .v (.int q4 n3) => (if q4 = .i64 then (if 0 ≤ (i64 (x.2.2 - 1)) then (match x.2.1[(i64 (x.2.2 - 1)).toNat]? with | some c5 => (match c5[0]? with | some x6 => (match x6 with | .v (.int q8 n7) => (if q8 = .i64 then (if (x.1.length + [[(AV.v (.int .i64 (i64 (n3 - n7))))]].length) * 8 ≤ maxBytes then (kn ((x.1 ++ [[(AV.v (.int .i64 (i64 (n3 - n7))))]]), x.2.1, (i64 (x.2.2 + 1)))) else none) else none) | _ => none) | none => none) | none => none) else none) else none) | _ => none) | none => none) | none => none) else none)) | false => (ke x.1))
noncomputable abbrev F53_d5 (N : Nat) (x : (List (List AV)) × (List (List AV)) × Int) : Option (((List (List AV)))) := (F53_l5 N).L N x
noncomputable def F53_s (N : Nat) : FSpec where
  X := (List (List AV))
  Y := (List (List AV))
  ash := [[some 1]]
  bsh := []
  S := ⟨[[some 2000002]], [], [], [], []⟩
  bm := false
  pat := fun a b => match a, b with
    | [(AV.list 1 a0 none)], [] => some a0
    | _, _ => none
  args := fun x => [(AV.list 1 x none)]
  bs := fun x => []
  ret := fun y => ⟨(AV.list 2 y (some 2560000000)), [], none, [], [2560000000], []⟩
  t := fun x α k => (match F53_d5 N (([] : List (List AV)), x, 0) with | some y9 => (match F53_d16 N (([] : List (List AV)), y9) with | some y15 => (k y15) | none => none) | none => none)
noncomputable abbrev F53_d (N : Nat) (x : (List (List AV))) : Option ((List (List AV))) := (F53_s N).d x
theorem F53_par16 (N : Nat) : Par (F53_l16 N).b := by
  intro x α β kn ke kn' ke' r r' h h1 h2
  revert h
  dsimp only [F53_l16]
  (repeat' (first | (with_reducible refine par_ite ?_ ?_) | (with_reducible refine par_both ?_ ?_) | split)) <;> intro h <;> first | exact h1 _ h | exact h2 _ h | (cases h; done)
theorem F53_body16 (N : Nat) (x : (F53_l16 N).X) (α : Type) (kn : AS → Option α) (ke : Out → Option α) : around (tabOf Tryz.prog) (F53_g N) F53_an (lam N [(5, F53_l5 N), (16, F53_l16 N)]) 16 (bodyOf (nthLoop 16 (Tryz.f53.body.getD .skip))) ((F53_l16 N).st x) kn ke = (F53_l16 N).b x α (fun x' => kn ((F53_l16 N).st x')) (fun y => (F53_l16 N).sp y α ke) := by kernel_rfl
theorem F53_pat16 (N : Nat) (s : AS) (x : (F53_l16 N).X) (hc : s = canon (F53_an 16).1 s) (h : (F53_l16 N).p s = some x) : s = (F53_l16 N).st x := by
  dsimp only [F53_l16] at h
  split at h
  · cases h
    exact canon_mk hc ‹_› ‹_› rfl rfl rfl ⟨‹_›, ‹_›, trivial⟩ trivial
  · cases h
theorem F53_loop16 (N : Nat) : ∀ s o, s = canon (F53_an 16).1 s → (lam N [(5, F53_l5 N), (16, F53_l16 N)]).v 16 s = some o → LoopSem Tryz.prog (nthLoop 16 (Tryz.f53.body.getD .skip)) s o :=
  loop_ok (tabOf_ok Tryz.prog) (gam_ok _) mixed F53_an N [(5, F53_l5 N), (16, F53_l16 N)] 16 (bodyOf (nthLoop 16 (Tryz.f53.body.getD .skip))) (nthLoop 16 (Tryz.f53.body.getD .skip)) (by kernel_rfl) (by
    have e : actOf F53_an (bodyOf (nthLoop 16 (Tryz.f53.body.getD .skip))) (16 + 1) = [] := by kernel_rfl
    rw [e]
    intro p hp
    cases hp) (F53_l16 N) rfl (fun s x hc h => F53_pat16 N s x hc h) (fun x => rfl) (fun x α kn ke => (F53_body16 N x α kn ke).trans (congrArg ((F53_l16 N).b x α _) (funext fun y => (F53_l16 N).spe y α ke))) (F53_par16 N)
theorem F53_par5 (N : Nat) : Par (F53_l5 N).b := by
  intro x α β kn ke kn' ke' r r' h h1 h2
  revert h
  dsimp only [F53_l5]
  (repeat' (first | (with_reducible refine par_ite ?_ ?_) | (with_reducible refine par_both ?_ ?_) | split)) <;> intro h <;> first | exact h1 _ h | exact h2 _ h | (cases h; done)
theorem F53_body5 (N : Nat) (x : (F53_l5 N).X) (α : Type) (kn : AS → Option α) (ke : Out → Option α) : around (tabOf Tryz.prog) (F53_g N) F53_an (lam N [(5, F53_l5 N), (16, F53_l16 N)]) 5 (bodyOf (nthLoop 5 (Tryz.f53.body.getD .skip))) ((F53_l5 N).st x) kn ke = (F53_l5 N).b x α (fun x' => kn ((F53_l5 N).st x')) (fun y => (F53_l5 N).sp y α ke) := by kernel_rfl
theorem F53_pat5 (N : Nat) (s : AS) (x : (F53_l5 N).X) (hc : s = canon (F53_an 5).1 s) (h : (F53_l5 N).p s = some x) : s = (F53_l5 N).st x := by
  dsimp only [F53_l5] at h
  split at h
  · cases h
    exact canon_mk hc ‹_› ‹_› rfl rfl rfl ⟨‹_›, ‹_›, ‹_›, trivial⟩ trivial
  · cases h
theorem F53_loop5 (N : Nat) : ∀ s o, s = canon (F53_an 5).1 s → (lam N [(5, F53_l5 N), (16, F53_l16 N)]).v 5 s = some o → LoopSem Tryz.prog (nthLoop 5 (Tryz.f53.body.getD .skip)) s o :=
  loop_ok (tabOf_ok Tryz.prog) (gam_ok _) mixed F53_an N [(5, F53_l5 N), (16, F53_l16 N)] 5 (bodyOf (nthLoop 5 (Tryz.f53.body.getD .skip))) (nthLoop 5 (Tryz.f53.body.getD .skip)) (by kernel_rfl) (by
    have e : actOf F53_an (bodyOf (nthLoop 5 (Tryz.f53.body.getD .skip))) (5 + 1) = [] := by kernel_rfl
    rw [e]
    intro p hp
    cases hp) (F53_l5 N) rfl (fun s x hc h => F53_pat5 N s x hc h) (fun x => rfl) (fun x α kn ke => (F53_body5 N x α kn ke).trans (congrArg ((F53_l5 N).b x α _) (funext fun y => (F53_l5 N).spe y α ke))) (F53_par5 N)
theorem F53_parF (N : Nat) : ParF (F53_s N).t := by
  intro x α β k k' r r' h h1
  revert h
  dsimp only [F53_s]
  (repeat' (first | (with_reducible refine par_ite ?_ ?_) | (with_reducible refine par_both ?_ ?_) | split)) <;> intro h <;> first | exact h1 _ h | (cases h; done)
theorem F53_text (N : Nat) (x : (F53_s N).X) : acall (tabOf Tryz.prog) (F53_g N) F53_an (lam N [(5, F53_l5 N), (16, F53_l16 N)]) Tryz.f53 (F53_s N).S ((F53_s N).args x) ((F53_s N).bs x) = (F53_s N).t x Ret (fun y => some ((F53_s N).ret y)) := by kernel_rfl
theorem F53_pat (N : Nat) (a : List AV) (b : List (List AV)) (x : (F53_s N).X) (h : (F53_s N).pat a b = some x) : a = (F53_s N).args x ∧ b = (F53_s N).bs x := by
  dsimp only [F53_s] at h
  split at h
  · cases h; exact ⟨rfl, rfl⟩
  · cases h
noncomputable def F53_e (N : Nat) : Ent Tryz.prog := entOf (tabOf_ok Tryz.prog) (gam_ok _) mixed 53 Tryz.f53 Tryz.func53 rfl F53_an (lam N [(5, F53_l5 N), (16, F53_l16 N)]) (by
    have e : actOf F53_an (Tryz.f53.body.getD .skip) 0 = [(5, nthLoop 5 (Tryz.f53.body.getD .skip)), (16, nthLoop 16 (Tryz.f53.body.getD .skip))] := by kernel_rfl
    rw [e]
    intro p hp
    rcases List.mem_cons.1 hp with rfl | hp
    · exact F53_loop5 N
    rcases List.mem_cons.1 hp with rfl | hp
    · exact F53_loop16 N
    cases hp) (F53_s N) (fun _ => ⟨rfl, rfl⟩) (F53_text N) (F53_pat N) (F53_parF N)
/-! ### seismonet/seismonetref05.Words (function 81) -/
def F81_an : Nat → Keep × Keep := anL []
noncomputable def F81_g (N : Nat) : GamK := gam (P := Tryz.prog) [F51_e N, F53_e N]
noncomputable def F81_s (N : Nat) : FSpec where
  X := (List (List AV))
  Y := Int
  ash := [[some 1]]
  bsh := []
  S := ⟨[[none]], [], [], [], []⟩
  bm := false
  pat := fun a b => match a, b with
    | [(AV.list 1 a0 none)], [] => some a0
    | _, _ => none
  args := fun x => [(AV.list 1 x none)]
  bs := fun x => []
  ret := fun y => ⟨(AV.v (.int .i64 y)), [], none, [], [], []⟩
  t := fun x α k => (match F51_d N x with | some y1 => (match (!y1) with | true => (k 0) | false => (match F53_d N x with | some y2 => (k (y2.length : Int)) | none => none)) | none => none)
noncomputable abbrev F81_d (N : Nat) (x : (List (List AV))) : Option (Int) := (F81_s N).d x
theorem F81_parF (N : Nat) : ParF (F81_s N).t := by
  intro x α β k k' r r' h h1
  revert h
  dsimp only [F81_s]
  (repeat' (first | (with_reducible refine par_ite ?_ ?_) | (with_reducible refine par_both ?_ ?_) | split)) <;> intro h <;> first | exact h1 _ h | (cases h; done)
theorem F81_text (N : Nat) (x : (F81_s N).X) : acall (tabOf Tryz.prog) (F81_g N) F81_an (lam N []) Tryz.f81 (F81_s N).S ((F81_s N).args x) ((F81_s N).bs x) = (F81_s N).t x Ret (fun y => some ((F81_s N).ret y)) := by kernel_rfl
theorem F81_pat (N : Nat) (a : List AV) (b : List (List AV)) (x : (F81_s N).X) (h : (F81_s N).pat a b = some x) : a = (F81_s N).args x ∧ b = (F81_s N).bs x := by
  dsimp only [F81_s] at h
  split at h
  · cases h; exact ⟨rfl, rfl⟩
  · cases h
noncomputable def F81_e (N : Nat) : Ent Tryz.prog := entOf (tabOf_ok Tryz.prog) (gam_ok _) mixed 81 Tryz.f81 Tryz.func81 rfl F81_an (lam N []) (by
    have e : actOf F81_an (Tryz.f81.body.getD .skip) 0 = [] := by kernel_rfl
    rw [e]
    intro p hp
    cases hp) (F81_s N) (fun _ => ⟨rfl, rfl⟩) (F81_text N) (F81_pat N) (F81_parF N)
/-! ### seismonet/seismonetref05.Frames (function 52) -/
def F52_an : Nat → Keep × Keep := anL []
noncomputable def F52_g (N : Nat) : GamK := gam (P := Tryz.prog) [F81_e N]
noncomputable def F52_s (N : Nat) : FSpec where
  X := (List (List AV))
  Y := Int
  ash := [[some 1]]
  bsh := []
  S := ⟨[[none]], [], [], [], []⟩
  bm := false
  pat := fun a b => match a, b with
    | [(AV.list 1 a0 none)], [] => some a0
    | _, _ => none
  args := fun x => [(AV.list 1 x none)]
  bs := fun x => []
  ret := fun y => ⟨(AV.v (.int .i64 y)), [], none, [], [], []⟩
  t := fun x α k => (match F81_d N x with | some y1 => (match (y1 == 0) with | true => (k 0) | false => (k (i64 (1 + (i64 ((i64 ((if 0 > (i64 (y1 - 13)) then 0 else (i64 (y1 - 13))) + 14)).tdiv 15)))))) | none => none)
noncomputable abbrev F52_d (N : Nat) (x : (List (List AV))) : Option (Int) := (F52_s N).d x
theorem F52_parF (N : Nat) : ParF (F52_s N).t := by
  intro x α β k k' r r' h h1
  revert h
  dsimp only [F52_s]
  (repeat' (first | (with_reducible refine par_ite ?_ ?_) | (with_reducible refine par_both ?_ ?_) | split)) <;> intro h <;> first | exact h1 _ h | (cases h; done)
theorem F52_text (N : Nat) (x : (F52_s N).X) : acall (tabOf Tryz.prog) (F52_g N) F52_an (lam N []) Tryz.f52 (F52_s N).S ((F52_s N).args x) ((F52_s N).bs x) = (F52_s N).t x Ret (fun y => some ((F52_s N).ret y)) := by kernel_rfl
theorem F52_pat (N : Nat) (a : List AV) (b : List (List AV)) (x : (F52_s N).X) (h : (F52_s N).pat a b = some x) : a = (F52_s N).args x ∧ b = (F52_s N).bs x := by
  dsimp only [F52_s] at h
  split at h
  · cases h; exact ⟨rfl, rfl⟩
  · cases h
noncomputable def F52_e (N : Nat) : Ent Tryz.prog := entOf (tabOf_ok Tryz.prog) (gam_ok _) mixed 52 Tryz.f52 Tryz.func52 rfl F52_an (lam N []) (by
    have e : actOf F52_an (Tryz.f52.body.getD .skip) 0 = [] := by kernel_rfl
    rw [e]
    intro p hp
    cases hp) (F52_s N) (fun _ => ⟨rfl, rfl⟩) (F52_text N) (F52_pat N) (F52_parF N)
/-! ### seismonet/seismonetref04.SetPair (function 55) -/
def F55_an : Nat → Keep × Keep := anL []
noncomputable def F55_g (N : Nat) : GamK := gam (P := Tryz.prog) [F42_e N]
noncomputable def F55_s (N : Nat) : FSpec where
  X := Int × Int × Int
  Y := Int × Int
  ash := [[none], [none], [none]]
  bsh := []
  S := ⟨[[none], [none]], [], [], [], []⟩
  bm := false
  pat := fun a b => match a, b with
    | [(AV.v (.int .i64 a0)), (AV.v (.int .i64 a1)), (AV.v (.int .i64 a2))], [] => some (a0, a1, a2)
    | _, _ => none
  args := fun x => [(AV.v (.int .i64 x.1)), (AV.v (.int .i64 x.2.1)), (AV.v (.int .i64 x.2.2))]
  bs := fun x => []
  ret := fun y => ⟨(AV.tup [(AV.v (.int .i64 y.1)), (AV.v (.int .i64 y.2))]), [], none, [], [], []⟩
  t := fun x α k => (match F42_d N (x.1, 0, 4294967295) with | some y1 => (match (!y1) with | true => (k (0, 2)) | false => (match F42_d N (x.2.1, 0, 15) with | some y2 => (match (!y2) with | true => (k (0, 2)) | false => (match F42_d N (x.2.2, 0, 3) with | some y3 => (match (!y3) with | true => (k (0, 2)) | false => (if (IntKind.u64.wrap (i64 (30 - (i64 (2 * x.2.1))))) < 0 then none else (if (IntKind.u64.wrap (i64 (30 - (i64 (2 * x.2.1))))) < 0 then none else (k ((bOr .i64 (bNot .i64 x.1 (shL .i64 (3 : Int) (IntKind.u64.wrap (i64 (30 - (i64 (2 * x.2.1))))))) (shL .i64 x.2.2 (IntKind.u64.wrap (i64 (30 - (i64 (2 * x.2.1))))))), 0))))) | none => none)) | none => none)) | none => none)
noncomputable abbrev F55_d (N : Nat) (x : Int × Int × Int) : Option (Int × Int) := (F55_s N).d x
theorem F55_parF (N : Nat) : ParF (F55_s N).t := by
  intro x α β k k' r r' h h1
  revert h
  dsimp only [F55_s]
  (repeat' (first | (with_reducible refine par_ite ?_ ?_) | (with_reducible refine par_both ?_ ?_) | split)) <;> intro h <;> first | exact h1 _ h | (cases h; done)
theorem F55_text (N : Nat) (x : (F55_s N).X) : acall (tabOf Tryz.prog) (F55_g N) F55_an (lam N []) Tryz.f55 (F55_s N).S ((F55_s N).args x) ((F55_s N).bs x) = (F55_s N).t x Ret (fun y => some ((F55_s N).ret y)) := by kernel_rfl
theorem F55_pat (N : Nat) (a : List AV) (b : List (List AV)) (x : (F55_s N).X) (h : (F55_s N).pat a b = some x) : a = (F55_s N).args x ∧ b = (F55_s N).bs x := by
  dsimp only [F55_s] at h
  split at h
  · cases h; exact ⟨rfl, rfl⟩
  · cases h
noncomputable def F55_e (N : Nat) : Ent Tryz.prog := entOf (tabOf_ok Tryz.prog) (gam_ok _) mixed 55 Tryz.f55 Tryz.func55 rfl F55_an (lam N []) (by
    have e : actOf F55_an (Tryz.f55.body.getD .skip) 0 = [] := by kernel_rfl
    rw [e]
    intro p hp
    cases hp) (F55_s N) (fun _ => ⟨rfl, rfl⟩) (F55_text N) (F55_pat N) (F55_parF N)
/-! ### seismonet/seismonetref04.Put (function 28) -/
def F28_an : Nat → Keep × Keep := anL [(9, ⟨[1, 9], [(8, 1)], [], [], [], [], [], [], false⟩, ⟨[], [(8, 1)], [], [], [], [], [], [], false⟩)]
noncomputable def F28_g (N : Nat) : GamK := gam (P := Tryz.prog) [F42_e N]
noncomputable def F28_l9 (N : Nat) : LSpec where
  X := (List (List AV)) × Int × Int
  Y := ((List (List AV)))
  p := fun s => match s.env.length, s.nin, s.at 8, s.at 1, s.at 9 with
    | 44, 0, (AV.list 1 a0 (some 1280000512)), (AV.v (.int .i64 a1)), (AV.v (.int .i64 a2)) => some (a0, a1, a2)
    | _, _, _, _, _ => none
  st := fun x => mkS 44 [(8, (AV.list 1 x.1 (some 1280000512))), (1, (AV.v (.int .i64 x.2.1))), (9, (AV.v (.int .i64 x.2.2)))] [] (F28_an 9).1.toks 0
  out := fun y => (.exit 0, mkS 44 [(8, (AV.list 1 y (some 1280000512)))] [] (F28_an 9).2.toks 0)
  sp := fun y α k => k (.exit 0, mkS 44 [(8, (AV.list 1 y (some 1280000512)))] [] (F28_an 9).2.toks 0)
  spe := fun y α k => rfl
  b := fun x α kn ke => (match (decide (x.2.2 ≥ 0)) with | true => (if (IntKind.u64.wrap (i64 (8 * x.2.2))) < 0 then none else (if (x.1.length + [[(AV.v (.int .u8 (IntKind.u8.wrap (shR .i64 x.2.1 (IntKind.u64.wrap (i64 (8 * x.2.2)))))))]].length) * 1 ≤ maxBytes then (kn ((x.1 ++ [[(AV.v (.int .u8 (IntKind.u8.wrap (shR .i64 x.2.1 (IntKind.u64.wrap (i64 (8 * x.2.2)))))))]]), x.2.1, (i64 (x.2.2 - 1)))) else none)) | false => (ke x.1))
noncomputable abbrev F28_d9 (N : Nat) (x : (List (List AV)) × Int × Int) : Option (((List (List AV)))) := (F28_l9 N).L N x
noncomputable def F28_s (N : Nat) : FSpec where
  X := ByteArray × Int × Int
  Y := ByteArray × Int
  ash := [[none], [none], [none]]
  bsh := []
  S := ⟨[[none], [none]], [], [], [], []⟩
  bm := false
  pat := fun a b => match a, b with
    | [(AV.v (.string a0)), (AV.v (.int .i64 a1)), (AV.v (.int .i64 a2))], [] => some (a0, a1, a2)
    | _, _ => none
  args := fun x => [(AV.v (.string x.1)), (AV.v (.int .i64 x.2.1)), (AV.v (.int .i64 x.2.2))]
  bs := fun x => []
  ret := fun y => ⟨(AV.tup [(AV.v (.string y.1)), (AV.v (.int .i64 y.2))]), [], none, [], [], []⟩
  t := fun x α k => (match F42_d N (x.2.2, 1, 7) with | some y1 => (match (!y1) with | true => (k ((⟨#[]⟩ : ByteArray), 2)) | false => (match (decide (x.2.1 < 0)) with | true => (k ((⟨#[]⟩ : ByteArray), 2)) | false => (if (IntKind.u64.wrap (i64 (8 * x.2.2))) < 0 then none else (match (decide (x.2.1 ≥ (shL .i64 (1 : Int) (IntKind.u64.wrap (i64 (8 * x.2.2)))))) with | true => (k ((⟨#[]⟩ : ByteArray), 2)) | false => (match F28_d9 N ((bytesL x.1), x.2.1, (i64 (x.2.2 - 1))) with | some y2 => (match numsOf y2 with | some s3 => (k ((strOfNums s3), 0)) | none => none) | none => none))))) | none => none)
noncomputable abbrev F28_d (N : Nat) (x : ByteArray × Int × Int) : Option (ByteArray × Int) := (F28_s N).d x
theorem F28_par9 (N : Nat) : Par (F28_l9 N).b := by
  intro x α β kn ke kn' ke' r r' h h1 h2
  revert h
  dsimp only [F28_l9]
  (repeat' (first | (with_reducible refine par_ite ?_ ?_) | (with_reducible refine par_both ?_ ?_) | split)) <;> intro h <;> first | exact h1 _ h | exact h2 _ h | (cases h; done)
theorem F28_body9 (N : Nat) (x : (F28_l9 N).X) (α : Type) (kn : AS → Option α) (ke : Out → Option α) : around (tabOf Tryz.prog) (F28_g N) F28_an (lam N [(9, F28_l9 N)]) 9 (bodyOf (nthLoop 9 (Tryz.f28.body.getD .skip))) ((F28_l9 N).st x) kn ke = (F28_l9 N).b x α (fun x' => kn ((F28_l9 N).st x')) (fun y => (F28_l9 N).sp y α ke) := by kernel_rfl
theorem F28_pat9 (N : Nat) (s : AS) (x : (F28_l9 N).X) (hc : s = canon (F28_an 9).1 s) (h : (F28_l9 N).p s = some x) : s = (F28_l9 N).st x := by
  dsimp only [F28_l9] at h
  split at h
  · cases h
    exact canon_mk hc ‹_› ‹_› rfl rfl rfl ⟨‹_›, ‹_›, ‹_›, trivial⟩ trivial
  · cases h
theorem F28_loop9 (N : Nat) : ∀ s o, s = canon (F28_an 9).1 s → (lam N [(9, F28_l9 N)]).v 9 s = some o → LoopSem Tryz.prog (nthLoop 9 (Tryz.f28.body.getD .skip)) s o :=
  loop_ok (tabOf_ok Tryz.prog) (gam_ok _) mixed F28_an N [(9, F28_l9 N)] 9 (bodyOf (nthLoop 9 (Tryz.f28.body.getD .skip))) (nthLoop 9 (Tryz.f28.body.getD .skip)) (by kernel_rfl) (by
    have e : actOf F28_an (bodyOf (nthLoop 9 (Tryz.f28.body.getD .skip))) (9 + 1) = [] := by kernel_rfl
    rw [e]
    intro p hp
    cases hp) (F28_l9 N) rfl (fun s x hc h => F28_pat9 N s x hc h) (fun x => rfl) (fun x α kn ke => (F28_body9 N x α kn ke).trans (congrArg ((F28_l9 N).b x α _) (funext fun y => (F28_l9 N).spe y α ke))) (F28_par9 N)
theorem F28_parF (N : Nat) : ParF (F28_s N).t := by
  intro x α β k k' r r' h h1
  revert h
  dsimp only [F28_s]
  (repeat' (first | (with_reducible refine par_ite ?_ ?_) | (with_reducible refine par_both ?_ ?_) | split)) <;> intro h <;> first | exact h1 _ h | (cases h; done)
theorem F28_text (N : Nat) (x : (F28_s N).X) : acall (tabOf Tryz.prog) (F28_g N) F28_an (lam N [(9, F28_l9 N)]) Tryz.f28 (F28_s N).S ((F28_s N).args x) ((F28_s N).bs x) = (F28_s N).t x Ret (fun y => some ((F28_s N).ret y)) := by kernel_rfl
theorem F28_pat (N : Nat) (a : List AV) (b : List (List AV)) (x : (F28_s N).X) (h : (F28_s N).pat a b = some x) : a = (F28_s N).args x ∧ b = (F28_s N).bs x := by
  dsimp only [F28_s] at h
  split at h
  · cases h; exact ⟨rfl, rfl⟩
  · cases h
noncomputable def F28_e (N : Nat) : Ent Tryz.prog := entOf (tabOf_ok Tryz.prog) (gam_ok _) mixed 28 Tryz.f28 Tryz.func28 rfl F28_an (lam N [(9, F28_l9 N)]) (by
    have e : actOf F28_an (Tryz.f28.body.getD .skip) 0 = [(9, nthLoop 9 (Tryz.f28.body.getD .skip))] := by kernel_rfl
    rw [e]
    intro p hp
    rcases List.mem_cons.1 hp with rfl | hp
    · exact F28_loop9 N
    cases hp) (F28_s N) (fun _ => ⟨rfl, rfl⟩) (F28_text N) (F28_pat N) (F28_parF N)
/-! ### seismonet/seismonetref05.append4 (function 56) -/
def F56_an : Nat → Keep × Keep := anL []
noncomputable def F56_g (N : Nat) : GamK := gam (P := Tryz.prog) [F28_e N]
noncomputable def F56_s (N : Nat) : FSpec where
  X := ByteArray × Int
  Y := ByteArray × Int
  ash := [[none], [none]]
  bsh := []
  S := ⟨[[none], [none]], [], [], [], []⟩
  bm := false
  pat := fun a b => match a, b with
    | [(AV.v (.string a0)), (AV.v (.int .i64 a1))], [] => some (a0, a1)
    | _, _ => none
  args := fun x => [(AV.v (.string x.1)), (AV.v (.int .i64 x.2))]
  bs := fun x => []
  ret := fun y => ⟨(AV.tup [(AV.v (.string y.1)), (AV.v (.int .i64 y.2))]), [], none, [], [], []⟩
  t := fun x α k => (match F28_d N (x.1, x.2, 4) with | some y1 => (k (y1.1, y1.2)) | none => none)
noncomputable abbrev F56_d (N : Nat) (x : ByteArray × Int) : Option (ByteArray × Int) := (F56_s N).d x
theorem F56_parF (N : Nat) : ParF (F56_s N).t := by
  intro x α β k k' r r' h h1
  revert h
  dsimp only [F56_s]
  (repeat' (first | (with_reducible refine par_ite ?_ ?_) | (with_reducible refine par_both ?_ ?_) | split)) <;> intro h <;> first | exact h1 _ h | (cases h; done)
theorem F56_text (N : Nat) (x : (F56_s N).X) : acall (tabOf Tryz.prog) (F56_g N) F56_an (lam N []) Tryz.f56 (F56_s N).S ((F56_s N).args x) ((F56_s N).bs x) = (F56_s N).t x Ret (fun y => some ((F56_s N).ret y)) := by kernel_rfl
theorem F56_pat (N : Nat) (a : List AV) (b : List (List AV)) (x : (F56_s N).X) (h : (F56_s N).pat a b = some x) : a = (F56_s N).args x ∧ b = (F56_s N).bs x := by
  dsimp only [F56_s] at h
  split at h
  · cases h; exact ⟨rfl, rfl⟩
  · cases h
noncomputable def F56_e (N : Nat) : Ent Tryz.prog := entOf (tabOf_ok Tryz.prog) (gam_ok _) mixed 56 Tryz.f56 Tryz.func56 rfl F56_an (lam N []) (by
    have e : actOf F56_an (Tryz.f56.body.getD .skip) 0 = [] := by kernel_rfl
    rw [e]
    intro p hp
    cases hp) (F56_s N) (fun _ => ⟨rfl, rfl⟩) (F56_text N) (F56_pat N) (F56_parF N)
/-! ### seismonet/seismonetref05.Encode (function 27) -/
def F27_an : Nat → Keep × Keep := anL [(19, ⟨[4, 6, 7], [], [], [(0, 1), (5, 2)], [], [], [], [], false⟩, ⟨[6], [], [], [], [], [], [], [], false⟩), (36, ⟨[4, 6, 7, 8, 10, 11], [], [8], [(0, 1), (5, 2)], [], [], [], [8], false⟩, ⟨[4, 6, 7, 8, 10], [], [8], [(0, 1), (5, 2)], [], [], [], [8], false⟩), (47, ⟨[4, 6, 7, 8, 12], [], [8], [(0, 1), (5, 2)], [], [], [], [8], false⟩, ⟨[4, 6, 7], [], [], [(0, 1), (5, 2)], [], [], [], [], false⟩)]
noncomputable def F27_g (N : Nat) : GamK := gam (P := Tryz.prog) [F51_e N, F52_e N, F53_e N, F54_e N, F55_e N, F56_e N]
noncomputable def F27_l47 (N : Nat) : LSpec where
  X := (List (List AV)) × (List (List AV)) × Int × ByteArray × Int × Int × (List AV)
  Y := ((List (List AV)) × (List (List AV)) × Int × ByteArray × Int)
  p := fun s => match s.env.length, s.nin, s.at 0, s.at 5, s.at 4, s.at 6, s.at 7, s.at 8, s.at 12, s.bx 8 with
    | 94, 0, (AV.list 1 a0 none), (AV.list 2 a1 none), (AV.v (.int .i64 a2)), (AV.v (.string a3)), (AV.v (.int .i64 a4)), (AV.ptr 8 0), (AV.v (.int .i64 a5)), some a6 => some (a0, a1, a2, a3, a4, a5, a6)
    | _, _, _, _, _, _, _, _, _, _ => none
  st := fun x => mkS 94 [(0, (AV.list 1 x.1 none)), (5, (AV.list 2 x.2.1 none)), (4, (AV.v (.int .i64 x.2.2.1))), (6, (AV.v (.string x.2.2.2.1))), (7, (AV.v (.int .i64 x.2.2.2.2.1))), (8, (AV.ptr 8 0)), (12, (AV.v (.int .i64 x.2.2.2.2.2.1)))] [(8, x.2.2.2.2.2.2)] (F27_an 47).1.toks 0
  out := fun y => (.exit 4, mkS 94 [(0, (AV.list 1 y.1 none)), (5, (AV.list 2 y.2.1 none)), (4, (AV.v (.int .i64 y.2.2.1))), (6, (AV.v (.string y.2.2.2.1))), (7, (AV.v (.int .i64 y.2.2.2.2)))] [] (F27_an 47).2.toks 0)
  sp := fun y α k => k (.exit 4, mkS 94 [(0, (AV.list 1 y.1 none)), (5, (AV.list 2 y.2.1 none)), (4, (AV.v (.int .i64 y.2.2.1))), (6, (AV.v (.string y.2.2.2.1))), (7, (AV.v (.int .i64 y.2.2.2.2)))] [] (F27_an 47).2.toks 0)
  spe := fun y α k => rfl
  b := fun x α kn ke => (match (decide (x.2.2.2.2.2.1 < 16)) with | true => (if 0 ≤ x.2.2.2.2.2.1 ∧ x.2.2.2.2.2.1 < 16 then (match x.2.2.2.2.2.2[(0 + x.2.2.2.2.2.1.toNat * 1)]? with | some x33 => (match x33 with | .v (.int q35 n34) => (if q35 = .i64 then (match F56_d N (x.2.2.2.1, n34) with | some y36 => (kn (x.1, x.2.1, x.2.2.1, y36.1, x.2.2.2.2.1, (i64 (x.2.2.2.2.2.1 + 1)), (x.2.2.2.2.2.2.map dat0))) | none => none) else none) | _ => none) | none => none) else none) | false => (ke (x.1, x.2.1, x.2.2.1, x.2.2.2.1, x.2.2.2.2.1)))
noncomputable abbrev F27_d47 (N : Nat) (x : (List (List AV)) × (List (List AV)) × Int × ByteArray × Int × Int × (List AV)) : Option (((List (List AV)) × (List (List AV)) × Int × ByteArray × Int)) := (F27_l47 N).L N x
noncomputable def F27_l36 (N : Nat) : LSpec where
  X := (List (List AV)) × (List (List AV)) × Int × ByteArray × Int × Int × Int × (List AV)
  Y := ((List (List AV)) × (List (List AV)) × Int × ByteArray × Int × Int × (List AV))
  p := fun s => match s.env.length, s.nin, s.at 0, s.at 5, s.at 4, s.at 6, s.at 7, s.at 8, s.at 10, s.at 11, s.bx 8 with
    | 94, 0, (AV.list 1 a0 none), (AV.list 2 a1 none), (AV.v (.int .i64 a2)), (AV.v (.string a3)), (AV.v (.int .i64 a4)), (AV.ptr 8 0), (AV.v (.int .i64 a5)), (AV.v (.int .i64 a6)), some a7 => some (a0, a1, a2, a3, a4, a5, a6, a7)
    | _, _, _, _, _, _, _, _, _, _, _ => none
  st := fun x => mkS 94 [(0, (AV.list 1 x.1 none)), (5, (AV.list 2 x.2.1 none)), (4, (AV.v (.int .i64 x.2.2.1))), (6, (AV.v (.string x.2.2.2.1))), (7, (AV.v (.int .i64 x.2.2.2.2.1))), (8, (AV.ptr 8 0)), (10, (AV.v (.int .i64 x.2.2.2.2.2.1))), (11, (AV.v (.int .i64 x.2.2.2.2.2.2.1)))] [(8, x.2.2.2.2.2.2.2)] (F27_an 36).1.toks 0
  out := fun y => (.exit 2, mkS 94 [(0, (AV.list 1 y.1 none)), (5, (AV.list 2 y.2.1 none)), (4, (AV.v (.int .i64 y.2.2.1))), (6, (AV.v (.string y.2.2.2.1))), (7, (AV.v (.int .i64 y.2.2.2.2.1))), (8, (AV.ptr 8 0)), (10, (AV.v (.int .i64 y.2.2.2.2.2.1)))] [(8, y.2.2.2.2.2.2)] (F27_an 36).2.toks 0)
  sp := fun y α k => k (.exit 2, mkS 94 [(0, (AV.list 1 y.1 none)), (5, (AV.list 2 y.2.1 none)), (4, (AV.v (.int .i64 y.2.2.1))), (6, (AV.v (.string y.2.2.2.1))), (7, (AV.v (.int .i64 y.2.2.2.2.1))), (8, (AV.ptr 8 0)), (10, (AV.v (.int .i64 y.2.2.2.2.2.1)))] [(8, y.2.2.2.2.2.2)] (F27_an 36).2.toks 0)
  spe := fun y α k => rfl
  b := fun x α kn ke => (match (decide (x.2.2.2.2.2.2.1 < 16)) with | true => (match (decide ((x.2.1.length : Int) > 0)) with | true => (if 0 ≤ (0 : Int) then (match x.2.1[(0 : Int).toNat]? with | some c23 => (match (c23.drop 0)[0]? with | some x24 => (match x24 with | .v (.int q26 n25) => (if q26 = .i64 then (match F55_d N (x.2.2.2.2.2.1, x.2.2.2.2.2.2.1, n25) with | some y27 => (if 0 ≤ (0 : Int) then (match x.2.1[(0 : Int).toNat]? with | some c28 => (match (c28.drop 1)[0]? with | some x29 => (match x29 with | .v (.int q31 n30) => (if q31 = .i64 then (if 0 ≤ x.2.2.2.2.2.2.1 ∧ x.2.2.2.2.2.2.1 < 16 then (if (0 + x.2.2.2.2.2.2.1.toNat * 1) + 1 ≤ x.2.2.2.2.2.2.2.length then (if 0 ≤ (1 : Int) ∧ (1 : Int) ≤ x.2.1.length then (kn (x.1, (x.2.1.drop (1 : Int).toNat), x.2.2.1, x.2.2.2.1, x.2.2.2.2.1, y27.1, (i64 (x.2.2.2.2.2.2.1 + 1)), ((x.2.2.2.2.2.2.2.set ((0 + x.2.2.2.2.2.2.1.toNat * 1)) (AV.v (.int .i64 n30))).map dat0))) else none) else none) else none) else none) | _ => none) | none => none) | none => none) else none) | none => none) else none) | _ => none) | none => none) | none => none) else none) | false => (ke (x.1, x.2.1, x.2.2.1, x.2.2.2.1, x.2.2.2.2.1, x.2.2.2.2.2.1, (x.2.2.2.2.2.2.2.map dat0)))) | false => (ke (x.1, x.2.1, x.2.2.1, x.2.2.2.1, x.2.2.2.2.1, x.2.2.2.2.2.1, (x.2.2.2.2.2.2.2.map dat0))))
noncomputable abbrev F27_d36 (N : Nat) (x : (List (List AV)) × (List (List AV)) × Int × ByteArray × Int × Int × Int × (List AV)) : Option (((List (List AV)) × (List (List AV)) × Int × ByteArray × Int × Int × (List AV))) := (F27_l36 N).L N x
noncomputable def F27_l19 (N : Nat) : LSpec where
  X := (List (List AV)) × (List (List AV)) × Int × ByteArray × Int
  Y := (ByteArray)
  p := fun s => match s.env.length, s.nin, s.at 0, s.at 5, s.at 4, s.at 6, s.at 7 with
    | 94, 0, (AV.list 1 a0 none), (AV.list 2 a1 none), (AV.v (.int .i64 a2)), (AV.v (.string a3)), (AV.v (.int .i64 a4)) => some (a0, a1, a2, a3, a4)
    | _, _, _, _, _, _, _ => none
  st := fun x => mkS 94 [(0, (AV.list 1 x.1 none)), (5, (AV.list 2 x.2.1 none)), (4, (AV.v (.int .i64 x.2.2.1))), (6, (AV.v (.string x.2.2.2.1))), (7, (AV.v (.int .i64 x.2.2.2.2)))] [] (F27_an 19).1.toks 0
  out := fun y => (.exit 0, mkS 94 [(6, (AV.v (.string y)))] [] (F27_an 19).2.toks 0)
  sp := fun y α k => k (.exit 0, mkS 94 [(6, (AV.v (.string y)))] [] (F27_an 19).2.toks 0)
  spe := fun y α k => rfl
  b := fun x α kn ke => (match (decide (x.2.2.2.2 < x.2.2.1)) with | true => (match (x.2.2.2.2 == 0) with | true => (if 0 ≤ (0 : Int) then (match x.1[(0 : Int).toNat]? with | some c4 => (match c4[0]? with | some x5 => (match x5 with | .v (.int q7 n6) => (if q7 = .i64 then (match F54_d N (n6, 32) with | some y8 => (if 0 ≤ (i64 ((x.1.length : Int) - 1)) then (match x.1[(i64 ((x.1.length : Int) - 1)).toNat]? with | some c9 => (match c9[0]? with | some x10 => (match x10 with | .v (.int q12 n11) => (if q12 = .i64 then (match F54_d N (n11, 32) with | some y13 => (match F27_d36 N (x.1, x.2.1, x.2.2.1, x.2.2.2.1, x.2.2.2.2, 0, 3, ([(AV.v (.int .i64 0)), (AV.v (.int .i64 y8.1)), (AV.v (.int .i64 y13.1)), (AV.v (.int .i64 0)), (AV.v (.int .i64 0)), (AV.v (.int .i64 0)), (AV.v (.int .i64 0)), (AV.v (.int .i64 0)), (AV.v (.int .i64 0)), (AV.v (.int .i64 0)), (AV.v (.int .i64 0)), (AV.v (.int .i64 0)), (AV.v (.int .i64 0)), (AV.v (.int .i64 0)), (AV.v (.int .i64 0)), (AV.v (.int .i64 0))].map dat0)) with | some y32 => (if 0 + 1 ≤ y32.2.2.2.2.2.2.length then (match F27_d47 N (y32.1, y32.2.1, y32.2.2.1, y32.2.2.2.1, y32.2.2.2.2.1, 0, ((y32.2.2.2.2.2.2.set (0) (AV.v (.int .i64 y32.2.2.2.2.2.1))).map dat0)) with | some y37 => (kn (y37.1, y37.2.1, y37.2.2.1, y37.2.2.2.1, (i64 (y37.2.2.2.2 + 1)))) | none => none) else none) | none => none) | none => none) else none) | _ => none) | none => none) | none => none) else none) | none => none) else none) | _ => none) | none => none) | none => none) else none) | false => (match F27_d36 N (x.1, x.2.1, x.2.2.1, x.2.2.2.1, x.2.2.2.2, 0, 1, ([(AV.v (.int .i64 0)), (AV.v (.int .i64 0)), (AV.v (.int .i64 0)), (AV.v (.int .i64 0)), (AV.v (.int .i64 0)), (AV.v (.int .i64 0)), (AV.v (.int .i64 0)), (AV.v (.int .i64 0)), (AV.v (.int .i64 0)), (AV.v (.int .i64 0)), (AV.v (.int .i64 0)), (AV.v (.int .i64 0)), (AV.v (.int .i64 0)), (AV.v (.int .i64 0)), (AV.v (.int .i64 0)), (AV.v (.int .i64 0))].map dat0)) with | some y38 => (if 0 + 1 ≤ y38.2.2.2.2.2.2.length then (match F27_d47 N (y38.1, y38.2.1, y38.2.2.1, y38.2.2.2.1, y38.2.2.2.2.1, 0, ((y38.2.2.2.2.2.2.set (0) (AV.v (.int .i64 y38.2.2.2.2.2.1))).map dat0)) with | some y39 => (kn (y39.1, y39.2.1, y39.2.2.1, y39.2.2.2.1, (i64 (y39.2.2.2.2 + 1)))) | none => none) else none) | none => none)) | false => (ke x.2.2.2.1))
noncomputable abbrev F27_d19 (N : Nat) (x : (List (List AV)) × (List (List AV)) × Int × ByteArray × Int) : Option ((ByteArray)) := (F27_l19 N).L N x
noncomputable def F27_s (N : Nat) : FSpec where
  X := (List (List AV))
  Y := ByteArray × Int
  ash := [[some 1]]
  bsh := []
  S := ⟨[[none], [none]], [], [], [], []⟩
  bm := false
  pat := fun a b => match a, b with
    | [(AV.list 1 a0 none)], [] => some a0
    | _, _ => none
  args := fun x => [(AV.list 1 x none)]
  bs := fun x => []
  ret := fun y => ⟨(AV.tup [(AV.v (.string y.1)), (AV.v (.int .i64 y.2))]), [], none, [], [], []⟩
  t := fun x α k => (match ((x.length : Int) == 0) with | true => (k ((⟨#[]⟩ : ByteArray), 1)) | false => (match F51_d N x with | some y1 => (match (!y1) with | true => (k ((⟨#[]⟩ : ByteArray), 2)) | false => (match F52_d N x with | some y2 => (match (decide (y2 > 8)) with | true => (k ((⟨#[]⟩ : ByteArray), 8)) | false => (match F53_d N x with | some y3 => (match F27_d19 N (x, y3, y2, (⟨#[]⟩ : ByteArray), 0) with | some y40 => (k (y40, 0)) | none => none) | none => none)) | none => none)) | none => none))
noncomputable abbrev F27_d (N : Nat) (x : (List (List AV))) : Option (ByteArray × Int) := (F27_s N).d x
theorem F27_par47 (N : Nat) : Par (F27_l47 N).b := by
  intro x α β kn ke kn' ke' r r' h h1 h2
  revert h
  dsimp only [F27_l47]
  (repeat' (first | (with_reducible refine par_ite ?_ ?_) | (with_reducible refine par_both ?_ ?_) | split)) <;> intro h <;> first | exact h1 _ h | exact h2 _ h | (cases h; done)
theorem F27_body47 (N : Nat) (x : (F27_l47 N).X) (α : Type) (kn : AS → Option α) (ke : Out → Option α) : around (tabOf Tryz.prog) (F27_g N) F27_an (lam N [(19, F27_l19 N), (36, F27_l36 N), (47, F27_l47 N)]) 47 (bodyOf (nthLoop 47 (Tryz.f27.body.getD .skip))) ((F27_l47 N).st x) kn ke = (F27_l47 N).b x α (fun x' => kn ((F27_l47 N).st x')) (fun y => (F27_l47 N).sp y α ke) := by kernel_rfl
theorem F27_pat47 (N : Nat) (s : AS) (x : (F27_l47 N).X) (hc : s = canon (F27_an 47).1 s) (h : (F27_l47 N).p s = some x) : s = (F27_l47 N).st x := by
  dsimp only [F27_l47] at h
  split at h
  · cases h
    exact canon_mk hc ‹_› ‹_› rfl rfl rfl ⟨‹_›, ‹_›, ‹_›, ‹_›, ‹_›, ‹_›, ‹_›, trivial⟩ ⟨‹_›, trivial⟩
  · cases h
theorem F27_loop47 (N : Nat) : ∀ s o, s = canon (F27_an 47).1 s → (lam N [(19, F27_l19 N), (36, F27_l36 N), (47, F27_l47 N)]).v 47 s = some o → LoopSem Tryz.prog (nthLoop 47 (Tryz.f27.body.getD .skip)) s o :=
  loop_ok (tabOf_ok Tryz.prog) (gam_ok _) mixed F27_an N [(19, F27_l19 N), (36, F27_l36 N), (47, F27_l47 N)] 47 (bodyOf (nthLoop 47 (Tryz.f27.body.getD .skip))) (nthLoop 47 (Tryz.f27.body.getD .skip)) (by kernel_rfl) (by
    have e : actOf F27_an (bodyOf (nthLoop 47 (Tryz.f27.body.getD .skip))) (47 + 1) = [] := by kernel_rfl
    rw [e]
    intro p hp
    cases hp) (F27_l47 N) rfl (fun s x hc h => F27_pat47 N s x hc h) (fun x => rfl) (fun x α kn ke => (F27_body47 N x α kn ke).trans (congrArg ((F27_l47 N).b x α _) (funext fun y => (F27_l47 N).spe y α ke))) (F27_par47 N)
theorem F27_par36 (N : Nat) : Par (F27_l36 N).b := by
  intro x α β kn ke kn' ke' r r' h h1 h2
  revert h
  dsimp only [F27_l36]
  (repeat' (first | (with_reducible refine par_ite ?_ ?_) | (with_reducible refine par_both ?_ ?_) | split)) <;> intro h <;> first | exact h1 _ h | exact h2 _ h | (cases h; done)
theorem F27_body36 (N : Nat) (x : (F27_l36 N).X) (α : Type) (kn : AS → Option α) (ke : Out → Option α) : around (tabOf Tryz.prog) (F27_g N) F27_an (lam N [(19, F27_l19 N), (36, F27_l36 N), (47, F27_l47 N)]) 36 (bodyOf (nthLoop 36 (Tryz.f27.body.getD .skip))) ((F27_l36 N).st x) kn ke = (F27_l36 N).b x α (fun x' => kn ((F27_l36 N).st x')) (fun y => (F27_l36 N).sp y α ke) := by kernel_rfl
theorem F27_pat36 (N : Nat) (s : AS) (x : (F27_l36 N).X) (hc : s = canon (F27_an 36).1 s) (h : (F27_l36 N).p s = some x) : s = (F27_l36 N).st x := by
  dsimp only [F27_l36] at h
  split at h
  · cases h
    exact canon_mk hc ‹_› ‹_› rfl rfl rfl ⟨‹_›, ‹_›, ‹_›, ‹_›, ‹_›, ‹_›, ‹_›, ‹_›, trivial⟩ ⟨‹_›, trivial⟩
  · cases h
theorem F27_loop36 (N : Nat) : ∀ s o, s = canon (F27_an 36).1 s → (lam N [(19, F27_l19 N), (36, F27_l36 N), (47, F27_l47 N)]).v 36 s = some o → LoopSem Tryz.prog (nthLoop 36 (Tryz.f27.body.getD .skip)) s o :=
  loop_ok (tabOf_ok Tryz.prog) (gam_ok _) mixed F27_an N [(19, F27_l19 N), (36, F27_l36 N), (47, F27_l47 N)] 36 (bodyOf (nthLoop 36 (Tryz.f27.body.getD .skip))) (nthLoop 36 (Tryz.f27.body.getD .skip)) (by kernel_rfl) (by
    have e : actOf F27_an (bodyOf (nthLoop 36 (Tryz.f27.body.getD .skip))) (36 + 1) = [] := by kernel_rfl
    rw [e]
    intro p hp
    cases hp) (F27_l36 N) rfl (fun s x hc h => F27_pat36 N s x hc h) (fun x => rfl) (fun x α kn ke => (F27_body36 N x α kn ke).trans (congrArg ((F27_l36 N).b x α _) (funext fun y => (F27_l36 N).spe y α ke))) (F27_par36 N)
theorem F27_par19 (N : Nat) : Par (F27_l19 N).b := by
  intro x α β kn ke kn' ke' r r' h h1 h2
  revert h
  dsimp only [F27_l19]
  (repeat' (first | (with_reducible refine par_ite ?_ ?_) | (with_reducible refine par_both ?_ ?_) | split)) <;> intro h <;> first | exact h1 _ h | exact h2 _ h | (cases h; done)
theorem F27_body19 (N : Nat) (x : (F27_l19 N).X) (α : Type) (kn : AS → Option α) (ke : Out → Option α) : around (tabOf Tryz.prog) (F27_g N) F27_an (lam N [(19, F27_l19 N), (36, F27_l36 N), (47, F27_l47 N)]) 19 (bodyOf (nthLoop 19 (Tryz.f27.body.getD .skip))) ((F27_l19 N).st x) kn ke = (F27_l19 N).b x α (fun x' => kn ((F27_l19 N).st x')) (fun y => (F27_l19 N).sp y α ke) := by kernel_rfl
theorem F27_pat19 (N : Nat) (s : AS) (x : (F27_l19 N).X) (hc : s = canon (F27_an 19).1 s) (h : (F27_l19 N).p s = some x) : s = (F27_l19 N).st x := by
  dsimp only [F27_l19] at h
  split at h
  · cases h
    exact canon_mk hc ‹_› ‹_› rfl rfl rfl ⟨‹_›, ‹_›, ‹_›, ‹_›, ‹_›, trivial⟩ trivial
  · cases h
theorem F27_loop19 (N : Nat) : ∀ s o, s = canon (F27_an 19).1 s → (lam N [(19, F27_l19 N), (36, F27_l36 N), (47, F27_l47 N)]).v 19 s = some o → LoopSem Tryz.prog (nthLoop 19 (Tryz.f27.body.getD .skip)) s o :=
  loop_ok (tabOf_ok Tryz.prog) (gam_ok _) mixed F27_an N [(19, F27_l19 N), (36, F27_l36 N), (47, F27_l47 N)] 19 (bodyOf (nthLoop 19 (Tryz.f27.body.getD .skip))) (nthLoop 19 (Tryz.f27.body.getD .skip)) (by kernel_rfl) (by
    have e : actOf F27_an (bodyOf (nthLoop 19 (Tryz.f27.body.getD .skip))) (19 + 1) = [(36, nthLoop 36 (Tryz.f27.body.getD .skip)), (47, nthLoop 47 (Tryz.f27.body.getD .skip))] := by kernel_rfl
    rw [e]
    intro p hp
    rcases List.mem_cons.1 hp with rfl | hp
    · exact F27_loop36 N
    rcases List.mem_cons.1 hp with rfl | hp
    · exact F27_loop47 N
    cases hp) (F27_l19 N) rfl (fun s x hc h => F27_pat19 N s x hc h) (fun x => rfl) (fun x α kn ke => (F27_body19 N x α kn ke).trans (congrArg ((F27_l19 N).b x α _) (funext fun y => (F27_l19 N).spe y α ke))) (F27_par19 N)
theorem F27_parF (N : Nat) : ParF (F27_s N).t := by
  intro x α β k k' r r' h h1
  revert h
  dsimp only [F27_s]
  (repeat' (first | (with_reducible refine par_ite ?_ ?_) | (with_reducible refine par_both ?_ ?_) | split)) <;> intro h <;> first | exact h1 _ h | (cases h; done)
theorem F27_text (N : Nat) (x : (F27_s N).X) : acall (tabOf Tryz.prog) (F27_g N) F27_an (lam N [(19, F27_l19 N), (36, F27_l36 N), (47, F27_l47 N)]) Tryz.f27 (F27_s N).S ((F27_s N).args x) ((F27_s N).bs x) = (F27_s N).t x Ret (fun y => some ((F27_s N).ret y)) := by kernel_rfl
theorem F27_pat (N : Nat) (a : List AV) (b : List (List AV)) (x : (F27_s N).X) (h : (F27_s N).pat a b = some x) : a = (F27_s N).args x ∧ b = (F27_s N).bs x := by
  dsimp only [F27_s] at h
  split at h
  · cases h; exact ⟨rfl, rfl⟩
  · cases h
noncomputable def F27_e (N : Nat) : Ent Tryz.prog := entOf (tabOf_ok Tryz.prog) (gam_ok _) mixed 27 Tryz.f27 Tryz.func27 rfl F27_an (lam N [(19, F27_l19 N), (36, F27_l36 N), (47, F27_l47 N)]) (by
    have e : actOf F27_an (Tryz.f27.body.getD .skip) 0 = [(19, nthLoop 19 (Tryz.f27.body.getD .skip)), (36, nthLoop 36 (Tryz.f27.body.getD .skip)), (47, nthLoop 47 (Tryz.f27.body.getD .skip))] := by kernel_rfl
    rw [e]
    intro p hp
    rcases List.mem_cons.1 hp with rfl | hp
    · exact F27_loop19 N
    rcases List.mem_cons.1 hp with rfl | hp
    · exact F27_loop36 N
    rcases List.mem_cons.1 hp with rfl | hp
    · exact F27_loop47 N
    cases hp) (F27_s N) (fun _ => ⟨rfl, rfl⟩) (F27_text N) (F27_pat N) (F27_parF N)
/-! ### seismonet/seismonetref04.Get (function 76) -/
def F76_an : Nat → Keep × Keep := anL [(13, ⟨[0, 1, 2, 8, 9], [], [], [], [], [], [], [], false⟩, ⟨[8], [], [], [], [], [], [], [], false⟩)]
noncomputable def F76_g (N : Nat) : GamK := gam (P := Tryz.prog) [F42_e N]
noncomputable def F76_l13 (N : Nat) : LSpec where
  X := ByteArray × Int × Int × Int × Int
  Y := (Int)
  p := fun s => match s.env.length, s.nin, s.at 0, s.at 1, s.at 2, s.at 8, s.at 9 with
    | 38, 0, (AV.v (.string a0)), (AV.v (.int .i64 a1)), (AV.v (.int .i64 a2)), (AV.v (.int .i64 a3)), (AV.v (.int .i64 a4)) => some (a0, a1, a2, a3, a4)
    | _, _, _, _, _, _, _ => none
  st := fun x => mkS 38 [(0, (AV.v (.string x.1))), (1, (AV.v (.int .i64 x.2.1))), (2, (AV.v (.int .i64 x.2.2.1))), (8, (AV.v (.int .i64 x.2.2.2.1))), (9, (AV.v (.int .i64 x.2.2.2.2)))] [] (F76_an 13).1.toks 0
  out := fun y => (.exit 0, mkS 38 [(8, (AV.v (.int .i64 y)))] [] (F76_an 13).2.toks 0)
  sp := fun y α k => k (.exit 0, mkS 38 [(8, (AV.v (.int .i64 y)))] [] (F76_an 13).2.toks 0)
  spe := fun y α k => rfl
  b := fun x α kn ke => (match (decide (x.2.2.2.2 < x.2.2.1)) with | true => (if 0 ≤ (i64 (x.2.1 + x.2.2.2.2)) then (match x.1[(i64 (x.2.1 + x.2.2.2.2)).toNat]? with | some c2 => (kn (x.1, x.2.1, x.2.2.1, (bOr .i64 (shL .i64 x.2.2.2.1 (8 : Int)) (IntKind.i64.wrap (c2.toNat : Int))), (i64 (x.2.2.2.2 + 1)))) | none => none) else none) | false => (ke x.2.2.2.1))
noncomputable abbrev F76_d13 (N : Nat) (x : ByteArray × Int × Int × Int × Int) : Option ((Int)) := (F76_l13 N).L N x
noncomputable def F76_s (N : Nat) : FSpec where
  X := ByteArray × Int × Int
  Y := Int × Int
  ash := [[none], [none], [none]]
  bsh := []
  S := ⟨[[none], [none]], [], [], [], []⟩
  bm := false
  pat := fun a b => match a, b with
    | [(AV.v (.string a0)), (AV.v (.int .i64 a1)), (AV.v (.int .i64 a2))], [] => some (a0, a1, a2)
    | _, _ => none
  args := fun x => [(AV.v (.string x.1)), (AV.v (.int .i64 x.2.1)), (AV.v (.int .i64 x.2.2))]
  bs := fun x => []
  ret := fun y => ⟨(AV.tup [(AV.v (.int .i64 y.1)), (AV.v (.int .i64 y.2))]), [], none, [], [], []⟩
  t := fun x α k => (match F42_d N (x.2.2, 1, 7) with | some y1 => (match (!y1) with | true => (k (0, 2)) | false => (match (decide (x.2.1 < 0)) with | true => (k (0, 2)) | false => (match (decide (x.2.1 > (i64 ((x.1.size : Int) - x.2.2)))) with | true => (k (0, 4)) | false => (match F76_d13 N (x.1, x.2.1, x.2.2, 0, 0) with | some y3 => (k (y3, 0)) | none => none)))) | none => none)
noncomputable abbrev F76_d (N : Nat) (x : ByteArray × Int × Int) : Option (Int × Int) := (F76_s N).d x
theorem F76_par13 (N : Nat) : Par (F76_l13 N).b := by
  intro x α β kn ke kn' ke' r r' h h1 h2
  revert h
  dsimp only [F76_l13]
  (repeat' (first | (with_reducible refine par_ite ?_ ?_) | (with_reducible refine par_both ?_ ?_) | split)) <;> intro h <;> first | exact h1 _ h | exact h2 _ h | (cases h; done)
theorem F76_body13 (N : Nat) (x : (F76_l13 N).X) (α : Type) (kn : AS → Option α) (ke : Out → Option α) : around (tabOf Tryz.prog) (F76_g N) F76_an (lam N [(13, F76_l13 N)]) 13 (bodyOf (nthLoop 13 (Tryz.f76.body.getD .skip))) ((F76_l13 N).st x) kn ke = (F76_l13 N).b x α (fun x' => kn ((F76_l13 N).st x')) (fun y => (F76_l13 N).sp y α ke) := by kernel_rfl
theorem F76_pat13 (N : Nat) (s : AS) (x : (F76_l13 N).X) (hc : s = canon (F76_an 13).1 s) (h : (F76_l13 N).p s = some x) : s = (F76_l13 N).st x := by
  dsimp only [F76_l13] at h
  split at h
  · cases h
    exact canon_mk hc ‹_› ‹_› rfl rfl rfl ⟨‹_›, ‹_›, ‹_›, ‹_›, ‹_›, trivial⟩ trivial
  · cases h
theorem F76_loop13 (N : Nat) : ∀ s o, s = canon (F76_an 13).1 s → (lam N [(13, F76_l13 N)]).v 13 s = some o → LoopSem Tryz.prog (nthLoop 13 (Tryz.f76.body.getD .skip)) s o :=
  loop_ok (tabOf_ok Tryz.prog) (gam_ok _) mixed F76_an N [(13, F76_l13 N)] 13 (bodyOf (nthLoop 13 (Tryz.f76.body.getD .skip))) (nthLoop 13 (Tryz.f76.body.getD .skip)) (by kernel_rfl) (by
    have e : actOf F76_an (bodyOf (nthLoop 13 (Tryz.f76.body.getD .skip))) (13 + 1) = [] := by kernel_rfl
    rw [e]
    intro p hp
    cases hp) (F76_l13 N) rfl (fun s x hc h => F76_pat13 N s x hc h) (fun x => rfl) (fun x α kn ke => (F76_body13 N x α kn ke).trans (congrArg ((F76_l13 N).b x α _) (funext fun y => (F76_l13 N).spe y α ke))) (F76_par13 N)
theorem F76_parF (N : Nat) : ParF (F76_s N).t := by
  intro x α β k k' r r' h h1
  revert h
  dsimp only [F76_s]
  (repeat' (first | (with_reducible refine par_ite ?_ ?_) | (with_reducible refine par_both ?_ ?_) | split)) <;> intro h <;> first | exact h1 _ h | (cases h; done)
theorem F76_text (N : Nat) (x : (F76_s N).X) : acall (tabOf Tryz.prog) (F76_g N) F76_an (lam N [(13, F76_l13 N)]) Tryz.f76 (F76_s N).S ((F76_s N).args x) ((F76_s N).bs x) = (F76_s N).t x Ret (fun y => some ((F76_s N).ret y)) := by kernel_rfl
theorem F76_pat (N : Nat) (a : List AV) (b : List (List AV)) (x : (F76_s N).X) (h : (F76_s N).pat a b = some x) : a = (F76_s N).args x ∧ b = (F76_s N).bs x := by
  dsimp only [F76_s] at h
  split at h
  · cases h; exact ⟨rfl, rfl⟩
  · cases h
noncomputable def F76_e (N : Nat) : Ent Tryz.prog := entOf (tabOf_ok Tryz.prog) (gam_ok _) mixed 76 Tryz.f76 Tryz.func76 rfl F76_an (lam N [(13, F76_l13 N)]) (by
    have e : actOf F76_an (Tryz.f76.body.getD .skip) 0 = [(13, nthLoop 13 (Tryz.f76.body.getD .skip))] := by kernel_rfl
    rw [e]
    intro p hp
    rcases List.mem_cons.1 hp with rfl | hp
    · exact F76_loop13 N
    cases hp) (F76_s N) (fun _ => ⟨rfl, rfl⟩) (F76_text N) (F76_pat N) (F76_parF N)
/-! ### seismonet/seismonetref04.Pair (function 116) -/
def F116_an : Nat → Keep × Keep := anL []
noncomputable def F116_g (N : Nat) : GamK := gam (P := Tryz.prog) [F42_e N]
noncomputable def F116_s (N : Nat) : FSpec where
  X := Int × Int
  Y := Int × Int
  ash := [[none], [none]]
  bsh := []
  S := ⟨[[none], [none]], [], [], [], []⟩
  bm := false
  pat := fun a b => match a, b with
    | [(AV.v (.int .i64 a0)), (AV.v (.int .i64 a1))], [] => some (a0, a1)
    | _, _ => none
  args := fun x => [(AV.v (.int .i64 x.1)), (AV.v (.int .i64 x.2))]
  bs := fun x => []
  ret := fun y => ⟨(AV.tup [(AV.v (.int .i64 y.1)), (AV.v (.int .i64 y.2))]), [], none, [], [], []⟩
  t := fun x α k => (match F42_d N (x.1, 0, 4294967295) with | some y1 => (match (!y1) with | true => (k (0, 2)) | false => (match F42_d N (x.2, 0, 15) with | some y2 => (match (!y2) with | true => (k (0, 2)) | false => (if (IntKind.u64.wrap (i64 (30 - (i64 (2 * x.2))))) < 0 then none else (k ((bAnd .i64 (shR .i64 x.1 (IntKind.u64.wrap (i64 (30 - (i64 (2 * x.2)))))) (3 : Int)), 0)))) | none => none)) | none => none)
noncomputable abbrev F116_d (N : Nat) (x : Int × Int) : Option (Int × Int) := (F116_s N).d x
theorem F116_parF (N : Nat) : ParF (F116_s N).t := by
  intro x α β k k' r r' h h1
  revert h
  dsimp only [F116_s]
  (repeat' (first | (with_reducible refine par_ite ?_ ?_) | (with_reducible refine par_both ?_ ?_) | split)) <;> intro h <;> first | exact h1 _ h | (cases h; done)
theorem F116_text (N : Nat) (x : (F116_s N).X) : acall (tabOf Tryz.prog) (F116_g N) F116_an (lam N []) Tryz.f116 (F116_s N).S ((F116_s N).args x) ((F116_s N).bs x) = (F116_s N).t x Ret (fun y => some ((F116_s N).ret y)) := by kernel_rfl
theorem F116_pat (N : Nat) (a : List AV) (b : List (List AV)) (x : (F116_s N).X) (h : (F116_s N).pat a b = some x) : a = (F116_s N).args x ∧ b = (F116_s N).bs x := by
  dsimp only [F116_s] at h
  split at h
  · cases h; exact ⟨rfl, rfl⟩
  · cases h
noncomputable def F116_e (N : Nat) : Ent Tryz.prog := entOf (tabOf_ok Tryz.prog) (gam_ok _) mixed 116 Tryz.f116 Tryz.func116 rfl F116_an (lam N []) (by
    have e : actOf F116_an (Tryz.f116.body.getD .skip) 0 = [] := by kernel_rfl
    rw [e]
    intro p hp
    cases hp) (F116_s N) (fun _ => ⟨rfl, rfl⟩) (F116_text N) (F116_pat N) (F116_parF N)
/-! ### seismonet/seismonetref05.Codes (function 107) -/
def F107_an : Nat → Keep × Keep := anL [(10, ⟨[4, 7], [(6, 1)], [], [], [], [], [], [], false⟩, ⟨[], [(6, 1)], [], [], [], [], [], [], false⟩)]
noncomputable def F107_g (N : Nat) : GamK := gam (P := Tryz.prog) [F76_e N, F116_e N]
noncomputable def F107_l10 (N : Nat) : LSpec where
  X := (List (List AV)) × Int × Int
  Y := ((List (List AV)))
  p := fun s => match s.env.length, s.nin, s.at 6, s.at 4, s.at 7 with
    | 33, 0, (AV.list 1 a0 (some 1280000384)), (AV.v (.int .i64 a1)), (AV.v (.int .i64 a2)) => some (a0, a1, a2)
    | _, _, _, _, _ => none
  st := fun x => mkS 33 [(6, (AV.list 1 x.1 (some 1280000384))), (4, (AV.v (.int .i64 x.2.1))), (7, (AV.v (.int .i64 x.2.2)))] [] (F107_an 10).1.toks 0
  out := fun y => (.exit 0, mkS 33 [(6, (AV.list 1 y (some 1280000384)))] [] (F107_an 10).2.toks 0)
  sp := fun y α k => k (.exit 0, mkS 33 [(6, (AV.list 1 y (some 1280000384)))] [] (F107_an 10).2.toks 0)
  spe := fun y α k => rfl
  b := fun x α kn ke => (match (decide (x.2.2 < 16)) with | true => (match F116_d N (x.2.1, x.2.2) with | some y2 => (if (x.1.length + [[(AV.v (.int .i64 y2.1))]].length) * 8 ≤ maxBytes then (kn ((x.1 ++ [[(AV.v (.int .i64 y2.1))]]), x.2.1, (i64 (x.2.2 + 1)))) else none) | none => none) | false => (ke x.1))
noncomputable abbrev F107_d10 (N : Nat) (x : (List (List AV)) × Int × Int) : Option (((List (List AV)))) := (F107_l10 N).L N x
noncomputable def F107_s (N : Nat) : FSpec where
  X := ByteArray
  Y := (List (List AV)) × Int
  ash := [[none]]
  bsh := []
  S := ⟨[[some 2000001], [none]], [], [], [], []⟩
  bm := false
  pat := fun a b => match a, b with
    | [(AV.v (.string a0))], [] => some a0
    | _, _ => none
  args := fun x => [(AV.v (.string x))]
  bs := fun x => []
  ret := fun y => ⟨(AV.tup [(AV.list 1 y.1 (some 2560000000)), (AV.v (.int .i64 y.2))]), [], none, [], [2560000000], []⟩
  t := fun x α k => (match ((x.size : Int) != 64) with | true => (k (([] : List (List AV)), 3)) | false => (match F76_d N (x, 0, 4) with | some y1 => (match F107_d10 N (([] : List (List AV)), y1.1, 0) with | some y3 => (k (y3, 0)) | none => none) | none => none))
noncomputable abbrev F107_d (N : Nat) (x : ByteArray) : Option ((List (List AV)) × Int) := (F107_s N).d x
theorem F107_par10 (N : Nat) : Par (F107_l10 N).b := by
  intro x α β kn ke kn' ke' r r' h h1 h2
  revert h
  dsimp only [F107_l10]
  (repeat' (first | (with_reducible refine par_ite ?_ ?_) | (with_reducible refine par_both ?_ ?_) | split)) <;> intro h <;> first | exact h1 _ h | exact h2 _ h | (cases h; done)
theorem F107_body10 (N : Nat) (x : (F107_l10 N).X) (α : Type) (kn : AS → Option α) (ke : Out → Option α) : around (tabOf Tryz.prog) (F107_g N) F107_an (lam N [(10, F107_l10 N)]) 10 (bodyOf (nthLoop 10 (Tryz.f107.body.getD .skip))) ((F107_l10 N).st x) kn ke = (F107_l10 N).b x α (fun x' => kn ((F107_l10 N).st x')) (fun y => (F107_l10 N).sp y α ke) := by kernel_rfl
theorem F107_pat10 (N : Nat) (s : AS) (x : (F107_l10 N).X) (hc : s = canon (F107_an 10).1 s) (h : (F107_l10 N).p s = some x) : s = (F107_l10 N).st x := by
  dsimp only [F107_l10] at h
  split at h
  · cases h
    exact canon_mk hc ‹_› ‹_› rfl rfl rfl ⟨‹_›, ‹_›, ‹_›, trivial⟩ trivial
  · cases h
theorem F107_loop10 (N : Nat) : ∀ s o, s = canon (F107_an 10).1 s → (lam N [(10, F107_l10 N)]).v 10 s = some o → LoopSem Tryz.prog (nthLoop 10 (Tryz.f107.body.getD .skip)) s o :=
  loop_ok (tabOf_ok Tryz.prog) (gam_ok _) mixed F107_an N [(10, F107_l10 N)] 10 (bodyOf (nthLoop 10 (Tryz.f107.body.getD .skip))) (nthLoop 10 (Tryz.f107.body.getD .skip)) (by kernel_rfl) (by
    have e : actOf F107_an (bodyOf (nthLoop 10 (Tryz.f107.body.getD .skip))) (10 + 1) = [] := by kernel_rfl
    rw [e]
    intro p hp
    cases hp) (F107_l10 N) rfl (fun s x hc h => F107_pat10 N s x hc h) (fun x => rfl) (fun x α kn ke => (F107_body10 N x α kn ke).trans (congrArg ((F107_l10 N).b x α _) (funext fun y => (F107_l10 N).spe y α ke))) (F107_par10 N)
theorem F107_parF (N : Nat) : ParF (F107_s N).t := by
  intro x α β k k' r r' h h1
  revert h
  dsimp only [F107_s]
  (repeat' (first | (with_reducible refine par_ite ?_ ?_) | (with_reducible refine par_both ?_ ?_) | split)) <;> intro h <;> first | exact h1 _ h | (cases h; done)
theorem F107_text (N : Nat) (x : (F107_s N).X) : acall (tabOf Tryz.prog) (F107_g N) F107_an (lam N [(10, F107_l10 N)]) Tryz.f107 (F107_s N).S ((F107_s N).args x) ((F107_s N).bs x) = (F107_s N).t x Ret (fun y => some ((F107_s N).ret y)) := by kernel_rfl
theorem F107_pat (N : Nat) (a : List AV) (b : List (List AV)) (x : (F107_s N).X) (h : (F107_s N).pat a b = some x) : a = (F107_s N).args x ∧ b = (F107_s N).bs x := by
  dsimp only [F107_s] at h
  split at h
  · cases h; exact ⟨rfl, rfl⟩
  · cases h
noncomputable def F107_e (N : Nat) : Ent Tryz.prog := entOf (tabOf_ok Tryz.prog) (gam_ok _) mixed 107 Tryz.f107 Tryz.func107 rfl F107_an (lam N [(10, F107_l10 N)]) (by
    have e : actOf F107_an (Tryz.f107.body.getD .skip) 0 = [(10, nthLoop 10 (Tryz.f107.body.getD .skip))] := by kernel_rfl
    rw [e]
    intro p hp
    rcases List.mem_cons.1 hp with rfl | hp
    · exact F107_loop10 N
    cases hp) (F107_s N) (fun _ => ⟨rfl, rfl⟩) (F107_text N) (F107_pat N) (F107_parF N)
/-! ### seismonet/seismonetref04.Sign (function 79) -/
def F79_an : Nat → Keep × Keep := anL []
noncomputable def F79_g (N : Nat) : GamK := gam (P := Tryz.prog) [F42_e N]
noncomputable def F79_s (N : Nat) : FSpec where
  X := Int × Int
  Y := Int × Int
  ash := [[none], [none]]
  bsh := []
  S := ⟨[[none], [none]], [], [], [], []⟩
  bm := false
  pat := fun a b => match a, b with
    | [(AV.v (.int .i64 a0)), (AV.v (.int .i64 a1))], [] => some (a0, a1)
    | _, _ => none
  args := fun x => [(AV.v (.int .i64 x.1)), (AV.v (.int .i64 x.2))]
  bs := fun x => []
  ret := fun y => ⟨(AV.tup [(AV.v (.int .i64 y.1)), (AV.v (.int .i64 y.2))]), [], none, [], [], []⟩
  t := fun x α k => (match F42_d N (x.2, 1, 56) with | some y1 => (match (!y1) with | true => (k (0, 2)) | false => (match (decide (x.1 < 0)) with | true => (k (0, 2)) | false => (if (IntKind.u64.wrap x.2) < 0 then none else (match (decide (x.1 ≥ (shL .i64 (1 : Int) (IntKind.u64.wrap x.2)))) with | true => (k (0, 2)) | false => (if (IntKind.u64.wrap (i64 (x.2 - 1))) < 0 then none else (match (decide (x.1 ≥ (shL .i64 (1 : Int) (IntKind.u64.wrap (i64 (x.2 - 1)))))) with | true => (if (IntKind.u64.wrap x.2) < 0 then none else (k ((i64 (x.1 - (shL .i64 (1 : Int) (IntKind.u64.wrap x.2)))), 0))) | false => (k (x.1, 0)))))))) | none => none)
noncomputable abbrev F79_d (N : Nat) (x : Int × Int) : Option (Int × Int) := (F79_s N).d x
theorem F79_parF (N : Nat) : ParF (F79_s N).t := by
  intro x α β k k' r r' h h1
  revert h
  dsimp only [F79_s]
  (repeat' (first | (with_reducible refine par_ite ?_ ?_) | (with_reducible refine par_both ?_ ?_) | split)) <;> intro h <;> first | exact h1 _ h | (cases h; done)
theorem F79_text (N : Nat) (x : (F79_s N).X) : acall (tabOf Tryz.prog) (F79_g N) F79_an (lam N []) Tryz.f79 (F79_s N).S ((F79_s N).args x) ((F79_s N).bs x) = (F79_s N).t x Ret (fun y => some ((F79_s N).ret y)) := by kernel_rfl
theorem F79_pat (N : Nat) (a : List AV) (b : List (List AV)) (x : (F79_s N).X) (h : (F79_s N).pat a b = some x) : a = (F79_s N).args x ∧ b = (F79_s N).bs x := by
  dsimp only [F79_s] at h
  split at h
  · cases h; exact ⟨rfl, rfl⟩
  · cases h
noncomputable def F79_e (N : Nat) : Ent Tryz.prog := entOf (tabOf_ok Tryz.prog) (gam_ok _) mixed 79 Tryz.f79 Tryz.func79 rfl F79_an (lam N []) (by
    have e : actOf F79_an (Tryz.f79.body.getD .skip) 0 = [] := by kernel_rfl
    rw [e]
    intro p hp
    cases hp) (F79_s N) (fun _ => ⟨rfl, rfl⟩) (F79_text N) (F79_pat N) (F79_parF N)
/-! ### seismonet/seismonetref05.differences (function 78) -/
def F78_an : Nat → Keep × Keep := anL [(5, ⟨[0, 5], [(4, 1)], [], [], [], [], [], [], false⟩, ⟨[3], [(4, 1)], [], [(2, 1)], [], [], [], [], false⟩), (19, ⟨[0, 5, 6, 9], [(4, 1)], [], [(7, 1)], [], [], [], [], false⟩, ⟨[0, 5], [(4, 1)], [], [], [], [], [], [], false⟩), (33, ⟨[0, 5, 6, 9, 10, 12, 13, 14], [(4, 1)], [], [(7, 1)], [], [], [], [], false⟩, ⟨[0, 5, 6, 9], [(4, 1)], [], [(7, 1)], [], [], [], [], false⟩)]
noncomputable def F78_g (N : Nat) : GamK := gam (P := Tryz.prog) [F107_e N, F76_e N, F79_e N]
noncomputable def F78_l33 (N : Nat) : LSpec where
  X := (List (List AV)) × (List (List AV)) × ByteArray × Int × ByteArray × Int × Int × Int × Int × Int
  Y := ((List (List AV)) × (List (List AV)) × ByteArray × Int × ByteArray × Int)
  p := fun s => match s.env.length, s.nin, s.at 4, s.at 7, s.at 0, s.at 5, s.at 6, s.at 9, s.at 10, s.at 12, s.at 13, s.at 14 with
    | 117, 0, (AV.list 1 a0 (some 1280000256)), (AV.list 1 a1 none), (AV.v (.string a2)), (AV.v (.int .i64 a3)), (AV.v (.string a4)), (AV.v (.int .i64 a5)), (AV.v (.int .i64 a6)), (AV.v (.int .i64 a7)), (AV.v (.int .i64 a8)), (AV.v (.int .i64 a9)) => some (a0, a1, a2, a3, a4, a5, a6, a7, a8, a9)
    | _, _, _, _, _, _, _, _, _, _, _, _ => none
  st := fun x => mkS 117 [(4, (AV.list 1 x.1 (some 1280000256))), (7, (AV.list 1 x.2.1 none)), (0, (AV.v (.string x.2.2.1))), (5, (AV.v (.int .i64 x.2.2.2.1))), (6, (AV.v (.string x.2.2.2.2.1))), (9, (AV.v (.int .i64 x.2.2.2.2.2.1))), (10, (AV.v (.int .i64 x.2.2.2.2.2.2.1))), (12, (AV.v (.int .i64 x.2.2.2.2.2.2.2.1))), (13, (AV.v (.int .i64 x.2.2.2.2.2.2.2.2.1))), (14, (AV.v (.int .i64 x.2.2.2.2.2.2.2.2.2)))] [] (F78_an 33).1.toks 0
  out := fun y => (.exit 4, mkS 117 [(4, (AV.list 1 y.1 (some 1280000256))), (7, (AV.list 1 y.2.1 none)), (0, (AV.v (.string y.2.2.1))), (5, (AV.v (.int .i64 y.2.2.2.1))), (6, (AV.v (.string y.2.2.2.2.1))), (9, (AV.v (.int .i64 y.2.2.2.2.2)))] [] (F78_an 33).2.toks 0)
  sp := fun y α k => k (.exit 4, mkS 117 [(4, (AV.list 1 y.1 (some 1280000256))), (7, (AV.list 1 y.2.1 none)), (0, (AV.v (.string y.2.2.1))), (5, (AV.v (.int .i64 y.2.2.2.1))), (6, (AV.v (.string y.2.2.2.2.1))), (9, (AV.v (.int .i64 y.2.2.2.2.2)))] [] (F78_an 33).2.toks 0)
  spe := fun y α k => rfl
  b := fun x α kn ke => (match (decide (x.2.2.2.2.2.2.2.2.2 < x.2.2.2.2.2.2.2.1)) with | true => (if (IntKind.u64.wrap (i64 (32 - (i64 (x.2.2.2.2.2.2.2.2.1 * (i64 (x.2.2.2.2.2.2.2.2.2 + 1))))))) < 0 then none else (if (IntKind.u64.wrap x.2.2.2.2.2.2.2.2.1) < 0 then none else (match F79_d N ((bAnd .i64 (shR .i64 x.2.2.2.2.2.2.1 (IntKind.u64.wrap (i64 (32 - (i64 (x.2.2.2.2.2.2.2.2.1 * (i64 (x.2.2.2.2.2.2.2.2.2 + 1)))))))) (i64 ((shL .i64 (1 : Int) (IntKind.u64.wrap x.2.2.2.2.2.2.2.2.1)) - 1))), x.2.2.2.2.2.2.2.2.1) with | some y27 => (if (x.1.length + [[(AV.v (.int .i64 y27.1))]].length) * 8 ≤ maxBytes then (kn ((x.1 ++ [[(AV.v (.int .i64 y27.1))]]), x.2.1, x.2.2.1, x.2.2.2.1, x.2.2.2.2.1, x.2.2.2.2.2.1, x.2.2.2.2.2.2.1, x.2.2.2.2.2.2.2.1, x.2.2.2.2.2.2.2.2.1, (i64 (x.2.2.2.2.2.2.2.2.2 + 1)))) else none) | none => none))) | false => (ke (x.1, x.2.1, x.2.2.1, x.2.2.2.1, x.2.2.2.2.1, x.2.2.2.2.2.1)))
noncomputable abbrev F78_d33 (N : Nat) (x : (List (List AV)) × (List (List AV)) × ByteArray × Int × ByteArray × Int × Int × Int × Int × Int) : Option (((List (List AV)) × (List (List AV)) × ByteArray × Int × ByteArray × Int)) := (F78_l33 N).L N x
noncomputable def F78_l19 (N : Nat) : LSpec where
  X := (List (List AV)) × (List (List AV)) × ByteArray × Int × ByteArray × Int
  Y := ((List (List AV)) × ByteArray × Int)
  p := fun s => match s.env.length, s.nin, s.at 4, s.at 7, s.at 0, s.at 5, s.at 6, s.at 9 with
    | 117, 0, (AV.list 1 a0 (some 1280000256)), (AV.list 1 a1 none), (AV.v (.string a2)), (AV.v (.int .i64 a3)), (AV.v (.string a4)), (AV.v (.int .i64 a5)) => some (a0, a1, a2, a3, a4, a5)
    | _, _, _, _, _, _, _, _ => none
  st := fun x => mkS 117 [(4, (AV.list 1 x.1 (some 1280000256))), (7, (AV.list 1 x.2.1 none)), (0, (AV.v (.string x.2.2.1))), (5, (AV.v (.int .i64 x.2.2.2.1))), (6, (AV.v (.string x.2.2.2.2.1))), (9, (AV.v (.int .i64 x.2.2.2.2.2)))] [] (F78_an 19).1.toks 0
  out := fun y => (.exit 2, mkS 117 [(4, (AV.list 1 y.1 (some 1280000256))), (0, (AV.v (.string y.2.1))), (5, (AV.v (.int .i64 y.2.2)))] [] (F78_an 19).2.toks 0)
  sp := fun y α k => k (.exit 2, mkS 117 [(4, (AV.list 1 y.1 (some 1280000256))), (0, (AV.v (.string y.2.1))), (5, (AV.v (.int .i64 y.2.2)))] [] (F78_an 19).2.toks 0)
  spe := fun y α k => rfl
  b := fun x α kn ke => (match (decide (x.2.2.2.2.2 < 16)) with | true => (match (x.2.2.2.1 == 0) with | true => (match (decide (x.2.2.2.2.2 < 3)) with | true => (kn (x.1, x.2.1, x.2.2.1, x.2.2.2.1, x.2.2.2.2.1, (i64 (x.2.2.2.2.2 + 1)))) | false => (if 0 ≤ x.2.2.2.2.2 then (match x.2.1[x.2.2.2.2.2.toNat]? with | some c14 => (match c14[0]? with | some x15 => (match x15 with | .v (.int q17 n16) => (if q17 = .i64 then (match (n16 == 0) with | true => (kn (x.1, x.2.1, x.2.2.1, x.2.2.2.1, x.2.2.2.2.1, (i64 (x.2.2.2.2.2 + 1)))) | false => (match F76_d N (x.2.2.2.2.1, (i64 (4 * x.2.2.2.2.2)), 4) with | some y18 => (if 0 ≤ x.2.2.2.2.2 then (match x.2.1[x.2.2.2.2.2.toNat]? with | some c19 => (match c19[0]? with | some x20 => (match x20 with | .v (.int q22 n21) => (if q22 = .i64 then (if 0 ≤ n21 then (match [[(AV.v (.int .i64 0))], [(AV.v (.int .i64 4))], [(AV.v (.int .i64 2))], [(AV.v (.int .i64 1))]][n21.toNat]? with | some c23 => (match c23[0]? with | some x24 => (match x24 with | .v (.int q26 n25) => (if q26 = .i64 then (if n25 = 0 then none else (match F78_d33 N (x.1, x.2.1, x.2.2.1, x.2.2.2.1, x.2.2.2.2.1, x.2.2.2.2.2, y18.1, n25, (i64 ((32 : Int).tdiv n25)), 0) with | some y28 => (kn (y28.1, y28.2.1, y28.2.2.1, y28.2.2.2.1, y28.2.2.2.2.1, (i64 (y28.2.2.2.2.2 + 1)))) | none => none)) else none) | _ => none) | none => none) | none => none) else none) else none) | _ => none) | none => none) | none => none) else none) | none => none)) else none) | _ => none) | none => none) | none => none) else none)) | false => (if 0 ≤ x.2.2.2.2.2 then (match x.2.1[x.2.2.2.2.2.toNat]? with | some c29 => (match c29[0]? with | some x30 => (match x30 with | .v (.int q32 n31) => (if q32 = .i64 then (match (n31 == 0) with | true => (kn (x.1, x.2.1, x.2.2.1, x.2.2.2.1, x.2.2.2.2.1, (i64 (x.2.2.2.2.2 + 1)))) | false => (match F76_d N (x.2.2.2.2.1, (i64 (4 * x.2.2.2.2.2)), 4) with | some y33 => (if 0 ≤ x.2.2.2.2.2 then (match x.2.1[x.2.2.2.2.2.toNat]? with | some c34 => (match c34[0]? with | some x35 => (match x35 with | .v (.int q37 n36) => (if q37 = .i64 then (if 0 ≤ n36 then (match [[(AV.v (.int .i64 0))], [(AV.v (.int .i64 4))], [(AV.v (.int .i64 2))], [(AV.v (.int .i64 1))]][n36.toNat]? with | some c38 => (match c38[0]? with | some x39 => (match x39 with | .v (.int q41 n40) => (if q41 = .i64 then (if n40 = 0 then none else (match F78_d33 N (x.1, x.2.1, x.2.2.1, x.2.2.2.1, x.2.2.2.2.1, x.2.2.2.2.2, y33.1, n40, (i64 ((32 : Int).tdiv n40)), 0) with | some y42 => (kn (y42.1, y42.2.1, y42.2.2.1, y42.2.2.2.1, y42.2.2.2.2.1, (i64 (y42.2.2.2.2.2 + 1)))) | none => none)) else none) | _ => none) | none => none) | none => none) else none) else none) | _ => none) | none => none) | none => none) else none) | none => none)) else none) | _ => none) | none => none) | none => none) else none)) | false => (ke (x.1, x.2.2.1, x.2.2.2.1)))
noncomputable abbrev F78_d19 (N : Nat) (x : (List (List AV)) × (List (List AV)) × ByteArray × Int × ByteArray × Int) : Option (((List (List AV)) × ByteArray × Int)) := (F78_l19 N).L N x
noncomputable def F78_l5 (N : Nat) : LSpec where
  X := (List (List AV)) × ByteArray × Int
  Y := ((List (List AV)) × (List (List AV)) × Bool) ⊕ ((List (List AV)))
  p := fun s => match s.env.length, s.nin, s.at 4, s.at 0, s.at 5 with
    | 117, 0, (AV.list 1 a0 (some 1280000256)), (AV.v (.string a1)), (AV.v (.int .i64 a2)) => some (a0, a1, a2)
    | _, _, _, _, _ => none
  st := fun x => mkS 117 [(4, (AV.list 1 x.1 (some 1280000256))), (0, (AV.v (.string x.2.1))), (5, (AV.v (.int .i64 x.2.2)))] [] (F78_an 5).1.toks 0
  out := fun y => match y with
    | .inl y => (.ret, mkS 117 [(4, (AV.list 1 y.1 (some 1280000256))), (2, (AV.list 1 y.2.1 none)), (3, (AV.v (.bool y.2.2)))] [] (F78_an 5).2.toks 0)
    | .inr y => (.exit 0, mkS 117 [(4, (AV.list 1 y (some 1280000256)))] [] (F78_an 5).2.toks 0)
  sp := fun y α k => match y with
    | .inl y => k (.ret, mkS 117 [(4, (AV.list 1 y.1 (some 1280000256))), (2, (AV.list 1 y.2.1 none)), (3, (AV.v (.bool y.2.2)))] [] (F78_an 5).2.toks 0)
    | .inr y => k (.exit 0, mkS 117 [(4, (AV.list 1 y (some 1280000256)))] [] (F78_an 5).2.toks 0)
  spe := fun y α k => by rcases y with _ | _ <;> rfl
  b := fun x α kn ke => (match (decide (x.2.2 < (i64 ((x.2.1.size : Int).tdiv 64)))) with | true => (if 0 ≤ (i64 (64 * x.2.2)) ∧ (i64 (64 * x.2.2)) ≤ (i64 ((i64 (64 * x.2.2)) + 64)) ∧ (i64 ((i64 (64 * x.2.2)) + 64)) ≤ x.2.1.size then (match F107_d N (x.2.1.extract (i64 (64 * x.2.2)).toNat (i64 ((i64 (64 * x.2.2)) + 64)).toNat) with | some y1 => (if 0 ≤ (0 : Int) then (match y1.1[(0 : Int).toNat]? with | some c2 => (match c2[0]? with | some x3 => (match x3 with | .v (.int q5 n4) => (if q5 = .i64 then (match (n4 != 0) with | true => (ke (.inl (x.1, ([] : List (List AV)), false))) | false => (match (x.2.2 == 0) with | true => (if 0 ≤ (1 : Int) then (match y1.1[(1 : Int).toNat]? with | some c6 => (match c6[0]? with | some x7 => (match x7 with | .v (.int q9 n8) => (if q9 = .i64 then (match (n8 != 0) with | true => (ke (.inl (x.1, ([] : List (List AV)), false))) | false => (if 0 ≤ (2 : Int) then (match y1.1[(2 : Int).toNat]? with | some c10 => (match c10[0]? with | some x11 => (match x11 with | .v (.int q13 n12) => (if q13 = .i64 then (match (n12 != 0) with | true => (ke (.inl (x.1, ([] : List (List AV)), false))) | false => (match F78_d19 N (x.1, y1.1, x.2.1, x.2.2, (x.2.1.extract (i64 (64 * x.2.2)).toNat (i64 ((i64 (64 * x.2.2)) + 64)).toNat), 1) with | some y43 => (kn (y43.1, y43.2.1, (i64 (y43.2.2 + 1)))) | none => none)) else none) | _ => none) | none => none) | none => none) else none)) else none) | _ => none) | none => none) | none => none) else none) | false => (match F78_d19 N (x.1, y1.1, x.2.1, x.2.2, (x.2.1.extract (i64 (64 * x.2.2)).toNat (i64 ((i64 (64 * x.2.2)) + 64)).toNat), 1) with | some y44 => (kn (y44.1, y44.2.1, (i64 (y44.2.2 + 1)))) | none => none))) else none) | _ => none) | none => none) | none => none) else none) | none => none) else none) | false => (ke (.inr x.1)))
noncomputable abbrev F78_d5 (N : Nat) (x : (List (List AV)) × ByteArray × Int) : Option (((List (List AV)) × (List (List AV)) × Bool) ⊕ ((List (List AV)))) := (F78_l5 N).L N x
noncomputable def F78_s (N : Nat) : FSpec where
  X := ByteArray
  Y := (List (List AV)) × Bool
  ash := [[none]]
  bsh := []
  S := ⟨[[some 1], [none]], [], [], [], []⟩
  bm := false
  pat := fun a b => match a, b with
    | [(AV.v (.string a0))], [] => some a0
    | _, _ => none
  args := fun x => [(AV.v (.string x))]
  bs := fun x => []
  ret := fun y => ⟨(AV.tup [(AV.list 1 y.1 none), (AV.v (.bool y.2))]), [], none, [], [], []⟩
  t := fun x α k => (match F78_d5 N (([] : List (List AV)), x, 0) with | some y45 => (match y45 with | .inl z46 => (k (z46.2.1, z46.2.2)) | .inr z47 => (k (z47, true))) | none => none)
noncomputable abbrev F78_d (N : Nat) (x : ByteArray) : Option ((List (List AV)) × Bool) := (F78_s N).d x
theorem F78_par33 (N : Nat) : Par (F78_l33 N).b := by
  intro x α β kn ke kn' ke' r r' h h1 h2
  revert h
  dsimp only [F78_l33]
  (repeat' (first | (with_reducible refine par_ite ?_ ?_) | (with_reducible refine par_both ?_ ?_) | split)) <;> intro h <;> first | exact h1 _ h | exact h2 _ h | (cases h; done)
theorem F78_body33 (N : Nat) (x : (F78_l33 N).X) (α : Type) (kn : AS → Option α) (ke : Out → Option α) : around (tabOf Tryz.prog) (F78_g N) F78_an (lam N [(5, F78_l5 N), (19, F78_l19 N), (33, F78_l33 N)]) 33 (bodyOf (nthLoop 33 (Tryz.f78.body.getD .skip))) ((F78_l33 N).st x) kn ke = (F78_l33 N).b x α (fun x' => kn ((F78_l33 N).st x')) (fun y => (F78_l33 N).sp y α ke) := by kernel_rfl
theorem F78_pat33 (N : Nat) (s : AS) (x : (F78_l33 N).X) (hc : s = canon (F78_an 33).1 s) (h : (F78_l33 N).p s = some x) : s = (F78_l33 N).st x := by
  dsimp only [F78_l33] at h
  split at h
  · cases h
    exact canon_mk hc ‹_› ‹_› rfl rfl rfl ⟨‹_›, ‹_›, ‹_›, ‹_›, ‹_›, ‹_›, ‹_›, ‹_›, ‹_›, ‹_›, trivial⟩ trivial
  · cases h
theorem F78_loop33 (N : Nat) : ∀ s o, s = canon (F78_an 33).1 s → (lam N [(5, F78_l5 N), (19, F78_l19 N), (33, F78_l33 N)]).v 33 s = some o → LoopSem Tryz.prog (nthLoop 33 (Tryz.f78.body.getD .skip)) s o :=
  loop_ok (tabOf_ok Tryz.prog) (gam_ok _) mixed F78_an N [(5, F78_l5 N), (19, F78_l19 N), (33, F78_l33 N)] 33 (bodyOf (nthLoop 33 (Tryz.f78.body.getD .skip))) (nthLoop 33 (Tryz.f78.body.getD .skip)) (by kernel_rfl) (by
    have e : actOf F78_an (bodyOf (nthLoop 33 (Tryz.f78.body.getD .skip))) (33 + 1) = [] := by kernel_rfl
    rw [e]
    intro p hp
    cases hp) (F78_l33 N) rfl (fun s x hc h => F78_pat33 N s x hc h) (fun x => rfl) (fun x α kn ke => (F78_body33 N x α kn ke).trans (congrArg ((F78_l33 N).b x α _) (funext fun y => (F78_l33 N).spe y α ke))) (F78_par33 N)
theorem F78_par19 (N : Nat) : Par (F78_l19 N).b := by
  intro x α β kn ke kn' ke' r r' h h1 h2
  revert h
  dsimp only [F78_l19]
  (repeat' (first | (with_reducible refine par_ite ?_ ?_) | (with_reducible refine par_both ?_ ?_) | split)) <;> intro h <;> first | exact h1 _ h | exact h2 _ h | (cases h; done)
theorem F78_body19 (N : Nat) (x : (F78_l19 N).X) (α : Type) (kn : AS → Option α) (ke : Out → Option α) : around (tabOf Tryz.prog) (F78_g N) F78_an (lam N [(5, F78_l5 N), (19, F78_l19 N), (33, F78_l33 N)]) 19 (bodyOf (nthLoop 19 (Tryz.f78.body.getD .skip))) ((F78_l19 N).st x) kn ke = (F78_l19 N).b x α (fun x' => kn ((F78_l19 N).st x')) (fun y => (F78_l19 N).sp y α ke) := by kernel_rfl
theorem F78_pat19 (N : Nat) (s : AS) (x : (F78_l19 N).X) (hc : s = canon (F78_an 19).1 s) (h : (F78_l19 N).p s = some x) : s = (F78_l19 N).st x := by
  dsimp only [F78_l19] at h
  split at h
  · cases h
    exact canon_mk hc ‹_› ‹_› rfl rfl rfl ⟨‹_›, ‹_›, ‹_›, ‹_›, ‹_›, ‹_›, trivial⟩ trivial
  · cases h
theorem F78_loop19 (N : Nat) : ∀ s o, s = canon (F78_an 19).1 s → (lam N [(5, F78_l5 N), (19, F78_l19 N), (33, F78_l33 N)]).v 19 s = some o → LoopSem Tryz.prog (nthLoop 19 (Tryz.f78.body.getD .skip)) s o :=
  loop_ok (tabOf_ok Tryz.prog) (gam_ok _) mixed F78_an N [(5, F78_l5 N), (19, F78_l19 N), (33, F78_l33 N)] 19 (bodyOf (nthLoop 19 (Tryz.f78.body.getD .skip))) (nthLoop 19 (Tryz.f78.body.getD .skip)) (by kernel_rfl) (by
    have e : actOf F78_an (bodyOf (nthLoop 19 (Tryz.f78.body.getD .skip))) (19 + 1) = [(33, nthLoop 33 (Tryz.f78.body.getD .skip))] := by kernel_rfl
    rw [e]
    intro p hp
    rcases List.mem_cons.1 hp with rfl | hp
    · exact F78_loop33 N
    cases hp) (F78_l19 N) rfl (fun s x hc h => F78_pat19 N s x hc h) (fun x => rfl) (fun x α kn ke => (F78_body19 N x α kn ke).trans (congrArg ((F78_l19 N).b x α _) (funext fun y => (F78_l19 N).spe y α ke))) (F78_par19 N)
theorem F78_par5 (N : Nat) : Par (F78_l5 N).b := by
  intro x α β kn ke kn' ke' r r' h h1 h2
  revert h
  dsimp only [F78_l5]
  (repeat' (first | (with_reducible refine par_ite ?_ ?_) | (with_reducible refine par_both ?_ ?_) | split)) <;> intro h <;> first | exact h1 _ h | exact h2 _ h | (cases h; done)
theorem F78_body5 (N : Nat) (x : (F78_l5 N).X) (α : Type) (kn : AS → Option α) (ke : Out → Option α) : around (tabOf Tryz.prog) (F78_g N) F78_an (lam N [(5, F78_l5 N), (19, F78_l19 N), (33, F78_l33 N)]) 5 (bodyOf (nthLoop 5 (Tryz.f78.body.getD .skip))) ((F78_l5 N).st x) kn ke = (F78_l5 N).b x α (fun x' => kn ((F78_l5 N).st x')) (fun y => (F78_l5 N).sp y α ke) := by kernel_rfl
theorem F78_pat5 (N : Nat) (s : AS) (x : (F78_l5 N).X) (hc : s = canon (F78_an 5).1 s) (h : (F78_l5 N).p s = some x) : s = (F78_l5 N).st x := by
  dsimp only [F78_l5] at h
  split at h
  · cases h
    exact canon_mk hc ‹_› ‹_› rfl rfl rfl ⟨‹_›, ‹_›, ‹_›, trivial⟩ trivial
  · cases h
theorem F78_loop5 (N : Nat) : ∀ s o, s = canon (F78_an 5).1 s → (lam N [(5, F78_l5 N), (19, F78_l19 N), (33, F78_l33 N)]).v 5 s = some o → LoopSem Tryz.prog (nthLoop 5 (Tryz.f78.body.getD .skip)) s o :=
  loop_ok (tabOf_ok Tryz.prog) (gam_ok _) mixed F78_an N [(5, F78_l5 N), (19, F78_l19 N), (33, F78_l33 N)] 5 (bodyOf (nthLoop 5 (Tryz.f78.body.getD .skip))) (nthLoop 5 (Tryz.f78.body.getD .skip)) (by kernel_rfl) (by
    have e : actOf F78_an (bodyOf (nthLoop 5 (Tryz.f78.body.getD .skip))) (5 + 1) = [(19, nthLoop 19 (Tryz.f78.body.getD .skip)), (33, nthLoop 33 (Tryz.f78.body.getD .skip))] := by kernel_rfl
    rw [e]
    intro p hp
    rcases List.mem_cons.1 hp with rfl | hp
    · exact F78_loop19 N
    rcases List.mem_cons.1 hp with rfl | hp
    · exact F78_loop33 N
    cases hp) (F78_l5 N) rfl (fun s x hc h => F78_pat5 N s x hc h) (fun x => rfl) (fun x α kn ke => (F78_body5 N x α kn ke).trans (congrArg ((F78_l5 N).b x α _) (funext fun y => (F78_l5 N).spe y α ke))) (F78_par5 N)
theorem F78_parF (N : Nat) : ParF (F78_s N).t := by
  intro x α β k k' r r' h h1
  revert h
  dsimp only [F78_s]
  (repeat' (first | (with_reducible refine par_ite ?_ ?_) | (with_reducible refine par_both ?_ ?_) | split)) <;> intro h <;> first | exact h1 _ h | (cases h; done)
theorem F78_text (N : Nat) (x : (F78_s N).X) : acall (tabOf Tryz.prog) (F78_g N) F78_an (lam N [(5, F78_l5 N), (19, F78_l19 N), (33, F78_l33 N)]) Tryz.f78 (F78_s N).S ((F78_s N).args x) ((F78_s N).bs x) = (F78_s N).t x Ret (fun y => some ((F78_s N).ret y)) := by kernel_rfl
theorem F78_pat (N : Nat) (a : List AV) (b : List (List AV)) (x : (F78_s N).X) (h : (F78_s N).pat a b = some x) : a = (F78_s N).args x ∧ b = (F78_s N).bs x := by
  dsimp only [F78_s] at h
  split at h
  · cases h; exact ⟨rfl, rfl⟩
  · cases h
noncomputable def F78_e (N : Nat) : Ent Tryz.prog := entOf (tabOf_ok Tryz.prog) (gam_ok _) mixed 78 Tryz.f78 Tryz.func78 rfl F78_an (lam N [(5, F78_l5 N), (19, F78_l19 N), (33, F78_l33 N)]) (by
    have e : actOf F78_an (Tryz.f78.body.getD .skip) 0 = [(5, nthLoop 5 (Tryz.f78.body.getD .skip)), (19, nthLoop 19 (Tryz.f78.body.getD .skip)), (33, nthLoop 33 (Tryz.f78.body.getD .skip))] := by kernel_rfl
    rw [e]
    intro p hp
    rcases List.mem_cons.1 hp with rfl | hp
    · exact F78_loop5 N
    rcases List.mem_cons.1 hp with rfl | hp
    · exact F78_loop19 N
    rcases List.mem_cons.1 hp with rfl | hp
    · exact F78_loop33 N
    cases hp) (F78_s N) (fun _ => ⟨rfl, rfl⟩) (F78_text N) (F78_pat N) (F78_parF N)
/-! ### seismonet/seismonetref05.Decode (function 50) -/
def F50_an : Nat → Keep × Keep := anL [(26, ⟨[1, 12, 14, 17], [(16, 1)], [], [(6, 1)], [], [], [], [], false⟩, ⟨[5, 12, 14], [(16, 1)], [], [(4, 1)], [], [], [], [], false⟩)]
noncomputable def F50_g (N : Nat) : GamK := gam (P := Tryz.prog) [F42_e N, F78_e N, F76_e N, F79_e N, F80_e N]
noncomputable def F50_l26 (N : Nat) : LSpec where
  X := (List (List AV)) × (List (List AV)) × Int × Int × Int × Int
  Y := ((List (List AV)) × (List (List AV)) × Int × Int × Int) ⊕ ((List (List AV)) × Int × Int)
  p := fun s => match s.env.length, s.nin, s.at 16, s.at 6, s.at 1, s.at 12, s.at 14, s.at 17 with
    | 87, 0, (AV.list 1 a0 (some 1280001024)), (AV.list 1 a1 none), (AV.v (.int .i64 a2)), (AV.v (.int .i64 a3)), (AV.v (.int .i64 a4)), (AV.v (.int .i64 a5)) => some (a0, a1, a2, a3, a4, a5)
    | _, _, _, _, _, _, _, _ => none
  st := fun x => mkS 87 [(16, (AV.list 1 x.1 (some 1280001024))), (6, (AV.list 1 x.2.1 none)), (1, (AV.v (.int .i64 x.2.2.1))), (12, (AV.v (.int .i64 x.2.2.2.1))), (14, (AV.v (.int .i64 x.2.2.2.2.1))), (17, (AV.v (.int .i64 x.2.2.2.2.2)))] [] (F50_an 26).1.toks 0
  out := fun y => match y with
    | .inl y => (.ret, mkS 87 [(16, (AV.list 1 y.1 (some 1280001024))), (4, (AV.list 1 y.2.1 none)), (5, (AV.v (.int .i64 y.2.2.1))), (12, (AV.v (.int .i64 y.2.2.2.1))), (14, (AV.v (.int .i64 y.2.2.2.2)))] [] (F50_an 26).2.toks 0)
    | .inr y => (.exit 0, mkS 87 [(16, (AV.list 1 y.1 (some 1280001024))), (12, (AV.v (.int .i64 y.2.1))), (14, (AV.v (.int .i64 y.2.2)))] [] (F50_an 26).2.toks 0)
  sp := fun y α k => match y with
    | .inl y => k (.ret, mkS 87 [(16, (AV.list 1 y.1 (some 1280001024))), (4, (AV.list 1 y.2.1 none)), (5, (AV.v (.int .i64 y.2.2.1))), (12, (AV.v (.int .i64 y.2.2.2.1))), (14, (AV.v (.int .i64 y.2.2.2.2)))] [] (F50_an 26).2.toks 0)
    | .inr y => k (.exit 0, mkS 87 [(16, (AV.list 1 y.1 (some 1280001024))), (12, (AV.v (.int .i64 y.2.1))), (14, (AV.v (.int .i64 y.2.2)))] [] (F50_an 26).2.toks 0)
  spe := fun y α k => by rcases y with _ | _ <;> rfl
  b := fun x α kn ke => (match (decide (x.2.2.2.2.2 < x.2.2.1)) with | true => (match (decide (x.2.2.2.2.2 > 0)) with | true => (if 0 ≤ x.2.2.2.2.2 then (match x.2.1[x.2.2.2.2.2.toNat]? with | some c8 => (match c8[0]? with | some x9 => (match x9 with | .v (.int q11 n10) => (if q11 = .i64 then (match F80_d N (i64 (x.2.2.2.1 + n10)) with | some y12 => (match (!y12) with | true => (ke (.inl (x.1, ([] : List (List AV)), 2, (i64 (x.2.2.2.1 + n10)), x.2.2.2.2.1))) | false => (if (x.1.length + [[(AV.v (.int .i64 (i64 (x.2.2.2.1 + n10))))]].length) * 8 ≤ maxBytes then (kn ((x.1 ++ [[(AV.v (.int .i64 (i64 (x.2.2.2.1 + n10))))]]), x.2.1, x.2.2.1, (i64 (x.2.2.2.1 + n10)), x.2.2.2.2.1, (i64 (x.2.2.2.2.2 + 1)))) else none)) | none => none) else none) | _ => none) | none => none) | none => none) else none) | false => (match F80_d N x.2.2.2.1 with | some y13 => (match (!y13) with | true => (ke (.inl (x.1, ([] : List (List AV)), 2, x.2.2.2.1, x.2.2.2.2.1))) | false => (if (x.1.length + [[(AV.v (.int .i64 x.2.2.2.1))]].length) * 8 ≤ maxBytes then (kn ((x.1 ++ [[(AV.v (.int .i64 x.2.2.2.1))]]), x.2.1, x.2.2.1, x.2.2.2.1, x.2.2.2.2.1, (i64 (x.2.2.2.2.2 + 1)))) else none)) | none => none)) | false => (ke (.inr (x.1, x.2.2.2.1, x.2.2.2.2.1))))
noncomputable abbrev F50_d26 (N : Nat) (x : (List (List AV)) × (List (List AV)) × Int × Int × Int × Int) : Option (((List (List AV)) × (List (List AV)) × Int × Int × Int) ⊕ ((List (List AV)) × Int × Int)) := (F50_l26 N).L N x
noncomputable def F50_s (N : Nat) : FSpec where
  X := ByteArray × Int
  Y := (List (List AV)) × Int
  ash := [[none], [none]]
  bsh := []
  S := ⟨[[some 1], [none]], [], [], [], []⟩
  bm := false
  pat := fun a b => match a, b with
    | [(AV.v (.string a0)), (AV.v (.int .i64 a1))], [] => some (a0, a1)
    | _, _ => none
  args := fun x => [(AV.v (.string x.1)), (AV.v (.int .i64 x.2))]
  bs := fun x => []
  ret := fun y => ⟨(AV.tup [(AV.list 1 y.1 none), (AV.v (.int .i64 y.2))]), [], none, [], [], []⟩
  t := fun x α k => (match F42_d N (x.2, 1, 420) with | some y1 => (match (!y1) with | true => (k (([] : List (List AV)), 2)) | false => (match (((x.1.size : Int).tmod 64) != 0) with | true => (k (([] : List (List AV)), 3)) | false => (match F42_d N ((i64 ((x.1.size : Int).tdiv 64)), 1, 8) with | some y2 => (match (!y2) with | true => (k (([] : List (List AV)), 3)) | false => (match F78_d N x.1 with | some y3 => (match (!y3.2) with | true => (k (([] : List (List AV)), 3)) | false => (match (decide ((y3.1.length : Int) < x.2)) with | true => (k (([] : List (List AV)), 4)) | false => (match F76_d N (x.1, 4, 4) with | some y4 => (match F76_d N (x.1, 8, 4) with | some y5 => (match F79_d N (y4.1, 32) with | some y6 => (match F79_d N (y5.1, 32) with | some y7 => (match F50_d26 N (([] : List (List AV)), y3.1, x.2, y6.1, y7.1, 0) with | some y14 => (match y14 with | .inl z15 => (k (z15.2.1, z15.2.2.1)) | .inr z16 => (match (z16.2.1 != z16.2.2) with | true => (k (([] : List (List AV)), 11)) | false => (k (z16.1, 0)))) | none => none) | none => none) | none => none) | none => none) | none => none))) | none => none)) | none => none))) | none => none)
noncomputable abbrev F50_d (N : Nat) (x : ByteArray × Int) : Option ((List (List AV)) × Int) := (F50_s N).d x
theorem F50_par26 (N : Nat) : Par (F50_l26 N).b := by
  intro x α β kn ke kn' ke' r r' h h1 h2
  revert h
  dsimp only [F50_l26]
  (repeat' (first | (with_reducible refine par_ite ?_ ?_) | (with_reducible refine par_both ?_ ?_) | split)) <;> intro h <;> first | exact h1 _ h | exact h2 _ h | (cases h; done)
theorem F50_body26 (N : Nat) (x : (F50_l26 N).X) (α : Type) (kn : AS → Option α) (ke : Out → Option α) : around (tabOf Tryz.prog) (F50_g N) F50_an (lam N [(26, F50_l26 N)]) 26 (bodyOf (nthLoop 26 (Tryz.f50.body.getD .skip))) ((F50_l26 N).st x) kn ke = (F50_l26 N).b x α (fun x' => kn ((F50_l26 N).st x')) (fun y => (F50_l26 N).sp y α ke) := by kernel_rfl
theorem F50_pat26 (N : Nat) (s : AS) (x : (F50_l26 N).X) (hc : s = canon (F50_an 26).1 s) (h : (F50_l26 N).p s = some x) : s = (F50_l26 N).st x := by
  dsimp only [F50_l26] at h
  split at h
  · cases h
    exact canon_mk hc ‹_› ‹_› rfl rfl rfl ⟨‹_›, ‹_›, ‹_›, ‹_›, ‹_›, ‹_›, trivial⟩ trivial
  · cases h
theorem F50_loop26 (N : Nat) : ∀ s o, s = canon (F50_an 26).1 s → (lam N [(26, F50_l26 N)]).v 26 s = some o → LoopSem Tryz.prog (nthLoop 26 (Tryz.f50.body.getD .skip)) s o :=
  loop_ok (tabOf_ok Tryz.prog) (gam_ok _) mixed F50_an N [(26, F50_l26 N)] 26 (bodyOf (nthLoop 26 (Tryz.f50.body.getD .skip))) (nthLoop 26 (Tryz.f50.body.getD .skip)) (by kernel_rfl) (by
    have e : actOf F50_an (bodyOf (nthLoop 26 (Tryz.f50.body.getD .skip))) (26 + 1) = [] := by kernel_rfl
    rw [e]
    intro p hp
    cases hp) (F50_l26 N) rfl (fun s x hc h => F50_pat26 N s x hc h) (fun x => rfl) (fun x α kn ke => (F50_body26 N x α kn ke).trans (congrArg ((F50_l26 N).b x α _) (funext fun y => (F50_l26 N).spe y α ke))) (F50_par26 N)
theorem F50_parF (N : Nat) : ParF (F50_s N).t := by
  intro x α β k k' r r' h h1
  revert h
  dsimp only [F50_s]
  (repeat' (first | (with_reducible refine par_ite ?_ ?_) | (with_reducible refine par_both ?_ ?_) | split)) <;> intro h <;> first | exact h1 _ h | (cases h; done)
theorem F50_text (N : Nat) (x : (F50_s N).X) : acall (tabOf Tryz.prog) (F50_g N) F50_an (lam N [(26, F50_l26 N)]) Tryz.f50 (F50_s N).S ((F50_s N).args x) ((F50_s N).bs x) = (F50_s N).t x Ret (fun y => some ((F50_s N).ret y)) := by kernel_rfl
theorem F50_pat (N : Nat) (a : List AV) (b : List (List AV)) (x : (F50_s N).X) (h : (F50_s N).pat a b = some x) : a = (F50_s N).args x ∧ b = (F50_s N).bs x := by
  dsimp only [F50_s] at h
  split at h
  · cases h; exact ⟨rfl, rfl⟩
  · cases h
noncomputable def F50_e (N : Nat) : Ent Tryz.prog := entOf (tabOf_ok Tryz.prog) (gam_ok _) mixed 50 Tryz.f50 Tryz.func50 rfl F50_an (lam N [(26, F50_l26 N)]) (by
    have e : actOf F50_an (Tryz.f50.body.getD .skip) 0 = [(26, nthLoop 26 (Tryz.f50.body.getD .skip))] := by kernel_rfl
    rw [e]
    intro p hp
    rcases List.mem_cons.1 hp with rfl | hp
    · exact F50_loop26 N
    cases hp) (F50_s N) (fun _ => ⟨rfl, rfl⟩) (F50_text N) (F50_pat N) (F50_parF N)
end Go.Proofs.YtdmedeaknnldcaaGreatDoor
