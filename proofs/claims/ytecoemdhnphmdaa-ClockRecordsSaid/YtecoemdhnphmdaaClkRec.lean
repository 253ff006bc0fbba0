/- Functions without memory. (written by sx.py) -/
import Derived.Test.YtecoemdhnphmdaaSymY
namespace Go.Proofs.Ytecoemdhnphmdaa
open Go.RowKit
set_option linter.unusedVariables false
set_option linter.unusedSimpArgs false
set_option linter.unnecessarySimpa false
/-! ### seismonet/seismonetmade.Light (function 10) -/
def F10_an : Nat → Keep × Keep := anL []
noncomputable def F10_g (N : Nat) : GamK := gam (P := Try.prog) []
def F10_s (N : Nat) : FSpec where
  X := (List (List AV))
  Y := Bool
  ash := [[some 1]]
  bsh := []
  pat := fun a b => match a, b with
    | [(AV.list 1 a0 none)], [] => some a0
    | _, _ => none
  args := fun x => [(AV.list 1 x none)]
  bs := fun x => []
  ret := fun y => ⟨(AV.v (.bool y)), [], none⟩
  t := fun x α k => (k (decide ((x.length : Int) ≤ 500)))
abbrev F10_d (N : Nat) (x : (List (List AV))) : Option (Bool) := (F10_s N).d x
theorem F10_parF (N : Nat) : ParF (F10_s N).t := by
  intro x α β k k' r r' h h1
  revert h
  dsimp only [F10_s]
  (repeat' (first | (with_reducible refine par_ite ?_ ?_) | split)) <;> intro h <;> first | exact h1 _ h | (cases h; done)
theorem F10_text (N : Nat) (x : (F10_s N).X) : acall (tabOf Try.prog) (F10_g N) F10_an (lam N []) Try.f10 [[none]] ((F10_s N).args x) ((F10_s N).bs x) = (F10_s N).t x Ret (fun y => some ((F10_s N).ret y)) := by kernel_rfl
theorem F10_pat (N : Nat) (a : List AV) (b : List (List AV)) (x : (F10_s N).X) (h : (F10_s N).pat a b = some x) : a = (F10_s N).args x ∧ b = (F10_s N).bs x := by
  dsimp only [F10_s] at h
  split at h
  · cases h; exact ⟨rfl, rfl⟩
  · cases h
noncomputable def F10_e (N : Nat) : Ent Try.prog := entOf (tabOf_ok Try.prog) (gam_ok _) mixed 10 Try.f10 Try.func10 rfl F10_an (lam N []) (by
    have e : loopsOf (Try.f10.body.getD .skip) 0 = [] := by kernel_rfl
    rw [e]
    intro p hp
    cases hp) [[none]] (F10_s N) (F10_text N) (F10_pat N) (F10_parF N)
/-! ### seismonet/clock.in (function 39) -/
def F39_an : Nat → Keep × Keep := anL []
noncomputable def F39_g (N : Nat) : GamK := gam (P := Try.prog) []
def F39_s (N : Nat) : FSpec where
  X := Int × Int × Int
  Y := Bool
  ash := [[none], [none], [none]]
  bsh := []
  pat := fun a b => match a, b with
    | [(AV.v (.int .i64 a0)), (AV.v (.int .i64 a1)), (AV.v (.int .i64 a2))], [] => some (a0, a1, a2)
    | _, _ => none
  args := fun x => [(AV.v (.int .i64 x.1)), (AV.v (.int .i64 x.2.1)), (AV.v (.int .i64 x.2.2))]
  bs := fun x => []
  ret := fun y => ⟨(AV.v (.bool y)), [], none⟩
  t := fun x α k => (match (decide (x.1 ≥ x.2.1)) with | true => (k (decide (x.1 ≤ x.2.2))) | false => (k false))
abbrev F39_d (N : Nat) (x : Int × Int × Int) : Option (Bool) := (F39_s N).d x
theorem F39_parF (N : Nat) : ParF (F39_s N).t := by
  intro x α β k k' r r' h h1
  revert h
  dsimp only [F39_s]
  (repeat' (first | (with_reducible refine par_ite ?_ ?_) | split)) <;> intro h <;> first | exact h1 _ h | (cases h; done)
theorem F39_text (N : Nat) (x : (F39_s N).X) : acall (tabOf Try.prog) (F39_g N) F39_an (lam N []) Try.f39 [[none]] ((F39_s N).args x) ((F39_s N).bs x) = (F39_s N).t x Ret (fun y => some ((F39_s N).ret y)) := by kernel_rfl
theorem F39_pat (N : Nat) (a : List AV) (b : List (List AV)) (x : (F39_s N).X) (h : (F39_s N).pat a b = some x) : a = (F39_s N).args x ∧ b = (F39_s N).bs x := by
  dsimp only [F39_s] at h
  split at h
  · cases h; exact ⟨rfl, rfl⟩
  · cases h
noncomputable def F39_e (N : Nat) : Ent Try.prog := entOf (tabOf_ok Try.prog) (gam_ok _) mixed 39 Try.f39 Try.func39 rfl F39_an (lam N []) (by
    have e : loopsOf (Try.f39.body.getD .skip) 0 = [] := by kernel_rfl
    rw [e]
    intro p hp
    cases hp) [[none]] (F39_s N) (F39_text N) (F39_pat N) (F39_parF N)
/-! ### seismonet/clock.time (function 35) -/
def F35_an : Nat → Keep × Keep := anL []
noncomputable def F35_g (N : Nat) : GamK := gam (P := Try.prog) [F39_e N]
def F35_s (N : Nat) : FSpec where
  X := Int
  Y := Bool
  ash := [[none]]
  bsh := []
  pat := fun a b => match a, b with
    | [(AV.v (.int .i64 a0))], [] => some a0
    | _, _ => none
  args := fun x => [(AV.v (.int .i64 x))]
  bs := fun x => []
  ret := fun y => ⟨(AV.v (.bool y)), [], none⟩
  t := fun x α k => (match F39_d N (x, 0, 9007199254740992) with | some y1 => (k y1) | none => none)
abbrev F35_d (N : Nat) (x : Int) : Option (Bool) := (F35_s N).d x
theorem F35_parF (N : Nat) : ParF (F35_s N).t := by
  intro x α β k k' r r' h h1
  revert h
  dsimp only [F35_s]
  (repeat' (first | (with_reducible refine par_ite ?_ ?_) | split)) <;> intro h <;> first | exact h1 _ h | (cases h; done)
theorem F35_text (N : Nat) (x : (F35_s N).X) : acall (tabOf Try.prog) (F35_g N) F35_an (lam N []) Try.f35 [[none]] ((F35_s N).args x) ((F35_s N).bs x) = (F35_s N).t x Ret (fun y => some ((F35_s N).ret y)) := by kernel_rfl
theorem F35_pat (N : Nat) (a : List AV) (b : List (List AV)) (x : (F35_s N).X) (h : (F35_s N).pat a b = some x) : a = (F35_s N).args x ∧ b = (F35_s N).bs x := by
  dsimp only [F35_s] at h
  split at h
  · cases h; exact ⟨rfl, rfl⟩
  · cases h
noncomputable def F35_e (N : Nat) : Ent Try.prog := entOf (tabOf_ok Try.prog) (gam_ok _) mixed 35 Try.f35 Try.func35 rfl F35_an (lam N []) (by
    have e : loopsOf (Try.f35.body.getD .skip) 0 = [] := by kernel_rfl
    rw [e]
    intro p hp
    cases hp) [[none]] (F35_s N) (F35_text N) (F35_pat N) (F35_parF N)
/-! ### seismonet/clock.Valid (function 26) -/
def F26_an : Nat → Keep × Keep := anL [(⟨[1, 8, 9], [], [], [(0, 3), (7, 3)], []⟩, ⟨[1, 4], [], [], [(0, 3)], []⟩)]
noncomputable def F26_g (N : Nat) : GamK := gam (P := Try.prog) [F35_e N, F39_e N]
def F26_l0 (N : Nat) : LSpec where
  X := (List (List AV)) × (List (List AV)) × Int × Int × Int
  Y := ((List (List AV)) × Int × Bool) ⊕ ((List (List AV)) × Int)
  p := fun s => match s.env.length, s.nin, s.at 0, s.at 7, s.at 1, s.at 8, s.at 9 with
    | 60, 0, (AV.list 3 a0 none), (AV.list 3 a1 none), (AV.v (.int .i64 a2)), (AV.v (.int .i64 a3)), (AV.v (.int .i64 a4)) => some (a0, a1, a2, a3, a4)
    | _, _, _, _, _, _, _ => none
  st := fun x => mkS 60 [(0, (AV.list 3 x.1 none)), (7, (AV.list 3 x.2.1 none)), (1, (AV.v (.int .i64 x.2.2.1))), (8, (AV.v (.int .i64 x.2.2.2.1))), (9, (AV.v (.int .i64 x.2.2.2.2)))] [] [] 0
  out := fun y => match y with
    | .inl y => (.ret, mkS 60 [(0, (AV.list 3 y.1 none)), (1, (AV.v (.int .i64 y.2.1))), (4, (AV.v (.bool y.2.2)))] [] [] 0)
    | .inr y => (.exit 0, mkS 60 [(0, (AV.list 3 y.1 none)), (1, (AV.v (.int .i64 y.2)))] [] [] 0)
  sp := fun y α k => match y with
    | .inl y => k (.ret, mkS 60 [(0, (AV.list 3 y.1 none)), (1, (AV.v (.int .i64 y.2.1))), (4, (AV.v (.bool y.2.2)))] [] [] 0)
    | .inr y => k (.exit 0, mkS 60 [(0, (AV.list 3 y.1 none)), (1, (AV.v (.int .i64 y.2)))] [] [] 0)
  spe := fun y α k => by rcases y with _ | _ <;> rfl
  b := fun x α kn ke => (match (decide (x.2.2.2.2 < x.2.2.2.1)) with | true => (if 0 ≤ x.2.2.2.2 then (match x.2.1[x.2.2.2.2.toNat]? with | some c1 => (match c1[0]? with | some x2 => (match x2 with | .v (.int q4 n3) => (if q4 = .i64 then (match c1[1]? with | some x5 => (match x5 with | .v (.int q7 n6) => (if q7 = .i64 then (match c1[2]? with | some x8 => (match x8 with | .v (.int q10 n9) => (if q10 = .i64 then (match F35_d N n3 with | some y11 => (match (!y11) with | true => (ke (.inl (x.1, x.2.2.1, false))) | false => (match F35_d N n6 with | some y12 => (match (!y12) with | true => (ke (.inl (x.1, x.2.2.1, false))) | false => (match F35_d N n9 with | some y13 => (match (!y13) with | true => (ke (.inl (x.1, x.2.2.1, false))) | false => (match (decide (n6 > n9)) with | true => (ke (.inl (x.1, x.2.2.1, false))) | false => (match (decide (x.2.2.2.2 > 0)) with | true => (if 0 ≤ (i64 (x.2.2.2.2 - 1)) then (match x.1[(i64 (x.2.2.2.2 - 1)).toNat]? with | some c14 => (match (c14.drop 0)[0]? with | some x15 => (match x15 with | .v (.int q17 n16) => (if q17 = .i64 then (match (decide (n3 ≤ n16)) with | true => (ke (.inl (x.1, x.2.2.1, false))) | false => (kn (x.1, x.2.1, x.2.2.1, x.2.2.2.1, (i64 (x.2.2.2.2 + 1))))) else none) | _ => none) | none => none) | none => none) else none) | false => (kn (x.1, x.2.1, x.2.2.1, x.2.2.2.1, (i64 (x.2.2.2.2 + 1))))))) | none => none)) | none => none)) | none => none) else none) | _ => none) | none => none) else none) | _ => none) | none => none) else none) | _ => none) | none => none) | none => none) else none) | false => (ke (.inr (x.1, x.2.2.1))))
abbrev F26_d0 (N : Nat) (x : (List (List AV)) × (List (List AV)) × Int × Int × Int) : Option (((List (List AV)) × Int × Bool) ⊕ ((List (List AV)) × Int)) := (F26_l0 N).L N x
def F26_s (N : Nat) : FSpec where
  X := (List (List AV)) × Int
  Y := Bool
  ash := [[some 3], [none]]
  bsh := []
  pat := fun a b => match a, b with
    | [(AV.list 3 a0 none), (AV.v (.int .i64 a1))], [] => some (a0, a1)
    | _, _ => none
  args := fun x => [(AV.list 3 x.1 none), (AV.v (.int .i64 x.2))]
  bs := fun x => []
  ret := fun y => ⟨(AV.v (.bool y)), [], none⟩
  t := fun x α k => (match F26_d0 N (x.1, x.1, x.2, (x.1.length : Int), 0) with | some y18 => (match y18 with | .inl z19 => (k z19.2.2) | .inr z20 => (match (decide ((z20.1.length : Int) ≤ 256)) with | true => (match F39_d N (z20.2, 0, 500000) with | some y21 => (k y21) | none => none) | false => (k false))) | none => none)
abbrev F26_d (N : Nat) (x : (List (List AV)) × Int) : Option (Bool) := (F26_s N).d x
theorem F26_par0 (N : Nat) : Par (F26_l0 N).b := by
  intro x α β kn ke kn' ke' r r' h h1 h2
  revert h
  dsimp only [F26_l0]
  (repeat' (first | (with_reducible refine par_ite ?_ ?_) | split)) <;> intro h <;> first | exact h1 _ h | exact h2 _ h | (cases h; done)
theorem F26_body0 (N : Nat) (x : (F26_l0 N).X) (α : Type) (kn : AS → Option α) (ke : Out → Option α) : around (tabOf Try.prog) (F26_g N) F26_an (lam N [F26_l0 N]) 0 (nthLoop 0 (Try.f26.body.getD .skip)) ((F26_l0 N).st x) kn ke = (F26_l0 N).b x α (fun x' => kn ((F26_l0 N).st x')) (fun y => (F26_l0 N).sp y α ke) := by kernel_rfl
theorem F26_pat0 (N : Nat) (s : AS) (x : (F26_l0 N).X) (hc : s = canon (F26_an 0).1 s) (h : (F26_l0 N).p s = some x) : s = (F26_l0 N).st x := by
  dsimp only [F26_l0] at h
  split at h
  · cases h
    exact canon_mk hc ‹_› ‹_› rfl rfl rfl ⟨‹_›, ‹_›, ‹_›, ‹_›, ‹_›, trivial⟩ trivial
  · cases h
theorem F26_loop0 (N : Nat) : ∀ s o, s = canon (F26_an 0).1 s → (lam N [F26_l0 N]).v 0 s = some o → LoopSem Try.prog (nthLoop 0 (Try.f26.body.getD .skip)) s o :=
  loop_ok (tabOf_ok Try.prog) (gam_ok _) mixed F26_an N [F26_l0 N] 0 _ (by
    have e : loopsOf (nthLoop 0 (Try.f26.body.getD .skip)) (0 + 1) = [] := by kernel_rfl
    rw [e]
    intro p hp
    cases hp) (F26_l0 N) rfl (fun s x hc h => F26_pat0 N s x hc h) (fun x => rfl) (fun x α kn ke => (F26_body0 N x α kn ke).trans (congrArg ((F26_l0 N).b x α _) (funext fun y => (F26_l0 N).spe y α ke))) (F26_par0 N)
theorem F26_parF (N : Nat) : ParF (F26_s N).t := by
  intro x α β k k' r r' h h1
  revert h
  dsimp only [F26_s]
  (repeat' (first | (with_reducible refine par_ite ?_ ?_) | split)) <;> intro h <;> first | exact h1 _ h | (cases h; done)
theorem F26_text (N : Nat) (x : (F26_s N).X) : acall (tabOf Try.prog) (F26_g N) F26_an (lam N [F26_l0 N]) Try.f26 [[none]] ((F26_s N).args x) ((F26_s N).bs x) = (F26_s N).t x Ret (fun y => some ((F26_s N).ret y)) := by kernel_rfl
theorem F26_pat (N : Nat) (a : List AV) (b : List (List AV)) (x : (F26_s N).X) (h : (F26_s N).pat a b = some x) : a = (F26_s N).args x ∧ b = (F26_s N).bs x := by
  dsimp only [F26_s] at h
  split at h
  · cases h; exact ⟨rfl, rfl⟩
  · cases h
noncomputable def F26_e (N : Nat) : Ent Try.prog := entOf (tabOf_ok Try.prog) (gam_ok _) mixed 26 Try.f26 Try.func26 rfl F26_an (lam N [F26_l0 N]) (by
    have e : loopsOf (Try.f26.body.getD .skip) 0 = [(0, nthLoop 0 (Try.f26.body.getD .skip))] := by kernel_rfl
    rw [e]
    intro p hp
    rcases List.mem_cons.1 hp with rfl | hp
    · exact F26_loop0 N
    cases hp) [[none]] (F26_s N) (F26_text N) (F26_pat N) (F26_parF N)
/-! ### seismonet/clock.Elapsed (function 17) -/
def F17_an : Nat → Keep × Keep := anL []
noncomputable def F17_g (N : Nat) : GamK := gam (P := Try.prog) [F39_e N, F35_e N]
def F17_s (N : Nat) : FSpec where
  X := Int × Int
  Y := Int × Int
  ash := [[none], [none]]
  bsh := []
  pat := fun a b => match a, b with
    | [(AV.v (.int .i64 a0)), (AV.v (.int .i64 a1))], [] => some (a0, a1)
    | _, _ => none
  args := fun x => [(AV.v (.int .i64 x.1)), (AV.v (.int .i64 x.2))]
  bs := fun x => []
  ret := fun y => ⟨(AV.tup [(AV.v (.int .i64 y.1)), (AV.v (.int .i64 y.2))]), [], none⟩
  t := fun x α k => (match F39_d N (x.1, 0, 500000) with | some y1 => (match (!y1) with | true => (k (0, 0)) | false => (match F35_d N x.2 with | some y2 => (match (!y2) with | true => (k (0, 0)) | false => (if (i64 (1000000 + x.1)) = 0 then none else (if (i64 (1000000 + x.1)) = 0 then none else (if (i64 (1000000 + x.1)) = 0 then none else (if (i64 (1000000 - x.1)) = 0 then none else (if (i64 (1000000 - x.1)) = 0 then none else (if (i64 (1000000 - x.1)) = 0 then none else (k ((i64 ((i64 ((i64 (x.2.tdiv (i64 (1000000 + x.1)))) * 1000000)) + (i64 ((i64 ((x.2.tmod (i64 (1000000 + x.1))) * 1000000)).tdiv (i64 (1000000 + x.1)))))), (i64 ((i64 ((i64 (x.2.tdiv (i64 (1000000 - x.1)))) * 1000000)) + (i64 ((i64 ((i64 ((i64 ((x.2.tmod (i64 (1000000 - x.1))) * 1000000)) + (i64 (1000000 - x.1)))) - 1)).tdiv (i64 (1000000 - x.1))))))))))))))) | none => none)) | none => none)
abbrev F17_d (N : Nat) (x : Int × Int) : Option (Int × Int) := (F17_s N).d x
theorem F17_parF (N : Nat) : ParF (F17_s N).t := by
  intro x α β k k' r r' h h1
  revert h
  dsimp only [F17_s]
  (repeat' (first | (with_reducible refine par_ite ?_ ?_) | split)) <;> intro h <;> first | exact h1 _ h | (cases h; done)
theorem F17_text (N : Nat) (x : (F17_s N).X) : acall (tabOf Try.prog) (F17_g N) F17_an (lam N []) Try.f17 [[none], [none]] ((F17_s N).args x) ((F17_s N).bs x) = (F17_s N).t x Ret (fun y => some ((F17_s N).ret y)) := by kernel_rfl
theorem F17_pat (N : Nat) (a : List AV) (b : List (List AV)) (x : (F17_s N).X) (h : (F17_s N).pat a b = some x) : a = (F17_s N).args x ∧ b = (F17_s N).bs x := by
  dsimp only [F17_s] at h
  split at h
  · cases h; exact ⟨rfl, rfl⟩
  · cases h
noncomputable def F17_e (N : Nat) : Ent Try.prog := entOf (tabOf_ok Try.prog) (gam_ok _) mixed 17 Try.f17 Try.func17 rfl F17_an (lam N []) (by
    have e : loopsOf (Try.f17.body.getD .skip) 0 = [] := by kernel_rfl
    rw [e]
    intro p hp
    cases hp) [[none], [none]] (F17_s N) (F17_text N) (F17_pat N) (F17_parF N)
/-! ### seismonet/clock.from (function 47) -/
def F47_an : Nat → Keep × Keep := anL []
noncomputable def F47_g (N : Nat) : GamK := gam (P := Try.prog) [F17_e N]
def F47_s (N : Nat) : FSpec where
  X := Int × Int × Int × Int × Int
  Y := Int × Int
  ash := [[none, none, none], [none], [none]]
  bsh := []
  pat := fun a b => match a, b with
    | [(AV.agg [(AV.v (.int .i64 a0)), (AV.v (.int .i64 a1)), (AV.v (.int .i64 a2))]), (AV.v (.int .i64 a3)), (AV.v (.int .i64 a4))], [] => some (a0, a1, a2, a3, a4)
    | _, _ => none
  args := fun x => [(AV.agg [(AV.v (.int .i64 x.1)), (AV.v (.int .i64 x.2.1)), (AV.v (.int .i64 x.2.2.1))]), (AV.v (.int .i64 x.2.2.2.1)), (AV.v (.int .i64 x.2.2.2.2))]
  bs := fun x => []
  ret := fun y => ⟨(AV.agg [(AV.v (.int .i64 y.1)), (AV.v (.int .i64 y.2))]), [], none⟩
  t := fun x α k => (match (decide (x.2.2.2.2 ≥ x.1)) with | true => (match F17_d N (x.2.2.2.1, (i64 (x.2.2.2.2 - x.1))) with | some y1 => (k ((i64 (x.2.1 + y1.1)), (i64 (x.2.2.1 + y1.2)))) | none => none) | false => (match F17_d N (x.2.2.2.1, (i64 (x.1 - x.2.2.2.2))) with | some y2 => (k ((i64 (x.2.1 - y2.2)), (i64 (x.2.2.1 - y2.1)))) | none => none))
abbrev F47_d (N : Nat) (x : Int × Int × Int × Int × Int) : Option (Int × Int) := (F47_s N).d x
theorem F47_parF (N : Nat) : ParF (F47_s N).t := by
  intro x α β k k' r r' h h1
  revert h
  dsimp only [F47_s]
  (repeat' (first | (with_reducible refine par_ite ?_ ?_) | split)) <;> intro h <;> first | exact h1 _ h | (cases h; done)
theorem F47_text (N : Nat) (x : (F47_s N).X) : acall (tabOf Try.prog) (F47_g N) F47_an (lam N []) Try.f47 [[none, none]] ((F47_s N).args x) ((F47_s N).bs x) = (F47_s N).t x Ret (fun y => some ((F47_s N).ret y)) := by kernel_rfl
theorem F47_pat (N : Nat) (a : List AV) (b : List (List AV)) (x : (F47_s N).X) (h : (F47_s N).pat a b = some x) : a = (F47_s N).args x ∧ b = (F47_s N).bs x := by
  dsimp only [F47_s] at h
  split at h
  · cases h; exact ⟨rfl, rfl⟩
  · cases h
noncomputable def F47_e (N : Nat) : Ent Try.prog := entOf (tabOf_ok Try.prog) (gam_ok _) mixed 47 Try.f47 Try.func47 rfl F47_an (lam N []) (by
    have e : loopsOf (Try.f47.body.getD .skip) 0 = [] := by kernel_rfl
    rw [e]
    intro p hp
    cases hp) [[none, none]] (F47_s N) (F47_text N) (F47_pat N) (F47_parF N)
/-! ### (seismonet/clock.interval).common (function 37) -/
def F37_an : Nat → Keep × Keep := anL []
noncomputable def F37_g (N : Nat) : GamK := gam (P := Try.prog) []
def F37_s (N : Nat) : FSpec where
  X := Int × Int × Int × Int
  Y := Int × Int
  ash := [[none, none], [none, none]]
  bsh := []
  pat := fun a b => match a, b with
    | [(AV.agg [(AV.v (.int .i64 a0)), (AV.v (.int .i64 a1))]), (AV.agg [(AV.v (.int .i64 a2)), (AV.v (.int .i64 a3))])], [] => some (a0, a1, a2, a3)
    | _, _ => none
  args := fun x => [(AV.agg [(AV.v (.int .i64 x.1)), (AV.v (.int .i64 x.2.1))]), (AV.agg [(AV.v (.int .i64 x.2.2.1)), (AV.v (.int .i64 x.2.2.2))])]
  bs := fun x => []
  ret := fun y => ⟨(AV.agg [(AV.v (.int .i64 y.1)), (AV.v (.int .i64 y.2))]), [], none⟩
  t := fun x α k => (k ((if x.2.2.1 > x.1 then x.2.2.1 else x.1), (if x.2.2.2 < x.2.1 then x.2.2.2 else x.2.1)))
abbrev F37_d (N : Nat) (x : Int × Int × Int × Int) : Option (Int × Int) := (F37_s N).d x
theorem F37_parF (N : Nat) : ParF (F37_s N).t := by
  intro x α β k k' r r' h h1
  revert h
  dsimp only [F37_s]
  (repeat' (first | (with_reducible refine par_ite ?_ ?_) | split)) <;> intro h <;> first | exact h1 _ h | (cases h; done)
theorem F37_text (N : Nat) (x : (F37_s N).X) : acall (tabOf Try.prog) (F37_g N) F37_an (lam N []) Try.f37 [[none, none]] ((F37_s N).args x) ((F37_s N).bs x) = (F37_s N).t x Ret (fun y => some ((F37_s N).ret y)) := by kernel_rfl
theorem F37_pat (N : Nat) (a : List AV) (b : List (List AV)) (x : (F37_s N).X) (h : (F37_s N).pat a b = some x) : a = (F37_s N).args x ∧ b = (F37_s N).bs x := by
  dsimp only [F37_s] at h
  split at h
  · cases h; exact ⟨rfl, rfl⟩
  · cases h
noncomputable def F37_e (N : Nat) : Ent Try.prog := entOf (tabOf_ok Try.prog) (gam_ok _) mixed 37 Try.f37 Try.func37 rfl F37_an (lam N []) (by
    have e : loopsOf (Try.f37.body.getD .skip) 0 = [] := by kernel_rfl
    rw [e]
    intro p hp
    cases hp) [[none, none]] (F37_s N) (F37_text N) (F37_pat N) (F37_parF N)
/-! ### seismonet/clock.agrees (function 38) -/
def F38_an : Nat → Keep × Keep := anL []
noncomputable def F38_g (N : Nat) : GamK := gam (P := Try.prog) [F47_e N, F37_e N]
def F38_s (N : Nat) : FSpec where
  X := Int × Int × Int × Int × Int × Int × Int
  Y := Bool
  ash := [[none, none, none], [none, none, none], [none]]
  bsh := []
  pat := fun a b => match a, b with
    | [(AV.agg [(AV.v (.int .i64 a0)), (AV.v (.int .i64 a1)), (AV.v (.int .i64 a2))]), (AV.agg [(AV.v (.int .i64 a3)), (AV.v (.int .i64 a4)), (AV.v (.int .i64 a5))]), (AV.v (.int .i64 a6))], [] => some (a0, a1, a2, a3, a4, a5, a6)
    | _, _ => none
  args := fun x => [(AV.agg [(AV.v (.int .i64 x.1)), (AV.v (.int .i64 x.2.1)), (AV.v (.int .i64 x.2.2.1))]), (AV.agg [(AV.v (.int .i64 x.2.2.2.1)), (AV.v (.int .i64 x.2.2.2.2.1)), (AV.v (.int .i64 x.2.2.2.2.2.1))]), (AV.v (.int .i64 x.2.2.2.2.2.2))]
  bs := fun x => []
  ret := fun y => ⟨(AV.v (.bool y)), [], none⟩
  t := fun x α k => (match F47_d N (x.1, x.2.1, x.2.2.1, x.2.2.2.2.2.2, x.2.2.2.1) with | some y1 => (match F37_d N (y1.1, y1.2, x.2.2.2.2.1, x.2.2.2.2.2.1) with | some y2 => (k (decide (y2.1 ≤ y2.2))) | none => none) | none => none)
abbrev F38_d (N : Nat) (x : Int × Int × Int × Int × Int × Int × Int) : Option (Bool) := (F38_s N).d x
theorem F38_parF (N : Nat) : ParF (F38_s N).t := by
  intro x α β k k' r r' h h1
  revert h
  dsimp only [F38_s]
  (repeat' (first | (with_reducible refine par_ite ?_ ?_) | split)) <;> intro h <;> first | exact h1 _ h | (cases h; done)
theorem F38_text (N : Nat) (x : (F38_s N).X) : acall (tabOf Try.prog) (F38_g N) F38_an (lam N []) Try.f38 [[none]] ((F38_s N).args x) ((F38_s N).bs x) = (F38_s N).t x Ret (fun y => some ((F38_s N).ret y)) := by kernel_rfl
theorem F38_pat (N : Nat) (a : List AV) (b : List (List AV)) (x : (F38_s N).X) (h : (F38_s N).pat a b = some x) : a = (F38_s N).args x ∧ b = (F38_s N).bs x := by
  dsimp only [F38_s] at h
  split at h
  · cases h; exact ⟨rfl, rfl⟩
  · cases h
noncomputable def F38_e (N : Nat) : Ent Try.prog := entOf (tabOf_ok Try.prog) (gam_ok _) mixed 38 Try.f38 Try.func38 rfl F38_an (lam N []) (by
    have e : loopsOf (Try.f38.body.getD .skip) 0 = [] := by kernel_rfl
    rw [e]
    intro p hp
    cases hp) [[none]] (F38_s N) (F38_text N) (F38_pat N) (F38_parF N)
/-! ### seismonet/clock.Jumps (function 16) -/
def F16_an : Nat → Keep × Keep := anL [(⟨[1, 7], [(6, 1)], [], [(0, 3)], []⟩, ⟨[], [(6, 1)], [], [], []⟩)]
noncomputable def F16_g (N : Nat) : GamK := gam (P := Try.prog) [F26_e N, F38_e N]
def F16_l0 (N : Nat) : LSpec where
  X := (List (List AV)) × (List (List AV)) × Int × Int
  Y := ((List (List AV)))
  p := fun s => match s.env.length, s.nin, s.at 6, s.at 0, s.at 1, s.at 7 with
    | 35, 0, (AV.list 1 a0 (some 6)), (AV.list 3 a1 none), (AV.v (.int .i64 a2)), (AV.v (.int .i64 a3)) => some (a0, a1, a2, a3)
    | _, _, _, _, _, _ => none
  st := fun x => mkS 35 [(6, (AV.list 1 x.1 (some 6))), (0, (AV.list 3 x.2.1 none)), (1, (AV.v (.int .i64 x.2.2.1))), (7, (AV.v (.int .i64 x.2.2.2)))] [] [6] 0
  out := fun y => (.exit 0, mkS 35 [(6, (AV.list 1 y (some 6)))] [] [6] 0)
  sp := fun y α k => k (.exit 0, mkS 35 [(6, (AV.list 1 y (some 6)))] [] [6] 0)
  spe := fun y α k => rfl
  b := fun x α kn ke => (match (decide (x.2.2.2 < (x.2.1.length : Int))) with | true => (if 0 ≤ (i64 (x.2.2.2 - 1)) then (match x.2.1[(i64 (x.2.2.2 - 1)).toNat]? with | some c2 => (match c2[0]? with | some x3 => (match x3 with | .v (.int q5 n4) => (if q5 = .i64 then (match c2[1]? with | some x6 => (match x6 with | .v (.int q8 n7) => (if q8 = .i64 then (match c2[2]? with | some x9 => (match x9 with | .v (.int q11 n10) => (if q11 = .i64 then (if 0 ≤ x.2.2.2 then (match x.2.1[x.2.2.2.toNat]? with | some c12 => (match c12[0]? with | some x13 => (match x13 with | .v (.int q15 n14) => (if q15 = .i64 then (match c12[1]? with | some x16 => (match x16 with | .v (.int q18 n17) => (if q18 = .i64 then (match c12[2]? with | some x19 => (match x19 with | .v (.int q21 n20) => (if q21 = .i64 then (match F38_d N (n4, n7, n10, n14, n17, n20, x.2.2.1) with | some y22 => (match (!y22) with | true => (if (x.1.length + [[(AV.v (.int .i64 x.2.2.2))]].length) * 8 ≤ maxBytes then (kn ((x.1 ++ [[(AV.v (.int .i64 x.2.2.2))]]), x.2.1, x.2.2.1, (i64 (x.2.2.2 + 1)))) else none) | false => (kn (x.1, x.2.1, x.2.2.1, (i64 (x.2.2.2 + 1))))) | none => none) else none) | _ => none) | none => none) else none) | _ => none) | none => none) else none) | _ => none) | none => none) | none => none) else none) else none) | _ => none) | none => none) else none) | _ => none) | none => none) else none) | _ => none) | none => none) | none => none) else none) | false => (ke x.1))
abbrev F16_d0 (N : Nat) (x : (List (List AV)) × (List (List AV)) × Int × Int) : Option (((List (List AV)))) := (F16_l0 N).L N x
def F16_s (N : Nat) : FSpec where
  X := (List (List AV)) × Int
  Y := (List (List AV)) × Int
  ash := [[some 3], [none]]
  bsh := []
  pat := fun a b => match a, b with
    | [(AV.list 3 a0 none), (AV.v (.int .i64 a1))], [] => some (a0, a1)
    | _, _ => none
  args := fun x => [(AV.list 3 x.1 none), (AV.v (.int .i64 x.2))]
  bs := fun x => []
  ret := fun y => ⟨(AV.tup [(AV.list 1 y.1 none), (AV.v (.int .i64 y.2))]), [], none⟩
  t := fun x α k => (match F26_d N (x.1, x.2) with | some y1 => (match (!y1) with | true => (k (([] : List (List AV)), 1)) | false => (match F16_d0 N (([] : List (List AV)), x.1, x.2, 1) with | some y23 => (k (y23, 0)) | none => none)) | none => none)
abbrev F16_d (N : Nat) (x : (List (List AV)) × Int) : Option ((List (List AV)) × Int) := (F16_s N).d x
theorem F16_par0 (N : Nat) : Par (F16_l0 N).b := by
  intro x α β kn ke kn' ke' r r' h h1 h2
  revert h
  dsimp only [F16_l0]
  (repeat' (first | (with_reducible refine par_ite ?_ ?_) | split)) <;> intro h <;> first | exact h1 _ h | exact h2 _ h | (cases h; done)
theorem F16_body0 (N : Nat) (x : (F16_l0 N).X) (α : Type) (kn : AS → Option α) (ke : Out → Option α) : around (tabOf Try.prog) (F16_g N) F16_an (lam N [F16_l0 N]) 0 (nthLoop 0 (Try.f16.body.getD .skip)) ((F16_l0 N).st x) kn ke = (F16_l0 N).b x α (fun x' => kn ((F16_l0 N).st x')) (fun y => (F16_l0 N).sp y α ke) := by kernel_rfl
theorem F16_pat0 (N : Nat) (s : AS) (x : (F16_l0 N).X) (hc : s = canon (F16_an 0).1 s) (h : (F16_l0 N).p s = some x) : s = (F16_l0 N).st x := by
  dsimp only [F16_l0] at h
  split at h
  · cases h
    exact canon_mk hc ‹_› ‹_› rfl rfl rfl ⟨‹_›, ‹_›, ‹_›, ‹_›, trivial⟩ trivial
  · cases h
theorem F16_loop0 (N : Nat) : ∀ s o, s = canon (F16_an 0).1 s → (lam N [F16_l0 N]).v 0 s = some o → LoopSem Try.prog (nthLoop 0 (Try.f16.body.getD .skip)) s o :=
  loop_ok (tabOf_ok Try.prog) (gam_ok _) mixed F16_an N [F16_l0 N] 0 _ (by
    have e : loopsOf (nthLoop 0 (Try.f16.body.getD .skip)) (0 + 1) = [] := by kernel_rfl
    rw [e]
    intro p hp
    cases hp) (F16_l0 N) rfl (fun s x hc h => F16_pat0 N s x hc h) (fun x => rfl) (fun x α kn ke => (F16_body0 N x α kn ke).trans (congrArg ((F16_l0 N).b x α _) (funext fun y => (F16_l0 N).spe y α ke))) (F16_par0 N)
theorem F16_parF (N : Nat) : ParF (F16_s N).t := by
  intro x α β k k' r r' h h1
  revert h
  dsimp only [F16_s]
  (repeat' (first | (with_reducible refine par_ite ?_ ?_) | split)) <;> intro h <;> first | exact h1 _ h | (cases h; done)
theorem F16_text (N : Nat) (x : (F16_s N).X) : acall (tabOf Try.prog) (F16_g N) F16_an (lam N [F16_l0 N]) Try.f16 [[some 1], [none]] ((F16_s N).args x) ((F16_s N).bs x) = (F16_s N).t x Ret (fun y => some ((F16_s N).ret y)) := by kernel_rfl
theorem F16_pat (N : Nat) (a : List AV) (b : List (List AV)) (x : (F16_s N).X) (h : (F16_s N).pat a b = some x) : a = (F16_s N).args x ∧ b = (F16_s N).bs x := by
  dsimp only [F16_s] at h
  split at h
  · cases h; exact ⟨rfl, rfl⟩
  · cases h
noncomputable def F16_e (N : Nat) : Ent Try.prog := entOf (tabOf_ok Try.prog) (gam_ok _) mixed 16 Try.f16 Try.func16 rfl F16_an (lam N [F16_l0 N]) (by
    have e : loopsOf (Try.f16.body.getD .skip) 0 = [(0, nthLoop 0 (Try.f16.body.getD .skip))] := by kernel_rfl
    rw [e]
    intro p hp
    rcases List.mem_cons.1 hp with rfl | hp
    · exact F16_loop0 N
    cases hp) [[some 1], [none]] (F16_s N) (F16_text N) (F16_pat N) (F16_parF N)
/-! ### slices.Index[[]int,int] (function 58) -/
def F58_an : Nat → Keep × Keep := anL [(⟨[1, 7, 8], [], [], [(0, 1)], []⟩, ⟨[4], [], [], [], []⟩)]
noncomputable def F58_g (N : Nat) : GamK := gam (P := Try.prog) []
def F58_l0 (N : Nat) : LSpec where
  X := (List (List AV)) × Int × Int × Int
  Y := (Int) ⊕ (Unit)
  p := fun s => match s.env.length, s.nin, s.at 0, s.at 1, s.at 7, s.at 8 with
    | 19, 0, (AV.list 1 a0 none), (AV.v (.int .i64 a1)), (AV.v (.int .i64 a2)), (AV.v (.int .i64 a3)) => some (a0, a1, a2, a3)
    | _, _, _, _, _, _ => none
  st := fun x => mkS 19 [(0, (AV.list 1 x.1 none)), (1, (AV.v (.int .i64 x.2.1))), (7, (AV.v (.int .i64 x.2.2.1))), (8, (AV.v (.int .i64 x.2.2.2)))] [] [] 0
  out := fun y => match y with
    | .inl y => (.ret, mkS 19 [(4, (AV.v (.int .i64 y)))] [] [] 0)
    | .inr y => (.exit 0, mkS 19 [] [] [] 0)
  sp := fun y α k => match y with
    | .inl y => k (.ret, mkS 19 [(4, (AV.v (.int .i64 y)))] [] [] 0)
    | .inr y => k (.exit 0, mkS 19 [] [] [] 0)
  spe := fun y α k => by rcases y with _ | _ <;> rfl
  b := fun x α kn ke => (match (decide (x.2.2.2 < x.2.2.1)) with | true => (if 0 ≤ x.2.2.2 then (match x.1[x.2.2.2.toNat]? with | some c1 => (match c1[0]? with | some x2 => (match x2 with | .v (.int q4 n3) => (if q4 = .i64 then (match (x.2.1 == n3) with | true => (ke (.inl x.2.2.2)) | false => (kn (x.1, x.2.1, x.2.2.1, (i64 (x.2.2.2 + 1))))) else none) | _ => none) | none => none) | none => none) else none) | false => (ke (.inr ())))
abbrev F58_d0 (N : Nat) (x : (List (List AV)) × Int × Int × Int) : Option ((Int) ⊕ (Unit)) := (F58_l0 N).L N x
def F58_s (N : Nat) : FSpec where
  X := (List (List AV)) × Int
  Y := Int
  ash := [[some 1], [none]]
  bsh := []
  pat := fun a b => match a, b with
    | [(AV.list 1 a0 none), (AV.v (.int .i64 a1))], [] => some (a0, a1)
    | _, _ => none
  args := fun x => [(AV.list 1 x.1 none), (AV.v (.int .i64 x.2))]
  bs := fun x => []
  ret := fun y => ⟨(AV.v (.int .i64 y)), [], none⟩
  t := fun x α k => (match F58_d0 N (x.1, x.2, (x.1.length : Int), 0) with | some y5 => (match y5 with | .inl z6 => (k z6) | .inr z7 => (k (-1))) | none => none)
abbrev F58_d (N : Nat) (x : (List (List AV)) × Int) : Option (Int) := (F58_s N).d x
theorem F58_par0 (N : Nat) : Par (F58_l0 N).b := by
  intro x α β kn ke kn' ke' r r' h h1 h2
  revert h
  dsimp only [F58_l0]
  (repeat' (first | (with_reducible refine par_ite ?_ ?_) | split)) <;> intro h <;> first | exact h1 _ h | exact h2 _ h | (cases h; done)
theorem F58_body0 (N : Nat) (x : (F58_l0 N).X) (α : Type) (kn : AS → Option α) (ke : Out → Option α) : around (tabOf Try.prog) (F58_g N) F58_an (lam N [F58_l0 N]) 0 (nthLoop 0 (Try.f58.body.getD .skip)) ((F58_l0 N).st x) kn ke = (F58_l0 N).b x α (fun x' => kn ((F58_l0 N).st x')) (fun y => (F58_l0 N).sp y α ke) := by kernel_rfl
theorem F58_pat0 (N : Nat) (s : AS) (x : (F58_l0 N).X) (hc : s = canon (F58_an 0).1 s) (h : (F58_l0 N).p s = some x) : s = (F58_l0 N).st x := by
  dsimp only [F58_l0] at h
  split at h
  · cases h
    exact canon_mk hc ‹_› ‹_› rfl rfl rfl ⟨‹_›, ‹_›, ‹_›, ‹_›, trivial⟩ trivial
  · cases h
theorem F58_loop0 (N : Nat) : ∀ s o, s = canon (F58_an 0).1 s → (lam N [F58_l0 N]).v 0 s = some o → LoopSem Try.prog (nthLoop 0 (Try.f58.body.getD .skip)) s o :=
  loop_ok (tabOf_ok Try.prog) (gam_ok _) mixed F58_an N [F58_l0 N] 0 _ (by
    have e : loopsOf (nthLoop 0 (Try.f58.body.getD .skip)) (0 + 1) = [] := by kernel_rfl
    rw [e]
    intro p hp
    cases hp) (F58_l0 N) rfl (fun s x hc h => F58_pat0 N s x hc h) (fun x => rfl) (fun x α kn ke => (F58_body0 N x α kn ke).trans (congrArg ((F58_l0 N).b x α _) (funext fun y => (F58_l0 N).spe y α ke))) (F58_par0 N)
theorem F58_parF (N : Nat) : ParF (F58_s N).t := by
  intro x α β k k' r r' h h1
  revert h
  dsimp only [F58_s]
  (repeat' (first | (with_reducible refine par_ite ?_ ?_) | split)) <;> intro h <;> first | exact h1 _ h | (cases h; done)
theorem F58_text (N : Nat) (x : (F58_s N).X) : acall (tabOf Try.prog) (F58_g N) F58_an (lam N [F58_l0 N]) Try.f58 [[none]] ((F58_s N).args x) ((F58_s N).bs x) = (F58_s N).t x Ret (fun y => some ((F58_s N).ret y)) := by kernel_rfl
theorem F58_pat (N : Nat) (a : List AV) (b : List (List AV)) (x : (F58_s N).X) (h : (F58_s N).pat a b = some x) : a = (F58_s N).args x ∧ b = (F58_s N).bs x := by
  dsimp only [F58_s] at h
  split at h
  · cases h; exact ⟨rfl, rfl⟩
  · cases h
noncomputable def F58_e (N : Nat) : Ent Try.prog := entOf (tabOf_ok Try.prog) (gam_ok _) mixed 58 Try.f58 Try.func58 rfl F58_an (lam N [F58_l0 N]) (by
    have e : loopsOf (Try.f58.body.getD .skip) 0 = [(0, nthLoop 0 (Try.f58.body.getD .skip))] := by kernel_rfl
    rw [e]
    intro p hp
    rcases List.mem_cons.1 hp with rfl | hp
    · exact F58_loop0 N
    cases hp) [[none]] (F58_s N) (F58_text N) (F58_pat N) (F58_parF N)
/-! ### slices.Contains[[]int,int] (function 50) -/
def F50_an : Nat → Keep × Keep := anL []
noncomputable def F50_g (N : Nat) : GamK := gam (P := Try.prog) [F58_e N]
def F50_s (N : Nat) : FSpec where
  X := (List (List AV)) × Int
  Y := Bool
  ash := [[some 1], [none]]
  bsh := []
  pat := fun a b => match a, b with
    | [(AV.list 1 a0 none), (AV.v (.int .i64 a1))], [] => some (a0, a1)
    | _, _ => none
  args := fun x => [(AV.list 1 x.1 none), (AV.v (.int .i64 x.2))]
  bs := fun x => []
  ret := fun y => ⟨(AV.v (.bool y)), [], none⟩
  t := fun x α k => (match F58_d N (x.1, x.2) with | some y1 => (k (decide (y1 ≥ 0))) | none => none)
abbrev F50_d (N : Nat) (x : (List (List AV)) × Int) : Option (Bool) := (F50_s N).d x
theorem F50_parF (N : Nat) : ParF (F50_s N).t := by
  intro x α β k k' r r' h h1
  revert h
  dsimp only [F50_s]
  (repeat' (first | (with_reducible refine par_ite ?_ ?_) | split)) <;> intro h <;> first | exact h1 _ h | (cases h; done)
theorem F50_text (N : Nat) (x : (F50_s N).X) : acall (tabOf Try.prog) (F50_g N) F50_an (lam N []) Try.f50 [[none]] ((F50_s N).args x) ((F50_s N).bs x) = (F50_s N).t x Ret (fun y => some ((F50_s N).ret y)) := by kernel_rfl
theorem F50_pat (N : Nat) (a : List AV) (b : List (List AV)) (x : (F50_s N).X) (h : (F50_s N).pat a b = some x) : a = (F50_s N).args x ∧ b = (F50_s N).bs x := by
  dsimp only [F50_s] at h
  split at h
  · cases h; exact ⟨rfl, rfl⟩
  · cases h
noncomputable def F50_e (N : Nat) : Ent Try.prog := entOf (tabOf_ok Try.prog) (gam_ok _) mixed 50 Try.f50 Try.func50 rfl F50_an (lam N []) (by
    have e : loopsOf (Try.f50.body.getD .skip) 0 = [] := by kernel_rfl
    rw [e]
    intro p hp
    cases hp) [[none]] (F50_s N) (F50_text N) (F50_pat N) (F50_parF N)
/-! ### (seismonet/clock.interval).hull (function 51) -/
def F51_an : Nat → Keep × Keep := anL []
noncomputable def F51_g (N : Nat) : GamK := gam (P := Try.prog) []
def F51_s (N : Nat) : FSpec where
  X := Int × Int × Int × Int
  Y := Int × Int
  ash := [[none, none], [none, none]]
  bsh := []
  pat := fun a b => match a, b with
    | [(AV.agg [(AV.v (.int .i64 a0)), (AV.v (.int .i64 a1))]), (AV.agg [(AV.v (.int .i64 a2)), (AV.v (.int .i64 a3))])], [] => some (a0, a1, a2, a3)
    | _, _ => none
  args := fun x => [(AV.agg [(AV.v (.int .i64 x.1)), (AV.v (.int .i64 x.2.1))]), (AV.agg [(AV.v (.int .i64 x.2.2.1)), (AV.v (.int .i64 x.2.2.2))])]
  bs := fun x => []
  ret := fun y => ⟨(AV.agg [(AV.v (.int .i64 y.1)), (AV.v (.int .i64 y.2))]), [], none⟩
  t := fun x α k => (k ((if x.2.2.1 < x.1 then x.2.2.1 else x.1), (if x.2.2.2 > x.2.1 then x.2.2.2 else x.2.1)))
abbrev F51_d (N : Nat) (x : Int × Int × Int × Int) : Option (Int × Int) := (F51_s N).d x
theorem F51_parF (N : Nat) : ParF (F51_s N).t := by
  intro x α β k k' r r' h h1
  revert h
  dsimp only [F51_s]
  (repeat' (first | (with_reducible refine par_ite ?_ ?_) | split)) <;> intro h <;> first | exact h1 _ h | (cases h; done)
theorem F51_text (N : Nat) (x : (F51_s N).X) : acall (tabOf Try.prog) (F51_g N) F51_an (lam N []) Try.f51 [[none, none]] ((F51_s N).args x) ((F51_s N).bs x) = (F51_s N).t x Ret (fun y => some ((F51_s N).ret y)) := by kernel_rfl
theorem F51_pat (N : Nat) (a : List AV) (b : List (List AV)) (x : (F51_s N).X) (h : (F51_s N).pat a b = some x) : a = (F51_s N).args x ∧ b = (F51_s N).bs x := by
  dsimp only [F51_s] at h
  split at h
  · cases h; exact ⟨rfl, rfl⟩
  · cases h
noncomputable def F51_e (N : Nat) : Ent Try.prog := entOf (tabOf_ok Try.prog) (gam_ok _) mixed 51 Try.f51 Try.func51 rfl F51_an (lam N []) (by
    have e : loopsOf (Try.f51.body.getD .skip) 0 = [] := by kernel_rfl
    rw [e]
    intro p hp
    cases hp) [[none, none]] (F51_s N) (F51_text N) (F51_pat N) (F51_parF N)
/-! ### seismonet/clock.run (function 52) -/
def F52_an : Nat → Keep × Keep := anL [(⟨[2, 6, 7, 12, 13], [], [], [(11, 1)], []⟩, ⟨[6, 7], [], [], [], []⟩)]
noncomputable def F52_g (N : Nat) : GamK := gam (P := Try.prog) []
def F52_l0 (N : Nat) : LSpec where
  X := (List (List AV)) × Int × Int × Int × Int × Int
  Y := (Int × Int)
  p := fun s => match s.env.length, s.nin, s.at 11, s.at 2, s.at 6, s.at 7, s.at 12, s.at 13 with
    | 28, 0, (AV.list 1 a0 none), (AV.v (.int .i64 a1)), (AV.v (.int .i64 a2)), (AV.v (.int .i64 a3)), (AV.v (.int .i64 a4)), (AV.v (.int .i64 a5)) => some (a0, a1, a2, a3, a4, a5)
    | _, _, _, _, _, _, _, _ => none
  st := fun x => mkS 28 [(11, (AV.list 1 x.1 none)), (2, (AV.v (.int .i64 x.2.1))), (6, (AV.v (.int .i64 x.2.2.1))), (7, (AV.v (.int .i64 x.2.2.2.1))), (12, (AV.v (.int .i64 x.2.2.2.2.1))), (13, (AV.v (.int .i64 x.2.2.2.2.2)))] [] [] 0
  out := fun y => (.exit 0, mkS 28 [(6, (AV.v (.int .i64 y.1))), (7, (AV.v (.int .i64 y.2)))] [] [] 0)
  sp := fun y α k => k (.exit 0, mkS 28 [(6, (AV.v (.int .i64 y.1))), (7, (AV.v (.int .i64 y.2)))] [] [] 0)
  spe := fun y α k => rfl
  b := fun x α kn ke => (match (decide (x.2.2.2.2.2 < x.2.2.2.2.1)) with | true => (if 0 ≤ x.2.2.2.2.2 then (match x.1[x.2.2.2.2.2.toNat]? with | some c1 => (match c1[0]? with | some x2 => (match x2 with | .v (.int q4 n3) => (if q4 = .i64 then (match (decide (n3 ≤ x.2.1)) with | true => (kn (x.1, x.2.1, n3, x.2.2.2.1, x.2.2.2.2.1, (i64 (x.2.2.2.2.2 + 1)))) | false => (match (decide (n3 < x.2.2.2.1)) with | true => (kn (x.1, x.2.1, x.2.2.1, n3, x.2.2.2.2.1, (i64 (x.2.2.2.2.2 + 1)))) | false => (kn (x.1, x.2.1, x.2.2.1, x.2.2.2.1, x.2.2.2.2.1, (i64 (x.2.2.2.2.2 + 1)))))) else none) | _ => none) | none => none) | none => none) else none) | false => (ke (x.2.2.1, x.2.2.2.1)))
abbrev F52_d0 (N : Nat) (x : (List (List AV)) × Int × Int × Int × Int × Int) : Option ((Int × Int)) := (F52_l0 N).L N x
def F52_s (N : Nat) : FSpec where
  X := (List (List AV)) × Int × Int
  Y := Int × Int
  ash := [[some 1], [none], [none]]
  bsh := []
  pat := fun a b => match a, b with
    | [(AV.list 1 a0 none), (AV.v (.int .i64 a1)), (AV.v (.int .i64 a2))], [] => some (a0, a1, a2)
    | _, _ => none
  args := fun x => [(AV.list 1 x.1 none), (AV.v (.int .i64 x.2.1)), (AV.v (.int .i64 x.2.2))]
  bs := fun x => []
  ret := fun y => ⟨(AV.tup [(AV.v (.int .i64 y.1)), (AV.v (.int .i64 y.2))]), [], none⟩
  t := fun x α k => (match F52_d0 N (x.1, x.2.2, 0, x.2.1, (x.1.length : Int), 0) with | some y5 => (k (y5.1, y5.2)) | none => none)
abbrev F52_d (N : Nat) (x : (List (List AV)) × Int × Int) : Option (Int × Int) := (F52_s N).d x
theorem F52_par0 (N : Nat) : Par (F52_l0 N).b := by
  intro x α β kn ke kn' ke' r r' h h1 h2
  revert h
  dsimp only [F52_l0]
  (repeat' (first | (with_reducible refine par_ite ?_ ?_) | split)) <;> intro h <;> first | exact h1 _ h | exact h2 _ h | (cases h; done)
theorem F52_body0 (N : Nat) (x : (F52_l0 N).X) (α : Type) (kn : AS → Option α) (ke : Out → Option α) : around (tabOf Try.prog) (F52_g N) F52_an (lam N [F52_l0 N]) 0 (nthLoop 0 (Try.f52.body.getD .skip)) ((F52_l0 N).st x) kn ke = (F52_l0 N).b x α (fun x' => kn ((F52_l0 N).st x')) (fun y => (F52_l0 N).sp y α ke) := by kernel_rfl
theorem F52_pat0 (N : Nat) (s : AS) (x : (F52_l0 N).X) (hc : s = canon (F52_an 0).1 s) (h : (F52_l0 N).p s = some x) : s = (F52_l0 N).st x := by
  dsimp only [F52_l0] at h
  split at h
  · cases h
    exact canon_mk hc ‹_› ‹_› rfl rfl rfl ⟨‹_›, ‹_›, ‹_›, ‹_›, ‹_›, ‹_›, trivial⟩ trivial
  · cases h
theorem F52_loop0 (N : Nat) : ∀ s o, s = canon (F52_an 0).1 s → (lam N [F52_l0 N]).v 0 s = some o → LoopSem Try.prog (nthLoop 0 (Try.f52.body.getD .skip)) s o :=
  loop_ok (tabOf_ok Try.prog) (gam_ok _) mixed F52_an N [F52_l0 N] 0 _ (by
    have e : loopsOf (nthLoop 0 (Try.f52.body.getD .skip)) (0 + 1) = [] := by kernel_rfl
    rw [e]
    intro p hp
    cases hp) (F52_l0 N) rfl (fun s x hc h => F52_pat0 N s x hc h) (fun x => rfl) (fun x α kn ke => (F52_body0 N x α kn ke).trans (congrArg ((F52_l0 N).b x α _) (funext fun y => (F52_l0 N).spe y α ke))) (F52_par0 N)
theorem F52_parF (N : Nat) : ParF (F52_s N).t := by
  intro x α β k k' r r' h h1
  revert h
  dsimp only [F52_s]
  (repeat' (first | (with_reducible refine par_ite ?_ ?_) | split)) <;> intro h <;> first | exact h1 _ h | (cases h; done)
theorem F52_text (N : Nat) (x : (F52_s N).X) : acall (tabOf Try.prog) (F52_g N) F52_an (lam N [F52_l0 N]) Try.f52 [[none], [none]] ((F52_s N).args x) ((F52_s N).bs x) = (F52_s N).t x Ret (fun y => some ((F52_s N).ret y)) := by kernel_rfl
theorem F52_pat (N : Nat) (a : List AV) (b : List (List AV)) (x : (F52_s N).X) (h : (F52_s N).pat a b = some x) : a = (F52_s N).args x ∧ b = (F52_s N).bs x := by
  dsimp only [F52_s] at h
  split at h
  · cases h; exact ⟨rfl, rfl⟩
  · cases h
noncomputable def F52_e (N : Nat) : Ent Try.prog := entOf (tabOf_ok Try.prog) (gam_ok _) mixed 52 Try.f52 Try.func52 rfl F52_an (lam N [F52_l0 N]) (by
    have e : loopsOf (Try.f52.body.getD .skip) 0 = [(0, nthLoop 0 (Try.f52.body.getD .skip))] := by kernel_rfl
    rw [e]
    intro p hp
    rcases List.mem_cons.1 hp with rfl | hp
    · exact F52_loop0 N
    cases hp) [[none], [none]] (F52_s N) (F52_text N) (F52_pat N) (F52_parF N)
/-! ### seismonet/clock.within (function 36) -/
def F36_an : Nat → Keep × Keep := anL [(⟨[2, 3, 8, 9], [], [8], [(0, 3), (1, 1)], []⟩, ⟨[2, 3, 8, 9], [], [8], [(0, 3), (1, 1)], []⟩), (⟨[2, 3, 8, 12, 70, 71], [], [8, 12], [(69, 3)], []⟩, ⟨[8, 12], [], [8, 12], [], []⟩)]
noncomputable def F36_g (N : Nat) : GamK := gam (P := Try.prog) [F50_e N, F47_e N, F51_e N, F52_e N, F37_e N]
def F36_l1 (N : Nat) : LSpec where
  X := (List (List AV)) × Int × Int × Int × Int × Int × Int × Int × Int
  Y := (Int × Int × Int × Int)
  p := fun s => match s.env.length, s.nin, s.at 69, s.at 2, s.at 3, s.at 8, s.at 12, s.at 70, s.at 71, s.bx 8, s.bx 12 with
    | 83, 0, (AV.list 3 a0 none), (AV.v (.int .i64 a1)), (AV.v (.int .i64 a2)), (AV.ptr 8 0), (AV.ptr 12 0), (AV.v (.int .i64 a3)), (AV.v (.int .i64 a4)), some [(AV.v (.int .i64 a5)), (AV.v (.int .i64 a6))], some [(AV.v (.int .i64 a7)), (AV.v (.int .i64 a8))] => some (a0, a1, a2, a3, a4, a5, a6, a7, a8)
    | _, _, _, _, _, _, _, _, _, _, _ => none
  st := fun x => mkS 83 [(69, (AV.list 3 x.1 none)), (2, (AV.v (.int .i64 x.2.1))), (3, (AV.v (.int .i64 x.2.2.1))), (8, (AV.ptr 8 0)), (12, (AV.ptr 12 0)), (70, (AV.v (.int .i64 x.2.2.2.1))), (71, (AV.v (.int .i64 x.2.2.2.2.1)))] [(8, [(AV.v (.int .i64 x.2.2.2.2.2.1)), (AV.v (.int .i64 x.2.2.2.2.2.2.1))]), (12, [(AV.v (.int .i64 x.2.2.2.2.2.2.2.1)), (AV.v (.int .i64 x.2.2.2.2.2.2.2.2))])] [] 0
  out := fun y => (.exit 2, mkS 83 [(8, (AV.ptr 8 0)), (12, (AV.ptr 12 0))] [(8, [(AV.v (.int .i64 y.1)), (AV.v (.int .i64 y.2.1))]), (12, [(AV.v (.int .i64 y.2.2.1)), (AV.v (.int .i64 y.2.2.2))])] [] 0)
  sp := fun y α k => k (.exit 2, mkS 83 [(8, (AV.ptr 8 0)), (12, (AV.ptr 12 0))] [(8, [(AV.v (.int .i64 y.1)), (AV.v (.int .i64 y.2.1))]), (12, [(AV.v (.int .i64 y.2.2.1)), (AV.v (.int .i64 y.2.2.2))])] [] 0)
  spe := fun y α k => rfl
  b := fun x α kn ke => (match (decide (x.2.2.2.2.1 < x.2.2.2.1)) with | true => (if 0 ≤ x.2.2.2.2.1 then (match x.1[x.2.2.2.2.1.toNat]? with | some c58 => (match c58[0]? with | some x59 => (match x59 with | .v (.int q61 n60) => (if q61 = .i64 then (match c58[1]? with | some x62 => (match x62 with | .v (.int q64 n63) => (if q64 = .i64 then (match c58[2]? with | some x65 => (match x65 with | .v (.int q67 n66) => (if q67 = .i64 then (match F47_d N (n60, n63, n66, x.2.1, x.2.2.1) with | some y68 => (match F37_d N (x.2.2.2.2.2.2.2.1, x.2.2.2.2.2.2.2.2, y68.1, y68.2) with | some y69 => (kn (x.1, x.2.1, x.2.2.1, x.2.2.2.1, (i64 (x.2.2.2.2.1 + 1)), x.2.2.2.2.2.1, x.2.2.2.2.2.2.1, y69.1, y69.2)) | none => none) | none => none) else none) | _ => none) | none => none) else none) | _ => none) | none => none) else none) | _ => none) | none => none) | none => none) else none) | false => (ke (x.2.2.2.2.2.1, x.2.2.2.2.2.2.1, x.2.2.2.2.2.2.2.1, x.2.2.2.2.2.2.2.2)))
abbrev F36_d1 (N : Nat) (x : (List (List AV)) × Int × Int × Int × Int × Int × Int × Int × Int) : Option ((Int × Int × Int × Int)) := (F36_l1 N).L N x
def F36_l0 (N : Nat) : LSpec where
  X := (List (List AV)) × (List (List AV)) × Int × Int × Int × Int × Int
  Y := ((List (List AV)) × (List (List AV)) × Int × Int × Int × Int × Int)
  p := fun s => match s.env.length, s.nin, s.at 0, s.at 1, s.at 2, s.at 3, s.at 8, s.at 9, s.bx 8 with
    | 83, 0, (AV.list 3 a0 none), (AV.list 1 a1 none), (AV.v (.int .i64 a2)), (AV.v (.int .i64 a3)), (AV.ptr 8 0), (AV.v (.int .i64 a4)), some [(AV.v (.int .i64 a5)), (AV.v (.int .i64 a6))] => some (a0, a1, a2, a3, a4, a5, a6)
    | _, _, _, _, _, _, _, _, _ => none
  st := fun x => mkS 83 [(0, (AV.list 3 x.1 none)), (1, (AV.list 1 x.2.1 none)), (2, (AV.v (.int .i64 x.2.2.1))), (3, (AV.v (.int .i64 x.2.2.2.1))), (8, (AV.ptr 8 0)), (9, (AV.v (.int .i64 x.2.2.2.2.1)))] [(8, [(AV.v (.int .i64 x.2.2.2.2.2.1)), (AV.v (.int .i64 x.2.2.2.2.2.2))])] [] 0
  out := fun y => (.exit 0, mkS 83 [(0, (AV.list 3 y.1 none)), (1, (AV.list 1 y.2.1 none)), (2, (AV.v (.int .i64 y.2.2.1))), (3, (AV.v (.int .i64 y.2.2.2.1))), (8, (AV.ptr 8 0)), (9, (AV.v (.int .i64 y.2.2.2.2.1)))] [(8, [(AV.v (.int .i64 y.2.2.2.2.2.1)), (AV.v (.int .i64 y.2.2.2.2.2.2))])] [] 0)
  sp := fun y α k => k (.exit 0, mkS 83 [(0, (AV.list 3 y.1 none)), (1, (AV.list 1 y.2.1 none)), (2, (AV.v (.int .i64 y.2.2.1))), (3, (AV.v (.int .i64 y.2.2.2.1))), (8, (AV.ptr 8 0)), (9, (AV.v (.int .i64 y.2.2.2.2.1)))] [(8, [(AV.v (.int .i64 y.2.2.2.2.2.1)), (AV.v (.int .i64 y.2.2.2.2.2.2))])] [] 0)
  spe := fun y α k => rfl
  b := fun x α kn ke => (match (decide (x.2.2.2.2.1 < (x.1.length : Int))) with | true => (if 0 ≤ x.2.2.2.2.1 then (match x.1[x.2.2.2.2.1.toNat]? with | some c5 => (match (c5.drop 0)[0]? with | some x6 => (match x6 with | .v (.int q8 n7) => (if q8 = .i64 then (match (decide (n7 ≤ x.2.2.2.1)) with | true => (kn (x.1, x.2.1, x.2.2.1, x.2.2.2.1, (i64 (x.2.2.2.2.1 + 1)), x.2.2.2.2.2.1, x.2.2.2.2.2.2)) | false => (ke (x.1, x.2.1, x.2.2.1, x.2.2.2.1, x.2.2.2.2.1, x.2.2.2.2.2.1, x.2.2.2.2.2.2))) else none) | _ => none) | none => none) | none => none) else none) | false => (ke (x.1, x.2.1, x.2.2.1, x.2.2.2.1, x.2.2.2.2.1, x.2.2.2.2.2.1, x.2.2.2.2.2.2)))
abbrev F36_d0 (N : Nat) (x : (List (List AV)) × (List (List AV)) × Int × Int × Int × Int × Int) : Option (((List (List AV)) × (List (List AV)) × Int × Int × Int × Int × Int)) := (F36_l0 N).L N x
def F36_s (N : Nat) : FSpec where
  X := (List (List AV)) × (List (List AV)) × Int × Int
  Y := Int × Int
  ash := [[some 3], [some 1], [none], [none]]
  bsh := []
  pat := fun a b => match a, b with
    | [(AV.list 3 a0 none), (AV.list 1 a1 none), (AV.v (.int .i64 a2)), (AV.v (.int .i64 a3))], [] => some (a0, a1, a2, a3)
    | _, _ => none
  args := fun x => [(AV.list 3 x.1 none), (AV.list 1 x.2.1 none), (AV.v (.int .i64 x.2.2.1)), (AV.v (.int .i64 x.2.2.2))]
  bs := fun x => []
  ret := fun y => ⟨(AV.agg [(AV.v (.int .i64 y.1)), (AV.v (.int .i64 y.2))]), [], none⟩
  t := fun x α k => (match F36_d0 N (x.1, x.2.1, x.2.2.1, x.2.2.2, 0, 0, 0) with | some y9 => (match F50_d N (y9.2.1, y9.2.2.2.2.1) with | some y10 => (match y10 with | true => (if 0 ≤ (i64 (y9.2.2.2.2.1 - 1)) then (match y9.1[(i64 (y9.2.2.2.2.1 - 1)).toNat]? with | some c11 => (match c11[0]? with | some x12 => (match x12 with | .v (.int q14 n13) => (if q14 = .i64 then (match c11[1]? with | some x15 => (match x15 with | .v (.int q17 n16) => (if q17 = .i64 then (match c11[2]? with | some x18 => (match x18 with | .v (.int q20 n19) => (if q20 = .i64 then (match F47_d N (n13, n16, n19, y9.2.2.1, y9.2.2.2.1) with | some y21 => (if 0 ≤ y9.2.2.2.2.1 then (match y9.1[y9.2.2.2.2.1.toNat]? with | some c22 => (match c22[0]? with | some x23 => (match x23 with | .v (.int q25 n24) => (if q25 = .i64 then (match c22[1]? with | some x26 => (match x26 with | .v (.int q28 n27) => (if q28 = .i64 then (match c22[2]? with | some x29 => (match x29 with | .v (.int q31 n30) => (if q31 = .i64 then (match F47_d N (n24, n27, n30, y9.2.2.1, y9.2.2.2.1) with | some y32 => (match F51_d N (y21.1, y21.2, y32.1, y32.2) with | some y33 => (k (y33.1, y33.2)) | none => none) | none => none) else none) | _ => none) | none => none) else none) | _ => none) | none => none) else none) | _ => none) | none => none) | none => none) else none) | none => none) else none) | _ => none) | none => none) else none) | _ => none) | none => none) else none) | _ => none) | none => none) | none => none) else none) | false => (match F52_d N (y9.2.1, (y9.1.length : Int), (if 0 > (i64 (y9.2.2.2.2.1 - 1)) then 0 else (i64 (y9.2.2.2.2.1 - 1)))) with | some y34 => (if 0 ≤ y34.1 then (match y9.1[y34.1.toNat]? with | some c35 => (match c35[0]? with | some x36 => (match x36 with | .v (.int q38 n37) => (if q38 = .i64 then (match c35[1]? with | some x39 => (match x39 with | .v (.int q41 n40) => (if q41 = .i64 then (match c35[2]? with | some x42 => (match x42 with | .v (.int q44 n43) => (if q44 = .i64 then (match F47_d N (n37, n40, n43, y9.2.2.1, y9.2.2.2.1) with | some y45 => (if 0 ≤ y34.1 ∧ y34.1 ≤ y34.2 ∧ y34.2 ≤ y9.1.length then (match F36_d1 N (((y9.1.take y34.2.toNat).drop y34.1.toNat), y9.2.2.1, y9.2.2.2.1, (((y9.1.take y34.2.toNat).drop y34.1.toNat).length : Int), 0, y9.2.2.2.2.2.1, y9.2.2.2.2.2.2, y45.1, y45.2) with | some y70 => (k (y70.2.2.1, y70.2.2.2)) | none => none) else none) | none => none) else none) | _ => none) | none => none) else none) | _ => none) | none => none) else none) | _ => none) | none => none) | none => none) else none) | none => none)) | none => none) | none => none)
abbrev F36_d (N : Nat) (x : (List (List AV)) × (List (List AV)) × Int × Int) : Option (Int × Int) := (F36_s N).d x
theorem F36_par1 (N : Nat) : Par (F36_l1 N).b := by
  intro x α β kn ke kn' ke' r r' h h1 h2
  revert h
  dsimp only [F36_l1]
  (repeat' (first | (with_reducible refine par_ite ?_ ?_) | split)) <;> intro h <;> first | exact h1 _ h | exact h2 _ h | (cases h; done)
theorem F36_body1 (N : Nat) (x : (F36_l1 N).X) (α : Type) (kn : AS → Option α) (ke : Out → Option α) : around (tabOf Try.prog) (F36_g N) F36_an (lam N [F36_l0 N, F36_l1 N]) 1 (nthLoop 1 (Try.f36.body.getD .skip)) ((F36_l1 N).st x) kn ke = (F36_l1 N).b x α (fun x' => kn ((F36_l1 N).st x')) (fun y => (F36_l1 N).sp y α ke) := by kernel_rfl
theorem F36_pat1 (N : Nat) (s : AS) (x : (F36_l1 N).X) (hc : s = canon (F36_an 1).1 s) (h : (F36_l1 N).p s = some x) : s = (F36_l1 N).st x := by
  dsimp only [F36_l1] at h
  split at h
  · cases h
    exact canon_mk hc ‹_› ‹_› rfl rfl rfl ⟨‹_›, ‹_›, ‹_›, ‹_›, ‹_›, ‹_›, ‹_›, trivial⟩ ⟨‹_›, ‹_›, trivial⟩
  · cases h
theorem F36_loop1 (N : Nat) : ∀ s o, s = canon (F36_an 1).1 s → (lam N [F36_l0 N, F36_l1 N]).v 1 s = some o → LoopSem Try.prog (nthLoop 1 (Try.f36.body.getD .skip)) s o :=
  loop_ok (tabOf_ok Try.prog) (gam_ok _) mixed F36_an N [F36_l0 N, F36_l1 N] 1 _ (by
    have e : loopsOf (nthLoop 1 (Try.f36.body.getD .skip)) (1 + 1) = [] := by kernel_rfl
    rw [e]
    intro p hp
    cases hp) (F36_l1 N) rfl (fun s x hc h => F36_pat1 N s x hc h) (fun x => rfl) (fun x α kn ke => (F36_body1 N x α kn ke).trans (congrArg ((F36_l1 N).b x α _) (funext fun y => (F36_l1 N).spe y α ke))) (F36_par1 N)
theorem F36_par0 (N : Nat) : Par (F36_l0 N).b := by
  intro x α β kn ke kn' ke' r r' h h1 h2
  revert h
  dsimp only [F36_l0]
  (repeat' (first | (with_reducible refine par_ite ?_ ?_) | split)) <;> intro h <;> first | exact h1 _ h | exact h2 _ h | (cases h; done)
theorem F36_body0 (N : Nat) (x : (F36_l0 N).X) (α : Type) (kn : AS → Option α) (ke : Out → Option α) : around (tabOf Try.prog) (F36_g N) F36_an (lam N [F36_l0 N, F36_l1 N]) 0 (nthLoop 0 (Try.f36.body.getD .skip)) ((F36_l0 N).st x) kn ke = (F36_l0 N).b x α (fun x' => kn ((F36_l0 N).st x')) (fun y => (F36_l0 N).sp y α ke) := by kernel_rfl
theorem F36_pat0 (N : Nat) (s : AS) (x : (F36_l0 N).X) (hc : s = canon (F36_an 0).1 s) (h : (F36_l0 N).p s = some x) : s = (F36_l0 N).st x := by
  dsimp only [F36_l0] at h
  split at h
  · cases h
    exact canon_mk hc ‹_› ‹_› rfl rfl rfl ⟨‹_›, ‹_›, ‹_›, ‹_›, ‹_›, ‹_›, trivial⟩ ⟨‹_›, trivial⟩
  · cases h
theorem F36_loop0 (N : Nat) : ∀ s o, s = canon (F36_an 0).1 s → (lam N [F36_l0 N, F36_l1 N]).v 0 s = some o → LoopSem Try.prog (nthLoop 0 (Try.f36.body.getD .skip)) s o :=
  loop_ok (tabOf_ok Try.prog) (gam_ok _) mixed F36_an N [F36_l0 N, F36_l1 N] 0 _ (by
    have e : loopsOf (nthLoop 0 (Try.f36.body.getD .skip)) (0 + 1) = [] := by kernel_rfl
    rw [e]
    intro p hp
    cases hp) (F36_l0 N) rfl (fun s x hc h => F36_pat0 N s x hc h) (fun x => rfl) (fun x α kn ke => (F36_body0 N x α kn ke).trans (congrArg ((F36_l0 N).b x α _) (funext fun y => (F36_l0 N).spe y α ke))) (F36_par0 N)
theorem F36_parF (N : Nat) : ParF (F36_s N).t := by
  intro x α β k k' r r' h h1
  revert h
  dsimp only [F36_s]
  (repeat' (first | (with_reducible refine par_ite ?_ ?_) | split)) <;> intro h <;> first | exact h1 _ h | (cases h; done)
theorem F36_text (N : Nat) (x : (F36_s N).X) : acall (tabOf Try.prog) (F36_g N) F36_an (lam N [F36_l0 N, F36_l1 N]) Try.f36 [[none, none]] ((F36_s N).args x) ((F36_s N).bs x) = (F36_s N).t x Ret (fun y => some ((F36_s N).ret y)) := by kernel_rfl
theorem F36_pat (N : Nat) (a : List AV) (b : List (List AV)) (x : (F36_s N).X) (h : (F36_s N).pat a b = some x) : a = (F36_s N).args x ∧ b = (F36_s N).bs x := by
  dsimp only [F36_s] at h
  split at h
  · cases h; exact ⟨rfl, rfl⟩
  · cases h
noncomputable def F36_e (N : Nat) : Ent Try.prog := entOf (tabOf_ok Try.prog) (gam_ok _) mixed 36 Try.f36 Try.func36 rfl F36_an (lam N [F36_l0 N, F36_l1 N]) (by
    have e : loopsOf (Try.f36.body.getD .skip) 0 = [(0, nthLoop 0 (Try.f36.body.getD .skip)), (1, nthLoop 1 (Try.f36.body.getD .skip))] := by kernel_rfl
    rw [e]
    intro p hp
    rcases List.mem_cons.1 hp with rfl | hp
    · exact F36_loop0 N
    rcases List.mem_cons.1 hp with rfl | hp
    · exact F36_loop1 N
    cases hp) [[none, none]] (F36_s N) (F36_text N) (F36_pat N) (F36_parF N)
/-! ### seismonet/clock.Correct (function 15) -/
def F15_an : Nat → Keep × Keep := anL []
noncomputable def F15_g (N : Nat) : GamK := gam (P := Try.prog) [F16_e N, F35_e N, F36_e N, F37_e N]
def F15_s (N : Nat) : FSpec where
  X := (List (List AV)) × Int × Int
  Y := Int × Int × Int
  ash := [[some 3], [none], [none]]
  bsh := []
  pat := fun a b => match a, b with
    | [(AV.list 3 a0 none), (AV.v (.int .i64 a1)), (AV.v (.int .i64 a2))], [] => some (a0, a1, a2)
    | _, _ => none
  args := fun x => [(AV.list 3 x.1 none), (AV.v (.int .i64 x.2.1)), (AV.v (.int .i64 x.2.2))]
  bs := fun x => []
  ret := fun y => ⟨(AV.tup [(AV.v (.int .i64 y.1)), (AV.v (.int .i64 y.2.1)), (AV.v (.int .i64 y.2.2))]), [], none⟩
  t := fun x α k => (match F16_d N (x.1, x.2.1) with | some y1 => (match (y1.2 != 0) with | true => (k (0, 0, 1)) | false => (match F35_d N x.2.2 with | some y2 => (match (!y2) with | true => (k (0, 0, 1)) | false => (match ((x.1.length : Int) == 0) with | true => (k (0, 0, 6)) | false => (match F36_d N (x.1, y1.1, x.2.1, x.2.2) with | some y3 => (match F37_d N (y3.1, y3.2, 0, 9007199254740992) with | some y4 => (match (decide (y4.1 > y4.2)) with | true => (k (0, 0, 11)) | false => (k ((i64 ((i64 (y4.1 + y4.2)).tdiv 2)), (i64 (y4.2 - (i64 ((i64 (y4.1 + y4.2)).tdiv 2)))), 0))) | none => none) | none => none))) | none => none)) | none => none)
abbrev F15_d (N : Nat) (x : (List (List AV)) × Int × Int) : Option (Int × Int × Int) := (F15_s N).d x
theorem F15_parF (N : Nat) : ParF (F15_s N).t := by
  intro x α β k k' r r' h h1
  revert h
  dsimp only [F15_s]
  (repeat' (first | (with_reducible refine par_ite ?_ ?_) | split)) <;> intro h <;> first | exact h1 _ h | (cases h; done)
theorem F15_text (N : Nat) (x : (F15_s N).X) : acall (tabOf Try.prog) (F15_g N) F15_an (lam N []) Try.f15 [[none], [none], [none]] ((F15_s N).args x) ((F15_s N).bs x) = (F15_s N).t x Ret (fun y => some ((F15_s N).ret y)) := by kernel_rfl
theorem F15_pat (N : Nat) (a : List AV) (b : List (List AV)) (x : (F15_s N).X) (h : (F15_s N).pat a b = some x) : a = (F15_s N).args x ∧ b = (F15_s N).bs x := by
  dsimp only [F15_s] at h
  split at h
  · cases h; exact ⟨rfl, rfl⟩
  · cases h
noncomputable def F15_e (N : Nat) : Ent Try.prog := entOf (tabOf_ok Try.prog) (gam_ok _) mixed 15 Try.f15 Try.func15 rfl F15_an (lam N []) (by
    have e : loopsOf (Try.f15.body.getD .skip) 0 = [] := by kernel_rfl
    rw [e]
    intro p hp
    cases hp) [[none], [none], [none]] (F15_s N) (F15_text N) (F15_pat N) (F15_parF N)
/-! ### seismonet/seismonetlaw13.sane (function 11) -/
def F11_an : Nat → Keep × Keep := anL []
noncomputable def F11_g (N : Nat) : GamK := gam (P := Try.prog) [F15_e N, F16_e N]
def F11_s (N : Nat) : FSpec where
  X := Unit
  Y := Bool
  ash := []
  bsh := []
  pat := fun a b => match a, b with
    | [], [] => some ()
    | _, _ => none
  args := fun x => []
  bs := fun x => []
  ret := fun y => ⟨(AV.v (.bool y)), [], none⟩
  t := fun x α k => (match F15_d N ([[(AV.v (.int .i64 1000)), (AV.v (.int .i64 5000)), (AV.v (.int .i64 5010))]], 0, 1100) with | some y1 => (match F15_d N ([[(AV.v (.int .i64 0)), (AV.v (.int .i64 0)), (AV.v (.int .i64 0))], [(AV.v (.int .i64 1000)), (AV.v (.int .i64 5000)), (AV.v (.int .i64 5000))]], 0, 500) with | some y2 => (match F16_d N ([[(AV.v (.int .i64 0)), (AV.v (.int .i64 0)), (AV.v (.int .i64 0))], [(AV.v (.int .i64 1000)), (AV.v (.int .i64 5000)), (AV.v (.int .i64 5000))]], 0) with | some y3 => (match (y1.2.2 == 0) with | true => (match (y2.2.2 == 0) with | true => (match (y3.2 == 0) with | true => (match (y1.1 == 5105) with | true => (match (y1.2.1 == 5) with | true => (match (y2.1 == 2500) with | true => (match (y2.2.1 == 2000) with | true => (match ((y3.1.length : Int) == 1) with | true => (if 0 ≤ 0 then (match y3.1[(0 : Int).toNat]? with | some c4 => (match c4[0]? with | some x5 => (match x5 with | .v (.int q7 n6) => (if q7 = .i64 then (k (n6 == 1)) else none) | _ => none) | none => none) | none => none) else none) | false => (k false)) | false => (k false)) | false => (k false)) | false => (k false)) | false => (k false)) | false => (k false)) | false => (k false)) | false => (k false)) | none => none) | none => none) | none => none)
abbrev F11_d (N : Nat) (x : Unit) : Option (Bool) := (F11_s N).d x
theorem F11_parF (N : Nat) : ParF (F11_s N).t := by
  intro x α β k k' r r' h h1
  revert h
  dsimp only [F11_s]
  (repeat' (first | (with_reducible refine par_ite ?_ ?_) | split)) <;> intro h <;> first | exact h1 _ h | (cases h; done)
theorem F11_text (N : Nat) (x : (F11_s N).X) : acall (tabOf Try.prog) (F11_g N) F11_an (lam N []) Try.f11 [[none]] ((F11_s N).args x) ((F11_s N).bs x) = (F11_s N).t x Ret (fun y => some ((F11_s N).ret y)) := by kernel_rfl
theorem F11_pat (N : Nat) (a : List AV) (b : List (List AV)) (x : (F11_s N).X) (h : (F11_s N).pat a b = some x) : a = (F11_s N).args x ∧ b = (F11_s N).bs x := by
  dsimp only [F11_s] at h
  split at h
  · cases h; exact ⟨rfl, rfl⟩
  · cases h
noncomputable def F11_e (N : Nat) : Ent Try.prog := entOf (tabOf_ok Try.prog) (gam_ok _) mixed 11 Try.f11 Try.func11 rfl F11_an (lam N []) (by
    have e : loopsOf (Try.f11.body.getD .skip) 0 = [] := by kernel_rfl
    rw [e]
    intro p hp
    cases hp) [[none]] (F11_s N) (F11_text N) (F11_pat N) (F11_parF N)
/-! ### seismonet/seismonetmade.Roll (function 12) -/
def F12_an : Nat → Keep × Keep := anL []
noncomputable def F12_g (N : Nat) : GamK := gam (P := Try.prog) []
def F12_s (N : Nat) : FSpec where
  X := (List (List AV))
  Y := (List (List AV)) × Int
  ash := [[some 1]]
  bsh := []
  pat := fun a b => match a, b with
    | [(AV.list 1 a0 none)], [] => some a0
    | _, _ => none
  args := fun x => [(AV.list 1 x none)]
  bs := fun x => []
  ret := fun y => ⟨AV.any, [], some [(AV.list 1 y.1 none), (AV.v (.int .i64 y.2))]⟩
  t := fun x α k => (k (x, 0))
abbrev F12_d (N : Nat) (x : (List (List AV))) : Option ((List (List AV)) × Int) := (F12_s N).d x
theorem F12_parF (N : Nat) : ParF (F12_s N).t := by
  intro x α β k k' r r' h h1
  revert h
  dsimp only [F12_s]
  (repeat' (first | (with_reducible refine par_ite ?_ ?_) | split)) <;> intro h <;> first | exact h1 _ h | (cases h; done)
theorem F12_text (N : Nat) (x : (F12_s N).X) : acall (tabOf Try.prog) (F12_g N) F12_an (lam N []) Try.f12 [[none]] ((F12_s N).args x) ((F12_s N).bs x) = (F12_s N).t x Ret (fun y => some ((F12_s N).ret y)) := by kernel_rfl
theorem F12_pat (N : Nat) (a : List AV) (b : List (List AV)) (x : (F12_s N).X) (h : (F12_s N).pat a b = some x) : a = (F12_s N).args x ∧ b = (F12_s N).bs x := by
  dsimp only [F12_s] at h
  split at h
  · cases h; exact ⟨rfl, rfl⟩
  · cases h
noncomputable def F12_e (N : Nat) : Ent Try.prog := entOf (tabOf_ok Try.prog) (gam_ok _) mixed 12 Try.f12 Try.func12 rfl F12_an (lam N []) (by
    have e : loopsOf (Try.f12.body.getD .skip) 0 = [] := by kernel_rfl
    rw [e]
    intro p hp
    cases hp) [[none]] (F12_s N) (F12_text N) (F12_pat N) (F12_parF N)
/-! ### (*seismonet/seismonetmade.Dice).Next (function 18) -/
def F18_an : Nat → Keep × Keep := anL []
noncomputable def F18_g (N : Nat) : GamK := gam (P := Try.prog) []
def F18_s (N : Nat) : FSpec where
  X := Int × (List (List AV)) × Int
  Y := Int × (List (List AV)) × Int
  ash := [[none], [none]]
  bsh := [[some 1, none]]
  pat := fun a b => match a, b with
    | [(AV.ptr 0 0), (AV.v (.int .i64 a0))], [[(AV.list 1 a1 none), (AV.v (.int .i64 a2))]] => some (a0, a1, a2)
    | _, _ => none
  args := fun x => [(AV.ptr 0 0), (AV.v (.int .i64 x.1))]
  bs := fun x => [[(AV.list 1 x.2.1 none), (AV.v (.int .i64 x.2.2))]]
  ret := fun y => ⟨(AV.v (.int .i64 y.1)), [[(AV.list 1 y.2.1 none), (AV.v (.int .i64 y.2.2))]], none⟩
  t := fun x α k => (match (decide (x.2.2 ≥ (x.2.1.length : Int))) with | true => (k (0, x.2.1, x.2.2)) | false => (match (decide (x.1 < 1)) with | true => (k (0, x.2.1, x.2.2)) | false => (if 0 ≤ x.2.2 then (match x.2.1[x.2.2.toNat]? with | some c1 => (match c1[0]? with | some x2 => (match x2 with | .v (.int q4 n3) => (if q4 = .i64 then (if x.1 = 0 then none else (match (decide ((n3.tmod x.1) < 0)) with | true => (k ((i64 ((n3.tmod x.1) + x.1)), x.2.1, (i64 (x.2.2 + 1)))) | false => (k ((n3.tmod x.1), x.2.1, (i64 (x.2.2 + 1)))))) else none) | _ => none) | none => none) | none => none) else none)))
abbrev F18_d (N : Nat) (x : Int × (List (List AV)) × Int) : Option (Int × (List (List AV)) × Int) := (F18_s N).d x
theorem F18_parF (N : Nat) : ParF (F18_s N).t := by
  intro x α β k k' r r' h h1
  revert h
  dsimp only [F18_s]
  (repeat' (first | (with_reducible refine par_ite ?_ ?_) | split)) <;> intro h <;> first | exact h1 _ h | (cases h; done)
theorem F18_text (N : Nat) (x : (F18_s N).X) : acall (tabOf Try.prog) (F18_g N) F18_an (lam N []) Try.f18 [[none]] ((F18_s N).args x) ((F18_s N).bs x) = (F18_s N).t x Ret (fun y => some ((F18_s N).ret y)) := by kernel_rfl
theorem F18_pat (N : Nat) (a : List AV) (b : List (List AV)) (x : (F18_s N).X) (h : (F18_s N).pat a b = some x) : a = (F18_s N).args x ∧ b = (F18_s N).bs x := by
  dsimp only [F18_s] at h
  split at h
  · cases h; exact ⟨rfl, rfl⟩
  · cases h
noncomputable def F18_e (N : Nat) : Ent Try.prog := entOf (tabOf_ok Try.prog) (gam_ok _) mixed 18 Try.f18 Try.func18 rfl F18_an (lam N []) (by
    have e : loopsOf (Try.f18.body.getD .skip) 0 = [] := by kernel_rfl
    rw [e]
    intro p hp
    cases hp) [[none]] (F18_s N) (F18_text N) (F18_pat N) (F18_parF N)
/-! ### (*seismonet/seismonetmade.Dice).Pick (function 23) -/
def F23_an : Nat → Keep × Keep := anL []
noncomputable def F23_g (N : Nat) : GamK := gam (P := Try.prog) [F18_e N]
def F23_s (N : Nat) : FSpec where
  X := (List (List AV)) × (List (List AV)) × Int
  Y := Int × (List (List AV)) × Int
  ash := [[none], [some 1]]
  bsh := [[some 1, none]]
  pat := fun a b => match a, b with
    | [(AV.ptr 0 0), (AV.list 1 a0 none)], [[(AV.list 1 a1 none), (AV.v (.int .i64 a2))]] => some (a0, a1, a2)
    | _, _ => none
  args := fun x => [(AV.ptr 0 0), (AV.list 1 x.1 none)]
  bs := fun x => [[(AV.list 1 x.2.1 none), (AV.v (.int .i64 x.2.2))]]
  ret := fun y => ⟨(AV.v (.int .i64 y.1)), [[(AV.list 1 y.2.1 none), (AV.v (.int .i64 y.2.2))]], none⟩
  t := fun x α k => (match F18_d N ((x.1.length : Int), x.2.1, x.2.2) with | some y1 => (if 0 ≤ y1.1 then (match x.1[y1.1.toNat]? with | some c2 => (match c2[0]? with | some x3 => (match x3 with | .v (.int q5 n4) => (if q5 = .i64 then (k (n4, y1.2.1, y1.2.2)) else none) | _ => none) | none => none) | none => none) else none) | none => none)
abbrev F23_d (N : Nat) (x : (List (List AV)) × (List (List AV)) × Int) : Option (Int × (List (List AV)) × Int) := (F23_s N).d x
theorem F23_parF (N : Nat) : ParF (F23_s N).t := by
  intro x α β k k' r r' h h1
  revert h
  dsimp only [F23_s]
  (repeat' (first | (with_reducible refine par_ite ?_ ?_) | split)) <;> intro h <;> first | exact h1 _ h | (cases h; done)
theorem F23_text (N : Nat) (x : (F23_s N).X) : acall (tabOf Try.prog) (F23_g N) F23_an (lam N []) Try.f23 [[none]] ((F23_s N).args x) ((F23_s N).bs x) = (F23_s N).t x Ret (fun y => some ((F23_s N).ret y)) := by kernel_rfl
theorem F23_pat (N : Nat) (a : List AV) (b : List (List AV)) (x : (F23_s N).X) (h : (F23_s N).pat a b = some x) : a = (F23_s N).args x ∧ b = (F23_s N).bs x := by
  dsimp only [F23_s] at h
  split at h
  · cases h; exact ⟨rfl, rfl⟩
  · cases h
noncomputable def F23_e (N : Nat) : Ent Try.prog := entOf (tabOf_ok Try.prog) (gam_ok _) mixed 23 Try.f23 Try.func23 rfl F23_an (lam N []) (by
    have e : loopsOf (Try.f23.body.getD .skip) 0 = [] := by kernel_rfl
    rw [e]
    intro p hp
    cases hp) [[none]] (F23_s N) (F23_text N) (F23_pat N) (F23_parF N)
/-! ### (*seismonet/seismonetmade.Dice).Anchors (function 13) -/
def F13_an : Nat → Keep × Keep := anL [(⟨[0, 1, 5, 6, 7, 8], [(4, 3)], [0], [], []⟩, ⟨[5], [(4, 3)], [0], [], []⟩)]
noncomputable def F13_g (N : Nat) : GamK := gam (P := Try.prog) [F23_e N, F18_e N]
def F13_l0 (N : Nat) : LSpec where
  X := (List (List AV)) × Bool × Int × Int × Int × Int × (List (List AV)) × Int
  Y := ((List (List AV)) × Int × (List (List AV)) × Int)
  p := fun s => match s.env.length, s.nin, s.at 4, s.at 0, s.at 1, s.at 5, s.at 6, s.at 7, s.at 8, s.bx 0 with
    | 55, 1, (AV.list 3 a0 (some 4)), (AV.ptr 0 0), (AV.v (.bool a1)), (AV.v (.int .i64 a2)), (AV.v (.int .i64 a3)), (AV.v (.int .i64 a4)), (AV.v (.int .i64 a5)), some [(AV.list 1 a6 none), (AV.v (.int .i64 a7))] => some (a0, a1, a2, a3, a4, a5, a6, a7)
    | _, _, _, _, _, _, _, _, _, _ => none
  st := fun x => mkS 55 [(4, (AV.list 3 x.1 (some 4))), (0, (AV.ptr 0 0)), (1, (AV.v (.bool x.2.1))), (5, (AV.v (.int .i64 x.2.2.1))), (6, (AV.v (.int .i64 x.2.2.2.1))), (7, (AV.v (.int .i64 x.2.2.2.2.1))), (8, (AV.v (.int .i64 x.2.2.2.2.2.1)))] [(0, [(AV.list 1 x.2.2.2.2.2.2.1 none), (AV.v (.int .i64 x.2.2.2.2.2.2.2))])] [4] 1
  out := fun y => (.exit 0, mkS 55 [(4, (AV.list 3 y.1 (some 4))), (5, (AV.v (.int .i64 y.2.1)))] [(0, [(AV.list 1 y.2.2.1 none), (AV.v (.int .i64 y.2.2.2))])] [4] 1)
  sp := fun y α k => k (.exit 0, mkS 55 [(4, (AV.list 3 y.1 (some 4))), (5, (AV.v (.int .i64 y.2.1)))] [(0, [(AV.list 1 y.2.2.1 none), (AV.v (.int .i64 y.2.2.2))])] [4] 1)
  spe := fun y α k => rfl
  b := fun x α kn ke => (match (decide (x.2.2.2.2.2.1 > 0)) with | true => (match F18_d N (20, x.2.2.2.2.2.2.1, x.2.2.2.2.2.2.2) with | some y12 => (match x.2.1 with | true => (match F18_d N (4, y12.2.1, y12.2.2) with | some y13 => (match (y13.1 == 0) with | true => (match F23_d N ([[(AV.v (.int .i64 (-500)))], [(AV.v (.int .i64 700))], [(AV.v (.int .i64 2000000))]], y13.2.1, y13.2.2) with | some y14 => (match F18_d N (40, y14.2.1, y14.2.2) with | some y15 => (match F18_d N (40, y15.2.1, y15.2.2) with | some y16 => (if (x.1.length + [[(AV.v (.int .i64 (i64 (x.2.2.2.1 + (i64 (1000 * (i64 (1 + y12.1)))))))), (AV.v (.int .i64 (i64 ((i64 ((i64 (x.2.2.2.2.1 + (i64 (1000 * (i64 (1 + y12.1)))))) + y14.1)) - y15.1)))), (AV.v (.int .i64 (i64 ((i64 ((i64 (x.2.2.2.2.1 + (i64 (1000 * (i64 (1 + y12.1)))))) + y14.1)) + y16.1))))]].length) * 24 ≤ maxBytes then (kn ((x.1 ++ [[(AV.v (.int .i64 (i64 (x.2.2.2.1 + (i64 (1000 * (i64 (1 + y12.1)))))))), (AV.v (.int .i64 (i64 ((i64 ((i64 (x.2.2.2.2.1 + (i64 (1000 * (i64 (1 + y12.1)))))) + y14.1)) - y15.1)))), (AV.v (.int .i64 (i64 ((i64 ((i64 (x.2.2.2.2.1 + (i64 (1000 * (i64 (1 + y12.1)))))) + y14.1)) + y16.1))))]]), x.2.1, x.2.2.1, (i64 (x.2.2.2.1 + (i64 (1000 * (i64 (1 + y12.1)))))), (i64 ((i64 (x.2.2.2.2.1 + (i64 (1000 * (i64 (1 + y12.1)))))) + y14.1)), (i64 (x.2.2.2.2.2.1 - 1)), y16.2.1, y16.2.2)) else none) | none => none) | none => none) | none => none) | false => (match F18_d N (40, y13.2.1, y13.2.2) with | some y17 => (match F18_d N (40, y17.2.1, y17.2.2) with | some y18 => (if (x.1.length + [[(AV.v (.int .i64 (i64 (x.2.2.2.1 + (i64 (1000 * (i64 (1 + y12.1)))))))), (AV.v (.int .i64 (i64 ((i64 (x.2.2.2.2.1 + (i64 (1000 * (i64 (1 + y12.1)))))) - y17.1)))), (AV.v (.int .i64 (i64 ((i64 (x.2.2.2.2.1 + (i64 (1000 * (i64 (1 + y12.1)))))) + y18.1))))]].length) * 24 ≤ maxBytes then (kn ((x.1 ++ [[(AV.v (.int .i64 (i64 (x.2.2.2.1 + (i64 (1000 * (i64 (1 + y12.1)))))))), (AV.v (.int .i64 (i64 ((i64 (x.2.2.2.2.1 + (i64 (1000 * (i64 (1 + y12.1)))))) - y17.1)))), (AV.v (.int .i64 (i64 ((i64 (x.2.2.2.2.1 + (i64 (1000 * (i64 (1 + y12.1)))))) + y18.1))))]]), x.2.1, x.2.2.1, (i64 (x.2.2.2.1 + (i64 (1000 * (i64 (1 + y12.1)))))), (i64 (x.2.2.2.2.1 + (i64 (1000 * (i64 (1 + y12.1)))))), (i64 (x.2.2.2.2.2.1 - 1)), y18.2.1, y18.2.2)) else none) | none => none) | none => none)) | none => none) | false => (match F18_d N (40, y12.2.1, y12.2.2) with | some y19 => (match F18_d N (40, y19.2.1, y19.2.2) with | some y20 => (if (x.1.length + [[(AV.v (.int .i64 (i64 (x.2.2.2.1 + (i64 (1000 * (i64 (1 + y12.1)))))))), (AV.v (.int .i64 (i64 ((i64 (x.2.2.2.2.1 + (i64 (1000 * (i64 (1 + y12.1)))))) - y19.1)))), (AV.v (.int .i64 (i64 ((i64 (x.2.2.2.2.1 + (i64 (1000 * (i64 (1 + y12.1)))))) + y20.1))))]].length) * 24 ≤ maxBytes then (kn ((x.1 ++ [[(AV.v (.int .i64 (i64 (x.2.2.2.1 + (i64 (1000 * (i64 (1 + y12.1)))))))), (AV.v (.int .i64 (i64 ((i64 (x.2.2.2.2.1 + (i64 (1000 * (i64 (1 + y12.1)))))) - y19.1)))), (AV.v (.int .i64 (i64 ((i64 (x.2.2.2.2.1 + (i64 (1000 * (i64 (1 + y12.1)))))) + y20.1))))]]), x.2.1, x.2.2.1, (i64 (x.2.2.2.1 + (i64 (1000 * (i64 (1 + y12.1)))))), (i64 (x.2.2.2.2.1 + (i64 (1000 * (i64 (1 + y12.1)))))), (i64 (x.2.2.2.2.2.1 - 1)), y20.2.1, y20.2.2)) else none) | none => none) | none => none)) | none => none) | false => (ke (x.1, x.2.2.1, x.2.2.2.2.2.2.1, x.2.2.2.2.2.2.2)))
abbrev F13_d0 (N : Nat) (x : (List (List AV)) × Bool × Int × Int × Int × Int × (List (List AV)) × Int) : Option (((List (List AV)) × Int × (List (List AV)) × Int)) := (F13_l0 N).L N x
def F13_s (N : Nat) : FSpec where
  X := Bool × (List (List AV)) × Int
  Y := (List (List AV)) × Int × (List (List AV)) × Int
  ash := [[none], [none]]
  bsh := [[some 1, none]]
  pat := fun a b => match a, b with
    | [(AV.ptr 0 0), (AV.v (.bool a0))], [[(AV.list 1 a1 none), (AV.v (.int .i64 a2))]] => some (a0, a1, a2)
    | _, _ => none
  args := fun x => [(AV.ptr 0 0), (AV.v (.bool x.1))]
  bs := fun x => [[(AV.list 1 x.2.1 none), (AV.v (.int .i64 x.2.2))]]
  ret := fun y => ⟨(AV.tup [(AV.list 3 y.1 none), (AV.v (.int .i64 y.2.1))]), [[(AV.list 1 y.2.2.1 none), (AV.v (.int .i64 y.2.2.2))]], none⟩
  t := fun x α k => (match F23_d N ([[(AV.v (.int .i64 0))], [(AV.v (.int .i64 0))], [(AV.v (.int .i64 100))], [(AV.v (.int .i64 50000))]], x.2.1, x.2.2) with | some y1 => (match F18_d N (6, y1.2.1, y1.2.2) with | some y2 => (match F13_d0 N (([] : List (List AV)), x.1, y1.1, 1000, 1000000000000, y2.1, y2.2.1, y2.2.2) with | some y21 => (k (y21.1, y21.2.1, y21.2.2.1, y21.2.2.2)) | none => none) | none => none) | none => none)
abbrev F13_d (N : Nat) (x : Bool × (List (List AV)) × Int) : Option ((List (List AV)) × Int × (List (List AV)) × Int) := (F13_s N).d x
theorem F13_par0 (N : Nat) : Par (F13_l0 N).b := by
  intro x α β kn ke kn' ke' r r' h h1 h2
  revert h
  dsimp only [F13_l0]
  (repeat' (first | (with_reducible refine par_ite ?_ ?_) | split)) <;> intro h <;> first | exact h1 _ h | exact h2 _ h | (cases h; done)
theorem F13_body0 (N : Nat) (x : (F13_l0 N).X) (α : Type) (kn : AS → Option α) (ke : Out → Option α) : around (tabOf Try.prog) (F13_g N) F13_an (lam N [F13_l0 N]) 0 (nthLoop 0 (Try.f13.body.getD .skip)) ((F13_l0 N).st x) kn ke = (F13_l0 N).b x α (fun x' => kn ((F13_l0 N).st x')) (fun y => (F13_l0 N).sp y α ke) := by kernel_rfl
theorem F13_pat0 (N : Nat) (s : AS) (x : (F13_l0 N).X) (hc : s = canon (F13_an 0).1 s) (h : (F13_l0 N).p s = some x) : s = (F13_l0 N).st x := by
  dsimp only [F13_l0] at h
  split at h
  · cases h
    exact canon_mk hc ‹_› ‹_› rfl rfl rfl ⟨‹_›, ‹_›, ‹_›, ‹_›, ‹_›, ‹_›, ‹_›, trivial⟩ ⟨‹_›, trivial⟩
  · cases h
theorem F13_loop0 (N : Nat) : ∀ s o, s = canon (F13_an 0).1 s → (lam N [F13_l0 N]).v 0 s = some o → LoopSem Try.prog (nthLoop 0 (Try.f13.body.getD .skip)) s o :=
  loop_ok (tabOf_ok Try.prog) (gam_ok _) mixed F13_an N [F13_l0 N] 0 _ (by
    have e : loopsOf (nthLoop 0 (Try.f13.body.getD .skip)) (0 + 1) = [] := by kernel_rfl
    rw [e]
    intro p hp
    cases hp) (F13_l0 N) rfl (fun s x hc h => F13_pat0 N s x hc h) (fun x => rfl) (fun x α kn ke => (F13_body0 N x α kn ke).trans (congrArg ((F13_l0 N).b x α _) (funext fun y => (F13_l0 N).spe y α ke))) (F13_par0 N)
theorem F13_parF (N : Nat) : ParF (F13_s N).t := by
  intro x α β k k' r r' h h1
  revert h
  dsimp only [F13_s]
  (repeat' (first | (with_reducible refine par_ite ?_ ?_) | split)) <;> intro h <;> first | exact h1 _ h | (cases h; done)
theorem F13_text (N : Nat) (x : (F13_s N).X) : acall (tabOf Try.prog) (F13_g N) F13_an (lam N [F13_l0 N]) Try.f13 [[some 3], [none]] ((F13_s N).args x) ((F13_s N).bs x) = (F13_s N).t x Ret (fun y => some ((F13_s N).ret y)) := by kernel_rfl
theorem F13_pat (N : Nat) (a : List AV) (b : List (List AV)) (x : (F13_s N).X) (h : (F13_s N).pat a b = some x) : a = (F13_s N).args x ∧ b = (F13_s N).bs x := by
  dsimp only [F13_s] at h
  split at h
  · cases h; exact ⟨rfl, rfl⟩
  · cases h
noncomputable def F13_e (N : Nat) : Ent Try.prog := entOf (tabOf_ok Try.prog) (gam_ok _) mixed 13 Try.f13 Try.func13 rfl F13_an (lam N [F13_l0 N]) (by
    have e : loopsOf (Try.f13.body.getD .skip) 0 = [(0, nthLoop 0 (Try.f13.body.getD .skip))] := by kernel_rfl
    rw [e]
    intro p hp
    rcases List.mem_cons.1 hp with rfl | hp
    · exact F13_loop0 N
    cases hp) [[some 3], [none]] (F13_s N) (F13_text N) (F13_pat N) (F13_parF N)
/-! ### (*seismonet/seismonetmade.Dice).Source (function 20) -/
def F20_an : Nat → Keep × Keep := anL []
noncomputable def F20_g (N : Nat) : GamK := gam (P := Try.prog) [F18_e N]
def F20_s (N : Nat) : FSpec where
  X := (List (List AV)) × Int
  Y := ByteArray × ByteArray × ByteArray × ByteArray × (List (List AV)) × Int
  ash := [[none]]
  bsh := [[some 1, none]]
  pat := fun a b => match a, b with
    | [(AV.ptr 0 0)], [[(AV.list 1 a0 none), (AV.v (.int .i64 a1))]] => some (a0, a1)
    | _, _ => none
  args := fun x => [(AV.ptr 0 0)]
  bs := fun x => [[(AV.list 1 x.1 none), (AV.v (.int .i64 x.2))]]
  ret := fun y => ⟨(AV.agg [(AV.v (.string y.1)), (AV.v (.string y.2.1)), (AV.v (.string y.2.2.1)), (AV.v (.string y.2.2.2.1))]), [[(AV.list 1 y.2.2.2.2.1 none), (AV.v (.int .i64 y.2.2.2.2.2))]], none⟩
  t := fun x α k => (match F18_d N (3, x.1, x.2) with | some y1 => (if 0 ≤ y1.1 then (match [[(AV.v (.string (⟨#[71, 82]⟩ : ByteArray)))], [(AV.v (.string (⟨#[88]⟩ : ByteArray)))], [(AV.v (.string (⟨#[55, 65]⟩ : ByteArray)))]][y1.1.toNat]? with | some c2 => (match c2[0]? with | some x3 => (match x3 with | .v (.string s4) => (match F18_d N (4, y1.2.1, y1.2.2) with | some y5 => (if 0 ≤ y5.1 then (match [[(AV.v (.string (⟨#[70, 85, 82]⟩ : ByteArray)))], [(AV.v (.string (⟨#[65]⟩ : ByteArray)))], [(AV.v (.string (⟨#[65, 66, 67, 68, 69]⟩ : ByteArray)))], [(AV.v (.string (⟨#[70, 85]⟩ : ByteArray)))]][y5.1.toNat]? with | some c6 => (match c6[0]? with | some x7 => (match x7 with | .v (.string s8) => (match F18_d N (3, y5.2.1, y5.2.2) with | some y9 => (if 0 ≤ y9.1 then (match [[(AV.v (.string (⟨#[]⟩ : ByteArray)))], [(AV.v (.string (⟨#[48, 48]⟩ : ByteArray)))], [(AV.v (.string (⟨#[49, 48]⟩ : ByteArray)))]][y9.1.toNat]? with | some c10 => (match c10[0]? with | some x11 => (match x11 with | .v (.string s12) => (match F18_d N (3, y9.2.1, y9.2.2) with | some y13 => (if 0 ≤ y13.1 then (match [[(AV.v (.string (⟨#[72, 72, 90]⟩ : ByteArray)))], [(AV.v (.string (⟨#[72, 72, 78]⟩ : ByteArray)))], [(AV.v (.string (⟨#[66, 72, 90]⟩ : ByteArray)))]][y13.1.toNat]? with | some c14 => (match c14[0]? with | some x15 => (match x15 with | .v (.string s16) => (k (s4, s8, s12, s16, y13.2.1, y13.2.2)) | _ => none) | none => none) | none => none) else none) | none => none) | _ => none) | none => none) | none => none) else none) | none => none) | _ => none) | none => none) | none => none) else none) | none => none) | _ => none) | none => none) | none => none) else none) | none => none)
abbrev F20_d (N : Nat) (x : (List (List AV)) × Int) : Option (ByteArray × ByteArray × ByteArray × ByteArray × (List (List AV)) × Int) := (F20_s N).d x
theorem F20_parF (N : Nat) : ParF (F20_s N).t := by
  intro x α β k k' r r' h h1
  revert h
  dsimp only [F20_s]
  (repeat' (first | (with_reducible refine par_ite ?_ ?_) | split)) <;> intro h <;> first | exact h1 _ h | (cases h; done)
theorem F20_text (N : Nat) (x : (F20_s N).X) : acall (tabOf Try.prog) (F20_g N) F20_an (lam N []) Try.f20 [[none, none, none, none]] ((F20_s N).args x) ((F20_s N).bs x) = (F20_s N).t x Ret (fun y => some ((F20_s N).ret y)) := by kernel_rfl
theorem F20_pat (N : Nat) (a : List AV) (b : List (List AV)) (x : (F20_s N).X) (h : (F20_s N).pat a b = some x) : a = (F20_s N).args x ∧ b = (F20_s N).bs x := by
  dsimp only [F20_s] at h
  split at h
  · cases h; exact ⟨rfl, rfl⟩
  · cases h
noncomputable def F20_e (N : Nat) : Ent Try.prog := entOf (tabOf_ok Try.prog) (gam_ok _) mixed 20 Try.f20 Try.func20 rfl F20_an (lam N []) (by
    have e : loopsOf (Try.f20.body.getD .skip) 0 = [] := by kernel_rfl
    rw [e]
    intro p hp
    cases hp) [[none, none, none, none]] (F20_s N) (F20_text N) (F20_pat N) (F20_parF N)
/-! ### seismonet/seismonetref01.In (function 45) -/
def F45_an : Nat → Keep × Keep := anL []
noncomputable def F45_g (N : Nat) : GamK := gam (P := Try.prog) []
def F45_s (N : Nat) : FSpec where
  X := Int × Int × Int
  Y := Bool
  ash := [[none], [none], [none]]
  bsh := []
  pat := fun a b => match a, b with
    | [(AV.v (.int .i64 a0)), (AV.v (.int .i64 a1)), (AV.v (.int .i64 a2))], [] => some (a0, a1, a2)
    | _, _ => none
  args := fun x => [(AV.v (.int .i64 x.1)), (AV.v (.int .i64 x.2.1)), (AV.v (.int .i64 x.2.2))]
  bs := fun x => []
  ret := fun y => ⟨(AV.v (.bool y)), [], none⟩
  t := fun x α k => (match (decide (x.1 ≥ x.2.1)) with | true => (k (decide (x.1 ≤ x.2.2))) | false => (k false))
abbrev F45_d (N : Nat) (x : Int × Int × Int) : Option (Bool) := (F45_s N).d x
theorem F45_parF (N : Nat) : ParF (F45_s N).t := by
  intro x α β k k' r r' h h1
  revert h
  dsimp only [F45_s]
  (repeat' (first | (with_reducible refine par_ite ?_ ?_) | split)) <;> intro h <;> first | exact h1 _ h | (cases h; done)
theorem F45_text (N : Nat) (x : (F45_s N).X) : acall (tabOf Try.prog) (F45_g N) F45_an (lam N []) Try.f45 [[none]] ((F45_s N).args x) ((F45_s N).bs x) = (F45_s N).t x Ret (fun y => some ((F45_s N).ret y)) := by kernel_rfl
theorem F45_pat (N : Nat) (a : List AV) (b : List (List AV)) (x : (F45_s N).X) (h : (F45_s N).pat a b = some x) : a = (F45_s N).args x ∧ b = (F45_s N).bs x := by
  dsimp only [F45_s] at h
  split at h
  · cases h; exact ⟨rfl, rfl⟩
  · cases h
noncomputable def F45_e (N : Nat) : Ent Try.prog := entOf (tabOf_ok Try.prog) (gam_ok _) mixed 45 Try.f45 Try.func45 rfl F45_an (lam N []) (by
    have e : loopsOf (Try.f45.body.getD .skip) 0 = [] := by kernel_rfl
    rw [e]
    intro p hp
    cases hp) [[none]] (F45_s N) (F45_text N) (F45_pat N) (F45_parF N)
/-! ### seismonet/seismonetref02.gcd (function 53) -/
def F53_an : Nat → Keep × Keep := anL [(⟨[0, 1], [], [], [], []⟩, ⟨[0], [], [], [], []⟩)]
noncomputable def F53_g (N : Nat) : GamK := gam (P := Try.prog) []
def F53_l0 (N : Nat) : LSpec where
  X := Int × Int
  Y := (Int)
  p := fun s => match s.env.length, s.nin, s.at 0, s.at 1 with
    | 12, 0, (AV.v (.int .i64 a0)), (AV.v (.int .i64 a1)) => some (a0, a1)
    | _, _, _, _ => none
  st := fun x => mkS 12 [(0, (AV.v (.int .i64 x.1))), (1, (AV.v (.int .i64 x.2)))] [] [] 0
  out := fun y => (.exit 0, mkS 12 [(0, (AV.v (.int .i64 y)))] [] [] 0)
  sp := fun y α k => k (.exit 0, mkS 12 [(0, (AV.v (.int .i64 y)))] [] [] 0)
  spe := fun y α k => rfl
  b := fun x α kn ke => (match (x.2 != 0) with | true => (if x.2 = 0 then none else (kn (x.2, (x.1.tmod x.2)))) | false => (ke x.1))
abbrev F53_d0 (N : Nat) (x : Int × Int) : Option ((Int)) := (F53_l0 N).L N x
def F53_s (N : Nat) : FSpec where
  X := Int × Int
  Y := Int
  ash := [[none], [none]]
  bsh := []
  pat := fun a b => match a, b with
    | [(AV.v (.int .i64 a0)), (AV.v (.int .i64 a1))], [] => some (a0, a1)
    | _, _ => none
  args := fun x => [(AV.v (.int .i64 x.1)), (AV.v (.int .i64 x.2))]
  bs := fun x => []
  ret := fun y => ⟨(AV.v (.int .i64 y)), [], none⟩
  t := fun x α k => (match F53_d0 N (x.1, x.2) with | some y1 => (k y1) | none => none)
abbrev F53_d (N : Nat) (x : Int × Int) : Option (Int) := (F53_s N).d x
theorem F53_par0 (N : Nat) : Par (F53_l0 N).b := by
  intro x α β kn ke kn' ke' r r' h h1 h2
  revert h
  dsimp only [F53_l0]
  (repeat' (first | (with_reducible refine par_ite ?_ ?_) | split)) <;> intro h <;> first | exact h1 _ h | exact h2 _ h | (cases h; done)
theorem F53_body0 (N : Nat) (x : (F53_l0 N).X) (α : Type) (kn : AS → Option α) (ke : Out → Option α) : around (tabOf Try.prog) (F53_g N) F53_an (lam N [F53_l0 N]) 0 (nthLoop 0 (Try.f53.body.getD .skip)) ((F53_l0 N).st x) kn ke = (F53_l0 N).b x α (fun x' => kn ((F53_l0 N).st x')) (fun y => (F53_l0 N).sp y α ke) := by kernel_rfl
theorem F53_pat0 (N : Nat) (s : AS) (x : (F53_l0 N).X) (hc : s = canon (F53_an 0).1 s) (h : (F53_l0 N).p s = some x) : s = (F53_l0 N).st x := by
  dsimp only [F53_l0] at h
  split at h
  · cases h
    exact canon_mk hc ‹_› ‹_› rfl rfl rfl ⟨‹_›, ‹_›, trivial⟩ trivial
  · cases h
theorem F53_loop0 (N : Nat) : ∀ s o, s = canon (F53_an 0).1 s → (lam N [F53_l0 N]).v 0 s = some o → LoopSem Try.prog (nthLoop 0 (Try.f53.body.getD .skip)) s o :=
  loop_ok (tabOf_ok Try.prog) (gam_ok _) mixed F53_an N [F53_l0 N] 0 _ (by
    have e : loopsOf (nthLoop 0 (Try.f53.body.getD .skip)) (0 + 1) = [] := by kernel_rfl
    rw [e]
    intro p hp
    cases hp) (F53_l0 N) rfl (fun s x hc h => F53_pat0 N s x hc h) (fun x => rfl) (fun x α kn ke => (F53_body0 N x α kn ke).trans (congrArg ((F53_l0 N).b x α _) (funext fun y => (F53_l0 N).spe y α ke))) (F53_par0 N)
theorem F53_parF (N : Nat) : ParF (F53_s N).t := by
  intro x α β k k' r r' h h1
  revert h
  dsimp only [F53_s]
  (repeat' (first | (with_reducible refine par_ite ?_ ?_) | split)) <;> intro h <;> first | exact h1 _ h | (cases h; done)
theorem F53_text (N : Nat) (x : (F53_s N).X) : acall (tabOf Try.prog) (F53_g N) F53_an (lam N [F53_l0 N]) Try.f53 [[none]] ((F53_s N).args x) ((F53_s N).bs x) = (F53_s N).t x Ret (fun y => some ((F53_s N).ret y)) := by kernel_rfl
theorem F53_pat (N : Nat) (a : List AV) (b : List (List AV)) (x : (F53_s N).X) (h : (F53_s N).pat a b = some x) : a = (F53_s N).args x ∧ b = (F53_s N).bs x := by
  dsimp only [F53_s] at h
  split at h
  · cases h; exact ⟨rfl, rfl⟩
  · cases h
noncomputable def F53_e (N : Nat) : Ent Try.prog := entOf (tabOf_ok Try.prog) (gam_ok _) mixed 53 Try.f53 Try.func53 rfl F53_an (lam N [F53_l0 N]) (by
    have e : loopsOf (Try.f53.body.getD .skip) 0 = [(0, nthLoop 0 (Try.f53.body.getD .skip))] := by kernel_rfl
    rw [e]
    intro p hp
    rcases List.mem_cons.1 hp with rfl | hp
    · exact F53_loop0 N
    cases hp) [[none]] (F53_s N) (F53_text N) (F53_pat N) (F53_parF N)
/-! ### seismonet/seismonetref02.New (function 40) -/
def F40_an : Nat → Keep × Keep := anL []
noncomputable def F40_g (N : Nat) : GamK := gam (P := Try.prog) [F45_e N, F53_e N]
def F40_s (N : Nat) : FSpec where
  X := Int × Int
  Y := Int × Int × Int
  ash := [[none], [none]]
  bsh := []
  pat := fun a b => match a, b with
    | [(AV.v (.int .i64 a0)), (AV.v (.int .i64 a1))], [] => some (a0, a1)
    | _, _ => none
  args := fun x => [(AV.v (.int .i64 x.1)), (AV.v (.int .i64 x.2))]
  bs := fun x => []
  ret := fun y => ⟨(AV.tup [(AV.agg [(AV.v (.int .i64 y.1)), (AV.v (.int .i64 y.2.1))]), (AV.v (.int .i64 y.2.2))]), [], none⟩
  t := fun x α k => (match F45_d N (x.1, 1, 4096) with | some y1 => (match (!y1) with | true => (k (0, 0, 2)) | false => (match F45_d N (x.2, 1, 4096) with | some y2 => (match (!y2) with | true => (k (0, 0, 2)) | false => (match F53_d N (x.1, x.2) with | some y3 => (if y3 = 0 then none else (if y3 = 0 then none else (k ((i64 (x.1.tdiv y3)), (i64 (x.2.tdiv y3)), 0)))) | none => none)) | none => none)) | none => none)
abbrev F40_d (N : Nat) (x : Int × Int) : Option (Int × Int × Int) := (F40_s N).d x
theorem F40_parF (N : Nat) : ParF (F40_s N).t := by
  intro x α β k k' r r' h h1
  revert h
  dsimp only [F40_s]
  (repeat' (first | (with_reducible refine par_ite ?_ ?_) | split)) <;> intro h <;> first | exact h1 _ h | (cases h; done)
theorem F40_text (N : Nat) (x : (F40_s N).X) : acall (tabOf Try.prog) (F40_g N) F40_an (lam N []) Try.f40 [[none, none], [none]] ((F40_s N).args x) ((F40_s N).bs x) = (F40_s N).t x Ret (fun y => some ((F40_s N).ret y)) := by kernel_rfl
theorem F40_pat (N : Nat) (a : List AV) (b : List (List AV)) (x : (F40_s N).X) (h : (F40_s N).pat a b = some x) : a = (F40_s N).args x ∧ b = (F40_s N).bs x := by
  dsimp only [F40_s] at h
  split at h
  · cases h; exact ⟨rfl, rfl⟩
  · cases h
noncomputable def F40_e (N : Nat) : Ent Try.prog := entOf (tabOf_ok Try.prog) (gam_ok _) mixed 40 Try.f40 Try.func40 rfl F40_an (lam N []) (by
    have e : loopsOf (Try.f40.body.getD .skip) 0 = [] := by kernel_rfl
    rw [e]
    intro p hp
    cases hp) [[none, none], [none]] (F40_s N) (F40_text N) (F40_pat N) (F40_parF N)
/-! ### (*seismonet/seismonetmade.Dice).Record (function 19) -/
def F19_an : Nat → Keep × Keep := anL [(⟨[0, 6, 9, 10], [], [0, 6, 9], [], [((6, 11), 1), ((9, 11), 1)]⟩, ⟨[6, 9], [], [0, 6, 9], [], [((6, 11), 1), ((9, 11), 1)]⟩)]
noncomputable def F19_g (N : Nat) : GamK := gam (P := Try.prog) [F23_e N, F40_e N, F18_e N]
def F19_l0 (N : Nat) : LSpec where
  X := Int × (List (List AV)) × Int × ByteArray × ByteArray × ByteArray × ByteArray × Int × Int × Int × Int × Int × Int × Int × (List (List AV)) × ByteArray × ByteArray × ByteArray × ByteArray × Int × Int × Int × Int × Int × Int × Int × (List (List AV))
  Y := ((List (List AV)) × Int × ByteArray × ByteArray × ByteArray × ByteArray × Int × Int × Int × Int × Int × Int × Int × (List (List AV)) × ByteArray × ByteArray × ByteArray × ByteArray × Int × Int × Int × Int × Int × Int × Int × (List (List AV)))
  p := fun s => match s.env.length, s.nin, s.at 0, s.at 6, s.at 9, s.at 10, s.bx 0, s.bx 6, s.bx 9 with
    | 54, 1, (AV.ptr 0 0), (AV.ptr 6 0), (AV.ptr 9 0), (AV.v (.int .i64 a0)), some [(AV.list 1 a1 none), (AV.v (.int .i64 a2))], some [(AV.v (.string a3)), (AV.v (.string a4)), (AV.v (.string a5)), (AV.v (.string a6)), (AV.v (.int .i64 a7)), (AV.v (.int .i64 a8)), (AV.v (.int .i64 a9)), (AV.v (.int .i64 a10)), (AV.v (.int .i64 a11)), (AV.v (.int .i64 a12)), (AV.v (.int .i64 a13)), (AV.list 1 a14 (some 100395))], some [(AV.v (.string a15)), (AV.v (.string a16)), (AV.v (.string a17)), (AV.v (.string a18)), (AV.v (.int .i64 a19)), (AV.v (.int .i64 a20)), (AV.v (.int .i64 a21)), (AV.v (.int .i64 a22)), (AV.v (.int .i64 a23)), (AV.v (.int .i64 a24)), (AV.v (.int .i64 a25)), (AV.list 1 a26 (some 100587))] => some (a0, a1, a2, a3, a4, a5, a6, a7, a8, a9, a10, a11, a12, a13, a14, a15, a16, a17, a18, a19, a20, a21, a22, a23, a24, a25, a26)
    | _, _, _, _, _, _, _, _, _ => none
  st := fun x => mkS 54 [(0, (AV.ptr 0 0)), (6, (AV.ptr 6 0)), (9, (AV.ptr 9 0)), (10, (AV.v (.int .i64 x.1)))] [(0, [(AV.list 1 x.2.1 none), (AV.v (.int .i64 x.2.2.1))]), (6, [(AV.v (.string x.2.2.2.1)), (AV.v (.string x.2.2.2.2.1)), (AV.v (.string x.2.2.2.2.2.1)), (AV.v (.string x.2.2.2.2.2.2.1)), (AV.v (.int .i64 x.2.2.2.2.2.2.2.1)), (AV.v (.int .i64 x.2.2.2.2.2.2.2.2.1)), (AV.v (.int .i64 x.2.2.2.2.2.2.2.2.2.1)), (AV.v (.int .i64 x.2.2.2.2.2.2.2.2.2.2.1)), (AV.v (.int .i64 x.2.2.2.2.2.2.2.2.2.2.2.1)), (AV.v (.int .i64 x.2.2.2.2.2.2.2.2.2.2.2.2.1)), (AV.v (.int .i64 x.2.2.2.2.2.2.2.2.2.2.2.2.2.1)), (AV.list 1 x.2.2.2.2.2.2.2.2.2.2.2.2.2.2.1 (some 100395))]), (9, [(AV.v (.string x.2.2.2.2.2.2.2.2.2.2.2.2.2.2.2.1)), (AV.v (.string x.2.2.2.2.2.2.2.2.2.2.2.2.2.2.2.2.1)), (AV.v (.string x.2.2.2.2.2.2.2.2.2.2.2.2.2.2.2.2.2.1)), (AV.v (.string x.2.2.2.2.2.2.2.2.2.2.2.2.2.2.2.2.2.2.1)), (AV.v (.int .i64 x.2.2.2.2.2.2.2.2.2.2.2.2.2.2.2.2.2.2.2.1)), (AV.v (.int .i64 x.2.2.2.2.2.2.2.2.2.2.2.2.2.2.2.2.2.2.2.2.1)), (AV.v (.int .i64 x.2.2.2.2.2.2.2.2.2.2.2.2.2.2.2.2.2.2.2.2.2.1)), (AV.v (.int .i64 x.2.2.2.2.2.2.2.2.2.2.2.2.2.2.2.2.2.2.2.2.2.2.1)), (AV.v (.int .i64 x.2.2.2.2.2.2.2.2.2.2.2.2.2.2.2.2.2.2.2.2.2.2.2.1)), (AV.v (.int .i64 x.2.2.2.2.2.2.2.2.2.2.2.2.2.2.2.2.2.2.2.2.2.2.2.2.1)), (AV.v (.int .i64 x.2.2.2.2.2.2.2.2.2.2.2.2.2.2.2.2.2.2.2.2.2.2.2.2.2.1)), (AV.list 1 x.2.2.2.2.2.2.2.2.2.2.2.2.2.2.2.2.2.2.2.2.2.2.2.2.2.2 (some 100587))])] [100395, 100587] 1
  out := fun y => (.exit 0, mkS 54 [(6, (AV.ptr 6 0)), (9, (AV.ptr 9 0))] [(0, [(AV.list 1 y.1 none), (AV.v (.int .i64 y.2.1))]), (6, [(AV.v (.string y.2.2.1)), (AV.v (.string y.2.2.2.1)), (AV.v (.string y.2.2.2.2.1)), (AV.v (.string y.2.2.2.2.2.1)), (AV.v (.int .i64 y.2.2.2.2.2.2.1)), (AV.v (.int .i64 y.2.2.2.2.2.2.2.1)), (AV.v (.int .i64 y.2.2.2.2.2.2.2.2.1)), (AV.v (.int .i64 y.2.2.2.2.2.2.2.2.2.1)), (AV.v (.int .i64 y.2.2.2.2.2.2.2.2.2.2.1)), (AV.v (.int .i64 y.2.2.2.2.2.2.2.2.2.2.2.1)), (AV.v (.int .i64 y.2.2.2.2.2.2.2.2.2.2.2.2.1)), (AV.list 1 y.2.2.2.2.2.2.2.2.2.2.2.2.2.1 (some 100395))]), (9, [(AV.v (.string y.2.2.2.2.2.2.2.2.2.2.2.2.2.2.1)), (AV.v (.string y.2.2.2.2.2.2.2.2.2.2.2.2.2.2.2.1)), (AV.v (.string y.2.2.2.2.2.2.2.2.2.2.2.2.2.2.2.2.1)), (AV.v (.string y.2.2.2.2.2.2.2.2.2.2.2.2.2.2.2.2.2.1)), (AV.v (.int .i64 y.2.2.2.2.2.2.2.2.2.2.2.2.2.2.2.2.2.2.1)), (AV.v (.int .i64 y.2.2.2.2.2.2.2.2.2.2.2.2.2.2.2.2.2.2.2.1)), (AV.v (.int .i64 y.2.2.2.2.2.2.2.2.2.2.2.2.2.2.2.2.2.2.2.2.1)), (AV.v (.int .i64 y.2.2.2.2.2.2.2.2.2.2.2.2.2.2.2.2.2.2.2.2.2.1)), (AV.v (.int .i64 y.2.2.2.2.2.2.2.2.2.2.2.2.2.2.2.2.2.2.2.2.2.2.1)), (AV.v (.int .i64 y.2.2.2.2.2.2.2.2.2.2.2.2.2.2.2.2.2.2.2.2.2.2.2.1)), (AV.v (.int .i64 y.2.2.2.2.2.2.2.2.2.2.2.2.2.2.2.2.2.2.2.2.2.2.2.2.1)), (AV.list 1 y.2.2.2.2.2.2.2.2.2.2.2.2.2.2.2.2.2.2.2.2.2.2.2.2.2 (some 100587))])] [100395, 100587] 1)
  sp := fun y α k => k (.exit 0, mkS 54 [(6, (AV.ptr 6 0)), (9, (AV.ptr 9 0))] [(0, [(AV.list 1 y.1 none), (AV.v (.int .i64 y.2.1))]), (6, [(AV.v (.string y.2.2.1)), (AV.v (.string y.2.2.2.1)), (AV.v (.string y.2.2.2.2.1)), (AV.v (.string y.2.2.2.2.2.1)), (AV.v (.int .i64 y.2.2.2.2.2.2.1)), (AV.v (.int .i64 y.2.2.2.2.2.2.2.1)), (AV.v (.int .i64 y.2.2.2.2.2.2.2.2.1)), (AV.v (.int .i64 y.2.2.2.2.2.2.2.2.2.1)), (AV.v (.int .i64 y.2.2.2.2.2.2.2.2.2.2.1)), (AV.v (.int .i64 y.2.2.2.2.2.2.2.2.2.2.2.1)), (AV.v (.int .i64 y.2.2.2.2.2.2.2.2.2.2.2.2.1)), (AV.list 1 y.2.2.2.2.2.2.2.2.2.2.2.2.2.1 (some 100395))]), (9, [(AV.v (.string y.2.2.2.2.2.2.2.2.2.2.2.2.2.2.1)), (AV.v (.string y.2.2.2.2.2.2.2.2.2.2.2.2.2.2.2.1)), (AV.v (.string y.2.2.2.2.2.2.2.2.2.2.2.2.2.2.2.2.1)), (AV.v (.string y.2.2.2.2.2.2.2.2.2.2.2.2.2.2.2.2.2.1)), (AV.v (.int .i64 y.2.2.2.2.2.2.2.2.2.2.2.2.2.2.2.2.2.2.1)), (AV.v (.int .i64 y.2.2.2.2.2.2.2.2.2.2.2.2.2.2.2.2.2.2.2.1)), (AV.v (.int .i64 y.2.2.2.2.2.2.2.2.2.2.2.2.2.2.2.2.2.2.2.2.1)), (AV.v (.int .i64 y.2.2.2.2.2.2.2.2.2.2.2.2.2.2.2.2.2.2.2.2.2.1)), (AV.v (.int .i64 y.2.2.2.2.2.2.2.2.2.2.2.2.2.2.2.2.2.2.2.2.2.2.1)), (AV.v (.int .i64 y.2.2.2.2.2.2.2.2.2.2.2.2.2.2.2.2.2.2.2.2.2.2.2.1)), (AV.v (.int .i64 y.2.2.2.2.2.2.2.2.2.2.2.2.2.2.2.2.2.2.2.2.2.2.2.2.1)), (AV.list 1 y.2.2.2.2.2.2.2.2.2.2.2.2.2.2.2.2.2.2.2.2.2.2.2.2.2 (some 100587))])] [100395, 100587] 1)
  spe := fun y α k => rfl
  b := fun x α kn ke => (match (decide (x.1 > 0)) with | true => (match F18_d N (4, x.2.1, x.2.2.1) with | some y11 => (if (x.2.2.2.2.2.2.2.2.2.2.2.2.2.2.2.2.2.2.2.2.2.2.2.2.2.2.length + [[(AV.v (.int .i64 y11.1))]].length) * 8 ≤ maxBytes then (kn ((i64 (x.1 - 1)), y11.2.1, y11.2.2, x.2.2.2.1, x.2.2.2.2.1, x.2.2.2.2.2.1, x.2.2.2.2.2.2.1, x.2.2.2.2.2.2.2.1, x.2.2.2.2.2.2.2.2.1, x.2.2.2.2.2.2.2.2.2.1, x.2.2.2.2.2.2.2.2.2.2.1, x.2.2.2.2.2.2.2.2.2.2.2.1, x.2.2.2.2.2.2.2.2.2.2.2.2.1, x.2.2.2.2.2.2.2.2.2.2.2.2.2.1, x.2.2.2.2.2.2.2.2.2.2.2.2.2.2.1, x.2.2.2.2.2.2.2.2.2.2.2.2.2.2.2.1, x.2.2.2.2.2.2.2.2.2.2.2.2.2.2.2.2.1, x.2.2.2.2.2.2.2.2.2.2.2.2.2.2.2.2.2.1, x.2.2.2.2.2.2.2.2.2.2.2.2.2.2.2.2.2.2.1, x.2.2.2.2.2.2.2.2.2.2.2.2.2.2.2.2.2.2.2.1, x.2.2.2.2.2.2.2.2.2.2.2.2.2.2.2.2.2.2.2.2.1, x.2.2.2.2.2.2.2.2.2.2.2.2.2.2.2.2.2.2.2.2.2.1, x.2.2.2.2.2.2.2.2.2.2.2.2.2.2.2.2.2.2.2.2.2.2.1, x.2.2.2.2.2.2.2.2.2.2.2.2.2.2.2.2.2.2.2.2.2.2.2.1, x.2.2.2.2.2.2.2.2.2.2.2.2.2.2.2.2.2.2.2.2.2.2.2.2.1, x.2.2.2.2.2.2.2.2.2.2.2.2.2.2.2.2.2.2.2.2.2.2.2.2.2.1, (x.2.2.2.2.2.2.2.2.2.2.2.2.2.2.2.2.2.2.2.2.2.2.2.2.2.2 ++ [[(AV.v (.int .i64 y11.1))]]))) else none) | none => none) | false => (ke (x.2.1, x.2.2.1, x.2.2.2.1, x.2.2.2.2.1, x.2.2.2.2.2.1, x.2.2.2.2.2.2.1, x.2.2.2.2.2.2.2.1, x.2.2.2.2.2.2.2.2.1, x.2.2.2.2.2.2.2.2.2.1, x.2.2.2.2.2.2.2.2.2.2.1, x.2.2.2.2.2.2.2.2.2.2.2.1, x.2.2.2.2.2.2.2.2.2.2.2.2.1, x.2.2.2.2.2.2.2.2.2.2.2.2.2.1, x.2.2.2.2.2.2.2.2.2.2.2.2.2.2.1, x.2.2.2.2.2.2.2.2.2.2.2.2.2.2.2.1, x.2.2.2.2.2.2.2.2.2.2.2.2.2.2.2.2.1, x.2.2.2.2.2.2.2.2.2.2.2.2.2.2.2.2.2.1, x.2.2.2.2.2.2.2.2.2.2.2.2.2.2.2.2.2.2.1, x.2.2.2.2.2.2.2.2.2.2.2.2.2.2.2.2.2.2.2.1, x.2.2.2.2.2.2.2.2.2.2.2.2.2.2.2.2.2.2.2.2.1, x.2.2.2.2.2.2.2.2.2.2.2.2.2.2.2.2.2.2.2.2.2.1, x.2.2.2.2.2.2.2.2.2.2.2.2.2.2.2.2.2.2.2.2.2.2.1, x.2.2.2.2.2.2.2.2.2.2.2.2.2.2.2.2.2.2.2.2.2.2.2.1, x.2.2.2.2.2.2.2.2.2.2.2.2.2.2.2.2.2.2.2.2.2.2.2.2.1, x.2.2.2.2.2.2.2.2.2.2.2.2.2.2.2.2.2.2.2.2.2.2.2.2.2.1, x.2.2.2.2.2.2.2.2.2.2.2.2.2.2.2.2.2.2.2.2.2.2.2.2.2.2)))
abbrev F19_d0 (N : Nat) (x : Int × (List (List AV)) × Int × ByteArray × ByteArray × ByteArray × ByteArray × Int × Int × Int × Int × Int × Int × Int × (List (List AV)) × ByteArray × ByteArray × ByteArray × ByteArray × Int × Int × Int × Int × Int × Int × Int × (List (List AV))) : Option (((List (List AV)) × Int × ByteArray × ByteArray × ByteArray × ByteArray × Int × Int × Int × Int × Int × Int × Int × (List (List AV)) × ByteArray × ByteArray × ByteArray × ByteArray × Int × Int × Int × Int × Int × Int × Int × (List (List AV)))) := (F19_l0 N).L N x
def F19_s (N : Nat) : FSpec where
  X := ByteArray × ByteArray × ByteArray × ByteArray × Int × (List (List AV)) × Int
  Y := ByteArray × ByteArray × ByteArray × ByteArray × Int × Int × Int × Int × Int × Int × Int × (List (List AV)) × (List (List AV)) × Int
  ash := [[none], [none, none, none, none], [none]]
  bsh := [[some 1, none]]
  pat := fun a b => match a, b with
    | [(AV.ptr 0 0), (AV.agg [(AV.v (.string a0)), (AV.v (.string a1)), (AV.v (.string a2)), (AV.v (.string a3))]), (AV.v (.int .i64 a4))], [[(AV.list 1 a5 none), (AV.v (.int .i64 a6))]] => some (a0, a1, a2, a3, a4, a5, a6)
    | _, _ => none
  args := fun x => [(AV.ptr 0 0), (AV.agg [(AV.v (.string x.1)), (AV.v (.string x.2.1)), (AV.v (.string x.2.2.1)), (AV.v (.string x.2.2.2.1))]), (AV.v (.int .i64 x.2.2.2.2.1))]
  bs := fun x => [[(AV.list 1 x.2.2.2.2.2.1 none), (AV.v (.int .i64 x.2.2.2.2.2.2))]]
  ret := fun y => ⟨(AV.agg [(AV.v (.string y.1)), (AV.v (.string y.2.1)), (AV.v (.string y.2.2.1)), (AV.v (.string y.2.2.2.1)), (AV.v (.int .i64 y.2.2.2.2.1)), (AV.v (.int .i64 y.2.2.2.2.2.1)), (AV.v (.int .i64 y.2.2.2.2.2.2.1)), (AV.v (.int .i64 y.2.2.2.2.2.2.2.1)), (AV.v (.int .i64 y.2.2.2.2.2.2.2.2.1)), (AV.v (.int .i64 y.2.2.2.2.2.2.2.2.2.1)), (AV.v (.int .i64 y.2.2.2.2.2.2.2.2.2.2.1)), (AV.list 1 y.2.2.2.2.2.2.2.2.2.2.2.1 none)]), [[(AV.list 1 y.2.2.2.2.2.2.2.2.2.2.2.2.1 none), (AV.v (.int .i64 y.2.2.2.2.2.2.2.2.2.2.2.2.2))]], none⟩
  t := fun x α k => (match F23_d N ([[(AV.v (.int .i64 1))], [(AV.v (.int .i64 2))], [(AV.v (.int .i64 2))], [(AV.v (.int .i64 3))]], x.2.2.2.2.2.1, x.2.2.2.2.2.2) with | some y1 => (match F23_d N ([[(AV.v (.int .i64 1))], [(AV.v (.int .i64 1))], [(AV.v (.int .i64 1))], [(AV.v (.int .i64 3))]], y1.2.1, y1.2.2) with | some y2 => (match F40_d N (y1.1, y2.1) with | some y3 => (match F18_d N (40, y2.2.1, y2.2.2) with | some y4 => (match F23_d N ([[(AV.v (.int .i64 0))], [(AV.v (.int .i64 0))], [(AV.v (.int .i64 3))]], y4.2.1, y4.2.2) with | some y5 => (match F23_d N ([[(AV.v (.int .i64 0))], [(AV.v (.int .i64 0))], [(AV.v (.int .i64 10))], [(AV.v (.int .i64 500))]], y5.2.1, y5.2.2) with | some y6 => (match F18_d N (2, y6.2.1, y6.2.2) with | some y7 => (match F18_d N (6, y7.2.1, y7.2.2) with | some y8 => (match F18_d N (x.2.2.2.2.1, y8.2.1, y8.2.2) with | some y9 => (match F19_d0 N ((i64 (1 + y9.1)), y9.2.1, y9.2.2, (⟨#[]⟩ : ByteArray), (⟨#[]⟩ : ByteArray), (⟨#[]⟩ : ByteArray), (⟨#[]⟩ : ByteArray), 0, 0, 0, 0, 0, 0, 0, ([] : List (List AV)), x.1, x.2.1, x.2.2.1, x.2.2.2.1, (i64 (1000000000000 + (i64 (250000 * y4.1)))), y5.1, y3.1, y3.2.1, y6.1, y7.1, y8.1, ([] : List (List AV))) with | some y12 => (k (y12.2.2.2.2.2.2.2.2.2.2.2.2.2.2.1, y12.2.2.2.2.2.2.2.2.2.2.2.2.2.2.2.1, y12.2.2.2.2.2.2.2.2.2.2.2.2.2.2.2.2.1, y12.2.2.2.2.2.2.2.2.2.2.2.2.2.2.2.2.2.1, y12.2.2.2.2.2.2.2.2.2.2.2.2.2.2.2.2.2.2.1, y12.2.2.2.2.2.2.2.2.2.2.2.2.2.2.2.2.2.2.2.1, y12.2.2.2.2.2.2.2.2.2.2.2.2.2.2.2.2.2.2.2.2.1, y12.2.2.2.2.2.2.2.2.2.2.2.2.2.2.2.2.2.2.2.2.2.1, y12.2.2.2.2.2.2.2.2.2.2.2.2.2.2.2.2.2.2.2.2.2.2.1, y12.2.2.2.2.2.2.2.2.2.2.2.2.2.2.2.2.2.2.2.2.2.2.2.1, y12.2.2.2.2.2.2.2.2.2.2.2.2.2.2.2.2.2.2.2.2.2.2.2.2.1, y12.2.2.2.2.2.2.2.2.2.2.2.2.2.2.2.2.2.2.2.2.2.2.2.2.2, y12.1, y12.2.1)) | none => none) | none => none) | none => none) | none => none) | none => none) | none => none) | none => none) | none => none) | none => none) | none => none)
abbrev F19_d (N : Nat) (x : ByteArray × ByteArray × ByteArray × ByteArray × Int × (List (List AV)) × Int) : Option (ByteArray × ByteArray × ByteArray × ByteArray × Int × Int × Int × Int × Int × Int × Int × (List (List AV)) × (List (List AV)) × Int) := (F19_s N).d x
theorem F19_par0 (N : Nat) : Par (F19_l0 N).b := by
  intro x α β kn ke kn' ke' r r' h h1 h2
  revert h
  dsimp only [F19_l0]
  (repeat' (first | (with_reducible refine par_ite ?_ ?_) | split)) <;> intro h <;> first | exact h1 _ h | exact h2 _ h | (cases h; done)
theorem F19_body0 (N : Nat) (x : (F19_l0 N).X) (α : Type) (kn : AS → Option α) (ke : Out → Option α) : around (tabOf Try.prog) (F19_g N) F19_an (lam N [F19_l0 N]) 0 (nthLoop 0 (Try.f19.body.getD .skip)) ((F19_l0 N).st x) kn ke = (F19_l0 N).b x α (fun x' => kn ((F19_l0 N).st x')) (fun y => (F19_l0 N).sp y α ke) := by kernel_rfl
theorem F19_pat0 (N : Nat) (s : AS) (x : (F19_l0 N).X) (hc : s = canon (F19_an 0).1 s) (h : (F19_l0 N).p s = some x) : s = (F19_l0 N).st x := by
  dsimp only [F19_l0] at h
  split at h
  · cases h
    exact canon_mk hc ‹_› ‹_› rfl rfl rfl ⟨‹_›, ‹_›, ‹_›, ‹_›, trivial⟩ ⟨‹_›, ‹_›, ‹_›, trivial⟩
  · cases h
theorem F19_loop0 (N : Nat) : ∀ s o, s = canon (F19_an 0).1 s → (lam N [F19_l0 N]).v 0 s = some o → LoopSem Try.prog (nthLoop 0 (Try.f19.body.getD .skip)) s o :=
  loop_ok (tabOf_ok Try.prog) (gam_ok _) mixed F19_an N [F19_l0 N] 0 _ (by
    have e : loopsOf (nthLoop 0 (Try.f19.body.getD .skip)) (0 + 1) = [] := by kernel_rfl
    rw [e]
    intro p hp
    cases hp) (F19_l0 N) rfl (fun s x hc h => F19_pat0 N s x hc h) (fun x => rfl) (fun x α kn ke => (F19_body0 N x α kn ke).trans (congrArg ((F19_l0 N).b x α _) (funext fun y => (F19_l0 N).spe y α ke))) (F19_par0 N)
theorem F19_parF (N : Nat) : ParF (F19_s N).t := by
  intro x α β k k' r r' h h1
  revert h
  dsimp only [F19_s]
  (repeat' (first | (with_reducible refine par_ite ?_ ?_) | split)) <;> intro h <;> first | exact h1 _ h | (cases h; done)
theorem F19_text (N : Nat) (x : (F19_s N).X) : acall (tabOf Try.prog) (F19_g N) F19_an (lam N [F19_l0 N]) Try.f19 [[none, none, none, none, none, none, none, none, none, none, none, some 1]] ((F19_s N).args x) ((F19_s N).bs x) = (F19_s N).t x Ret (fun y => some ((F19_s N).ret y)) := by kernel_rfl
theorem F19_pat (N : Nat) (a : List AV) (b : List (List AV)) (x : (F19_s N).X) (h : (F19_s N).pat a b = some x) : a = (F19_s N).args x ∧ b = (F19_s N).bs x := by
  dsimp only [F19_s] at h
  split at h
  · cases h; exact ⟨rfl, rfl⟩
  · cases h
noncomputable def F19_e (N : Nat) : Ent Try.prog := entOf (tabOf_ok Try.prog) (gam_ok _) mixed 19 Try.f19 Try.func19 rfl F19_an (lam N [F19_l0 N]) (by
    have e : loopsOf (Try.f19.body.getD .skip) 0 = [(0, nthLoop 0 (Try.f19.body.getD .skip))] := by kernel_rfl
    rw [e]
    intro p hp
    rcases List.mem_cons.1 hp with rfl | hp
    · exact F19_loop0 N
    cases hp) [[none, none, none, none, none, none, none, none, none, none, none, some 1]] (F19_s N) (F19_text N) (F19_pat N) (F19_parF N)
/-! ### seismonet/rate.in (function 55) -/
def F55_an : Nat → Keep × Keep := anL []
noncomputable def F55_g (N : Nat) : GamK := gam (P := Try.prog) []
def F55_s (N : Nat) : FSpec where
  X := Int × Int × Int
  Y := Bool
  ash := [[none], [none], [none]]
  bsh := []
  pat := fun a b => match a, b with
    | [(AV.v (.int .i64 a0)), (AV.v (.int .i64 a1)), (AV.v (.int .i64 a2))], [] => some (a0, a1, a2)
    | _, _ => none
  args := fun x => [(AV.v (.int .i64 x.1)), (AV.v (.int .i64 x.2.1)), (AV.v (.int .i64 x.2.2))]
  bs := fun x => []
  ret := fun y => ⟨(AV.v (.bool y)), [], none⟩
  t := fun x α k => (match (decide (x.1 ≥ x.2.1)) with | true => (k (decide (x.1 ≤ x.2.2))) | false => (k false))
abbrev F55_d (N : Nat) (x : Int × Int × Int) : Option (Bool) := (F55_s N).d x
theorem F55_parF (N : Nat) : ParF (F55_s N).t := by
  intro x α β k k' r r' h h1
  revert h
  dsimp only [F55_s]
  (repeat' (first | (with_reducible refine par_ite ?_ ?_) | split)) <;> intro h <;> first | exact h1 _ h | (cases h; done)
theorem F55_text (N : Nat) (x : (F55_s N).X) : acall (tabOf Try.prog) (F55_g N) F55_an (lam N []) Try.f55 [[none]] ((F55_s N).args x) ((F55_s N).bs x) = (F55_s N).t x Ret (fun y => some ((F55_s N).ret y)) := by kernel_rfl
theorem F55_pat (N : Nat) (a : List AV) (b : List (List AV)) (x : (F55_s N).X) (h : (F55_s N).pat a b = some x) : a = (F55_s N).args x ∧ b = (F55_s N).bs x := by
  dsimp only [F55_s] at h
  split at h
  · cases h; exact ⟨rfl, rfl⟩
  · cases h
noncomputable def F55_e (N : Nat) : Ent Try.prog := entOf (tabOf_ok Try.prog) (gam_ok _) mixed 55 Try.f55 Try.func55 rfl F55_an (lam N []) (by
    have e : loopsOf (Try.f55.body.getD .skip) 0 = [] := by kernel_rfl
    rw [e]
    intro p hp
    cases hp) [[none]] (F55_s N) (F55_text N) (F55_pat N) (F55_parF N)
/-! ### seismonet/rate.gcd (function 59) -/
def F59_an : Nat → Keep × Keep := anL [(⟨[0, 1], [], [], [], []⟩, ⟨[0], [], [], [], []⟩)]
noncomputable def F59_g (N : Nat) : GamK := gam (P := Try.prog) []
def F59_l0 (N : Nat) : LSpec where
  X := Int × Int
  Y := (Int)
  p := fun s => match s.env.length, s.nin, s.at 0, s.at 1 with
    | 12, 0, (AV.v (.int .i64 a0)), (AV.v (.int .i64 a1)) => some (a0, a1)
    | _, _, _, _ => none
  st := fun x => mkS 12 [(0, (AV.v (.int .i64 x.1))), (1, (AV.v (.int .i64 x.2)))] [] [] 0
  out := fun y => (.exit 0, mkS 12 [(0, (AV.v (.int .i64 y)))] [] [] 0)
  sp := fun y α k => k (.exit 0, mkS 12 [(0, (AV.v (.int .i64 y)))] [] [] 0)
  spe := fun y α k => rfl
  b := fun x α kn ke => (match (x.2 != 0) with | true => (if x.2 = 0 then none else (kn (x.2, (x.1.tmod x.2)))) | false => (ke x.1))
abbrev F59_d0 (N : Nat) (x : Int × Int) : Option ((Int)) := (F59_l0 N).L N x
def F59_s (N : Nat) : FSpec where
  X := Int × Int
  Y := Int
  ash := [[none], [none]]
  bsh := []
  pat := fun a b => match a, b with
    | [(AV.v (.int .i64 a0)), (AV.v (.int .i64 a1))], [] => some (a0, a1)
    | _, _ => none
  args := fun x => [(AV.v (.int .i64 x.1)), (AV.v (.int .i64 x.2))]
  bs := fun x => []
  ret := fun y => ⟨(AV.v (.int .i64 y)), [], none⟩
  t := fun x α k => (match F59_d0 N (x.1, x.2) with | some y1 => (k y1) | none => none)
abbrev F59_d (N : Nat) (x : Int × Int) : Option (Int) := (F59_s N).d x
theorem F59_par0 (N : Nat) : Par (F59_l0 N).b := by
  intro x α β kn ke kn' ke' r r' h h1 h2
  revert h
  dsimp only [F59_l0]
  (repeat' (first | (with_reducible refine par_ite ?_ ?_) | split)) <;> intro h <;> first | exact h1 _ h | exact h2 _ h | (cases h; done)
theorem F59_body0 (N : Nat) (x : (F59_l0 N).X) (α : Type) (kn : AS → Option α) (ke : Out → Option α) : around (tabOf Try.prog) (F59_g N) F59_an (lam N [F59_l0 N]) 0 (nthLoop 0 (Try.f59.body.getD .skip)) ((F59_l0 N).st x) kn ke = (F59_l0 N).b x α (fun x' => kn ((F59_l0 N).st x')) (fun y => (F59_l0 N).sp y α ke) := by kernel_rfl
theorem F59_pat0 (N : Nat) (s : AS) (x : (F59_l0 N).X) (hc : s = canon (F59_an 0).1 s) (h : (F59_l0 N).p s = some x) : s = (F59_l0 N).st x := by
  dsimp only [F59_l0] at h
  split at h
  · cases h
    exact canon_mk hc ‹_› ‹_› rfl rfl rfl ⟨‹_›, ‹_›, trivial⟩ trivial
  · cases h
theorem F59_loop0 (N : Nat) : ∀ s o, s = canon (F59_an 0).1 s → (lam N [F59_l0 N]).v 0 s = some o → LoopSem Try.prog (nthLoop 0 (Try.f59.body.getD .skip)) s o :=
  loop_ok (tabOf_ok Try.prog) (gam_ok _) mixed F59_an N [F59_l0 N] 0 _ (by
    have e : loopsOf (nthLoop 0 (Try.f59.body.getD .skip)) (0 + 1) = [] := by kernel_rfl
    rw [e]
    intro p hp
    cases hp) (F59_l0 N) rfl (fun s x hc h => F59_pat0 N s x hc h) (fun x => rfl) (fun x α kn ke => (F59_body0 N x α kn ke).trans (congrArg ((F59_l0 N).b x α _) (funext fun y => (F59_l0 N).spe y α ke))) (F59_par0 N)
theorem F59_parF (N : Nat) : ParF (F59_s N).t := by
  intro x α β k k' r r' h h1
  revert h
  dsimp only [F59_s]
  (repeat' (first | (with_reducible refine par_ite ?_ ?_) | split)) <;> intro h <;> first | exact h1 _ h | (cases h; done)
theorem F59_text (N : Nat) (x : (F59_s N).X) : acall (tabOf Try.prog) (F59_g N) F59_an (lam N [F59_l0 N]) Try.f59 [[none]] ((F59_s N).args x) ((F59_s N).bs x) = (F59_s N).t x Ret (fun y => some ((F59_s N).ret y)) := by kernel_rfl
theorem F59_pat (N : Nat) (a : List AV) (b : List (List AV)) (x : (F59_s N).X) (h : (F59_s N).pat a b = some x) : a = (F59_s N).args x ∧ b = (F59_s N).bs x := by
  dsimp only [F59_s] at h
  split at h
  · cases h; exact ⟨rfl, rfl⟩
  · cases h
noncomputable def F59_e (N : Nat) : Ent Try.prog := entOf (tabOf_ok Try.prog) (gam_ok _) mixed 59 Try.f59 Try.func59 rfl F59_an (lam N [F59_l0 N]) (by
    have e : loopsOf (Try.f59.body.getD .skip) 0 = [(0, nthLoop 0 (Try.f59.body.getD .skip))] := by kernel_rfl
    rw [e]
    intro p hp
    rcases List.mem_cons.1 hp with rfl | hp
    · exact F59_loop0 N
    cases hp) [[none]] (F59_s N) (F59_text N) (F59_pat N) (F59_parF N)
/-! ### seismonet/rate.Valid (function 54) -/
def F54_an : Nat → Keep × Keep := anL []
noncomputable def F54_g (N : Nat) : GamK := gam (P := Try.prog) [F55_e N, F59_e N]
def F54_s (N : Nat) : FSpec where
  X := Int × Int
  Y := Bool
  ash := [[none, none]]
  bsh := []
  pat := fun a b => match a, b with
    | [(AV.agg [(AV.v (.int .i64 a0)), (AV.v (.int .i64 a1))])], [] => some (a0, a1)
    | _, _ => none
  args := fun x => [(AV.agg [(AV.v (.int .i64 x.1)), (AV.v (.int .i64 x.2))])]
  bs := fun x => []
  ret := fun y => ⟨(AV.v (.bool y)), [], none⟩
  t := fun x α k => (match F55_d N (x.1, 1, 4096) with | some y1 => (match y1 with | true => (match F55_d N (x.2, 1, 4096) with | some y2 => (match y2 with | true => (match F59_d N (x.1, x.2) with | some y3 => (k (y3 == 1)) | none => none) | false => (k false)) | none => none) | false => (k false)) | none => none)
abbrev F54_d (N : Nat) (x : Int × Int) : Option (Bool) := (F54_s N).d x
theorem F54_parF (N : Nat) : ParF (F54_s N).t := by
  intro x α β k k' r r' h h1
  revert h
  dsimp only [F54_s]
  (repeat' (first | (with_reducible refine par_ite ?_ ?_) | split)) <;> intro h <;> first | exact h1 _ h | (cases h; done)
theorem F54_text (N : Nat) (x : (F54_s N).X) : acall (tabOf Try.prog) (F54_g N) F54_an (lam N []) Try.f54 [[none]] ((F54_s N).args x) ((F54_s N).bs x) = (F54_s N).t x Ret (fun y => some ((F54_s N).ret y)) := by kernel_rfl
theorem F54_pat (N : Nat) (a : List AV) (b : List (List AV)) (x : (F54_s N).X) (h : (F54_s N).pat a b = some x) : a = (F54_s N).args x ∧ b = (F54_s N).bs x := by
  dsimp only [F54_s] at h
  split at h
  · cases h; exact ⟨rfl, rfl⟩
  · cases h
noncomputable def F54_e (N : Nat) : Ent Try.prog := entOf (tabOf_ok Try.prog) (gam_ok _) mixed 54 Try.f54 Try.func54 rfl F54_an (lam N []) (by
    have e : loopsOf (Try.f54.body.getD .skip) 0 = [] := by kernel_rfl
    rw [e]
    intro p hp
    cases hp) [[none]] (F54_s N) (F54_text N) (F54_pat N) (F54_parF N)
/-! ### seismonet/rate.micros (function 60) -/
def F60_an : Nat → Keep × Keep := anL []
noncomputable def F60_g (N : Nat) : GamK := gam (P := Try.prog) []
def F60_s (N : Nat) : FSpec where
  X := Int × Int
  Y := Int
  ash := [[none, none]]
  bsh := []
  pat := fun a b => match a, b with
    | [(AV.agg [(AV.v (.int .i64 a0)), (AV.v (.int .i64 a1))])], [] => some (a0, a1)
    | _, _ => none
  args := fun x => [(AV.agg [(AV.v (.int .i64 x.1)), (AV.v (.int .i64 x.2))])]
  bs := fun x => []
  ret := fun y => ⟨(AV.v (.int .i64 y)), [], none⟩
  t := fun x α k => (k (i64 (x.2 * 1000000)))
abbrev F60_d (N : Nat) (x : Int × Int) : Option (Int) := (F60_s N).d x
theorem F60_parF (N : Nat) : ParF (F60_s N).t := by
  intro x α β k k' r r' h h1
  revert h
  dsimp only [F60_s]
  (repeat' (first | (with_reducible refine par_ite ?_ ?_) | split)) <;> intro h <;> first | exact h1 _ h | (cases h; done)
theorem F60_text (N : Nat) (x : (F60_s N).X) : acall (tabOf Try.prog) (F60_g N) F60_an (lam N []) Try.f60 [[none]] ((F60_s N).args x) ((F60_s N).bs x) = (F60_s N).t x Ret (fun y => some ((F60_s N).ret y)) := by kernel_rfl
theorem F60_pat (N : Nat) (a : List AV) (b : List (List AV)) (x : (F60_s N).X) (h : (F60_s N).pat a b = some x) : a = (F60_s N).args x ∧ b = (F60_s N).bs x := by
  dsimp only [F60_s] at h
  split at h
  · cases h; exact ⟨rfl, rfl⟩
  · cases h
noncomputable def F60_e (N : Nat) : Ent Try.prog := entOf (tabOf_ok Try.prog) (gam_ok _) mixed 60 Try.f60 Try.func60 rfl F60_an (lam N []) (by
    have e : loopsOf (Try.f60.body.getD .skip) 0 = [] := by kernel_rfl
    rw [e]
    intro p hp
    cases hp) [[none]] (F60_s N) (F60_text N) (F60_pat N) (F60_parF N)
/-! ### seismonet/rate.after (function 56) -/
def F56_an : Nat → Keep × Keep := anL []
noncomputable def F56_g (N : Nat) : GamK := gam (P := Try.prog) [F60_e N]
def F56_s (N : Nat) : FSpec where
  X := Int × Int × Int
  Y := Int
  ash := [[none, none], [none]]
  bsh := []
  pat := fun a b => match a, b with
    | [(AV.agg [(AV.v (.int .i64 a0)), (AV.v (.int .i64 a1))]), (AV.v (.int .i64 a2))], [] => some (a0, a1, a2)
    | _, _ => none
  args := fun x => [(AV.agg [(AV.v (.int .i64 x.1)), (AV.v (.int .i64 x.2.1))]), (AV.v (.int .i64 x.2.2))]
  bs := fun x => []
  ret := fun y => ⟨(AV.v (.int .i64 y)), [], none⟩
  t := fun x α k => (match F60_d N (x.1, x.2.1) with | some y1 => (if x.1 = 0 then none else (k (i64 ((i64 (x.2.2 * y1)).tdiv x.1)))) | none => none)
abbrev F56_d (N : Nat) (x : Int × Int × Int) : Option (Int) := (F56_s N).d x
theorem F56_parF (N : Nat) : ParF (F56_s N).t := by
  intro x α β k k' r r' h h1
  revert h
  dsimp only [F56_s]
  (repeat' (first | (with_reducible refine par_ite ?_ ?_) | split)) <;> intro h <;> first | exact h1 _ h | (cases h; done)
theorem F56_text (N : Nat) (x : (F56_s N).X) : acall (tabOf Try.prog) (F56_g N) F56_an (lam N []) Try.f56 [[none]] ((F56_s N).args x) ((F56_s N).bs x) = (F56_s N).t x Ret (fun y => some ((F56_s N).ret y)) := by kernel_rfl
theorem F56_pat (N : Nat) (a : List AV) (b : List (List AV)) (x : (F56_s N).X) (h : (F56_s N).pat a b = some x) : a = (F56_s N).args x ∧ b = (F56_s N).bs x := by
  dsimp only [F56_s] at h
  split at h
  · cases h; exact ⟨rfl, rfl⟩
  · cases h
noncomputable def F56_e (N : Nat) : Ent Try.prog := entOf (tabOf_ok Try.prog) (gam_ok _) mixed 56 Try.f56 Try.func56 rfl F56_an (lam N []) (by
    have e : loopsOf (Try.f56.body.getD .skip) 0 = [] := by kernel_rfl
    rw [e]
    intro p hp
    cases hp) [[none]] (F56_s N) (F56_text N) (F56_pat N) (F56_parF N)
/-! ### seismonet/rate.Time (function 41) -/
def F41_an : Nat → Keep × Keep := anL []
noncomputable def F41_g (N : Nat) : GamK := gam (P := Try.prog) [F54_e N, F55_e N, F56_e N]
def F41_s (N : Nat) : FSpec where
  X := Int × Int × Int × Int
  Y := Int × Int
  ash := [[none], [none, none], [none]]
  bsh := []
  pat := fun a b => match a, b with
    | [(AV.v (.int .i64 a0)), (AV.agg [(AV.v (.int .i64 a1)), (AV.v (.int .i64 a2))]), (AV.v (.int .i64 a3))], [] => some (a0, a1, a2, a3)
    | _, _ => none
  args := fun x => [(AV.v (.int .i64 x.1)), (AV.agg [(AV.v (.int .i64 x.2.1)), (AV.v (.int .i64 x.2.2.1))]), (AV.v (.int .i64 x.2.2.2))]
  bs := fun x => []
  ret := fun y => ⟨(AV.tup [(AV.v (.int .i64 y.1)), (AV.v (.int .i64 y.2))]), [], none⟩
  t := fun x α k => (match F54_d N (x.2.1, x.2.2.1) with | some y1 => (match (!y1) with | true => (k (0, 1)) | false => (match F55_d N (x.1, 0, 9007199254740992) with | some y2 => (match (!y2) with | true => (k (0, 2)) | false => (match F55_d N (x.2.2.2, 0, 16777216) with | some y3 => (match (!y3) with | true => (k (0, 2)) | false => (match F56_d N (x.2.1, x.2.2.1, x.2.2.2) with | some y4 => (k ((i64 (x.1 + y4)), 0)) | none => none)) | none => none)) | none => none)) | none => none)
abbrev F41_d (N : Nat) (x : Int × Int × Int × Int) : Option (Int × Int) := (F41_s N).d x
theorem F41_parF (N : Nat) : ParF (F41_s N).t := by
  intro x α β k k' r r' h h1
  revert h
  dsimp only [F41_s]
  (repeat' (first | (with_reducible refine par_ite ?_ ?_) | split)) <;> intro h <;> first | exact h1 _ h | (cases h; done)
theorem F41_text (N : Nat) (x : (F41_s N).X) : acall (tabOf Try.prog) (F41_g N) F41_an (lam N []) Try.f41 [[none], [none]] ((F41_s N).args x) ((F41_s N).bs x) = (F41_s N).t x Ret (fun y => some ((F41_s N).ret y)) := by kernel_rfl
theorem F41_pat (N : Nat) (a : List AV) (b : List (List AV)) (x : (F41_s N).X) (h : (F41_s N).pat a b = some x) : a = (F41_s N).args x ∧ b = (F41_s N).bs x := by
  dsimp only [F41_s] at h
  split at h
  · cases h; exact ⟨rfl, rfl⟩
  · cases h
noncomputable def F41_e (N : Nat) : Ent Try.prog := entOf (tabOf_ok Try.prog) (gam_ok _) mixed 41 Try.f41 Try.func41 rfl F41_an (lam N []) (by
    have e : loopsOf (Try.f41.body.getD .skip) 0 = [] := by kernel_rfl
    rw [e]
    intro p hp
    cases hp) [[none], [none]] (F41_s N) (F41_text N) (F41_pat N) (F41_parF N)
/-! ### slices.Clone[[]int,int] (function 42) -/
def F42_an : Nat → Keep × Keep := anL []
noncomputable def F42_g (N : Nat) : GamK := gam (P := Try.prog) []
def F42_s (N : Nat) : FSpec where
  X := (List (List AV))
  Y := (List (List AV))
  ash := [[some 1]]
  bsh := []
  pat := fun a b => match a, b with
    | [(AV.list 1 a0 none)], [] => some a0
    | _, _ => none
  args := fun x => [(AV.list 1 x none)]
  bs := fun x => []
  ret := fun y => ⟨(AV.list 1 y (some 0)), [], none⟩
  t := fun x α k => (match x with | [] => none | _ :: _ => (if (([] : List (List AV)).length + x.length) * 8 ≤ maxBytes then (k (([] : List (List AV)) ++ x)) else none))
abbrev F42_d (N : Nat) (x : (List (List AV))) : Option ((List (List AV))) := (F42_s N).d x
theorem F42_parF (N : Nat) : ParF (F42_s N).t := by
  intro x α β k k' r r' h h1
  revert h
  dsimp only [F42_s]
  (repeat' (first | (with_reducible refine par_ite ?_ ?_) | split)) <;> intro h <;> first | exact h1 _ h | (cases h; done)
theorem F42_text (N : Nat) (x : (F42_s N).X) : acall (tabOf Try.prog) (F42_g N) F42_an (lam N []) Try.f42 [[some 1]] ((F42_s N).args x) ((F42_s N).bs x) = (F42_s N).t x Ret (fun y => some ((F42_s N).ret y)) := by kernel_rfl
theorem F42_pat (N : Nat) (a : List AV) (b : List (List AV)) (x : (F42_s N).X) (h : (F42_s N).pat a b = some x) : a = (F42_s N).args x ∧ b = (F42_s N).bs x := by
  dsimp only [F42_s] at h
  split at h
  · cases h; exact ⟨rfl, rfl⟩
  · cases h
noncomputable def F42_e (N : Nat) : Ent Try.prog := entOf (tabOf_ok Try.prog) (gam_ok _) mixed 42 Try.f42 Try.func42 rfl F42_an (lam N []) (by
    have e : loopsOf (Try.f42.body.getD .skip) 0 = [] := by kernel_rfl
    rw [e]
    intro p hp
    cases hp) [[some 1]] (F42_s N) (F42_text N) (F42_pat N) (F42_parF N)
/-! ### seismonet/clock.Apply (function 21) -/
def F21_an : Nat → Keep × Keep := anL []
noncomputable def F21_g (N : Nat) : GamK := gam (P := Try.prog) [F41_e N, F26_e N, F35_e N, F15_e N, F39_e N, F42_e N]
def F21_s (N : Nat) : FSpec where
  X := (List (List AV)) × Int × ByteArray × ByteArray × ByteArray × ByteArray × Int × Int × Int × Int × Int × Int × Int × (List (List AV))
  Y := ByteArray × ByteArray × ByteArray × ByteArray × Int × Int × Int × Int × Int × Int × Int × (List (List AV)) × Int
  ash := [[some 3], [none], [none, none, none, none, none, none, none, none, none, none, none, some 1]]
  bsh := []
  pat := fun a b => match a, b with
    | [(AV.list 3 a0 none), (AV.v (.int .i64 a1)), (AV.agg [(AV.v (.string a2)), (AV.v (.string a3)), (AV.v (.string a4)), (AV.v (.string a5)), (AV.v (.int .i64 a6)), (AV.v (.int .i64 a7)), (AV.v (.int .i64 a8)), (AV.v (.int .i64 a9)), (AV.v (.int .i64 a10)), (AV.v (.int .i64 a11)), (AV.v (.int .i64 a12)), (AV.list 1 a13 none)])], [] => some (a0, a1, a2, a3, a4, a5, a6, a7, a8, a9, a10, a11, a12, a13)
    | _, _ => none
  args := fun x => [(AV.list 3 x.1 none), (AV.v (.int .i64 x.2.1)), (AV.agg [(AV.v (.string x.2.2.1)), (AV.v (.string x.2.2.2.1)), (AV.v (.string x.2.2.2.2.1)), (AV.v (.string x.2.2.2.2.2.1)), (AV.v (.int .i64 x.2.2.2.2.2.2.1)), (AV.v (.int .i64 x.2.2.2.2.2.2.2.1)), (AV.v (.int .i64 x.2.2.2.2.2.2.2.2.1)), (AV.v (.int .i64 x.2.2.2.2.2.2.2.2.2.1)), (AV.v (.int .i64 x.2.2.2.2.2.2.2.2.2.2.1)), (AV.v (.int .i64 x.2.2.2.2.2.2.2.2.2.2.2.1)), (AV.v (.int .i64 x.2.2.2.2.2.2.2.2.2.2.2.2.1)), (AV.list 1 x.2.2.2.2.2.2.2.2.2.2.2.2.2 none)])]
  bs := fun x => []
  ret := fun y => ⟨(AV.tup [(AV.agg [(AV.v (.string y.1)), (AV.v (.string y.2.1)), (AV.v (.string y.2.2.1)), (AV.v (.string y.2.2.2.1)), (AV.v (.int .i64 y.2.2.2.2.1)), (AV.v (.int .i64 y.2.2.2.2.2.1)), (AV.v (.int .i64 y.2.2.2.2.2.2.1)), (AV.v (.int .i64 y.2.2.2.2.2.2.2.1)), (AV.v (.int .i64 y.2.2.2.2.2.2.2.2.1)), (AV.v (.int .i64 y.2.2.2.2.2.2.2.2.2.1)), (AV.v (.int .i64 y.2.2.2.2.2.2.2.2.2.2.1)), (AV.list 1 y.2.2.2.2.2.2.2.2.2.2.2.1 none)]), (AV.v (.int .i64 y.2.2.2.2.2.2.2.2.2.2.2.2))]), [], none⟩
  t := fun x α k => (match F41_d N (x.2.2.2.2.2.2.1, x.2.2.2.2.2.2.2.2.1, x.2.2.2.2.2.2.2.2.2.1, x.2.2.2.2.2.2.2.1) with | some y1 => (match (y1.2 != 0) with | true => (k ((⟨#[]⟩ : ByteArray), (⟨#[]⟩ : ByteArray), (⟨#[]⟩ : ByteArray), (⟨#[]⟩ : ByteArray), 0, 0, 0, 0, 0, 0, 0, ([] : List (List AV)), 1)) | false => (match F26_d N (x.1, x.2.1) with | some y2 => (match (!y2) with | true => (k ((⟨#[]⟩ : ByteArray), (⟨#[]⟩ : ByteArray), (⟨#[]⟩ : ByteArray), (⟨#[]⟩ : ByteArray), 0, 0, 0, 0, 0, 0, 0, ([] : List (List AV)), 1)) | false => (match F35_d N y1.1 with | some y3 => (match (!y3) with | true => (k ((⟨#[]⟩ : ByteArray), (⟨#[]⟩ : ByteArray), (⟨#[]⟩ : ByteArray), (⟨#[]⟩ : ByteArray), 0, 0, 0, 0, 0, 0, 0, ([] : List (List AV)), 1)) | false => (match F15_d N (x.1, x.2.1, y1.1) with | some y4 => (match (y4.2.2 != 0) with | true => (k ((⟨#[]⟩ : ByteArray), (⟨#[]⟩ : ByteArray), (⟨#[]⟩ : ByteArray), (⟨#[]⟩ : ByteArray), 0, 0, 0, 0, 0, 0, 0, ([] : List (List AV)), y4.2.2)) | false => (match F39_d N (x.2.2.2.2.2.2.2.2.2.2.1, 0, 1099511627776) with | some y5 => (match (!y5) with | true => (k ((⟨#[]⟩ : ByteArray), (⟨#[]⟩ : ByteArray), (⟨#[]⟩ : ByteArray), (⟨#[]⟩ : ByteArray), 0, 0, 0, 0, 0, 0, 0, ([] : List (List AV)), 2)) | false => (match F42_d N x.2.2.2.2.2.2.2.2.2.2.2.2.2 with | some y6 => (k (x.2.2.1, x.2.2.2.1, x.2.2.2.2.1, x.2.2.2.2.2.1, y4.1, 0, x.2.2.2.2.2.2.2.2.1, x.2.2.2.2.2.2.2.2.2.1, (if 1099511627776 < (i64 (x.2.2.2.2.2.2.2.2.2.2.1 + y4.2.1)) then 1099511627776 else (i64 (x.2.2.2.2.2.2.2.2.2.2.1 + y4.2.1))), x.2.2.2.2.2.2.2.2.2.2.2.1, x.2.2.2.2.2.2.2.2.2.2.2.2.1, y6, 0)) | none => none)) | none => none)) | none => none)) | none => none)) | none => none)) | none => none)
abbrev F21_d (N : Nat) (x : (List (List AV)) × Int × ByteArray × ByteArray × ByteArray × ByteArray × Int × Int × Int × Int × Int × Int × Int × (List (List AV))) : Option (ByteArray × ByteArray × ByteArray × ByteArray × Int × Int × Int × Int × Int × Int × Int × (List (List AV)) × Int) := (F21_s N).d x
theorem F21_parF (N : Nat) : ParF (F21_s N).t := by
  intro x α β k k' r r' h h1
  revert h
  dsimp only [F21_s]
  (repeat' (first | (with_reducible refine par_ite ?_ ?_) | split)) <;> intro h <;> first | exact h1 _ h | (cases h; done)
theorem F21_text (N : Nat) (x : (F21_s N).X) : acall (tabOf Try.prog) (F21_g N) F21_an (lam N []) Try.f21 [[none, none, none, none, none, none, none, none, none, none, none, some 1], [none]] ((F21_s N).args x) ((F21_s N).bs x) = (F21_s N).t x Ret (fun y => some ((F21_s N).ret y)) := by kernel_rfl
theorem F21_pat (N : Nat) (a : List AV) (b : List (List AV)) (x : (F21_s N).X) (h : (F21_s N).pat a b = some x) : a = (F21_s N).args x ∧ b = (F21_s N).bs x := by
  dsimp only [F21_s] at h
  split at h
  · cases h; exact ⟨rfl, rfl⟩
  · cases h
noncomputable def F21_e (N : Nat) : Ent Try.prog := entOf (tabOf_ok Try.prog) (gam_ok _) mixed 21 Try.f21 Try.func21 rfl F21_an (lam N []) (by
    have e : loopsOf (Try.f21.body.getD .skip) 0 = [] := by kernel_rfl
    rw [e]
    intro p hp
    cases hp) [[none, none, none, none, none, none, none, none, none, none, none, some 1], [none]] (F21_s N) (F21_text N) (F21_pat N) (F21_parF N)
/-! ### seismonet/seismonetref05.Same (function 43) -/
def F43_an : Nat → Keep × Keep := anL [(⟨[5], [], [], [(0, 1), (1, 1)], []⟩, ⟨[4], [], [], [], []⟩)]
noncomputable def F43_g (N : Nat) : GamK := gam (P := Try.prog) []
def F43_l0 (N : Nat) : LSpec where
  X := (List (List AV)) × (List (List AV)) × Int
  Y := (Bool) ⊕ (Unit)
  p := fun s => match s.env.length, s.nin, s.at 0, s.at 1, s.at 5 with
    | 26, 0, (AV.list 1 a0 none), (AV.list 1 a1 none), (AV.v (.int .i64 a2)) => some (a0, a1, a2)
    | _, _, _, _, _ => none
  st := fun x => mkS 26 [(0, (AV.list 1 x.1 none)), (1, (AV.list 1 x.2.1 none)), (5, (AV.v (.int .i64 x.2.2)))] [] [] 0
  out := fun y => match y with
    | .inl y => (.ret, mkS 26 [(4, (AV.v (.bool y)))] [] [] 0)
    | .inr y => (.exit 0, mkS 26 [] [] [] 0)
  sp := fun y α k => match y with
    | .inl y => k (.ret, mkS 26 [(4, (AV.v (.bool y)))] [] [] 0)
    | .inr y => k (.exit 0, mkS 26 [] [] [] 0)
  spe := fun y α k => by rcases y with _ | _ <;> rfl
  b := fun x α kn ke => (match (decide (x.2.2 < (x.1.length : Int))) with | true => (if 0 ≤ x.2.2 then (match x.1[x.2.2.toNat]? with | some c1 => (match c1[0]? with | some x2 => (match x2 with | .v (.int q4 n3) => (if q4 = .i64 then (if 0 ≤ x.2.2 then (match x.2.1[x.2.2.toNat]? with | some c5 => (match c5[0]? with | some x6 => (match x6 with | .v (.int q8 n7) => (if q8 = .i64 then (match (n3 != n7) with | true => (ke (.inl false)) | false => (kn (x.1, x.2.1, (i64 (x.2.2 + 1))))) else none) | _ => none) | none => none) | none => none) else none) else none) | _ => none) | none => none) | none => none) else none) | false => (ke (.inr ())))
abbrev F43_d0 (N : Nat) (x : (List (List AV)) × (List (List AV)) × Int) : Option ((Bool) ⊕ (Unit)) := (F43_l0 N).L N x
def F43_s (N : Nat) : FSpec where
  X := (List (List AV)) × (List (List AV))
  Y := Bool
  ash := [[some 1], [some 1]]
  bsh := []
  pat := fun a b => match a, b with
    | [(AV.list 1 a0 none), (AV.list 1 a1 none)], [] => some (a0, a1)
    | _, _ => none
  args := fun x => [(AV.list 1 x.1 none), (AV.list 1 x.2 none)]
  bs := fun x => []
  ret := fun y => ⟨(AV.v (.bool y)), [], none⟩
  t := fun x α k => (match ((x.1.length : Int) != (x.2.length : Int)) with | true => (k false) | false => (match F43_d0 N (x.1, x.2, 0) with | some y9 => (match y9 with | .inl z10 => (k z10) | .inr z11 => (k true)) | none => none))
abbrev F43_d (N : Nat) (x : (List (List AV)) × (List (List AV))) : Option (Bool) := (F43_s N).d x
theorem F43_par0 (N : Nat) : Par (F43_l0 N).b := by
  intro x α β kn ke kn' ke' r r' h h1 h2
  revert h
  dsimp only [F43_l0]
  (repeat' (first | (with_reducible refine par_ite ?_ ?_) | split)) <;> intro h <;> first | exact h1 _ h | exact h2 _ h | (cases h; done)
theorem F43_body0 (N : Nat) (x : (F43_l0 N).X) (α : Type) (kn : AS → Option α) (ke : Out → Option α) : around (tabOf Try.prog) (F43_g N) F43_an (lam N [F43_l0 N]) 0 (nthLoop 0 (Try.f43.body.getD .skip)) ((F43_l0 N).st x) kn ke = (F43_l0 N).b x α (fun x' => kn ((F43_l0 N).st x')) (fun y => (F43_l0 N).sp y α ke) := by kernel_rfl
theorem F43_pat0 (N : Nat) (s : AS) (x : (F43_l0 N).X) (hc : s = canon (F43_an 0).1 s) (h : (F43_l0 N).p s = some x) : s = (F43_l0 N).st x := by
  dsimp only [F43_l0] at h
  split at h
  · cases h
    exact canon_mk hc ‹_› ‹_› rfl rfl rfl ⟨‹_›, ‹_›, ‹_›, trivial⟩ trivial
  · cases h
theorem F43_loop0 (N : Nat) : ∀ s o, s = canon (F43_an 0).1 s → (lam N [F43_l0 N]).v 0 s = some o → LoopSem Try.prog (nthLoop 0 (Try.f43.body.getD .skip)) s o :=
  loop_ok (tabOf_ok Try.prog) (gam_ok _) mixed F43_an N [F43_l0 N] 0 _ (by
    have e : loopsOf (nthLoop 0 (Try.f43.body.getD .skip)) (0 + 1) = [] := by kernel_rfl
    rw [e]
    intro p hp
    cases hp) (F43_l0 N) rfl (fun s x hc h => F43_pat0 N s x hc h) (fun x => rfl) (fun x α kn ke => (F43_body0 N x α kn ke).trans (congrArg ((F43_l0 N).b x α _) (funext fun y => (F43_l0 N).spe y α ke))) (F43_par0 N)
theorem F43_parF (N : Nat) : ParF (F43_s N).t := by
  intro x α β k k' r r' h h1
  revert h
  dsimp only [F43_s]
  (repeat' (first | (with_reducible refine par_ite ?_ ?_) | split)) <;> intro h <;> first | exact h1 _ h | (cases h; done)
theorem F43_text (N : Nat) (x : (F43_s N).X) : acall (tabOf Try.prog) (F43_g N) F43_an (lam N [F43_l0 N]) Try.f43 [[none]] ((F43_s N).args x) ((F43_s N).bs x) = (F43_s N).t x Ret (fun y => some ((F43_s N).ret y)) := by kernel_rfl
theorem F43_pat (N : Nat) (a : List AV) (b : List (List AV)) (x : (F43_s N).X) (h : (F43_s N).pat a b = some x) : a = (F43_s N).args x ∧ b = (F43_s N).bs x := by
  dsimp only [F43_s] at h
  split at h
  · cases h; exact ⟨rfl, rfl⟩
  · cases h
noncomputable def F43_e (N : Nat) : Ent Try.prog := entOf (tabOf_ok Try.prog) (gam_ok _) mixed 43 Try.f43 Try.func43 rfl F43_an (lam N [F43_l0 N]) (by
    have e : loopsOf (Try.f43.body.getD .skip) 0 = [(0, nthLoop 0 (Try.f43.body.getD .skip))] := by kernel_rfl
    rw [e]
    intro p hp
    rcases List.mem_cons.1 hp with rfl | hp
    · exact F43_loop0 N
    cases hp) [[none]] (F43_s N) (F43_text N) (F43_pat N) (F43_parF N)
/-! ### seismonet/seismonetref14.Same (function 22) -/
def F22_an : Nat → Keep × Keep := anL []
noncomputable def F22_g (N : Nat) : GamK := gam (P := Try.prog) [F43_e N]
def F22_s (N : Nat) : FSpec where
  X := ByteArray × ByteArray × ByteArray × ByteArray × Int × Int × Int × Int × Int × Int × Int × (List (List AV)) × ByteArray × ByteArray × ByteArray × ByteArray × Int × Int × Int × Int × Int × Int × Int × (List (List AV))
  Y := Bool
  ash := [[none, none, none, none, none, none, none, none, none, none, none, some 1], [none, none, none, none, none, none, none, none, none, none, none, some 1]]
  bsh := []
  pat := fun a b => match a, b with
    | [(AV.agg [(AV.v (.string a0)), (AV.v (.string a1)), (AV.v (.string a2)), (AV.v (.string a3)), (AV.v (.int .i64 a4)), (AV.v (.int .i64 a5)), (AV.v (.int .i64 a6)), (AV.v (.int .i64 a7)), (AV.v (.int .i64 a8)), (AV.v (.int .i64 a9)), (AV.v (.int .i64 a10)), (AV.list 1 a11 none)]), (AV.agg [(AV.v (.string a12)), (AV.v (.string a13)), (AV.v (.string a14)), (AV.v (.string a15)), (AV.v (.int .i64 a16)), (AV.v (.int .i64 a17)), (AV.v (.int .i64 a18)), (AV.v (.int .i64 a19)), (AV.v (.int .i64 a20)), (AV.v (.int .i64 a21)), (AV.v (.int .i64 a22)), (AV.list 1 a23 none)])], [] => some (a0, a1, a2, a3, a4, a5, a6, a7, a8, a9, a10, a11, a12, a13, a14, a15, a16, a17, a18, a19, a20, a21, a22, a23)
    | _, _ => none
  args := fun x => [(AV.agg [(AV.v (.string x.1)), (AV.v (.string x.2.1)), (AV.v (.string x.2.2.1)), (AV.v (.string x.2.2.2.1)), (AV.v (.int .i64 x.2.2.2.2.1)), (AV.v (.int .i64 x.2.2.2.2.2.1)), (AV.v (.int .i64 x.2.2.2.2.2.2.1)), (AV.v (.int .i64 x.2.2.2.2.2.2.2.1)), (AV.v (.int .i64 x.2.2.2.2.2.2.2.2.1)), (AV.v (.int .i64 x.2.2.2.2.2.2.2.2.2.1)), (AV.v (.int .i64 x.2.2.2.2.2.2.2.2.2.2.1)), (AV.list 1 x.2.2.2.2.2.2.2.2.2.2.2.1 none)]), (AV.agg [(AV.v (.string x.2.2.2.2.2.2.2.2.2.2.2.2.1)), (AV.v (.string x.2.2.2.2.2.2.2.2.2.2.2.2.2.1)), (AV.v (.string x.2.2.2.2.2.2.2.2.2.2.2.2.2.2.1)), (AV.v (.string x.2.2.2.2.2.2.2.2.2.2.2.2.2.2.2.1)), (AV.v (.int .i64 x.2.2.2.2.2.2.2.2.2.2.2.2.2.2.2.2.1)), (AV.v (.int .i64 x.2.2.2.2.2.2.2.2.2.2.2.2.2.2.2.2.2.1)), (AV.v (.int .i64 x.2.2.2.2.2.2.2.2.2.2.2.2.2.2.2.2.2.2.1)), (AV.v (.int .i64 x.2.2.2.2.2.2.2.2.2.2.2.2.2.2.2.2.2.2.2.1)), (AV.v (.int .i64 x.2.2.2.2.2.2.2.2.2.2.2.2.2.2.2.2.2.2.2.2.1)), (AV.v (.int .i64 x.2.2.2.2.2.2.2.2.2.2.2.2.2.2.2.2.2.2.2.2.2.1)), (AV.v (.int .i64 x.2.2.2.2.2.2.2.2.2.2.2.2.2.2.2.2.2.2.2.2.2.2.1)), (AV.list 1 x.2.2.2.2.2.2.2.2.2.2.2.2.2.2.2.2.2.2.2.2.2.2.2 none)])]
  bs := fun x => []
  ret := fun y => ⟨(AV.v (.bool y)), [], none⟩
  t := fun x α k => (match ((x.1 == x.2.2.2.2.2.2.2.2.2.2.2.2.1) && ((x.2.1 == x.2.2.2.2.2.2.2.2.2.2.2.2.2.1) && ((x.2.2.1 == x.2.2.2.2.2.2.2.2.2.2.2.2.2.2.1) && ((x.2.2.2.1 == x.2.2.2.2.2.2.2.2.2.2.2.2.2.2.2.1) && true)))) with | true => (match (x.2.2.2.2.1 == x.2.2.2.2.2.2.2.2.2.2.2.2.2.2.2.2.1) with | true => (match (x.2.2.2.2.2.1 == x.2.2.2.2.2.2.2.2.2.2.2.2.2.2.2.2.2.1) with | true => (match ((x.2.2.2.2.2.2.1 == x.2.2.2.2.2.2.2.2.2.2.2.2.2.2.2.2.2.2.1) && ((x.2.2.2.2.2.2.2.1 == x.2.2.2.2.2.2.2.2.2.2.2.2.2.2.2.2.2.2.2.1) && true)) with | true => (match (x.2.2.2.2.2.2.2.2.1 == x.2.2.2.2.2.2.2.2.2.2.2.2.2.2.2.2.2.2.2.2.1) with | true => (match (x.2.2.2.2.2.2.2.2.2.1 == x.2.2.2.2.2.2.2.2.2.2.2.2.2.2.2.2.2.2.2.2.2.1) with | true => (match (x.2.2.2.2.2.2.2.2.2.2.1 == x.2.2.2.2.2.2.2.2.2.2.2.2.2.2.2.2.2.2.2.2.2.2.1) with | true => (match F43_d N (x.2.2.2.2.2.2.2.2.2.2.2.1, x.2.2.2.2.2.2.2.2.2.2.2.2.2.2.2.2.2.2.2.2.2.2.2) with | some y1 => (k y1) | none => none) | false => (k false)) | false => (k false)) | false => (k false)) | false => (k false)) | false => (k false)) | false => (k false)) | false => (k false))
abbrev F22_d (N : Nat) (x : ByteArray × ByteArray × ByteArray × ByteArray × Int × Int × Int × Int × Int × Int × Int × (List (List AV)) × ByteArray × ByteArray × ByteArray × ByteArray × Int × Int × Int × Int × Int × Int × Int × (List (List AV))) : Option (Bool) := (F22_s N).d x
theorem F22_parF (N : Nat) : ParF (F22_s N).t := by
  intro x α β k k' r r' h h1
  revert h
  dsimp only [F22_s]
  (repeat' (first | (with_reducible refine par_ite ?_ ?_) | split)) <;> intro h <;> first | exact h1 _ h | (cases h; done)
theorem F22_text (N : Nat) (x : (F22_s N).X) : acall (tabOf Try.prog) (F22_g N) F22_an (lam N []) Try.f22 [[none]] ((F22_s N).args x) ((F22_s N).bs x) = (F22_s N).t x Ret (fun y => some ((F22_s N).ret y)) := by kernel_rfl
theorem F22_pat (N : Nat) (a : List AV) (b : List (List AV)) (x : (F22_s N).X) (h : (F22_s N).pat a b = some x) : a = (F22_s N).args x ∧ b = (F22_s N).bs x := by
  dsimp only [F22_s] at h
  split at h
  · cases h; exact ⟨rfl, rfl⟩
  · cases h
noncomputable def F22_e (N : Nat) : Ent Try.prog := entOf (tabOf_ok Try.prog) (gam_ok _) mixed 22 Try.f22 Try.func22 rfl F22_an (lam N []) (by
    have e : loopsOf (Try.f22.body.getD .skip) 0 = [] := by kernel_rfl
    rw [e]
    intro p hp
    cases hp) [[none]] (F22_s N) (F22_text N) (F22_pat N) (F22_parF N)
/-! ### seismonet/seismonetlaw13.ClockRecords (function 8) -/
def F8_an : Nat → Keep × Keep := anL []
noncomputable def F8_g (N : Nat) : GamK := gam (P := Try.prog) [F10_e N, F11_e N, F12_e N, F13_e N, F20_e N, F19_e N, F21_e N, F15_e N, F22_e N]
def F8_s (N : Nat) : FSpec where
  X := (List (List AV)) × Int
  Y := Bool
  ash := [[some 1], [none]]
  bsh := []
  pat := fun a b => match a, b with
    | [(AV.list 1 a0 none), (AV.v (.int .u16 a1))], [] => some (a0, a1)
    | _, _ => none
  args := fun x => [(AV.list 1 x.1 none), (AV.v (.int .u16 x.2))]
  bs := fun x => []
  ret := fun y => ⟨(AV.v (.bool y)), [], none⟩
  t := fun x α k => (match F10_d N x.1 with | some y1 => (match (!y1) with | true => (match F11_d N () with | some y2 => (k y2) | none => none) | false => (match F12_d N x.1 with | some y3 => (match F13_d N (false, y3.1, y3.2) with | some y4 => (match F20_d N (y4.2.2.1, y4.2.2.2) with | some y5 => (match F19_d N (y5.1, y5.2.1, y5.2.2.1, y5.2.2.2.1, 5, y5.2.2.2.2.1, y5.2.2.2.2.2) with | some y6 => (match F21_d N (y4.1, y4.2.1, y6.1, y6.2.1, y6.2.2.1, y6.2.2.2.1, (IntKind.i64.wrap x.2), 0, y6.2.2.2.2.2.2.1, y6.2.2.2.2.2.2.2.1, y6.2.2.2.2.2.2.2.2.1, y6.2.2.2.2.2.2.2.2.2.1, y6.2.2.2.2.2.2.2.2.2.2.1, y6.2.2.2.2.2.2.2.2.2.2.2.1) with | some y7 => (match F15_d N (y4.1, y4.2.1, (IntKind.i64.wrap x.2)) with | some y8 => (match (y8.2.2 != 0) with | true => (match (y7.2.2.2.2.2.2.2.2.2.2.2.2 == y8.2.2) with | true => (match F11_d N () with | some y9 => (k y9) | none => none) | false => (k false)) | false => (match (y7.2.2.2.2.2.2.2.2.2.2.2.2 == 0) with | true => (match (y7.2.2.2.2.1 == y8.1) with | true => (match (y7.2.2.2.2.2.1 == 0) with | true => (match (y7.2.2.2.2.2.2.2.2.1 == (i64 (y6.2.2.2.2.2.2.2.2.1 + y8.2.1))) with | true => (match F22_d N (y7.1, y7.2.1, y7.2.2.1, y7.2.2.2.1, (IntKind.i64.wrap x.2), y7.2.2.2.2.2.1, y7.2.2.2.2.2.2.1, y7.2.2.2.2.2.2.2.1, y6.2.2.2.2.2.2.2.2.1, y7.2.2.2.2.2.2.2.2.2.1, y7.2.2.2.2.2.2.2.2.2.2.1, y7.2.2.2.2.2.2.2.2.2.2.2.1, y6.1, y6.2.1, y6.2.2.1, y6.2.2.2.1, (IntKind.i64.wrap x.2), 0, y6.2.2.2.2.2.2.1, y6.2.2.2.2.2.2.2.1, y6.2.2.2.2.2.2.2.2.1, y6.2.2.2.2.2.2.2.2.2.1, y6.2.2.2.2.2.2.2.2.2.2.1, y6.2.2.2.2.2.2.2.2.2.2.2.1) with | some y10 => (match y10 with | true => (match F11_d N () with | some y11 => (k y11) | none => none) | false => (k false)) | none => none) | false => (k false)) | false => (k false)) | false => (k false)) | false => (k false))) | none => none) | none => none) | none => none) | none => none) | none => none) | none => none)) | none => none)
abbrev F8_d (N : Nat) (x : (List (List AV)) × Int) : Option (Bool) := (F8_s N).d x
theorem F8_parF (N : Nat) : ParF (F8_s N).t := by
  intro x α β k k' r r' h h1
  revert h
  dsimp only [F8_s]
  (repeat' (first | (with_reducible refine par_ite ?_ ?_) | split)) <;> intro h <;> first | exact h1 _ h | (cases h; done)
theorem F8_text (N : Nat) (x : (F8_s N).X) : acall (tabOf Try.prog) (F8_g N) F8_an (lam N []) Try.f8 [[none]] ((F8_s N).args x) ((F8_s N).bs x) = (F8_s N).t x Ret (fun y => some ((F8_s N).ret y)) := by kernel_rfl
theorem F8_pat (N : Nat) (a : List AV) (b : List (List AV)) (x : (F8_s N).X) (h : (F8_s N).pat a b = some x) : a = (F8_s N).args x ∧ b = (F8_s N).bs x := by
  dsimp only [F8_s] at h
  split at h
  · cases h; exact ⟨rfl, rfl⟩
  · cases h
noncomputable def F8_e (N : Nat) : Ent Try.prog := entOf (tabOf_ok Try.prog) (gam_ok _) mixed 8 Try.f8 Try.func8 rfl F8_an (lam N []) (by
    have e : loopsOf (Try.f8.body.getD .skip) 0 = [] := by kernel_rfl
    rw [e]
    intro p hp
    cases hp) [[none]] (F8_s N) (F8_text N) (F8_pat N) (F8_parF N)
end Go.Proofs.Ytecoemdhnphmdaa
