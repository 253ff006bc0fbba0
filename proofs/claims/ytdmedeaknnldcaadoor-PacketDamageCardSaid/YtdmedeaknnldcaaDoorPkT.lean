/- Functions without memory. (written by sx.py) -/
import Derived.Test.YtdmedeaknnldcaaDoorSymY
namespace Go.Proofs.YtdmedeaknnldcaaDoor
open Go.RowKit
set_option linter.unusedVariables false
set_option linter.unusedSimpArgs false
set_option linter.unnecessarySimpa false
set_option maxRecDepth 4000
/-! ### seismonet/steim.in (function 66) -/
def F66_an : Nat → Keep × Keep := anL []
noncomputable def F66_g (N : Nat) : GamK := gam (P := Tryd.prog) []
noncomputable def F66_s (N : Nat) : FSpec where
  X := Int × Int × Int
  Y := Bool
  ash := [[none], [none], [none]]
  bsh := []
  S := ⟨[[none]], [], [], [], []⟩
  bm := false
  pat := fun a b => match a, b with
    | [(AV.v (.int .i64 a0)), (AV.v (.int .i64 a1)), (AV.v (.int .i64 a2))], [] => some (a0, a1, a2)
    | _, _ => none
  args := fun x => [(AV.v (.int .i64 x.1)), (AV.v (.int .i64 x.2.1)), (AV.v (.int .i64 x.2.2))]
  bs := fun x => []
  ret := fun y => ⟨(AV.v (.bool y)), [], none, [], [], []⟩
  t := fun x α k => (match (decide (x.1 ≥ x.2.1)) with | true => (k (decide (x.1 ≤ x.2.2))) | false => (k false))
noncomputable abbrev F66_d (N : Nat) (x : Int × Int × Int) : Option (Bool) := (F66_s N).d x
theorem F66_parF (N : Nat) : ParF (F66_s N).t := by
  intro x α β k k' r r' h h1
  revert h
  dsimp only [F66_s]
  (repeat' (first | (with_reducible refine par_ite ?_ ?_) | (with_reducible refine par_both ?_ ?_) | split)) <;> intro h <;> first | exact h1 _ h | (cases h; done)
theorem F66_text (N : Nat) (x : (F66_s N).X) : acall (tabOf Tryd.prog) (F66_g N) F66_an (lam N []) Tryd.f66 (F66_s N).S ((F66_s N).args x) ((F66_s N).bs x) = (F66_s N).t x Ret (fun y => some ((F66_s N).ret y)) := by kernel_rfl
theorem F66_pat (N : Nat) (a : List AV) (b : List (List AV)) (x : (F66_s N).X) (h : (F66_s N).pat a b = some x) : a = (F66_s N).args x ∧ b = (F66_s N).bs x := by
  dsimp only [F66_s] at h
  split at h
  · cases h; exact ⟨rfl, rfl⟩
  · cases h
noncomputable def F66_e (N : Nat) : Ent Tryd.prog := entOf (tabOf_ok Tryd.prog) (gam_ok _) mixed 66 Tryd.f66 Tryd.func66 rfl F66_an (lam N []) (by
    have e : actOf F66_an (Tryd.f66.body.getD .skip) 0 = [] := by kernel_rfl
    rw [e]
    intro p hp
    cases hp) (F66_s N) (fun _ => ⟨rfl, rfl⟩) (F66_text N) (F66_pat N) (F66_parF N)
/-! ### seismonet/steim.sample (function 55) -/
def F55_an : Nat → Keep × Keep := anL []
noncomputable def F55_g (N : Nat) : GamK := gam (P := Tryd.prog) [F66_e N]
noncomputable def F55_s (N : Nat) : FSpec where
  X := Int
  Y := Bool
  ash := [[none]]
  bsh := []
  S := ⟨[[none]], [], [], [], []⟩
  bm := false
  pat := fun a b => match a, b with
    | [(AV.v (.int .i64 a0))], [] => some a0
    | _, _ => none
  args := fun x => [(AV.v (.int .i64 x))]
  bs := fun x => []
  ret := fun y => ⟨(AV.v (.bool y)), [], none, [], [], []⟩
  t := fun x α k => (match F66_d N (x, (-1073741823), 1073741823) with | some y1 => (k y1) | none => none)
noncomputable abbrev F55_d (N : Nat) (x : Int) : Option (Bool) := (F55_s N).d x
theorem F55_parF (N : Nat) : ParF (F55_s N).t := by
  intro x α β k k' r r' h h1
  revert h
  dsimp only [F55_s]
  (repeat' (first | (with_reducible refine par_ite ?_ ?_) | (with_reducible refine par_both ?_ ?_) | split)) <;> intro h <;> first | exact h1 _ h | (cases h; done)
theorem F55_text (N : Nat) (x : (F55_s N).X) : acall (tabOf Tryd.prog) (F55_g N) F55_an (lam N []) Tryd.f55 (F55_s N).S ((F55_s N).args x) ((F55_s N).bs x) = (F55_s N).t x Ret (fun y => some ((F55_s N).ret y)) := by kernel_rfl
theorem F55_pat (N : Nat) (a : List AV) (b : List (List AV)) (x : (F55_s N).X) (h : (F55_s N).pat a b = some x) : a = (F55_s N).args x ∧ b = (F55_s N).bs x := by
  dsimp only [F55_s] at h
  split at h
  · cases h; exact ⟨rfl, rfl⟩
  · cases h
noncomputable def F55_e (N : Nat) : Ent Tryd.prog := entOf (tabOf_ok Tryd.prog) (gam_ok _) mixed 55 Tryd.f55 Tryd.func55 rfl F55_an (lam N []) (by
    have e : actOf F55_an (Tryd.f55.body.getD .skip) 0 = [] := by kernel_rfl
    rw [e]
    intro p hp
    cases hp) (F55_s N) (fun _ => ⟨rfl, rfl⟩) (F55_text N) (F55_pat N) (F55_parF N)
/-! ### seismonet/steim.compress$1 (function 54) -/
def F54_an : Nat → Keep × Keep := anL []
noncomputable def F54_g (N : Nat) : GamK := gam (P := Tryd.prog) [F55_e N]
noncomputable def F54_s (N : Nat) : FSpec where
  X := Int
  Y := Bool
  ash := [[none]]
  bsh := []
  S := ⟨[[none]], [], [], [], []⟩
  bm := false
  pat := fun a b => match a, b with
    | [(AV.v (.int .i64 a0))], [] => some a0
    | _, _ => none
  args := fun x => [(AV.v (.int .i64 x))]
  bs := fun x => []
  ret := fun y => ⟨(AV.v (.bool y)), [], none, [], [], []⟩
  t := fun x α k => (match F55_d N x with | some y1 => (k (!y1)) | none => none)
noncomputable abbrev F54_d (N : Nat) (x : Int) : Option (Bool) := (F54_s N).d x
theorem F54_parF (N : Nat) : ParF (F54_s N).t := by
  intro x α β k k' r r' h h1
  revert h
  dsimp only [F54_s]
  (repeat' (first | (with_reducible refine par_ite ?_ ?_) | (with_reducible refine par_both ?_ ?_) | split)) <;> intro h <;> first | exact h1 _ h | (cases h; done)
theorem F54_text (N : Nat) (x : (F54_s N).X) : acall (tabOf Tryd.prog) (F54_g N) F54_an (lam N []) Tryd.f54 (F54_s N).S ((F54_s N).args x) ((F54_s N).bs x) = (F54_s N).t x Ret (fun y => some ((F54_s N).ret y)) := by kernel_rfl
theorem F54_pat (N : Nat) (a : List AV) (b : List (List AV)) (x : (F54_s N).X) (h : (F54_s N).pat a b = some x) : a = (F54_s N).args x ∧ b = (F54_s N).bs x := by
  dsimp only [F54_s] at h
  split at h
  · cases h; exact ⟨rfl, rfl⟩
  · cases h
noncomputable def F54_e (N : Nat) : Ent Tryd.prog := entOf (tabOf_ok Tryd.prog) (gam_ok _) mixed 54 Tryd.f54 Tryd.func54 rfl F54_an (lam N []) (by
    have e : actOf F54_an (Tryd.f54.body.getD .skip) 0 = [] := by kernel_rfl
    rw [e]
    intro p hp
    cases hp) (F54_s N) (fun _ => ⟨rfl, rfl⟩) (F54_text N) (F54_pat N) (F54_parF N)
/-! ### slices.IndexFunc[[]int,int] (function 74) -/
def F74_an : Nat → Keep × Keep := anL [(4, ⟨[1, 7, 8], [], [], [(0, 1)], [], [], [], [], false⟩, ⟨[4], [], [], [], [], [], [], [], false⟩)]
noncomputable def F74_g (N : Nat) : GamK := gam (P := Tryd.prog) [F54_e N]
noncomputable def F74_l4 (N : Nat) : LSpec where
  X := (List (List AV)) × Int × Int
  Y := (Int) ⊕ (Unit)
  p := fun s => match s.env.length, s.nin, s.at 0, s.at 1, s.at 7, s.at 8 with
    | 19, 0, (AV.list 1 a0 none), (AV.fn (.func 54) [] []), (AV.v (.int .i64 a1)), (AV.v (.int .i64 a2)) => some (a0, a1, a2)
    | _, _, _, _, _, _ => none
  st := fun x => mkS 19 [(0, (AV.list 1 x.1 none)), (1, (AV.fn (.func 54) [] [])), (7, (AV.v (.int .i64 x.2.1))), (8, (AV.v (.int .i64 x.2.2)))] [] (F74_an 4).1.toks 0
  out := fun y => match y with
    | .inl y => (.ret, mkS 19 [(4, (AV.v (.int .i64 y)))] [] (F74_an 4).2.toks 0)
    | .inr y => (.exit 0, mkS 19 [] [] (F74_an 4).2.toks 0)
  sp := fun y α k => match y with
    | .inl y => k (.ret, mkS 19 [(4, (AV.v (.int .i64 y)))] [] (F74_an 4).2.toks 0)
    | .inr y => k (.exit 0, mkS 19 [] [] (F74_an 4).2.toks 0)
  spe := fun y α k => by rcases y with _ | _ <;> rfl
  b := fun x α kn ke => (match (decide (x.2.2 < x.2.1)) with | true => (if 0 ≤ x.2.2 then (match x.1[x.2.2.toNat]? with | some c1 => (match c1[0]? with | some x2 => (match x2 with | .v (.int q4 n3) => (if q4 = .i64 then (match F54_d N n3 with | some y5 => (match y5 with | true => (ke (.inl x.2.2)) | false => (kn (x.1, x.2.1, (i64 (x.2.2 + 1))))) | none => none) else none) | _ => none) | none => none) | none => none) else none) | false => (ke (.inr ())))
noncomputable abbrev F74_d4 (N : Nat) (x : (List (List AV)) × Int × Int) : Option ((Int) ⊕ (Unit)) := (F74_l4 N).L N x
noncomputable def F74_s (N : Nat) : FSpec where
  X := (List (List AV))
  Y := Int
  ash := [[some 1], [none]]
  bsh := []
  S := ⟨[[none]], [], [], [], []⟩
  bm := false
  pat := fun a b => match a, b with
    | [(AV.list 1 a0 none), (AV.fn (.func 54) [] [])], [] => some a0
    | _, _ => none
  args := fun x => [(AV.list 1 x none), (AV.fn (.func 54) [] [])]
  bs := fun x => []
  ret := fun y => ⟨(AV.v (.int .i64 y)), [], none, [], [], []⟩
  t := fun x α k => (match F74_d4 N (x, (x.length : Int), 0) with | some y6 => (match y6 with | .inl z7 => (k z7) | .inr z8 => (k (-1))) | none => none)
noncomputable abbrev F74_d (N : Nat) (x : (List (List AV))) : Option (Int) := (F74_s N).d x
theorem F74_par4 (N : Nat) : Par (F74_l4 N).b := by
  intro x α β kn ke kn' ke' r r' h h1 h2
  revert h
  dsimp only [F74_l4]
  (repeat' (first | (with_reducible refine par_ite ?_ ?_) | (with_reducible refine par_both ?_ ?_) | split)) <;> intro h <;> first | exact h1 _ h | exact h2 _ h | (cases h; done)
theorem F74_body4 (N : Nat) (x : (F74_l4 N).X) (α : Type) (kn : AS → Option α) (ke : Out → Option α) : around (tabOf Tryd.prog) (F74_g N) F74_an (lam N [(4, F74_l4 N)]) 4 (bodyOf (nthLoop 4 (Tryd.f74.body.getD .skip))) ((F74_l4 N).st x) kn ke = (F74_l4 N).b x α (fun x' => kn ((F74_l4 N).st x')) (fun y => (F74_l4 N).sp y α ke) := by kernel_rfl
theorem F74_pat4 (N : Nat) (s : AS) (x : (F74_l4 N).X) (hc : s = canon (F74_an 4).1 s) (h : (F74_l4 N).p s = some x) : s = (F74_l4 N).st x := by
  dsimp only [F74_l4] at h
  split at h
  · cases h
    exact canon_mk hc ‹_› ‹_› rfl rfl rfl ⟨‹_›, ‹_›, ‹_›, ‹_›, trivial⟩ trivial
  · cases h
theorem F74_loop4 (N : Nat) : ∀ s o, s = canon (F74_an 4).1 s → (lam N [(4, F74_l4 N)]).v 4 s = some o → LoopSem Tryd.prog (nthLoop 4 (Tryd.f74.body.getD .skip)) s o :=
  loop_ok (tabOf_ok Tryd.prog) (gam_ok _) mixed F74_an N [(4, F74_l4 N)] 4 (bodyOf (nthLoop 4 (Tryd.f74.body.getD .skip))) (nthLoop 4 (Tryd.f74.body.getD .skip)) (by kernel_rfl) (by
    have e : actOf F74_an (bodyOf (nthLoop 4 (Tryd.f74.body.getD .skip))) (4 + 1) = [] := by kernel_rfl
    rw [e]
    intro p hp
    cases hp) (F74_l4 N) rfl (fun s x hc h => F74_pat4 N s x hc h) (fun x => rfl) (fun x α kn ke => (F74_body4 N x α kn ke).trans (congrArg ((F74_l4 N).b x α _) (funext fun y => (F74_l4 N).spe y α ke))) (F74_par4 N)
theorem F74_parF (N : Nat) : ParF (F74_s N).t := by
  intro x α β k k' r r' h h1
  revert h
  dsimp only [F74_s]
  (repeat' (first | (with_reducible refine par_ite ?_ ?_) | (with_reducible refine par_both ?_ ?_) | split)) <;> intro h <;> first | exact h1 _ h | (cases h; done)
theorem F74_text (N : Nat) (x : (F74_s N).X) : acall (tabOf Tryd.prog) (F74_g N) F74_an (lam N [(4, F74_l4 N)]) Tryd.f74 (F74_s N).S ((F74_s N).args x) ((F74_s N).bs x) = (F74_s N).t x Ret (fun y => some ((F74_s N).ret y)) := by kernel_rfl
theorem F74_pat (N : Nat) (a : List AV) (b : List (List AV)) (x : (F74_s N).X) (h : (F74_s N).pat a b = some x) : a = (F74_s N).args x ∧ b = (F74_s N).bs x := by
  dsimp only [F74_s] at h
  split at h
  · cases h; exact ⟨rfl, rfl⟩
  · cases h
noncomputable def F74_e (N : Nat) : Ent Tryd.prog := entOf (tabOf_ok Tryd.prog) (gam_ok _) mixed 74 Tryd.f74 Tryd.func74 rfl F74_an (lam N [(4, F74_l4 N)]) (by
    have e : actOf F74_an (Tryd.f74.body.getD .skip) 0 = [(4, nthLoop 4 (Tryd.f74.body.getD .skip))] := by kernel_rfl
    rw [e]
    intro p hp
    rcases List.mem_cons.1 hp with rfl | hp
    · exact F74_loop4 N
    cases hp) (F74_s N) (fun _ => ⟨rfl, rfl⟩) (F74_text N) (F74_pat N) (F74_parF N)
/-! ### slices.ContainsFunc[[]int,int] (function 53) -/
def F53_an : Nat → Keep × Keep := anL []
noncomputable def F53_g (N : Nat) : GamK := gam (P := Tryd.prog) [F74_e N]
noncomputable def F53_s (N : Nat) : FSpec where
  X := (List (List AV))
  Y := Bool
  ash := [[some 1], [none]]
  bsh := []
  S := ⟨[[none]], [], [], [], []⟩
  bm := false
  pat := fun a b => match a, b with
    | [(AV.list 1 a0 none), (AV.fn (.func 54) [] [])], [] => some a0
    | _, _ => none
  args := fun x => [(AV.list 1 x none), (AV.fn (.func 54) [] [])]
  bs := fun x => []
  ret := fun y => ⟨(AV.v (.bool y)), [], none, [], [], []⟩
  t := fun x α k => (match F74_d N x with | some y1 => (k (decide (y1 ≥ 0))) | none => none)
noncomputable abbrev F53_d (N : Nat) (x : (List (List AV))) : Option (Bool) := (F53_s N).d x
theorem F53_parF (N : Nat) : ParF (F53_s N).t := by
  intro x α β k k' r r' h h1
  revert h
  dsimp only [F53_s]
  (repeat' (first | (with_reducible refine par_ite ?_ ?_) | (with_reducible refine par_both ?_ ?_) | split)) <;> intro h <;> first | exact h1 _ h | (cases h; done)
theorem F53_text (N : Nat) (x : (F53_s N).X) : acall (tabOf Tryd.prog) (F53_g N) F53_an (lam N []) Tryd.f53 (F53_s N).S ((F53_s N).args x) ((F53_s N).bs x) = (F53_s N).t x Ret (fun y => some ((F53_s N).ret y)) := by kernel_rfl
theorem F53_pat (N : Nat) (a : List AV) (b : List (List AV)) (x : (F53_s N).X) (h : (F53_s N).pat a b = some x) : a = (F53_s N).args x ∧ b = (F53_s N).bs x := by
  dsimp only [F53_s] at h
  split at h
  · cases h; exact ⟨rfl, rfl⟩
  · cases h
noncomputable def F53_e (N : Nat) : Ent Tryd.prog := entOf (tabOf_ok Tryd.prog) (gam_ok _) mixed 53 Tryd.f53 Tryd.func53 rfl F53_an (lam N []) (by
    have e : actOf F53_an (Tryd.f53.body.getD .skip) 0 = [] := by kernel_rfl
    rw [e]
    intro p hp
    cases hp) (F53_s N) (fun _ => ⟨rfl, rfl⟩) (F53_text N) (F53_pat N) (F53_parF N)
/-! ### seismonet/steim.differences (function 56) -/
def F56_an : Nat → Keep × Keep := anF [(5, ⟨[3, 4], [], [7], [(0, 1)], [], [], [], [7], false⟩, ⟨[3], [], [7], [], [], [], [], [7], false⟩)] [(100006, ([3], []))]
noncomputable def F56_g (N : Nat) : GamK := gam (P := Tryd.prog) []
noncomputable def F56_l5 (N : Nat) : LSpec where
  X := (List (List AV)) × Nat × Int × (List AV)
  Y := (Nat × (List AV))
  p := fun s => match s.env.length, s.nin, s.at 0, s.at 3, s.at 4, s.bx 7 with
    | 28, 0, (AV.list 1 a0 none), (AV.vs 7 0 a1 1), (AV.v (.int .i64 a2)), some a3 => some (a0, a1, a2, a3)
    | _, _, _, _, _, _ => none
  st := fun x => mkS 28 [(0, (AV.list 1 x.1 none)), (3, (AV.vs 7 0 x.2.1 1)), (4, (AV.v (.int .i64 x.2.2.1)))] [(7, x.2.2.2)] (F56_an 5).1.toks 0
  out := fun y => (.exit 0, mkS 28 [(3, (AV.vs 7 0 y.1 1))] [(7, y.2)] (F56_an 5).2.toks 0)
  sp := fun y α k => k (.exit 0, mkS 28 [(3, (AV.vs 7 0 y.1 1))] [(7, y.2)] (F56_an 5).2.toks 0)
  spe := fun y α k => rfl
  b := fun x α kn ke => (match (decide (x.2.2.1 < (x.1.length : Int))) with | true => (if 0 ≤ x.2.2.1 then (match x.1[x.2.2.1.toNat]? with | some c9 => (match c9[0]? with | some x10 => (match x10 with | .v (.int q12 n11) => (if q12 = .i64 then (if 0 ≤ (i64 (x.2.2.1 - 1)) then (match x.1[(i64 (x.2.2.1 - 1)).toNat]? with | some c13 => (match c13[0]? with | some x14 => (match x14 with | .v (.int q16 n15) => (if q16 = .i64 then (if 0 ≤ x.2.2.1 ∧ x.2.2.1 < (x.2.1 : Int) then (if ((0 + x.2.2.1.toNat) * 1) + 1 ≤ x.2.2.2.length then (kn (x.1, x.2.1, (i64 (x.2.2.1 + 1)), ((x.2.2.2.set (((0 + x.2.2.1.toNat) * 1)) (AV.v (.int .i64 (i64 (n11 - n15))))).map dat0))) else none) else none) else none) | _ => none) | none => none) | none => none) else none) else none) | _ => none) | none => none) | none => none) else none) | false => (ke (x.2.1, (x.2.2.2.map dat0))))
noncomputable abbrev F56_d5 (N : Nat) (x : (List (List AV)) × Nat × Int × (List AV)) : Option ((Nat × (List AV))) := (F56_l5 N).L N x
noncomputable def F56_s (N : Nat) : FSpec where
  X := (List (List AV))
  Y := (List (List AV))
  ash := [[some 1]]
  bsh := []
  S := ⟨[[some 2000001]], [], [], [], []⟩
  bm := false
  pat := fun a b => match a, b with
    | [(AV.list 1 a0 none)], [] => some a0
    | _, _ => none
  args := fun x => [(AV.list 1 x none)]
  bs := fun x => []
  ret := fun y => ⟨(AV.list 1 y (some 2560000000)), [], none, [], [2560000000], []⟩
  t := fun x α k => (if 0 ≤ (x.length : Int) ∧ (x.length : Int) ≤ (x.length : Int) ∧ (x.length : Int).toNat * 8 ≤ maxBytes then (match F56_d5 N (x, ((x.length : Int).toNat), 1, ((List.replicate (x.length : Int).toNat (AV.v (.int .i64 0))).map dat0)) with | some y17 => (if y17.1 * 1 ≤ y17.2.length then (k (chunks (y17.2.take (y17.1 * 1)) 1 y17.1)) else none) | none => none) else none)
noncomputable abbrev F56_d (N : Nat) (x : (List (List AV))) : Option ((List (List AV))) := (F56_s N).d x
theorem F56_par5 (N : Nat) : Par (F56_l5 N).b := by
  intro x α β kn ke kn' ke' r r' h h1 h2
  revert h
  dsimp only [F56_l5]
  (repeat' (first | (with_reducible refine par_ite ?_ ?_) | (with_reducible refine par_both ?_ ?_) | split)) <;> intro h <;> first | exact h1 _ h | exact h2 _ h | (cases h; done)
theorem F56_body5 (N : Nat) (x : (F56_l5 N).X) (α : Type) (kn : AS → Option α) (ke : Out → Option α) : around (tabOf Tryd.prog) (F56_g N) F56_an (lam N [(5, F56_l5 N)]) 5 (bodyOf (nthLoop 5 (Tryd.f56.body.getD .skip))) ((F56_l5 N).st x) kn ke = (F56_l5 N).b x α (fun x' => kn ((F56_l5 N).st x')) (fun y => (F56_l5 N).sp y α ke) := by kernel_rfl
theorem F56_pat5 (N : Nat) (s : AS) (x : (F56_l5 N).X) (hc : s = canon (F56_an 5).1 s) (h : (F56_l5 N).p s = some x) : s = (F56_l5 N).st x := by
  dsimp only [F56_l5] at h
  split at h
  · cases h
    exact canon_mk hc ‹_› ‹_› rfl rfl rfl ⟨‹_›, ‹_›, ‹_›, trivial⟩ ⟨‹_›, trivial⟩
  · cases h
theorem F56_loop5 (N : Nat) : ∀ s o, s = canon (F56_an 5).1 s → (lam N [(5, F56_l5 N)]).v 5 s = some o → LoopSem Tryd.prog (nthLoop 5 (Tryd.f56.body.getD .skip)) s o :=
  loop_ok (tabOf_ok Tryd.prog) (gam_ok _) mixed F56_an N [(5, F56_l5 N)] 5 (bodyOf (nthLoop 5 (Tryd.f56.body.getD .skip))) (nthLoop 5 (Tryd.f56.body.getD .skip)) (by kernel_rfl) (by
    have e : actOf F56_an (bodyOf (nthLoop 5 (Tryd.f56.body.getD .skip))) (5 + 1) = [] := by kernel_rfl
    rw [e]
    intro p hp
    cases hp) (F56_l5 N) rfl (fun s x hc h => F56_pat5 N s x hc h) (fun x => rfl) (fun x α kn ke => (F56_body5 N x α kn ke).trans (congrArg ((F56_l5 N).b x α _) (funext fun y => (F56_l5 N).spe y α ke))) (F56_par5 N)
theorem F56_parF (N : Nat) : ParF (F56_s N).t := by
  intro x α β k k' r r' h h1
  revert h
  dsimp only [F56_s]
  (repeat' (first | (with_reducible refine par_ite ?_ ?_) | (with_reducible refine par_both ?_ ?_) | split)) <;> intro h <;> first | exact h1 _ h | (cases h; done)
theorem F56_text (N : Nat) (x : (F56_s N).X) : acall (tabOf Tryd.prog) (F56_g N) F56_an (lam N [(5, F56_l5 N)]) Tryd.f56 (F56_s N).S ((F56_s N).args x) ((F56_s N).bs x) = (F56_s N).t x Ret (fun y => some ((F56_s N).ret y)) := by kernel_rfl
theorem F56_pat (N : Nat) (a : List AV) (b : List (List AV)) (x : (F56_s N).X) (h : (F56_s N).pat a b = some x) : a = (F56_s N).args x ∧ b = (F56_s N).bs x := by
  dsimp only [F56_s] at h
  split at h
  · cases h; exact ⟨rfl, rfl⟩
  · cases h
noncomputable def F56_e (N : Nat) : Ent Tryd.prog := entOf (tabOf_ok Tryd.prog) (gam_ok _) mixed 56 Tryd.f56 Tryd.func56 rfl F56_an (lam N [(5, F56_l5 N)]) (by
    have e : actOf F56_an (Tryd.f56.body.getD .skip) 0 = [(5, nthLoop 5 (Tryd.f56.body.getD .skip))] := by kernel_rfl
    rw [e]
    intro p hp
    rcases List.mem_cons.1 hp with rfl | hp
    · exact F56_loop5 N
    cases hp) (F56_s N) (fun _ => ⟨rfl, rfl⟩) (F56_text N) (F56_pat N) (F56_parF N)
/-! ### seismonet/steim.counts (function 57) -/
def F57_an : Nat → Keep × Keep := anL []
noncomputable def F57_g (N : Nat) : GamK := gam (P := Tryd.prog) []
noncomputable def F57_s (N : Nat) : FSpec where
  X := Unit
  Y := Int × Int × Int × Int
  ash := []
  bsh := []
  S := ⟨[[none, none, none, none]], [], [], [], []⟩
  bm := false
  pat := fun a b => match a, b with
    | [], [] => some ()
    | _, _ => none
  args := fun x => []
  bs := fun x => []
  ret := fun y => ⟨(AV.agg [(AV.v (.int .i64 y.1)), (AV.v (.int .i64 y.2.1)), (AV.v (.int .i64 y.2.2.1)), (AV.v (.int .i64 y.2.2.2))]), [], none, [], [], []⟩
  t := fun x α k => (k (0, 4, 2, 1))
noncomputable abbrev F57_d (N : Nat) (x : Unit) : Option (Int × Int × Int × Int) := (F57_s N).d x
theorem F57_parF (N : Nat) : ParF (F57_s N).t := by
  intro x α β k k' r r' h h1
  revert h
  dsimp only [F57_s]
  (repeat' (first | (with_reducible refine par_ite ?_ ?_) | (with_reducible refine par_both ?_ ?_) | split)) <;> intro h <;> first | exact h1 _ h | (cases h; done)
theorem F57_text (N : Nat) (x : (F57_s N).X) : acall (tabOf Tryd.prog) (F57_g N) F57_an (lam N []) Tryd.f57 (F57_s N).S ((F57_s N).args x) ((F57_s N).bs x) = (F57_s N).t x Ret (fun y => some ((F57_s N).ret y)) := by kernel_rfl
theorem F57_pat (N : Nat) (a : List AV) (b : List (List AV)) (x : (F57_s N).X) (h : (F57_s N).pat a b = some x) : a = (F57_s N).args x ∧ b = (F57_s N).bs x := by
  dsimp only [F57_s] at h
  split at h
  · cases h; exact ⟨rfl, rfl⟩
  · cases h
noncomputable def F57_e (N : Nat) : Ent Tryd.prog := entOf (tabOf_ok Tryd.prog) (gam_ok _) mixed 57 Tryd.f57 Tryd.func57 rfl F57_an (lam N []) (by
    have e : actOf F57_an (Tryd.f57.body.getD .skip) 0 = [] := by kernel_rfl
    rw [e]
    intro p hp
    cases hp) (F57_s N) (fun _ => ⟨rfl, rfl⟩) (F57_text N) (F57_pat N) (F57_parF N)
/-! ### seismonet/bits.in (function 40) -/
def F40_an : Nat → Keep × Keep := anL []
noncomputable def F40_g (N : Nat) : GamK := gam (P := Tryd.prog) []
noncomputable def F40_s (N : Nat) : FSpec where
  X := Int × Int × Int
  Y := Bool
  ash := [[none], [none], [none]]
  bsh := []
  S := ⟨[[none]], [], [], [], []⟩
  bm := false
  pat := fun a b => match a, b with
    | [(AV.v (.int .i64 a0)), (AV.v (.int .i64 a1)), (AV.v (.int .i64 a2))], [] => some (a0, a1, a2)
    | _, _ => none
  args := fun x => [(AV.v (.int .i64 x.1)), (AV.v (.int .i64 x.2.1)), (AV.v (.int .i64 x.2.2))]
  bs := fun x => []
  ret := fun y => ⟨(AV.v (.bool y)), [], none, [], [], []⟩
  t := fun x α k => (match (decide (x.1 ≥ x.2.1)) with | true => (k (decide (x.1 ≤ x.2.2))) | false => (k false))
noncomputable abbrev F40_d (N : Nat) (x : Int × Int × Int) : Option (Bool) := (F40_s N).d x
theorem F40_parF (N : Nat) : ParF (F40_s N).t := by
  intro x α β k k' r r' h h1
  revert h
  dsimp only [F40_s]
  (repeat' (first | (with_reducible refine par_ite ?_ ?_) | (with_reducible refine par_both ?_ ?_) | split)) <;> intro h <;> first | exact h1 _ h | (cases h; done)
theorem F40_text (N : Nat) (x : (F40_s N).X) : acall (tabOf Tryd.prog) (F40_g N) F40_an (lam N []) Tryd.f40 (F40_s N).S ((F40_s N).args x) ((F40_s N).bs x) = (F40_s N).t x Ret (fun y => some ((F40_s N).ret y)) := by kernel_rfl
theorem F40_pat (N : Nat) (a : List AV) (b : List (List AV)) (x : (F40_s N).X) (h : (F40_s N).pat a b = some x) : a = (F40_s N).args x ∧ b = (F40_s N).bs x := by
  dsimp only [F40_s] at h
  split at h
  · cases h; exact ⟨rfl, rfl⟩
  · cases h
noncomputable def F40_e (N : Nat) : Ent Tryd.prog := entOf (tabOf_ok Tryd.prog) (gam_ok _) mixed 40 Tryd.f40 Tryd.func40 rfl F40_an (lam N []) (by
    have e : actOf F40_an (Tryd.f40.body.getD .skip) 0 = [] := by kernel_rfl
    rw [e]
    intro p hp
    cases hp) (F40_s N) (fun _ => ⟨rfl, rfl⟩) (F40_text N) (F40_pat N) (F40_parF N)
/-! ### seismonet/bits.Fits (function 61) -/
def F61_an : Nat → Keep × Keep := anL []
noncomputable def F61_g (N : Nat) : GamK := gam (P := Tryd.prog) [F40_e N]
noncomputable def F61_s (N : Nat) : FSpec where
  X := Int × Int
  Y := Bool
  ash := [[none], [none]]
  bsh := []
  S := ⟨[[none]], [], [], [], []⟩
  bm := false
  pat := fun a b => match a, b with
    | [(AV.v (.int .i64 a0)), (AV.v (.int .i64 a1))], [] => some (a0, a1)
    | _, _ => none
  args := fun x => [(AV.v (.int .i64 x.1)), (AV.v (.int .i64 x.2))]
  bs := fun x => []
  ret := fun y => ⟨(AV.v (.bool y)), [], none, [], [], []⟩
  t := fun x α k => (match F40_d N (x.2, 1, 56) with | some y1 => (match y1 with | true => (if (i64 (x.2 - 1)) < 0 then none else (if (i64 (x.2 - 1)) < 0 then none else (match F40_d N (x.1, (shL .i64 ((-1) : Int) (i64 (x.2 - 1))), (i64 ((shL .i64 (1 : Int) (i64 (x.2 - 1))) - 1))) with | some y2 => (k y2) | none => none))) | false => (k false)) | none => none)
noncomputable abbrev F61_d (N : Nat) (x : Int × Int) : Option (Bool) := (F61_s N).d x
theorem F61_parF (N : Nat) : ParF (F61_s N).t := by
  intro x α β k k' r r' h h1
  revert h
  dsimp only [F61_s]
  (repeat' (first | (with_reducible refine par_ite ?_ ?_) | (with_reducible refine par_both ?_ ?_) | split)) <;> intro h <;> first | exact h1 _ h | (cases h; done)
theorem F61_text (N : Nat) (x : (F61_s N).X) : acall (tabOf Tryd.prog) (F61_g N) F61_an (lam N []) Tryd.f61 (F61_s N).S ((F61_s N).args x) ((F61_s N).bs x) = (F61_s N).t x Ret (fun y => some ((F61_s N).ret y)) := by kernel_rfl
theorem F61_pat (N : Nat) (a : List AV) (b : List (List AV)) (x : (F61_s N).X) (h : (F61_s N).pat a b = some x) : a = (F61_s N).args x ∧ b = (F61_s N).bs x := by
  dsimp only [F61_s] at h
  split at h
  · cases h; exact ⟨rfl, rfl⟩
  · cases h
noncomputable def F61_e (N : Nat) : Ent Tryd.prog := entOf (tabOf_ok Tryd.prog) (gam_ok _) mixed 61 Tryd.f61 Tryd.func61 rfl F61_an (lam N []) (by
    have e : actOf F61_an (Tryd.f61.body.getD .skip) 0 = [] := by kernel_rfl
    rw [e]
    intro p hp
    cases hp) (F61_s N) (fun _ => ⟨rfl, rfl⟩) (F61_text N) (F61_pat N) (F61_parF N)
/-! ### seismonet/steim.fit$1 (function 75) -/
def F75_an : Nat → Keep × Keep := anL []
noncomputable def F75_g (N : Nat) : GamK := gam (P := Tryd.prog) [F61_e N]
noncomputable def F75_s (N : Nat) : FSpec where
  X := Int × Int
  Y := Bool × Int
  ash := [[none], [none]]
  bsh := [[none]]
  S := ⟨[[none]], [[]], [], [], []⟩
  bm := false
  pat := fun a b => match a, b with
    | [(AV.v (.int .i64 a0)), (AV.ptr 0 0)], [[(AV.v (.int .i64 a1))]] => some (a0, a1)
    | _, _ => none
  args := fun x => [(AV.v (.int .i64 x.1)), (AV.ptr 0 0)]
  bs := fun x => [[(AV.v (.int .i64 x.2))]]
  ret := fun y => ⟨(AV.v (.bool y.1)), [[(AV.v (.int .i64 y.2))]], none, [], [], []⟩
  t := fun x α k => (match F61_d N (x.1, x.2) with | some y1 => (k ((!y1), x.2)) | none => none)
noncomputable abbrev F75_d (N : Nat) (x : Int × Int) : Option (Bool × Int) := (F75_s N).d x
theorem F75_parF (N : Nat) : ParF (F75_s N).t := by
  intro x α β k k' r r' h h1
  revert h
  dsimp only [F75_s]
  (repeat' (first | (with_reducible refine par_ite ?_ ?_) | (with_reducible refine par_both ?_ ?_) | split)) <;> intro h <;> first | exact h1 _ h | (cases h; done)
theorem F75_text (N : Nat) (x : (F75_s N).X) : acall (tabOf Tryd.prog) (F75_g N) F75_an (lam N []) Tryd.f75 (F75_s N).S ((F75_s N).args x) ((F75_s N).bs x) = (F75_s N).t x Ret (fun y => some ((F75_s N).ret y)) := by kernel_rfl
theorem F75_pat (N : Nat) (a : List AV) (b : List (List AV)) (x : (F75_s N).X) (h : (F75_s N).pat a b = some x) : a = (F75_s N).args x ∧ b = (F75_s N).bs x := by
  dsimp only [F75_s] at h
  split at h
  · cases h; exact ⟨rfl, rfl⟩
  · cases h
noncomputable def F75_e (N : Nat) : Ent Tryd.prog := entOf (tabOf_ok Tryd.prog) (gam_ok _) mixed 75 Tryd.f75 Tryd.func75 rfl F75_an (lam N []) (by
    have e : actOf F75_an (Tryd.f75.body.getD .skip) 0 = [] := by kernel_rfl
    rw [e]
    intro p hp
    cases hp) (F75_s N) (fun _ => ⟨rfl, rfl⟩) (F75_text N) (F75_pat N) (F75_parF N)
/-! ### slices.IndexFunc[[]int,int] (function 74) -/
def F74a_an : Nat → Keep × Keep := anL [(4, ⟨[1, 7, 8], [], [0], [(0, 1)], [], [], [], [], false⟩, ⟨[4], [], [0], [], [], [], [], [], false⟩)]
noncomputable def F74a_g (N : Nat) : GamK := gam (P := Tryd.prog) [F75_e N]
noncomputable def F74a_l4 (N : Nat) : LSpec where
  X := (List (List AV)) × Int × Int × Int
  Y := (Int × Int) ⊕ (Int)
  p := fun s => match s.env.length, s.nin, s.at 0, s.at 1, s.at 7, s.at 8, s.bx 0 with
    | 19, 1, (AV.list 1 a0 none), (AV.fn (.func 75) [] [(AV.ptr 0 0)]), (AV.v (.int .i64 a1)), (AV.v (.int .i64 a2)), some [(AV.v (.int .i64 a3))] => some (a0, a1, a2, a3)
    | _, _, _, _, _, _, _ => none
  st := fun x => mkS 19 [(0, (AV.list 1 x.1 none)), (1, (AV.fn (.func 75) [] [(AV.ptr 0 0)])), (7, (AV.v (.int .i64 x.2.1))), (8, (AV.v (.int .i64 x.2.2.1)))] [(0, [(AV.v (.int .i64 x.2.2.2))])] (F74a_an 4).1.toks 1
  out := fun y => match y with
    | .inl y => (.ret, mkS 19 [(4, (AV.v (.int .i64 y.1)))] [(0, [(AV.v (.int .i64 y.2))])] (F74a_an 4).2.toks 1)
    | .inr y => (.exit 0, mkS 19 [] [(0, [(AV.v (.int .i64 y))])] (F74a_an 4).2.toks 1)
  sp := fun y α k => match y with
    | .inl y => k (.ret, mkS 19 [(4, (AV.v (.int .i64 y.1)))] [(0, [(AV.v (.int .i64 y.2))])] (F74a_an 4).2.toks 1)
    | .inr y => k (.exit 0, mkS 19 [] [(0, [(AV.v (.int .i64 y))])] (F74a_an 4).2.toks 1)
  spe := fun y α k => by rcases y with _ | _ <;> rfl
  b := fun x α kn ke => (match (decide (x.2.2.1 < x.2.1)) with | true => (if 0 ≤ x.2.2.1 then (match x.1[x.2.2.1.toNat]? with | some c6 => (match c6[0]? with | some x7 => (match x7 with | .v (.int q9 n8) => (if q9 = .i64 then (match F75_d N (n8, x.2.2.2) with | some y10 => (match y10.1 with | true => (ke (.inl (x.2.2.1, y10.2))) | false => (kn (x.1, x.2.1, (i64 (x.2.2.1 + 1)), y10.2))) | none => none) else none) | _ => none) | none => none) | none => none) else none) | false => (ke (.inr x.2.2.2)))
noncomputable abbrev F74a_d4 (N : Nat) (x : (List (List AV)) × Int × Int × Int) : Option ((Int × Int) ⊕ (Int)) := (F74a_l4 N).L N x
noncomputable def F74a_s (N : Nat) : FSpec where
  X := (List (List AV)) × Int
  Y := Int × Int
  ash := [[some 1], [none]]
  bsh := [[none]]
  S := ⟨[[none]], [[]], [], [], []⟩
  bm := false
  pat := fun a b => match a, b with
    | [(AV.list 1 a0 none), (AV.fn (.func 75) [] [(AV.ptr 0 0)])], [[(AV.v (.int .i64 a1))]] => some (a0, a1)
    | _, _ => none
  args := fun x => [(AV.list 1 x.1 none), (AV.fn (.func 75) [] [(AV.ptr 0 0)])]
  bs := fun x => [[(AV.v (.int .i64 x.2))]]
  ret := fun y => ⟨(AV.v (.int .i64 y.1)), [[(AV.v (.int .i64 y.2))]], none, [], [], []⟩
  t := fun x α k => (match F74a_d4 N (x.1, (x.1.length : Int), 0, x.2) with | some y11 => (match y11 with | .inl z12 => (k (z12.1, z12.2)) | .inr z13 => (k ((-1), z13))) | none => none)
noncomputable abbrev F74a_d (N : Nat) (x : (List (List AV)) × Int) : Option (Int × Int) := (F74a_s N).d x
theorem F74a_par4 (N : Nat) : Par (F74a_l4 N).b := by
  intro x α β kn ke kn' ke' r r' h h1 h2
  revert h
  dsimp only [F74a_l4]
  (repeat' (first | (with_reducible refine par_ite ?_ ?_) | (with_reducible refine par_both ?_ ?_) | split)) <;> intro h <;> first | exact h1 _ h | exact h2 _ h | (cases h; done)
theorem F74a_body4 (N : Nat) (x : (F74a_l4 N).X) (α : Type) (kn : AS → Option α) (ke : Out → Option α) : around (tabOf Tryd.prog) (F74a_g N) F74a_an (lam N [(4, F74a_l4 N)]) 4 (bodyOf (nthLoop 4 (Tryd.f74.body.getD .skip))) ((F74a_l4 N).st x) kn ke = (F74a_l4 N).b x α (fun x' => kn ((F74a_l4 N).st x')) (fun y => (F74a_l4 N).sp y α ke) := by kernel_rfl
theorem F74a_pat4 (N : Nat) (s : AS) (x : (F74a_l4 N).X) (hc : s = canon (F74a_an 4).1 s) (h : (F74a_l4 N).p s = some x) : s = (F74a_l4 N).st x := by
  dsimp only [F74a_l4] at h
  split at h
  · cases h
    exact canon_mk hc ‹_› ‹_› rfl rfl rfl ⟨‹_›, ‹_›, ‹_›, ‹_›, trivial⟩ ⟨‹_›, trivial⟩
  · cases h
theorem F74a_loop4 (N : Nat) : ∀ s o, s = canon (F74a_an 4).1 s → (lam N [(4, F74a_l4 N)]).v 4 s = some o → LoopSem Tryd.prog (nthLoop 4 (Tryd.f74.body.getD .skip)) s o :=
  loop_ok (tabOf_ok Tryd.prog) (gam_ok _) mixed F74a_an N [(4, F74a_l4 N)] 4 (bodyOf (nthLoop 4 (Tryd.f74.body.getD .skip))) (nthLoop 4 (Tryd.f74.body.getD .skip)) (by kernel_rfl) (by
    have e : actOf F74a_an (bodyOf (nthLoop 4 (Tryd.f74.body.getD .skip))) (4 + 1) = [] := by kernel_rfl
    rw [e]
    intro p hp
    cases hp) (F74a_l4 N) rfl (fun s x hc h => F74a_pat4 N s x hc h) (fun x => rfl) (fun x α kn ke => (F74a_body4 N x α kn ke).trans (congrArg ((F74a_l4 N).b x α _) (funext fun y => (F74a_l4 N).spe y α ke))) (F74a_par4 N)
theorem F74a_parF (N : Nat) : ParF (F74a_s N).t := by
  intro x α β k k' r r' h h1
  revert h
  dsimp only [F74a_s]
  (repeat' (first | (with_reducible refine par_ite ?_ ?_) | (with_reducible refine par_both ?_ ?_) | split)) <;> intro h <;> first | exact h1 _ h | (cases h; done)
theorem F74a_text (N : Nat) (x : (F74a_s N).X) : acall (tabOf Tryd.prog) (F74a_g N) F74a_an (lam N [(4, F74a_l4 N)]) Tryd.f74 (F74a_s N).S ((F74a_s N).args x) ((F74a_s N).bs x) = (F74a_s N).t x Ret (fun y => some ((F74a_s N).ret y)) := by kernel_rfl
theorem F74a_pat (N : Nat) (a : List AV) (b : List (List AV)) (x : (F74a_s N).X) (h : (F74a_s N).pat a b = some x) : a = (F74a_s N).args x ∧ b = (F74a_s N).bs x := by
  dsimp only [F74a_s] at h
  split at h
  · cases h; exact ⟨rfl, rfl⟩
  · cases h
noncomputable def F74a_e (N : Nat) : Ent Tryd.prog := entOf (tabOf_ok Tryd.prog) (gam_ok _) mixed 74 Tryd.f74 Tryd.func74 rfl F74a_an (lam N [(4, F74a_l4 N)]) (by
    have e : actOf F74a_an (Tryd.f74.body.getD .skip) 0 = [(4, nthLoop 4 (Tryd.f74.body.getD .skip))] := by kernel_rfl
    rw [e]
    intro p hp
    rcases List.mem_cons.1 hp with rfl | hp
    · exact F74a_loop4 N
    cases hp) (F74a_s N) (fun _ => ⟨rfl, rfl⟩) (F74a_text N) (F74a_pat N) (F74a_parF N)
/-! ### slices.ContainsFunc[[]int,int] (function 53) -/
def F53a_an : Nat → Keep × Keep := anL []
noncomputable def F53a_g (N : Nat) : GamK := gam (P := Tryd.prog) [F74a_e N]
noncomputable def F53a_s (N : Nat) : FSpec where
  X := (List (List AV)) × Int
  Y := Bool × Int
  ash := [[some 1], [none]]
  bsh := [[none]]
  S := ⟨[[none]], [[none]], [], [], []⟩
  bm := false
  pat := fun a b => match a, b with
    | [(AV.list 1 a0 none), (AV.fn (.func 75) [] [(AV.ptr 0 0)])], [[(AV.v (.int .i64 a1))]] => some (a0, a1)
    | _, _ => none
  args := fun x => [(AV.list 1 x.1 none), (AV.fn (.func 75) [] [(AV.ptr 0 0)])]
  bs := fun x => [[(AV.v (.int .i64 x.2))]]
  ret := fun y => ⟨(AV.v (.bool y.1)), [[(AV.v (.int .i64 y.2))]], none, [], [], []⟩
  t := fun x α k => (match F74a_d N (x.1, x.2) with | some y1 => (k ((decide (y1.1 ≥ 0)), y1.2)) | none => none)
noncomputable abbrev F53a_d (N : Nat) (x : (List (List AV)) × Int) : Option (Bool × Int) := (F53a_s N).d x
theorem F53a_parF (N : Nat) : ParF (F53a_s N).t := by
  intro x α β k k' r r' h h1
  revert h
  dsimp only [F53a_s]
  (repeat' (first | (with_reducible refine par_ite ?_ ?_) | (with_reducible refine par_both ?_ ?_) | split)) <;> intro h <;> first | exact h1 _ h | (cases h; done)
theorem F53a_text (N : Nat) (x : (F53a_s N).X) : acall (tabOf Tryd.prog) (F53a_g N) F53a_an (lam N []) Tryd.f53 (F53a_s N).S ((F53a_s N).args x) ((F53a_s N).bs x) = (F53a_s N).t x Ret (fun y => some ((F53a_s N).ret y)) := by kernel_rfl
theorem F53a_pat (N : Nat) (a : List AV) (b : List (List AV)) (x : (F53a_s N).X) (h : (F53a_s N).pat a b = some x) : a = (F53a_s N).args x ∧ b = (F53a_s N).bs x := by
  dsimp only [F53a_s] at h
  split at h
  · cases h; exact ⟨rfl, rfl⟩
  · cases h
noncomputable def F53a_e (N : Nat) : Ent Tryd.prog := entOf (tabOf_ok Tryd.prog) (gam_ok _) mixed 53 Tryd.f53 Tryd.func53 rfl F53a_an (lam N []) (by
    have e : actOf F53a_an (Tryd.f53.body.getD .skip) 0 = [] := by kernel_rfl
    rw [e]
    intro p hp
    cases hp) (F53a_s N) (fun _ => ⟨rfl, rfl⟩) (F53a_text N) (F53a_pat N) (F53a_parF N)
/-! ### seismonet/steim.fit (function 58) -/
def F58_an : Nat → Keep × Keep := anL []
noncomputable def F58_g (N : Nat) : GamK := gam (P := Tryd.prog) [F53a_e N]
noncomputable def F58_s (N : Nat) : FSpec where
  X := (List (List AV)) × Int × Int
  Y := Bool
  ash := [[some 1], [none], [none]]
  bsh := []
  S := ⟨[[none]], [], [], [], []⟩
  bm := false
  pat := fun a b => match a, b with
    | [(AV.list 1 a0 none), (AV.v (.int .i64 a1)), (AV.v (.int .i64 a2))], [] => some (a0, a1, a2)
    | _, _ => none
  args := fun x => [(AV.list 1 x.1 none), (AV.v (.int .i64 x.2.1)), (AV.v (.int .i64 x.2.2))]
  bs := fun x => []
  ret := fun y => ⟨(AV.v (.bool y)), [], none, [], [], []⟩
  t := fun x α k => (match (decide ((x.1.length : Int) ≥ x.2.1)) with | true => (if 0 ≤ x.2.1 ∧ x.2.1 ≤ x.1.length then (match F53a_d N ((x.1.take x.2.1.toNat), x.2.2) with | some y1 => (k (!y1.1)) | none => none) else none) | false => (k false))
noncomputable abbrev F58_d (N : Nat) (x : (List (List AV)) × Int × Int) : Option (Bool) := (F58_s N).d x
theorem F58_parF (N : Nat) : ParF (F58_s N).t := by
  intro x α β k k' r r' h h1
  revert h
  dsimp only [F58_s]
  (repeat' (first | (with_reducible refine par_ite ?_ ?_) | (with_reducible refine par_both ?_ ?_) | split)) <;> intro h <;> first | exact h1 _ h | (cases h; done)
theorem F58_text (N : Nat) (x : (F58_s N).X) : acall (tabOf Tryd.prog) (F58_g N) F58_an (lam N []) Tryd.f58 (F58_s N).S ((F58_s N).args x) ((F58_s N).bs x) = (F58_s N).t x Ret (fun y => some ((F58_s N).ret y)) := by kernel_rfl
theorem F58_pat (N : Nat) (a : List AV) (b : List (List AV)) (x : (F58_s N).X) (h : (F58_s N).pat a b = some x) : a = (F58_s N).args x ∧ b = (F58_s N).bs x := by
  dsimp only [F58_s] at h
  split at h
  · cases h; exact ⟨rfl, rfl⟩
  · cases h
noncomputable def F58_e (N : Nat) : Ent Tryd.prog := entOf (tabOf_ok Tryd.prog) (gam_ok _) mixed 58 Tryd.f58 Tryd.func58 rfl F58_an (lam N []) (by
    have e : actOf F58_an (Tryd.f58.body.getD .skip) 0 = [] := by kernel_rfl
    rw [e]
    intro p hp
    cases hp) (F58_s N) (fun _ => ⟨rfl, rfl⟩) (F58_text N) (F58_pat N) (F58_parF N)
/-! ### seismonet/bits.Wrap (function 38) -/
def F38_an : Nat → Keep × Keep := anL []
noncomputable def F38_g (N : Nat) : GamK := gam (P := Tryd.prog) [F61_e N]
noncomputable def F38_s (N : Nat) : FSpec where
  X := Int × Int
  Y := Int × Int
  ash := [[none], [none]]
  bsh := []
  S := ⟨[[none], [none]], [], [], [], []⟩
  bm := false
  pat := fun a b => match a, b with
    | [(AV.v (.int .i64 a0)), (AV.v (.int .i64 a1))], [] => some (a0, a1)
    | _, _ => none
  args := fun x => [(AV.v (.int .i64 x.1)), (AV.v (.int .i64 x.2))]
  bs := fun x => []
  ret := fun y => ⟨(AV.tup [(AV.v (.int .i64 y.1)), (AV.v (.int .i64 y.2))]), [], none, [], [], []⟩
  t := fun x α k => (match F61_d N (x.1, x.2) with | some y1 => (match (!y1) with | true => (k (0, 2)) | false => (if x.2 < 0 then none else (k ((bAnd .i64 x.1 (i64 ((shL .i64 (1 : Int) x.2) - 1))), 0)))) | none => none)
noncomputable abbrev F38_d (N : Nat) (x : Int × Int) : Option (Int × Int) := (F38_s N).d x
theorem F38_parF (N : Nat) : ParF (F38_s N).t := by
  intro x α β k k' r r' h h1
  revert h
  dsimp only [F38_s]
  (repeat' (first | (with_reducible refine par_ite ?_ ?_) | (with_reducible refine par_both ?_ ?_) | split)) <;> intro h <;> first | exact h1 _ h | (cases h; done)
theorem F38_text (N : Nat) (x : (F38_s N).X) : acall (tabOf Tryd.prog) (F38_g N) F38_an (lam N []) Tryd.f38 (F38_s N).S ((F38_s N).args x) ((F38_s N).bs x) = (F38_s N).t x Ret (fun y => some ((F38_s N).ret y)) := by kernel_rfl
theorem F38_pat (N : Nat) (a : List AV) (b : List (List AV)) (x : (F38_s N).X) (h : (F38_s N).pat a b = some x) : a = (F38_s N).args x ∧ b = (F38_s N).bs x := by
  dsimp only [F38_s] at h
  split at h
  · cases h; exact ⟨rfl, rfl⟩
  · cases h
noncomputable def F38_e (N : Nat) : Ent Tryd.prog := entOf (tabOf_ok Tryd.prog) (gam_ok _) mixed 38 Tryd.f38 Tryd.func38 rfl F38_an (lam N []) (by
    have e : actOf F38_an (Tryd.f38.body.getD .skip) 0 = [] := by kernel_rfl
    rw [e]
    intro p hp
    cases hp) (F38_s N) (fun _ => ⟨rfl, rfl⟩) (F38_text N) (F38_pat N) (F38_parF N)
/-! ### seismonet/steim.pack (function 59) -/
def F59_an : Nat → Keep × Keep := anL [(5, ⟨[1, 5, 11, 12], [], [], [(10, 1)], [], [], [], [], false⟩, ⟨[5], [], [], [], [], [], [], [], false⟩)]
noncomputable def F59_g (N : Nat) : GamK := gam (P := Tryd.prog) [F38_e N]
noncomputable def F59_l5 (N : Nat) : LSpec where
  X := (List (List AV)) × Int × Int × Int × Int
  Y := (Int)
  p := fun s => match s.env.length, s.nin, s.at 10, s.at 1, s.at 5, s.at 11, s.at 12 with
    | 29, 0, (AV.list 1 a0 none), (AV.v (.int .i64 a1)), (AV.v (.int .i64 a2)), (AV.v (.int .i64 a3)), (AV.v (.int .i64 a4)) => some (a0, a1, a2, a3, a4)
    | _, _, _, _, _, _, _ => none
  st := fun x => mkS 29 [(10, (AV.list 1 x.1 none)), (1, (AV.v (.int .i64 x.2.1))), (5, (AV.v (.int .i64 x.2.2.1))), (11, (AV.v (.int .i64 x.2.2.2.1))), (12, (AV.v (.int .i64 x.2.2.2.2)))] [] (F59_an 5).1.toks 0
  out := fun y => (.exit 0, mkS 29 [(5, (AV.v (.int .i64 y)))] [] (F59_an 5).2.toks 0)
  sp := fun y α k => k (.exit 0, mkS 29 [(5, (AV.v (.int .i64 y)))] [] (F59_an 5).2.toks 0)
  spe := fun y α k => rfl
  b := fun x α kn ke => (match (decide (x.2.2.2.2 < x.2.2.2.1)) with | true => (if 0 ≤ x.2.2.2.2 then (match x.1[x.2.2.2.2.toNat]? with | some c1 => (match c1[0]? with | some x2 => (match x2 with | .v (.int q4 n3) => (if q4 = .i64 then (match F38_d N (n3, x.2.1) with | some y5 => (if x.2.1 < 0 then none else (kn (x.1, x.2.1, (bOr .i64 (shL .i64 x.2.2.1 x.2.1) y5.1), x.2.2.2.1, (i64 (x.2.2.2.2 + 1))))) | none => none) else none) | _ => none) | none => none) | none => none) else none) | false => (ke x.2.2.1))
noncomputable abbrev F59_d5 (N : Nat) (x : (List (List AV)) × Int × Int × Int × Int) : Option ((Int)) := (F59_l5 N).L N x
noncomputable def F59_s (N : Nat) : FSpec where
  X := (List (List AV)) × Int
  Y := Int
  ash := [[some 1], [none]]
  bsh := []
  S := ⟨[[none]], [], [], [], []⟩
  bm := false
  pat := fun a b => match a, b with
    | [(AV.list 1 a0 none), (AV.v (.int .i64 a1))], [] => some (a0, a1)
    | _, _ => none
  args := fun x => [(AV.list 1 x.1 none), (AV.v (.int .i64 x.2))]
  bs := fun x => []
  ret := fun y => ⟨(AV.v (.int .i64 y)), [], none, [], [], []⟩
  t := fun x α k => (match F59_d5 N (x.1, x.2, 0, (x.1.length : Int), 0) with | some y6 => (k y6) | none => none)
noncomputable abbrev F59_d (N : Nat) (x : (List (List AV)) × Int) : Option (Int) := (F59_s N).d x
theorem F59_par5 (N : Nat) : Par (F59_l5 N).b := by
  intro x α β kn ke kn' ke' r r' h h1 h2
  revert h
  dsimp only [F59_l5]
  (repeat' (first | (with_reducible refine par_ite ?_ ?_) | (with_reducible refine par_both ?_ ?_) | split)) <;> intro h <;> first | exact h1 _ h | exact h2 _ h | (cases h; done)
theorem F59_body5 (N : Nat) (x : (F59_l5 N).X) (α : Type) (kn : AS → Option α) (ke : Out → Option α) : around (tabOf Tryd.prog) (F59_g N) F59_an (lam N [(5, F59_l5 N)]) 5 (bodyOf (nthLoop 5 (Tryd.f59.body.getD .skip))) ((F59_l5 N).st x) kn ke = (F59_l5 N).b x α (fun x' => kn ((F59_l5 N).st x')) (fun y => (F59_l5 N).sp y α ke) := by kernel_rfl
theorem F59_pat5 (N : Nat) (s : AS) (x : (F59_l5 N).X) (hc : s = canon (F59_an 5).1 s) (h : (F59_l5 N).p s = some x) : s = (F59_l5 N).st x := by
  dsimp only [F59_l5] at h
  split at h
  · cases h
    exact canon_mk hc ‹_› ‹_› rfl rfl rfl ⟨‹_›, ‹_›, ‹_›, ‹_›, ‹_›, trivial⟩ trivial
  · cases h
theorem F59_loop5 (N : Nat) : ∀ s o, s = canon (F59_an 5).1 s → (lam N [(5, F59_l5 N)]).v 5 s = some o → LoopSem Tryd.prog (nthLoop 5 (Tryd.f59.body.getD .skip)) s o :=
  loop_ok (tabOf_ok Tryd.prog) (gam_ok _) mixed F59_an N [(5, F59_l5 N)] 5 (bodyOf (nthLoop 5 (Tryd.f59.body.getD .skip))) (nthLoop 5 (Tryd.f59.body.getD .skip)) (by kernel_rfl) (by
    have e : actOf F59_an (bodyOf (nthLoop 5 (Tryd.f59.body.getD .skip))) (5 + 1) = [] := by kernel_rfl
    rw [e]
    intro p hp
    cases hp) (F59_l5 N) rfl (fun s x hc h => F59_pat5 N s x hc h) (fun x => rfl) (fun x α kn ke => (F59_body5 N x α kn ke).trans (congrArg ((F59_l5 N).b x α _) (funext fun y => (F59_l5 N).spe y α ke))) (F59_par5 N)
theorem F59_parF (N : Nat) : ParF (F59_s N).t := by
  intro x α β k k' r r' h h1
  revert h
  dsimp only [F59_s]
  (repeat' (first | (with_reducible refine par_ite ?_ ?_) | (with_reducible refine par_both ?_ ?_) | split)) <;> intro h <;> first | exact h1 _ h | (cases h; done)
theorem F59_text (N : Nat) (x : (F59_s N).X) : acall (tabOf Tryd.prog) (F59_g N) F59_an (lam N [(5, F59_l5 N)]) Tryd.f59 (F59_s N).S ((F59_s N).args x) ((F59_s N).bs x) = (F59_s N).t x Ret (fun y => some ((F59_s N).ret y)) := by kernel_rfl
theorem F59_pat (N : Nat) (a : List AV) (b : List (List AV)) (x : (F59_s N).X) (h : (F59_s N).pat a b = some x) : a = (F59_s N).args x ∧ b = (F59_s N).bs x := by
  dsimp only [F59_s] at h
  split at h
  · cases h; exact ⟨rfl, rfl⟩
  · cases h
noncomputable def F59_e (N : Nat) : Ent Tryd.prog := entOf (tabOf_ok Tryd.prog) (gam_ok _) mixed 59 Tryd.f59 Tryd.func59 rfl F59_an (lam N [(5, F59_l5 N)]) (by
    have e : actOf F59_an (Tryd.f59.body.getD .skip) 0 = [(5, nthLoop 5 (Tryd.f59.body.getD .skip))] := by kernel_rfl
    rw [e]
    intro p hp
    rcases List.mem_cons.1 hp with rfl | hp
    · exact F59_loop5 N
    cases hp) (F59_s N) (fun _ => ⟨rfl, rfl⟩) (F59_text N) (F59_pat N) (F59_parF N)
/-! ### seismonet/steim.compress (function 36) -/
def F36_an : Nat → Keep × Keep := anL [(9, ⟨[], [(4, 2)], [], [(5, 1)], [], [], [], [], false⟩, ⟨[], [(4, 2)], [], [], [], [], [], [], false⟩), (16, ⟨[6], [(4, 2)], [], [(5, 1)], [], [], [], [], false⟩, ⟨[], [(4, 2)], [], [(5, 1)], [], [], [], [], false⟩)]
noncomputable def F36_g (N : Nat) : GamK := gam (P := Tryd.prog) [F53_e N, F56_e N, F57_e N, F58_e N, F59_e N]
noncomputable def F36_l16 (N : Nat) : LSpec where
  X := (List (List AV)) × (List (List AV)) × Int
  Y := ((List (List AV)) × (List (List AV)))
  p := fun s => match s.env.length, s.nin, s.at 4, s.at 5, s.at 6 with
    | 48, 0, (AV.list 2 a0 (some 1280000256)), (AV.list 1 a1 none), (AV.v (.int .i64 a2)) => some (a0, a1, a2)
    | _, _, _, _, _ => none
  st := fun x => mkS 48 [(4, (AV.list 2 x.1 (some 1280000256))), (5, (AV.list 1 x.2.1 none)), (6, (AV.v (.int .i64 x.2.2)))] [] (F36_an 16).1.toks 0
  out := fun y => (.exit 2, mkS 48 [(4, (AV.list 2 y.1 (some 1280000256))), (5, (AV.list 1 y.2 none))] [] (F36_an 16).2.toks 0)
  sp := fun y α k => k (.exit 2, mkS 48 [(4, (AV.list 2 y.1 (some 1280000256))), (5, (AV.list 1 y.2 none))] [] (F36_an 16).2.toks 0)
  spe := fun y α k => rfl
  b := fun x α kn ke => (match (decide (x.2.2 ≤ 3)) with | true => (match F57_d N () with | some y3 => (if 0 ≤ x.2.2 ∧ x.2.2 < 4 then (match [(AV.v (.int .i64 y3.1)), (AV.v (.int .i64 y3.2.1)), (AV.v (.int .i64 y3.2.2.1)), (AV.v (.int .i64 y3.2.2.2))][(x.2.2.toNat * 1)]? with | some x4 => (match x4 with | .v (.int q6 n5) => (if q6 = .i64 then (if n5 = 0 then none else (match F58_d N (x.2.1, n5, (i64 ((32 : Int).tdiv n5))) with | some y7 => (match (!y7) with | true => (kn (x.1, x.2.1, (i64 (x.2.2 + 1)))) | false => (if 0 ≤ n5 ∧ n5 ≤ x.2.1.length then (if n5 = 0 then none else (match F59_d N ((x.2.1.take n5.toNat), (i64 ((32 : Int).tdiv n5))) with | some y8 => (if (x.1.length + [[(AV.v (.int .i64 x.2.2)), (AV.v (.int .i64 y8))]].length) * 16 ≤ maxBytes then (if 0 ≤ n5 ∧ n5 ≤ x.2.1.length then (ke ((x.1 ++ [[(AV.v (.int .i64 x.2.2)), (AV.v (.int .i64 y8))]]), (x.2.1.drop n5.toNat))) else none) else none) | none => none)) else none)) | none => none)) else none) | _ => none) | none => none) else none) | none => none) | false => (ke (x.1, x.2.1)))
noncomputable abbrev F36_d16 (N : Nat) (x : (List (List AV)) × (List (List AV)) × Int) : Option (((List (List AV)) × (List (List AV)))) := (F36_l16 N).L N x
noncomputable def F36_l9 (N : Nat) : LSpec where
  X := (List (List AV)) × (List (List AV))
  Y := ((List (List AV)))
  p := fun s => match s.env.length, s.nin, s.at 4, s.at 5 with
    | 48, 0, (AV.list 2 a0 (some 1280000256)), (AV.list 1 a1 none) => some (a0, a1)
    | _, _, _, _ => none
  st := fun x => mkS 48 [(4, (AV.list 2 x.1 (some 1280000256))), (5, (AV.list 1 x.2 none))] [] (F36_an 9).1.toks 0
  out := fun y => (.exit 0, mkS 48 [(4, (AV.list 2 y (some 1280000256)))] [] (F36_an 9).2.toks 0)
  sp := fun y α k => k (.exit 0, mkS 48 [(4, (AV.list 2 y (some 1280000256)))] [] (F36_an 9).2.toks 0)
  spe := fun y α k => rfl
  b := fun x α kn ke => (match (decide ((x.2.length : Int) > 0)) with | true => (match F36_d16 N (x.1, x.2, 1) with | some y9 => (kn (y9.1, y9.2)) | none => none) | false => (ke x.1))
noncomputable abbrev F36_d9 (N : Nat) (x : (List (List AV)) × (List (List AV))) : Option (((List (List AV)))) := (F36_l9 N).L N x
noncomputable def F36_s (N : Nat) : FSpec where
  X := (List (List AV))
  Y := (List (List AV)) × Bool
  ash := [[some 1]]
  bsh := []
  S := ⟨[[some 2000002], [none]], [], [], [], []⟩
  bm := false
  pat := fun a b => match a, b with
    | [(AV.list 1 a0 none)], [] => some a0
    | _, _ => none
  args := fun x => [(AV.list 1 x none)]
  bs := fun x => []
  ret := fun y => ⟨(AV.tup [(AV.list 2 y.1 (some 2560000000)), (AV.v (.bool y.2))]), [], none, [], [2560000000], []⟩
  t := fun x α k => (match ((x.length : Int) == 0) with | true => (k (([] : List (List AV)), false)) | false => (match F53_d N x with | some y1 => (match y1 with | true => (k (([] : List (List AV)), false)) | false => (match F56_d N x with | some y2 => (match F36_d9 N (([] : List (List AV)), y2) with | some y10 => (k (y10, true)) | none => none) | none => none)) | none => none))
noncomputable abbrev F36_d (N : Nat) (x : (List (List AV))) : Option ((List (List AV)) × Bool) := (F36_s N).d x
theorem F36_par16 (N : Nat) : Par (F36_l16 N).b := by
  intro x α β kn ke kn' ke' r r' h h1 h2
  revert h
  dsimp only [F36_l16]
  (repeat' (first | (with_reducible refine par_ite ?_ ?_) | (with_reducible refine par_both ?_ ?_) | split)) <;> intro h <;> first | exact h1 _ h | exact h2 _ h | (cases h; done)
theorem F36_body16 (N : Nat) (x : (F36_l16 N).X) (α : Type) (kn : AS → Option α) (ke : Out → Option α) : around (tabOf Tryd.prog) (F36_g N) F36_an (lam N [(9, F36_l9 N), (16, F36_l16 N)]) 16 (bodyOf (nthLoop 16 (Tryd.f36.body.getD .skip))) ((F36_l16 N).st x) kn ke = (F36_l16 N).b x α (fun x' => kn ((F36_l16 N).st x')) (fun y => (F36_l16 N).sp y α ke) := by kernel_rfl
theorem F36_pat16 (N : Nat) (s : AS) (x : (F36_l16 N).X) (hc : s = canon (F36_an 16).1 s) (h : (F36_l16 N).p s = some x) : s = (F36_l16 N).st x := by
  dsimp only [F36_l16] at h
  split at h
  · cases h
    exact canon_mk hc ‹_› ‹_› rfl rfl rfl ⟨‹_›, ‹_›, ‹_›, trivial⟩ trivial
  · cases h
theorem F36_loop16 (N : Nat) : ∀ s o, s = canon (F36_an 16).1 s → (lam N [(9, F36_l9 N), (16, F36_l16 N)]).v 16 s = some o → LoopSem Tryd.prog (nthLoop 16 (Tryd.f36.body.getD .skip)) s o :=
  loop_ok (tabOf_ok Tryd.prog) (gam_ok _) mixed F36_an N [(9, F36_l9 N), (16, F36_l16 N)] 16 (bodyOf (nthLoop 16 (Tryd.f36.body.getD .skip))) (nthLoop 16 (Tryd.f36.body.getD .skip)) (by kernel_rfl) (by
    have e : actOf F36_an (bodyOf (nthLoop 16 (Tryd.f36.body.getD .skip))) (16 + 1) = [] := by kernel_rfl
    rw [e]
    intro p hp
    cases hp) (F36_l16 N) rfl (fun s x hc h => F36_pat16 N s x hc h) (fun x => rfl) (fun x α kn ke => (F36_body16 N x α kn ke).trans (congrArg ((F36_l16 N).b x α _) (funext fun y => (F36_l16 N).spe y α ke))) (F36_par16 N)
theorem F36_par9 (N : Nat) : Par (F36_l9 N).b := by
  intro x α β kn ke kn' ke' r r' h h1 h2
  revert h
  dsimp only [F36_l9]
  (repeat' (first | (with_reducible refine par_ite ?_ ?_) | (with_reducible refine par_both ?_ ?_) | split)) <;> intro h <;> first | exact h1 _ h | exact h2 _ h | (cases h; done)
theorem F36_body9 (N : Nat) (x : (F36_l9 N).X) (α : Type) (kn : AS → Option α) (ke : Out → Option α) : around (tabOf Tryd.prog) (F36_g N) F36_an (lam N [(9, F36_l9 N), (16, F36_l16 N)]) 9 (bodyOf (nthLoop 9 (Tryd.f36.body.getD .skip))) ((F36_l9 N).st x) kn ke = (F36_l9 N).b x α (fun x' => kn ((F36_l9 N).st x')) (fun y => (F36_l9 N).sp y α ke) := by kernel_rfl
theorem F36_pat9 (N : Nat) (s : AS) (x : (F36_l9 N).X) (hc : s = canon (F36_an 9).1 s) (h : (F36_l9 N).p s = some x) : s = (F36_l9 N).st x := by
  dsimp only [F36_l9] at h
  split at h
  · cases h
    exact canon_mk hc ‹_› ‹_› rfl rfl rfl ⟨‹_›, ‹_›, trivial⟩ trivial
  · cases h
theorem F36_loop9 (N : Nat) : ∀ s o, s = canon (F36_an 9).1 s → (lam N [(9, F36_l9 N), (16, F36_l16 N)]).v 9 s = some o → LoopSem Tryd.prog (nthLoop 9 (Tryd.f36.body.getD .skip)) s o :=
  loop_ok (tabOf_ok Tryd.prog) (gam_ok _) mixed F36_an N [(9, F36_l9 N), (16, F36_l16 N)] 9 (bodyOf (nthLoop 9 (Tryd.f36.body.getD .skip))) (nthLoop 9 (Tryd.f36.body.getD .skip)) (by kernel_rfl) (by
    have e : actOf F36_an (bodyOf (nthLoop 9 (Tryd.f36.body.getD .skip))) (9 + 1) = [(16, nthLoop 16 (Tryd.f36.body.getD .skip))] := by kernel_rfl
    rw [e]
    intro p hp
    rcases List.mem_cons.1 hp with rfl | hp
    · exact F36_loop16 N
    cases hp) (F36_l9 N) rfl (fun s x hc h => F36_pat9 N s x hc h) (fun x => rfl) (fun x α kn ke => (F36_body9 N x α kn ke).trans (congrArg ((F36_l9 N).b x α _) (funext fun y => (F36_l9 N).spe y α ke))) (F36_par9 N)
theorem F36_parF (N : Nat) : ParF (F36_s N).t := by
  intro x α β k k' r r' h h1
  revert h
  dsimp only [F36_s]
  (repeat' (first | (with_reducible refine par_ite ?_ ?_) | (with_reducible refine par_both ?_ ?_) | split)) <;> intro h <;> first | exact h1 _ h | (cases h; done)
theorem F36_text (N : Nat) (x : (F36_s N).X) : acall (tabOf Tryd.prog) (F36_g N) F36_an (lam N [(9, F36_l9 N), (16, F36_l16 N)]) Tryd.f36 (F36_s N).S ((F36_s N).args x) ((F36_s N).bs x) = (F36_s N).t x Ret (fun y => some ((F36_s N).ret y)) := by kernel_rfl
theorem F36_pat (N : Nat) (a : List AV) (b : List (List AV)) (x : (F36_s N).X) (h : (F36_s N).pat a b = some x) : a = (F36_s N).args x ∧ b = (F36_s N).bs x := by
  dsimp only [F36_s] at h
  split at h
  · cases h; exact ⟨rfl, rfl⟩
  · cases h
noncomputable def F36_e (N : Nat) : Ent Tryd.prog := entOf (tabOf_ok Tryd.prog) (gam_ok _) mixed 36 Tryd.f36 Tryd.func36 rfl F36_an (lam N [(9, F36_l9 N), (16, F36_l16 N)]) (by
    have e : actOf F36_an (Tryd.f36.body.getD .skip) 0 = [(9, nthLoop 9 (Tryd.f36.body.getD .skip)), (16, nthLoop 16 (Tryd.f36.body.getD .skip))] := by kernel_rfl
    rw [e]
    intro p hp
    rcases List.mem_cons.1 hp with rfl | hp
    · exact F36_loop9 N
    rcases List.mem_cons.1 hp with rfl | hp
    · exact F36_loop16 N
    cases hp) (F36_s N) (fun _ => ⟨rfl, rfl⟩) (F36_text N) (F36_pat N) (F36_parF N)
/-! ### seismonet/steim.Words (function 60) -/
def F60_an : Nat → Keep × Keep := anL []
noncomputable def F60_g (N : Nat) : GamK := gam (P := Tryd.prog) [F36_e N]
noncomputable def F60_s (N : Nat) : FSpec where
  X := (List (List AV))
  Y := Int
  ash := [[some 1]]
  bsh := []
  S := ⟨[[none]], [], [], [], []⟩
  bm := false
  pat := fun a b => match a, b with
    | [(AV.list 1 a0 none)], [] => some a0
    | _, _ => none
  args := fun x => [(AV.list 1 x none)]
  bs := fun x => []
  ret := fun y => ⟨(AV.v (.int .i64 y)), [], none, [], [], []⟩
  t := fun x α k => (match F36_d N x with | some y1 => (k (y1.1.length : Int)) | none => none)
noncomputable abbrev F60_d (N : Nat) (x : (List (List AV))) : Option (Int) := (F60_s N).d x
theorem F60_parF (N : Nat) : ParF (F60_s N).t := by
  intro x α β k k' r r' h h1
  revert h
  dsimp only [F60_s]
  (repeat' (first | (with_reducible refine par_ite ?_ ?_) | (with_reducible refine par_both ?_ ?_) | split)) <;> intro h <;> first | exact h1 _ h | (cases h; done)
theorem F60_text (N : Nat) (x : (F60_s N).X) : acall (tabOf Tryd.prog) (F60_g N) F60_an (lam N []) Tryd.f60 (F60_s N).S ((F60_s N).args x) ((F60_s N).bs x) = (F60_s N).t x Ret (fun y => some ((F60_s N).ret y)) := by kernel_rfl
theorem F60_pat (N : Nat) (a : List AV) (b : List (List AV)) (x : (F60_s N).X) (h : (F60_s N).pat a b = some x) : a = (F60_s N).args x ∧ b = (F60_s N).bs x := by
  dsimp only [F60_s] at h
  split at h
  · cases h; exact ⟨rfl, rfl⟩
  · cases h
noncomputable def F60_e (N : Nat) : Ent Tryd.prog := entOf (tabOf_ok Tryd.prog) (gam_ok _) mixed 60 Tryd.f60 Tryd.func60 rfl F60_an (lam N []) (by
    have e : actOf F60_an (Tryd.f60.body.getD .skip) 0 = [] := by kernel_rfl
    rw [e]
    intro p hp
    cases hp) (F60_s N) (fun _ => ⟨rfl, rfl⟩) (F60_text N) (F60_pat N) (F60_parF N)
/-! ### seismonet/steim.Frames (function 37) -/
def F37_an : Nat → Keep × Keep := anL []
noncomputable def F37_g (N : Nat) : GamK := gam (P := Tryd.prog) [F60_e N]
noncomputable def F37_s (N : Nat) : FSpec where
  X := (List (List AV))
  Y := Int
  ash := [[some 1]]
  bsh := []
  S := ⟨[[none]], [], [], [], []⟩
  bm := false
  pat := fun a b => match a, b with
    | [(AV.list 1 a0 none)], [] => some a0
    | _, _ => none
  args := fun x => [(AV.list 1 x none)]
  bs := fun x => []
  ret := fun y => ⟨(AV.v (.int .i64 y)), [], none, [], [], []⟩
  t := fun x α k => (match F60_d N x with | some y1 => (match (y1 == 0) with | true => (k 0) | false => (k (i64 ((i64 ((i64 ((i64 (y1 + 2)) + 16)) - 2)).tdiv 15)))) | none => none)
noncomputable abbrev F37_d (N : Nat) (x : (List (List AV))) : Option (Int) := (F37_s N).d x
theorem F37_parF (N : Nat) : ParF (F37_s N).t := by
  intro x α β k k' r r' h h1
  revert h
  dsimp only [F37_s]
  (repeat' (first | (with_reducible refine par_ite ?_ ?_) | (with_reducible refine par_both ?_ ?_) | split)) <;> intro h <;> first | exact h1 _ h | (cases h; done)
theorem F37_text (N : Nat) (x : (F37_s N).X) : acall (tabOf Tryd.prog) (F37_g N) F37_an (lam N []) Tryd.f37 (F37_s N).S ((F37_s N).args x) ((F37_s N).bs x) = (F37_s N).t x Ret (fun y => some ((F37_s N).ret y)) := by kernel_rfl
theorem F37_pat (N : Nat) (a : List AV) (b : List (List AV)) (x : (F37_s N).X) (h : (F37_s N).pat a b = some x) : a = (F37_s N).args x ∧ b = (F37_s N).bs x := by
  dsimp only [F37_s] at h
  split at h
  · cases h; exact ⟨rfl, rfl⟩
  · cases h
noncomputable def F37_e (N : Nat) : Ent Tryd.prog := entOf (tabOf_ok Tryd.prog) (gam_ok _) mixed 37 Tryd.f37 Tryd.func37 rfl F37_an (lam N []) (by
    have e : actOf F37_an (Tryd.f37.body.getD .skip) 0 = [] := by kernel_rfl
    rw [e]
    intro p hp
    cases hp) (F37_s N) (fun _ => ⟨rfl, rfl⟩) (F37_text N) (F37_pat N) (F37_parF N)
/-! ### seismonet/bits.shift (function 62) -/
def F62_an : Nat → Keep × Keep := anL []
noncomputable def F62_g (N : Nat) : GamK := gam (P := Tryd.prog) [F40_e N]
noncomputable def F62_s (N : Nat) : FSpec where
  X := Int × Int
  Y := Int × Bool
  ash := [[none], [none]]
  bsh := []
  S := ⟨[[none], [none]], [], [], [], []⟩
  bm := false
  pat := fun a b => match a, b with
    | [(AV.v (.int .i64 a0)), (AV.v (.int .i64 a1))], [] => some (a0, a1)
    | _, _ => none
  args := fun x => [(AV.v (.int .i64 x.1)), (AV.v (.int .i64 x.2))]
  bs := fun x => []
  ret := fun y => ⟨(AV.tup [(AV.v (.int .i64 y.1)), (AV.v (.bool y.2))]), [], none, [], [], []⟩
  t := fun x α k => (match F40_d N (x.1, 0, 4294967295) with | some y1 => (match y1 with | true => (match F40_d N (x.2, 0, 15) with | some y2 => (k ((i64 (30 - (i64 (2 * x.2)))), y2)) | none => none) | false => (k ((i64 (30 - (i64 (2 * x.2)))), false))) | none => none)
noncomputable abbrev F62_d (N : Nat) (x : Int × Int) : Option (Int × Bool) := (F62_s N).d x
theorem F62_parF (N : Nat) : ParF (F62_s N).t := by
  intro x α β k k' r r' h h1
  revert h
  dsimp only [F62_s]
  (repeat' (first | (with_reducible refine par_ite ?_ ?_) | (with_reducible refine par_both ?_ ?_) | split)) <;> intro h <;> first | exact h1 _ h | (cases h; done)
theorem F62_text (N : Nat) (x : (F62_s N).X) : acall (tabOf Tryd.prog) (F62_g N) F62_an (lam N []) Tryd.f62 (F62_s N).S ((F62_s N).args x) ((F62_s N).bs x) = (F62_s N).t x Ret (fun y => some ((F62_s N).ret y)) := by kernel_rfl
theorem F62_pat (N : Nat) (a : List AV) (b : List (List AV)) (x : (F62_s N).X) (h : (F62_s N).pat a b = some x) : a = (F62_s N).args x ∧ b = (F62_s N).bs x := by
  dsimp only [F62_s] at h
  split at h
  · cases h; exact ⟨rfl, rfl⟩
  · cases h
noncomputable def F62_e (N : Nat) : Ent Tryd.prog := entOf (tabOf_ok Tryd.prog) (gam_ok _) mixed 62 Tryd.f62 Tryd.func62 rfl F62_an (lam N []) (by
    have e : actOf F62_an (Tryd.f62.body.getD .skip) 0 = [] := by kernel_rfl
    rw [e]
    intro p hp
    cases hp) (F62_s N) (fun _ => ⟨rfl, rfl⟩) (F62_text N) (F62_pat N) (F62_parF N)
/-! ### seismonet/bits.SetPair (function 39) -/
def F39_an : Nat → Keep × Keep := anL []
noncomputable def F39_g (N : Nat) : GamK := gam (P := Tryd.prog) [F62_e N, F40_e N]
noncomputable def F39_s (N : Nat) : FSpec where
  X := Int × Int × Int
  Y := Int × Int
  ash := [[none], [none], [none]]
  bsh := []
  S := ⟨[[none], [none]], [], [], [], []⟩
  bm := false
  pat := fun a b => match a, b with
    | [(AV.v (.int .i64 a0)), (AV.v (.int .i64 a1)), (AV.v (.int .i64 a2))], [] => some (a0, a1, a2)
    | _, _ => none
  args := fun x => [(AV.v (.int .i64 x.1)), (AV.v (.int .i64 x.2.1)), (AV.v (.int .i64 x.2.2))]
  bs := fun x => []
  ret := fun y => ⟨(AV.tup [(AV.v (.int .i64 y.1)), (AV.v (.int .i64 y.2))]), [], none, [], [], []⟩
  t := fun x α k => (match F62_d N (x.1, x.2.1) with | some y1 => (match (!y1.2) with | true => (k (0, 2)) | false => (match F40_d N (x.2.2, 0, 3) with | some y2 => (match (!y2) with | true => (k (0, 2)) | false => (if y1.1 < 0 then none else (if y1.1 < 0 then none else (k ((bOr .i64 (bNot .i64 x.1 (shL .i64 (3 : Int) y1.1)) (shL .i64 x.2.2 y1.1)), 0))))) | none => none)) | none => none)
noncomputable abbrev F39_d (N : Nat) (x : Int × Int × Int) : Option (Int × Int) := (F39_s N).d x
theorem F39_parF (N : Nat) : ParF (F39_s N).t := by
  intro x α β k k' r r' h h1
  revert h
  dsimp only [F39_s]
  (repeat' (first | (with_reducible refine par_ite ?_ ?_) | (with_reducible refine par_both ?_ ?_) | split)) <;> intro h <;> first | exact h1 _ h | (cases h; done)
theorem F39_text (N : Nat) (x : (F39_s N).X) : acall (tabOf Tryd.prog) (F39_g N) F39_an (lam N []) Tryd.f39 (F39_s N).S ((F39_s N).args x) ((F39_s N).bs x) = (F39_s N).t x Ret (fun y => some ((F39_s N).ret y)) := by kernel_rfl
theorem F39_pat (N : Nat) (a : List AV) (b : List (List AV)) (x : (F39_s N).X) (h : (F39_s N).pat a b = some x) : a = (F39_s N).args x ∧ b = (F39_s N).bs x := by
  dsimp only [F39_s] at h
  split at h
  · cases h; exact ⟨rfl, rfl⟩
  · cases h
noncomputable def F39_e (N : Nat) : Ent Tryd.prog := entOf (tabOf_ok Tryd.prog) (gam_ok _) mixed 39 Tryd.f39 Tryd.func39 rfl F39_an (lam N []) (by
    have e : actOf F39_an (Tryd.f39.body.getD .skip) 0 = [] := by kernel_rfl
    rw [e]
    intro p hp
    cases hp) (F39_s N) (fun _ => ⟨rfl, rfl⟩) (F39_text N) (F39_pat N) (F39_parF N)
/-! ### seismonet/bits.Put (function 24) -/
def F24_an : Nat → Keep × Keep := anL [(9, ⟨[1, 9], [(8, 1)], [], [], [], [], [], [], false⟩, ⟨[], [(8, 1)], [], [], [], [], [], [], false⟩)]
noncomputable def F24_g (N : Nat) : GamK := gam (P := Tryd.prog) [F40_e N]
noncomputable def F24_l9 (N : Nat) : LSpec where
  X := (List (List AV)) × Int × Int
  Y := ((List (List AV)))
  p := fun s => match s.env.length, s.nin, s.at 8, s.at 1, s.at 9 with
    | 40, 0, (AV.list 1 a0 (some 1280000512)), (AV.v (.int .i64 a1)), (AV.v (.int .i64 a2)) => some (a0, a1, a2)
    | _, _, _, _, _ => none
  st := fun x => mkS 40 [(8, (AV.list 1 x.1 (some 1280000512))), (1, (AV.v (.int .i64 x.2.1))), (9, (AV.v (.int .i64 x.2.2)))] [] (F24_an 9).1.toks 0
  out := fun y => (.exit 0, mkS 40 [(8, (AV.list 1 y (some 1280000512)))] [] (F24_an 9).2.toks 0)
  sp := fun y α k => k (.exit 0, mkS 40 [(8, (AV.list 1 y (some 1280000512)))] [] (F24_an 9).2.toks 0)
  spe := fun y α k => rfl
  b := fun x α kn ke => (match (decide (x.2.2 ≥ 0)) with | true => (if (i64 (8 * x.2.2)) < 0 then none else (if (x.1.length + [[(AV.v (.int .u8 (IntKind.u8.wrap (shR .i64 x.2.1 (i64 (8 * x.2.2))))))]].length) * 1 ≤ maxBytes then (kn ((x.1 ++ [[(AV.v (.int .u8 (IntKind.u8.wrap (shR .i64 x.2.1 (i64 (8 * x.2.2))))))]]), x.2.1, (i64 (x.2.2 - 1)))) else none)) | false => (ke x.1))
noncomputable abbrev F24_d9 (N : Nat) (x : (List (List AV)) × Int × Int) : Option (((List (List AV)))) := (F24_l9 N).L N x
noncomputable def F24_s (N : Nat) : FSpec where
  X := ByteArray × Int × Int
  Y := ByteArray × Int
  ash := [[none], [none], [none]]
  bsh := []
  S := ⟨[[none], [none]], [], [], [], []⟩
  bm := false
  pat := fun a b => match a, b with
    | [(AV.v (.string a0)), (AV.v (.int .i64 a1)), (AV.v (.int .i64 a2))], [] => some (a0, a1, a2)
    | _, _ => none
  args := fun x => [(AV.v (.string x.1)), (AV.v (.int .i64 x.2.1)), (AV.v (.int .i64 x.2.2))]
  bs := fun x => []
  ret := fun y => ⟨(AV.tup [(AV.v (.string y.1)), (AV.v (.int .i64 y.2))]), [], none, [], [], []⟩
  t := fun x α k => (match F40_d N (x.2.2, 1, 7) with | some y1 => (match (!y1) with | true => (k ((⟨#[]⟩ : ByteArray), 2)) | false => (if (i64 (8 * x.2.2)) < 0 then none else (match F40_d N (x.2.1, 0, (i64 ((shL .i64 (1 : Int) (i64 (8 * x.2.2))) - 1))) with | some y2 => (match (!y2) with | true => (k ((⟨#[]⟩ : ByteArray), 2)) | false => (match F24_d9 N ((bytesL x.1), x.2.1, (i64 (x.2.2 - 1))) with | some y3 => (match numsOf y3 with | some s4 => (k ((strOfNums s4), 0)) | none => none) | none => none)) | none => none))) | none => none)
noncomputable abbrev F24_d (N : Nat) (x : ByteArray × Int × Int) : Option (ByteArray × Int) := (F24_s N).d x
theorem F24_par9 (N : Nat) : Par (F24_l9 N).b := by
  intro x α β kn ke kn' ke' r r' h h1 h2
  revert h
  dsimp only [F24_l9]
  (repeat' (first | (with_reducible refine par_ite ?_ ?_) | (with_reducible refine par_both ?_ ?_) | split)) <;> intro h <;> first | exact h1 _ h | exact h2 _ h | (cases h; done)
theorem F24_body9 (N : Nat) (x : (F24_l9 N).X) (α : Type) (kn : AS → Option α) (ke : Out → Option α) : around (tabOf Tryd.prog) (F24_g N) F24_an (lam N [(9, F24_l9 N)]) 9 (bodyOf (nthLoop 9 (Tryd.f24.body.getD .skip))) ((F24_l9 N).st x) kn ke = (F24_l9 N).b x α (fun x' => kn ((F24_l9 N).st x')) (fun y => (F24_l9 N).sp y α ke) := by kernel_rfl
theorem F24_pat9 (N : Nat) (s : AS) (x : (F24_l9 N).X) (hc : s = canon (F24_an 9).1 s) (h : (F24_l9 N).p s = some x) : s = (F24_l9 N).st x := by
  dsimp only [F24_l9] at h
  split at h
  · cases h
    exact canon_mk hc ‹_› ‹_› rfl rfl rfl ⟨‹_›, ‹_›, ‹_›, trivial⟩ trivial
  · cases h
theorem F24_loop9 (N : Nat) : ∀ s o, s = canon (F24_an 9).1 s → (lam N [(9, F24_l9 N)]).v 9 s = some o → LoopSem Tryd.prog (nthLoop 9 (Tryd.f24.body.getD .skip)) s o :=
  loop_ok (tabOf_ok Tryd.prog) (gam_ok _) mixed F24_an N [(9, F24_l9 N)] 9 (bodyOf (nthLoop 9 (Tryd.f24.body.getD .skip))) (nthLoop 9 (Tryd.f24.body.getD .skip)) (by kernel_rfl) (by
    have e : actOf F24_an (bodyOf (nthLoop 9 (Tryd.f24.body.getD .skip))) (9 + 1) = [] := by kernel_rfl
    rw [e]
    intro p hp
    cases hp) (F24_l9 N) rfl (fun s x hc h => F24_pat9 N s x hc h) (fun x => rfl) (fun x α kn ke => (F24_body9 N x α kn ke).trans (congrArg ((F24_l9 N).b x α _) (funext fun y => (F24_l9 N).spe y α ke))) (F24_par9 N)
theorem F24_parF (N : Nat) : ParF (F24_s N).t := by
  intro x α β k k' r r' h h1
  revert h
  dsimp only [F24_s]
  (repeat' (first | (with_reducible refine par_ite ?_ ?_) | (with_reducible refine par_both ?_ ?_) | split)) <;> intro h <;> first | exact h1 _ h | (cases h; done)
theorem F24_text (N : Nat) (x : (F24_s N).X) : acall (tabOf Tryd.prog) (F24_g N) F24_an (lam N [(9, F24_l9 N)]) Tryd.f24 (F24_s N).S ((F24_s N).args x) ((F24_s N).bs x) = (F24_s N).t x Ret (fun y => some ((F24_s N).ret y)) := by kernel_rfl
theorem F24_pat (N : Nat) (a : List AV) (b : List (List AV)) (x : (F24_s N).X) (h : (F24_s N).pat a b = some x) : a = (F24_s N).args x ∧ b = (F24_s N).bs x := by
  dsimp only [F24_s] at h
  split at h
  · cases h; exact ⟨rfl, rfl⟩
  · cases h
noncomputable def F24_e (N : Nat) : Ent Tryd.prog := entOf (tabOf_ok Tryd.prog) (gam_ok _) mixed 24 Tryd.f24 Tryd.func24 rfl F24_an (lam N [(9, F24_l9 N)]) (by
    have e : actOf F24_an (Tryd.f24.body.getD .skip) 0 = [(9, nthLoop 9 (Tryd.f24.body.getD .skip))] := by kernel_rfl
    rw [e]
    intro p hp
    rcases List.mem_cons.1 hp with rfl | hp
    · exact F24_loop9 N
    cases hp) (F24_s N) (fun _ => ⟨rfl, rfl⟩) (F24_text N) (F24_pat N) (F24_parF N)
/-! ### seismonet/steim.Encode (function 23) -/
def F23_an : Nat → Keep × Keep := anL [(22, ⟨[11, 54, 55], [], [], [(4, 2)], [], [], [], [], false⟩, ⟨[11], [], [], [], [], [], [], [], false⟩), (32, ⟨[11, 12, 13, 14, 54, 55], [], [], [(4, 2)], [], [], [], [], false⟩, ⟨[11, 12, 13, 54, 55], [], [], [(4, 2)], [], [], [], [], false⟩)]
noncomputable def F23_g (N : Nat) : GamK := gam (P := Tryd.prog) [F36_e N, F37_e N, F38_e N, F39_e N, F24_e N]
noncomputable def F23_l32 (N : Nat) : LSpec where
  X := (List (List AV)) × ByteArray × Int × ByteArray × Int × Int × Int
  Y := ((List (List AV)) × ByteArray × Int × ByteArray × Int × Int)
  p := fun s => match s.env.length, s.nin, s.at 4, s.at 11, s.at 12, s.at 13, s.at 14, s.at 54, s.at 55 with
    | 95, 0, (AV.list 2 a0 none), (AV.v (.string a1)), (AV.v (.int .i64 a2)), (AV.v (.string a3)), (AV.v (.int .i64 a4)), (AV.v (.int .i64 a5)), (AV.v (.int .i64 a6)) => some (a0, a1, a2, a3, a4, a5, a6)
    | _, _, _, _, _, _, _, _, _ => none
  st := fun x => mkS 95 [(4, (AV.list 2 x.1 none)), (11, (AV.v (.string x.2.1))), (12, (AV.v (.int .i64 x.2.2.1))), (13, (AV.v (.string x.2.2.2.1))), (14, (AV.v (.int .i64 x.2.2.2.2.1))), (54, (AV.v (.int .i64 x.2.2.2.2.2.1))), (55, (AV.v (.int .i64 x.2.2.2.2.2.2)))] [] (F23_an 32).1.toks 0
  out := fun y => (.exit 2, mkS 95 [(4, (AV.list 2 y.1 none)), (11, (AV.v (.string y.2.1))), (12, (AV.v (.int .i64 y.2.2.1))), (13, (AV.v (.string y.2.2.2.1))), (54, (AV.v (.int .i64 y.2.2.2.2.1))), (55, (AV.v (.int .i64 y.2.2.2.2.2)))] [] (F23_an 32).2.toks 0)
  sp := fun y α k => k (.exit 2, mkS 95 [(4, (AV.list 2 y.1 none)), (11, (AV.v (.string y.2.1))), (12, (AV.v (.int .i64 y.2.2.1))), (13, (AV.v (.string y.2.2.2.1))), (54, (AV.v (.int .i64 y.2.2.2.2.1))), (55, (AV.v (.int .i64 y.2.2.2.2.2)))] [] (F23_an 32).2.toks 0)
  spe := fun y α k => rfl
  b := fun x α kn ke => (match (decide (x.2.2.2.2.1 < 16)) with | true => (match (decide ((x.1.length : Int) > 0)) with | true => (if 0 ≤ (0 : Int) then (match x.1[(0 : Int).toNat]? with | some c13 => (match c13[0]? with | some x14 => (match x14 with | .v (.int q16 n15) => (if q16 = .i64 then (match c13[1]? with | some x17 => (match x17 with | .v (.int q19 n18) => (if q19 = .i64 then (if 0 ≤ (1 : Int) ∧ (1 : Int) ≤ x.1.length then (match F39_d N (x.2.2.1, x.2.2.2.2.1, n15) with | some y20 => (match F24_d N (x.2.2.2.1, n18, 4) with | some y21 => (kn ((x.1.drop (1 : Int).toNat), x.2.1, y20.1, y21.1, (i64 (x.2.2.2.2.1 + 1)), x.2.2.2.2.2.1, x.2.2.2.2.2.2)) | none => none) | none => none) else none) else none) | _ => none) | none => none) else none) | _ => none) | none => none) | none => none) else none) | false => (match F39_d N (x.2.2.1, x.2.2.2.2.1, 0) with | some y22 => (match F24_d N (x.2.2.2.1, 0, 4) with | some y23 => (kn (x.1, x.2.1, y22.1, y23.1, (i64 (x.2.2.2.2.1 + 1)), x.2.2.2.2.2.1, x.2.2.2.2.2.2)) | none => none) | none => none)) | false => (ke (x.1, x.2.1, x.2.2.1, x.2.2.2.1, x.2.2.2.2.2.1, x.2.2.2.2.2.2)))
noncomputable abbrev F23_d32 (N : Nat) (x : (List (List AV)) × ByteArray × Int × ByteArray × Int × Int × Int) : Option (((List (List AV)) × ByteArray × Int × ByteArray × Int × Int)) := (F23_l32 N).L N x
noncomputable def F23_l22 (N : Nat) : LSpec where
  X := (List (List AV)) × ByteArray × Int × Int
  Y := (ByteArray)
  p := fun s => match s.env.length, s.nin, s.at 4, s.at 11, s.at 54, s.at 55 with
    | 95, 0, (AV.list 2 a0 none), (AV.v (.string a1)), (AV.v (.int .i64 a2)), (AV.v (.int .i64 a3)) => some (a0, a1, a2, a3)
    | _, _, _, _, _, _ => none
  st := fun x => mkS 95 [(4, (AV.list 2 x.1 none)), (11, (AV.v (.string x.2.1))), (54, (AV.v (.int .i64 x.2.2.1))), (55, (AV.v (.int .i64 x.2.2.2)))] [] (F23_an 22).1.toks 0
  out := fun y => (.exit 0, mkS 95 [(11, (AV.v (.string y)))] [] (F23_an 22).2.toks 0)
  sp := fun y α k => k (.exit 0, mkS 95 [(11, (AV.v (.string y)))] [] (F23_an 22).2.toks 0)
  spe := fun y α k => rfl
  b := fun x α kn ke => (match (decide (x.2.2.2 < x.2.2.1)) with | true => (match F23_d32 N (x.1, x.2.1, 0, (⟨#[]⟩ : ByteArray), 1, x.2.2.1, x.2.2.2) with | some y24 => (match F24_d N (y24.2.1, y24.2.2.1, 4) with | some y25 => (if y25.1.size + y24.2.2.2.1.size ≤ 9223372036854775807 then (kn (y24.1, (y25.1 ++ y24.2.2.2.1), y24.2.2.2.2.1, (i64 (y24.2.2.2.2.2 + 1)))) else none) | none => none) | none => none) | false => (ke x.2.1))
noncomputable abbrev F23_d22 (N : Nat) (x : (List (List AV)) × ByteArray × Int × Int) : Option ((ByteArray)) := (F23_l22 N).L N x
noncomputable def F23_s (N : Nat) : FSpec where
  X := (List (List AV))
  Y := ByteArray × Int
  ash := [[some 1]]
  bsh := []
  S := ⟨[[none], [none]], [], [], [], []⟩
  bm := false
  pat := fun a b => match a, b with
    | [(AV.list 1 a0 none)], [] => some a0
    | _, _ => none
  args := fun x => [(AV.list 1 x none)]
  bs := fun x => []
  ret := fun y => ⟨(AV.tup [(AV.v (.string y.1)), (AV.v (.int .i64 y.2))]), [], none, [], [], []⟩
  t := fun x α k => (match ((x.length : Int) == 0) with | true => (k ((⟨#[]⟩ : ByteArray), 1)) | false => (match F36_d N x with | some y1 => (match (!y1.2) with | true => (k ((⟨#[]⟩ : ByteArray), 2)) | false => (match F37_d N x with | some y2 => (match (decide (y2 > 8)) with | true => (k ((⟨#[]⟩ : ByteArray), 8)) | false => (if 0 ≤ (0 : Int) then (match x[(0 : Int).toNat]? with | some c3 => (match c3[0]? with | some x4 => (match x4 with | .v (.int q6 n5) => (if q6 = .i64 then (match F38_d N (n5, 32) with | some y7 => (if 0 ≤ (i64 ((x.length : Int) - 1)) then (match x[(i64 ((x.length : Int) - 1)).toNat]? with | some c8 => (match c8[0]? with | some x9 => (match x9 with | .v (.int q11 n10) => (if q11 = .i64 then (match F38_d N (n10, 32) with | some y12 => (if ([[(AV.v (.int .i64 0)), (AV.v (.int .i64 y7.1))], [(AV.v (.int .i64 0)), (AV.v (.int .i64 y12.1))]].length + y1.1.length) * 16 ≤ maxBytes then (match F23_d22 N (([[(AV.v (.int .i64 0)), (AV.v (.int .i64 y7.1))], [(AV.v (.int .i64 0)), (AV.v (.int .i64 y12.1))]] ++ y1.1), (⟨#[]⟩ : ByteArray), y2, 0) with | some y26 => (k (y26, 0)) | none => none) else none) | none => none) else none) | _ => none) | none => none) | none => none) else none) | none => none) else none) | _ => none) | none => none) | none => none) else none)) | none => none)) | none => none))
noncomputable abbrev F23_d (N : Nat) (x : (List (List AV))) : Option (ByteArray × Int) := (F23_s N).d x
theorem F23_par32 (N : Nat) : Par (F23_l32 N).b := by
  intro x α β kn ke kn' ke' r r' h h1 h2
  revert h
  dsimp only [F23_l32]
  (repeat' (first | (with_reducible refine par_ite ?_ ?_) | (with_reducible refine par_both ?_ ?_) | split)) <;> intro h <;> first | exact h1 _ h | exact h2 _ h | (cases h; done)
theorem F23_body32 (N : Nat) (x : (F23_l32 N).X) (α : Type) (kn : AS → Option α) (ke : Out → Option α) : around (tabOf Tryd.prog) (F23_g N) F23_an (lam N [(22, F23_l22 N), (32, F23_l32 N)]) 32 (bodyOf (nthLoop 32 (Tryd.f23.body.getD .skip))) ((F23_l32 N).st x) kn ke = (F23_l32 N).b x α (fun x' => kn ((F23_l32 N).st x')) (fun y => (F23_l32 N).sp y α ke) := by kernel_rfl
theorem F23_pat32 (N : Nat) (s : AS) (x : (F23_l32 N).X) (hc : s = canon (F23_an 32).1 s) (h : (F23_l32 N).p s = some x) : s = (F23_l32 N).st x := by
  dsimp only [F23_l32] at h
  split at h
  · cases h
    exact canon_mk hc ‹_› ‹_› rfl rfl rfl ⟨‹_›, ‹_›, ‹_›, ‹_›, ‹_›, ‹_›, ‹_›, trivial⟩ trivial
  · cases h
theorem F23_loop32 (N : Nat) : ∀ s o, s = canon (F23_an 32).1 s → (lam N [(22, F23_l22 N), (32, F23_l32 N)]).v 32 s = some o → LoopSem Tryd.prog (nthLoop 32 (Tryd.f23.body.getD .skip)) s o :=
  loop_ok (tabOf_ok Tryd.prog) (gam_ok _) mixed F23_an N [(22, F23_l22 N), (32, F23_l32 N)] 32 (bodyOf (nthLoop 32 (Tryd.f23.body.getD .skip))) (nthLoop 32 (Tryd.f23.body.getD .skip)) (by kernel_rfl) (by
    have e : actOf F23_an (bodyOf (nthLoop 32 (Tryd.f23.body.getD .skip))) (32 + 1) = [] := by kernel_rfl
    rw [e]
    intro p hp
    cases hp) (F23_l32 N) rfl (fun s x hc h => F23_pat32 N s x hc h) (fun x => rfl) (fun x α kn ke => (F23_body32 N x α kn ke).trans (congrArg ((F23_l32 N).b x α _) (funext fun y => (F23_l32 N).spe y α ke))) (F23_par32 N)
theorem F23_par22 (N : Nat) : Par (F23_l22 N).b := by
  intro x α β kn ke kn' ke' r r' h h1 h2
  revert h
  dsimp only [F23_l22]
  (repeat' (first | (with_reducible refine par_ite ?_ ?_) | (with_reducible refine par_both ?_ ?_) | split)) <;> intro h <;> first | exact h1 _ h | exact h2 _ h | (cases h; done)
theorem F23_body22 (N : Nat) (x : (F23_l22 N).X) (α : Type) (kn : AS → Option α) (ke : Out → Option α) : around (tabOf Tryd.prog) (F23_g N) F23_an (lam N [(22, F23_l22 N), (32, F23_l32 N)]) 22 (bodyOf (nthLoop 22 (Tryd.f23.body.getD .skip))) ((F23_l22 N).st x) kn ke = (F23_l22 N).b x α (fun x' => kn ((F23_l22 N).st x')) (fun y => (F23_l22 N).sp y α ke) := by kernel_rfl
theorem F23_pat22 (N : Nat) (s : AS) (x : (F23_l22 N).X) (hc : s = canon (F23_an 22).1 s) (h : (F23_l22 N).p s = some x) : s = (F23_l22 N).st x := by
  dsimp only [F23_l22] at h
  split at h
  · cases h
    exact canon_mk hc ‹_› ‹_› rfl rfl rfl ⟨‹_›, ‹_›, ‹_›, ‹_›, trivial⟩ trivial
  · cases h
theorem F23_loop22 (N : Nat) : ∀ s o, s = canon (F23_an 22).1 s → (lam N [(22, F23_l22 N), (32, F23_l32 N)]).v 22 s = some o → LoopSem Tryd.prog (nthLoop 22 (Tryd.f23.body.getD .skip)) s o :=
  loop_ok (tabOf_ok Tryd.prog) (gam_ok _) mixed F23_an N [(22, F23_l22 N), (32, F23_l32 N)] 22 (bodyOf (nthLoop 22 (Tryd.f23.body.getD .skip))) (nthLoop 22 (Tryd.f23.body.getD .skip)) (by kernel_rfl) (by
    have e : actOf F23_an (bodyOf (nthLoop 22 (Tryd.f23.body.getD .skip))) (22 + 1) = [(32, nthLoop 32 (Tryd.f23.body.getD .skip))] := by kernel_rfl
    rw [e]
    intro p hp
    rcases List.mem_cons.1 hp with rfl | hp
    · exact F23_loop32 N
    cases hp) (F23_l22 N) rfl (fun s x hc h => F23_pat22 N s x hc h) (fun x => rfl) (fun x α kn ke => (F23_body22 N x α kn ke).trans (congrArg ((F23_l22 N).b x α _) (funext fun y => (F23_l22 N).spe y α ke))) (F23_par22 N)
theorem F23_parF (N : Nat) : ParF (F23_s N).t := by
  intro x α β k k' r r' h h1
  revert h
  dsimp only [F23_s]
  (repeat' (first | (with_reducible refine par_ite ?_ ?_) | (with_reducible refine par_both ?_ ?_) | split)) <;> intro h <;> first | exact h1 _ h | (cases h; done)
theorem F23_text (N : Nat) (x : (F23_s N).X) : acall (tabOf Tryd.prog) (F23_g N) F23_an (lam N [(22, F23_l22 N), (32, F23_l32 N)]) Tryd.f23 (F23_s N).S ((F23_s N).args x) ((F23_s N).bs x) = (F23_s N).t x Ret (fun y => some ((F23_s N).ret y)) := by kernel_rfl
theorem F23_pat (N : Nat) (a : List AV) (b : List (List AV)) (x : (F23_s N).X) (h : (F23_s N).pat a b = some x) : a = (F23_s N).args x ∧ b = (F23_s N).bs x := by
  dsimp only [F23_s] at h
  split at h
  · cases h; exact ⟨rfl, rfl⟩
  · cases h
noncomputable def F23_e (N : Nat) : Ent Tryd.prog := entOf (tabOf_ok Tryd.prog) (gam_ok _) mixed 23 Tryd.f23 Tryd.func23 rfl F23_an (lam N [(22, F23_l22 N), (32, F23_l32 N)]) (by
    have e : actOf F23_an (Tryd.f23.body.getD .skip) 0 = [(22, nthLoop 22 (Tryd.f23.body.getD .skip)), (32, nthLoop 32 (Tryd.f23.body.getD .skip))] := by kernel_rfl
    rw [e]
    intro p hp
    rcases List.mem_cons.1 hp with rfl | hp
    · exact F23_loop22 N
    rcases List.mem_cons.1 hp with rfl | hp
    · exact F23_loop32 N
    cases hp) (F23_s N) (fun _ => ⟨rfl, rfl⟩) (F23_text N) (F23_pat N) (F23_parF N)
/-! ### seismonet/bits.Get (function 64) -/
def F64_an : Nat → Keep × Keep := anL [(13, ⟨[0, 1, 8, 23, 24], [], [], [], [], [], [], [], false⟩, ⟨[8], [], [], [], [], [], [], [], false⟩)]
noncomputable def F64_g (N : Nat) : GamK := gam (P := Tryd.prog) [F40_e N]
noncomputable def F64_l13 (N : Nat) : LSpec where
  X := ByteArray × Int × Int × Int × Int
  Y := (Int)
  p := fun s => match s.env.length, s.nin, s.at 0, s.at 1, s.at 8, s.at 23, s.at 24 with
    | 38, 0, (AV.v (.string a0)), (AV.v (.int .i64 a1)), (AV.v (.int .i64 a2)), (AV.v (.int .i64 a3)), (AV.v (.int .i64 a4)) => some (a0, a1, a2, a3, a4)
    | _, _, _, _, _, _, _ => none
  st := fun x => mkS 38 [(0, (AV.v (.string x.1))), (1, (AV.v (.int .i64 x.2.1))), (8, (AV.v (.int .i64 x.2.2.1))), (23, (AV.v (.int .i64 x.2.2.2.1))), (24, (AV.v (.int .i64 x.2.2.2.2)))] [] (F64_an 13).1.toks 0
  out := fun y => (.exit 0, mkS 38 [(8, (AV.v (.int .i64 y)))] [] (F64_an 13).2.toks 0)
  sp := fun y α k => k (.exit 0, mkS 38 [(8, (AV.v (.int .i64 y)))] [] (F64_an 13).2.toks 0)
  spe := fun y α k => rfl
  b := fun x α kn ke => (match (decide (x.2.2.2.2 < x.2.2.2.1)) with | true => (if 0 ≤ (i64 (x.2.1 + x.2.2.2.2)) then (match x.1[(i64 (x.2.1 + x.2.2.2.2)).toNat]? with | some c2 => (kn (x.1, x.2.1, (bOr .i64 (shL .i64 x.2.2.1 (8 : Int)) (IntKind.i64.wrap (c2.toNat : Int))), x.2.2.2.1, (i64 (x.2.2.2.2 + 1)))) | none => none) else none) | false => (ke x.2.2.1))
noncomputable abbrev F64_d13 (N : Nat) (x : ByteArray × Int × Int × Int × Int) : Option ((Int)) := (F64_l13 N).L N x
noncomputable def F64_s (N : Nat) : FSpec where
  X := ByteArray × Int × Int
  Y := Int × Int
  ash := [[none], [none], [none]]
  bsh := []
  S := ⟨[[none], [none]], [], [], [], []⟩
  bm := false
  pat := fun a b => match a, b with
    | [(AV.v (.string a0)), (AV.v (.int .i64 a1)), (AV.v (.int .i64 a2))], [] => some (a0, a1, a2)
    | _, _ => none
  args := fun x => [(AV.v (.string x.1)), (AV.v (.int .i64 x.2.1)), (AV.v (.int .i64 x.2.2))]
  bs := fun x => []
  ret := fun y => ⟨(AV.tup [(AV.v (.int .i64 y.1)), (AV.v (.int .i64 y.2))]), [], none, [], [], []⟩
  t := fun x α k => (match F40_d N (x.2.2, 1, 7) with | some y1 => (match (!y1) with | true => (k (0, 2)) | false => (match (decide (x.2.1 < 0)) with | true => (k (0, 2)) | false => (match (decide (x.2.1 > (i64 ((x.1.size : Int) - x.2.2)))) with | true => (k (0, 4)) | false => (match F64_d13 N (x.1, x.2.1, 0, x.2.2, 0) with | some y3 => (k (y3, 0)) | none => none)))) | none => none)
noncomputable abbrev F64_d (N : Nat) (x : ByteArray × Int × Int) : Option (Int × Int) := (F64_s N).d x
theorem F64_par13 (N : Nat) : Par (F64_l13 N).b := by
  intro x α β kn ke kn' ke' r r' h h1 h2
  revert h
  dsimp only [F64_l13]
  (repeat' (first | (with_reducible refine par_ite ?_ ?_) | (with_reducible refine par_both ?_ ?_) | split)) <;> intro h <;> first | exact h1 _ h | exact h2 _ h | (cases h; done)
theorem F64_body13 (N : Nat) (x : (F64_l13 N).X) (α : Type) (kn : AS → Option α) (ke : Out → Option α) : around (tabOf Tryd.prog) (F64_g N) F64_an (lam N [(13, F64_l13 N)]) 13 (bodyOf (nthLoop 13 (Tryd.f64.body.getD .skip))) ((F64_l13 N).st x) kn ke = (F64_l13 N).b x α (fun x' => kn ((F64_l13 N).st x')) (fun y => (F64_l13 N).sp y α ke) := by kernel_rfl
theorem F64_pat13 (N : Nat) (s : AS) (x : (F64_l13 N).X) (hc : s = canon (F64_an 13).1 s) (h : (F64_l13 N).p s = some x) : s = (F64_l13 N).st x := by
  dsimp only [F64_l13] at h
  split at h
  · cases h
    exact canon_mk hc ‹_› ‹_› rfl rfl rfl ⟨‹_›, ‹_›, ‹_›, ‹_›, ‹_›, trivial⟩ trivial
  · cases h
theorem F64_loop13 (N : Nat) : ∀ s o, s = canon (F64_an 13).1 s → (lam N [(13, F64_l13 N)]).v 13 s = some o → LoopSem Tryd.prog (nthLoop 13 (Tryd.f64.body.getD .skip)) s o :=
  loop_ok (tabOf_ok Tryd.prog) (gam_ok _) mixed F64_an N [(13, F64_l13 N)] 13 (bodyOf (nthLoop 13 (Tryd.f64.body.getD .skip))) (nthLoop 13 (Tryd.f64.body.getD .skip)) (by kernel_rfl) (by
    have e : actOf F64_an (bodyOf (nthLoop 13 (Tryd.f64.body.getD .skip))) (13 + 1) = [] := by kernel_rfl
    rw [e]
    intro p hp
    cases hp) (F64_l13 N) rfl (fun s x hc h => F64_pat13 N s x hc h) (fun x => rfl) (fun x α kn ke => (F64_body13 N x α kn ke).trans (congrArg ((F64_l13 N).b x α _) (funext fun y => (F64_l13 N).spe y α ke))) (F64_par13 N)
theorem F64_parF (N : Nat) : ParF (F64_s N).t := by
  intro x α β k k' r r' h h1
  revert h
  dsimp only [F64_s]
  (repeat' (first | (with_reducible refine par_ite ?_ ?_) | (with_reducible refine par_both ?_ ?_) | split)) <;> intro h <;> first | exact h1 _ h | (cases h; done)
theorem F64_text (N : Nat) (x : (F64_s N).X) : acall (tabOf Tryd.prog) (F64_g N) F64_an (lam N [(13, F64_l13 N)]) Tryd.f64 (F64_s N).S ((F64_s N).args x) ((F64_s N).bs x) = (F64_s N).t x Ret (fun y => some ((F64_s N).ret y)) := by kernel_rfl
theorem F64_pat (N : Nat) (a : List AV) (b : List (List AV)) (x : (F64_s N).X) (h : (F64_s N).pat a b = some x) : a = (F64_s N).args x ∧ b = (F64_s N).bs x := by
  dsimp only [F64_s] at h
  split at h
  · cases h; exact ⟨rfl, rfl⟩
  · cases h
noncomputable def F64_e (N : Nat) : Ent Tryd.prog := entOf (tabOf_ok Tryd.prog) (gam_ok _) mixed 64 Tryd.f64 Tryd.func64 rfl F64_an (lam N [(13, F64_l13 N)]) (by
    have e : actOf F64_an (Tryd.f64.body.getD .skip) 0 = [(13, nthLoop 13 (Tryd.f64.body.getD .skip))] := by kernel_rfl
    rw [e]
    intro p hp
    rcases List.mem_cons.1 hp with rfl | hp
    · exact F64_loop13 N
    cases hp) (F64_s N) (fun _ => ⟨rfl, rfl⟩) (F64_text N) (F64_pat N) (F64_parF N)
/-! ### seismonet/bits.Pair (function 85) -/
def F85_an : Nat → Keep × Keep := anL []
noncomputable def F85_g (N : Nat) : GamK := gam (P := Tryd.prog) [F62_e N]
noncomputable def F85_s (N : Nat) : FSpec where
  X := Int × Int
  Y := Int × Int
  ash := [[none], [none]]
  bsh := []
  S := ⟨[[none], [none]], [], [], [], []⟩
  bm := false
  pat := fun a b => match a, b with
    | [(AV.v (.int .i64 a0)), (AV.v (.int .i64 a1))], [] => some (a0, a1)
    | _, _ => none
  args := fun x => [(AV.v (.int .i64 x.1)), (AV.v (.int .i64 x.2))]
  bs := fun x => []
  ret := fun y => ⟨(AV.tup [(AV.v (.int .i64 y.1)), (AV.v (.int .i64 y.2))]), [], none, [], [], []⟩
  t := fun x α k => (match F62_d N (x.1, x.2) with | some y1 => (match (!y1.2) with | true => (k (0, 2)) | false => (if y1.1 < 0 then none else (k ((bAnd .i64 (shR .i64 x.1 y1.1) (3 : Int)), 0)))) | none => none)
noncomputable abbrev F85_d (N : Nat) (x : Int × Int) : Option (Int × Int) := (F85_s N).d x
theorem F85_parF (N : Nat) : ParF (F85_s N).t := by
  intro x α β k k' r r' h h1
  revert h
  dsimp only [F85_s]
  (repeat' (first | (with_reducible refine par_ite ?_ ?_) | (with_reducible refine par_both ?_ ?_) | split)) <;> intro h <;> first | exact h1 _ h | (cases h; done)
theorem F85_text (N : Nat) (x : (F85_s N).X) : acall (tabOf Tryd.prog) (F85_g N) F85_an (lam N []) Tryd.f85 (F85_s N).S ((F85_s N).args x) ((F85_s N).bs x) = (F85_s N).t x Ret (fun y => some ((F85_s N).ret y)) := by kernel_rfl
theorem F85_pat (N : Nat) (a : List AV) (b : List (List AV)) (x : (F85_s N).X) (h : (F85_s N).pat a b = some x) : a = (F85_s N).args x ∧ b = (F85_s N).bs x := by
  dsimp only [F85_s] at h
  split at h
  · cases h; exact ⟨rfl, rfl⟩
  · cases h
noncomputable def F85_e (N : Nat) : Ent Tryd.prog := entOf (tabOf_ok Tryd.prog) (gam_ok _) mixed 85 Tryd.f85 Tryd.func85 rfl F85_an (lam N []) (by
    have e : actOf F85_an (Tryd.f85.body.getD .skip) 0 = [] := by kernel_rfl
    rw [e]
    intro p hp
    cases hp) (F85_s N) (fun _ => ⟨rfl, rfl⟩) (F85_text N) (F85_pat N) (F85_parF N)
/-! ### seismonet/steim.Codes (function 78) -/
def F78_an : Nat → Keep × Keep := anL [(10, ⟨[4, 18], [(6, 1)], [], [], [], [], [], [], false⟩, ⟨[], [(6, 1)], [], [], [], [], [], [], false⟩)]
noncomputable def F78_g (N : Nat) : GamK := gam (P := Tryd.prog) [F64_e N, F85_e N]
noncomputable def F78_l10 (N : Nat) : LSpec where
  X := (List (List AV)) × Int × Int
  Y := ((List (List AV)))
  p := fun s => match s.env.length, s.nin, s.at 6, s.at 4, s.at 18 with
    | 33, 0, (AV.list 1 a0 (some 1280000384)), (AV.v (.int .i64 a1)), (AV.v (.int .i64 a2)) => some (a0, a1, a2)
    | _, _, _, _, _ => none
  st := fun x => mkS 33 [(6, (AV.list 1 x.1 (some 1280000384))), (4, (AV.v (.int .i64 x.2.1))), (18, (AV.v (.int .i64 x.2.2)))] [] (F78_an 10).1.toks 0
  out := fun y => (.exit 0, mkS 33 [(6, (AV.list 1 y (some 1280000384)))] [] (F78_an 10).2.toks 0)
  sp := fun y α k => k (.exit 0, mkS 33 [(6, (AV.list 1 y (some 1280000384)))] [] (F78_an 10).2.toks 0)
  spe := fun y α k => rfl
  b := fun x α kn ke => (match (decide (x.2.2 < 16)) with | true => (match F85_d N (x.2.1, x.2.2) with | some y2 => (if (x.1.length + [[(AV.v (.int .i64 y2.1))]].length) * 8 ≤ maxBytes then (kn ((x.1 ++ [[(AV.v (.int .i64 y2.1))]]), x.2.1, (i64 (x.2.2 + 1)))) else none) | none => none) | false => (ke x.1))
noncomputable abbrev F78_d10 (N : Nat) (x : (List (List AV)) × Int × Int) : Option (((List (List AV)))) := (F78_l10 N).L N x
noncomputable def F78_s (N : Nat) : FSpec where
  X := ByteArray
  Y := (List (List AV)) × Int
  ash := [[none]]
  bsh := []
  S := ⟨[[some 2000001], [none]], [], [], [], []⟩
  bm := false
  pat := fun a b => match a, b with
    | [(AV.v (.string a0))], [] => some a0
    | _, _ => none
  args := fun x => [(AV.v (.string x))]
  bs := fun x => []
  ret := fun y => ⟨(AV.tup [(AV.list 1 y.1 (some 2560000000)), (AV.v (.int .i64 y.2))]), [], none, [], [2560000000], []⟩
  t := fun x α k => (match ((x.size : Int) != 64) with | true => (k (([] : List (List AV)), 3)) | false => (match F64_d N (x, 0, 4) with | some y1 => (match F78_d10 N (([] : List (List AV)), y1.1, 0) with | some y3 => (k (y3, 0)) | none => none) | none => none))
noncomputable abbrev F78_d (N : Nat) (x : ByteArray) : Option ((List (List AV)) × Int) := (F78_s N).d x
theorem F78_par10 (N : Nat) : Par (F78_l10 N).b := by
  intro x α β kn ke kn' ke' r r' h h1 h2
  revert h
  dsimp only [F78_l10]
  (repeat' (first | (with_reducible refine par_ite ?_ ?_) | (with_reducible refine par_both ?_ ?_) | split)) <;> intro h <;> first | exact h1 _ h | exact h2 _ h | (cases h; done)
theorem F78_body10 (N : Nat) (x : (F78_l10 N).X) (α : Type) (kn : AS → Option α) (ke : Out → Option α) : around (tabOf Tryd.prog) (F78_g N) F78_an (lam N [(10, F78_l10 N)]) 10 (bodyOf (nthLoop 10 (Tryd.f78.body.getD .skip))) ((F78_l10 N).st x) kn ke = (F78_l10 N).b x α (fun x' => kn ((F78_l10 N).st x')) (fun y => (F78_l10 N).sp y α ke) := by kernel_rfl
theorem F78_pat10 (N : Nat) (s : AS) (x : (F78_l10 N).X) (hc : s = canon (F78_an 10).1 s) (h : (F78_l10 N).p s = some x) : s = (F78_l10 N).st x := by
  dsimp only [F78_l10] at h
  split at h
  · cases h
    exact canon_mk hc ‹_› ‹_› rfl rfl rfl ⟨‹_›, ‹_›, ‹_›, trivial⟩ trivial
  · cases h
theorem F78_loop10 (N : Nat) : ∀ s o, s = canon (F78_an 10).1 s → (lam N [(10, F78_l10 N)]).v 10 s = some o → LoopSem Tryd.prog (nthLoop 10 (Tryd.f78.body.getD .skip)) s o :=
  loop_ok (tabOf_ok Tryd.prog) (gam_ok _) mixed F78_an N [(10, F78_l10 N)] 10 (bodyOf (nthLoop 10 (Tryd.f78.body.getD .skip))) (nthLoop 10 (Tryd.f78.body.getD .skip)) (by kernel_rfl) (by
    have e : actOf F78_an (bodyOf (nthLoop 10 (Tryd.f78.body.getD .skip))) (10 + 1) = [] := by kernel_rfl
    rw [e]
    intro p hp
    cases hp) (F78_l10 N) rfl (fun s x hc h => F78_pat10 N s x hc h) (fun x => rfl) (fun x α kn ke => (F78_body10 N x α kn ke).trans (congrArg ((F78_l10 N).b x α _) (funext fun y => (F78_l10 N).spe y α ke))) (F78_par10 N)
theorem F78_parF (N : Nat) : ParF (F78_s N).t := by
  intro x α β k k' r r' h h1
  revert h
  dsimp only [F78_s]
  (repeat' (first | (with_reducible refine par_ite ?_ ?_) | (with_reducible refine par_both ?_ ?_) | split)) <;> intro h <;> first | exact h1 _ h | (cases h; done)
theorem F78_text (N : Nat) (x : (F78_s N).X) : acall (tabOf Tryd.prog) (F78_g N) F78_an (lam N [(10, F78_l10 N)]) Tryd.f78 (F78_s N).S ((F78_s N).args x) ((F78_s N).bs x) = (F78_s N).t x Ret (fun y => some ((F78_s N).ret y)) := by kernel_rfl
theorem F78_pat (N : Nat) (a : List AV) (b : List (List AV)) (x : (F78_s N).X) (h : (F78_s N).pat a b = some x) : a = (F78_s N).args x ∧ b = (F78_s N).bs x := by
  dsimp only [F78_s] at h
  split at h
  · cases h; exact ⟨rfl, rfl⟩
  · cases h
noncomputable def F78_e (N : Nat) : Ent Tryd.prog := entOf (tabOf_ok Tryd.prog) (gam_ok _) mixed 78 Tryd.f78 Tryd.func78 rfl F78_an (lam N [(10, F78_l10 N)]) (by
    have e : actOf F78_an (Tryd.f78.body.getD .skip) 0 = [(10, nthLoop 10 (Tryd.f78.body.getD .skip))] := by kernel_rfl
    rw [e]
    intro p hp
    rcases List.mem_cons.1 hp with rfl | hp
    · exact F78_loop10 N
    cases hp) (F78_s N) (fun _ => ⟨rfl, rfl⟩) (F78_text N) (F78_pat N) (F78_parF N)
/-! ### seismonet/bits.Sign (function 69) -/
def F69_an : Nat → Keep × Keep := anL []
noncomputable def F69_g (N : Nat) : GamK := gam (P := Tryd.prog) [F40_e N]
noncomputable def F69_s (N : Nat) : FSpec where
  X := Int × Int
  Y := Int × Int
  ash := [[none], [none]]
  bsh := []
  S := ⟨[[none], [none]], [], [], [], []⟩
  bm := false
  pat := fun a b => match a, b with
    | [(AV.v (.int .i64 a0)), (AV.v (.int .i64 a1))], [] => some (a0, a1)
    | _, _ => none
  args := fun x => [(AV.v (.int .i64 x.1)), (AV.v (.int .i64 x.2))]
  bs := fun x => []
  ret := fun y => ⟨(AV.tup [(AV.v (.int .i64 y.1)), (AV.v (.int .i64 y.2))]), [], none, [], [], []⟩
  t := fun x α k => (match F40_d N (x.2, 1, 56) with | some y1 => (match (!y1) with | true => (k (0, 2)) | false => (if x.2 < 0 then none else (match F40_d N (x.1, 0, (i64 ((shL .i64 (1 : Int) x.2) - 1))) with | some y2 => (match (!y2) with | true => (k (0, 2)) | false => (if (i64 (x.2 - 1)) < 0 then none else (match ((shR .i64 x.1 (i64 (x.2 - 1))) == 1) with | true => (if x.2 < 0 then none else (k ((i64 (x.1 - (shL .i64 (1 : Int) x.2))), 0))) | false => (k (x.1, 0))))) | none => none))) | none => none)
noncomputable abbrev F69_d (N : Nat) (x : Int × Int) : Option (Int × Int) := (F69_s N).d x
theorem F69_parF (N : Nat) : ParF (F69_s N).t := by
  intro x α β k k' r r' h h1
  revert h
  dsimp only [F69_s]
  (repeat' (first | (with_reducible refine par_ite ?_ ?_) | (with_reducible refine par_both ?_ ?_) | split)) <;> intro h <;> first | exact h1 _ h | (cases h; done)
theorem F69_text (N : Nat) (x : (F69_s N).X) : acall (tabOf Tryd.prog) (F69_g N) F69_an (lam N []) Tryd.f69 (F69_s N).S ((F69_s N).args x) ((F69_s N).bs x) = (F69_s N).t x Ret (fun y => some ((F69_s N).ret y)) := by kernel_rfl
theorem F69_pat (N : Nat) (a : List AV) (b : List (List AV)) (x : (F69_s N).X) (h : (F69_s N).pat a b = some x) : a = (F69_s N).args x ∧ b = (F69_s N).bs x := by
  dsimp only [F69_s] at h
  split at h
  · cases h; exact ⟨rfl, rfl⟩
  · cases h
noncomputable def F69_e (N : Nat) : Ent Tryd.prog := entOf (tabOf_ok Tryd.prog) (gam_ok _) mixed 69 Tryd.f69 Tryd.func69 rfl F69_an (lam N []) (by
    have e : actOf F69_an (Tryd.f69.body.getD .skip) 0 = [] := by kernel_rfl
    rw [e]
    intro p hp
    cases hp) (F69_s N) (fun _ => ⟨rfl, rfl⟩) (F69_text N) (F69_pat N) (F69_parF N)
/-! ### seismonet/steim.unpack (function 79) -/
def F79_an : Nat → Keep × Keep := anL [(6, ⟨[1, 5, 7], [(6, 1)], [], [], [], [], [], [], false⟩, ⟨[], [(6, 1)], [], [], [], [], [], [], false⟩)]
noncomputable def F79_g (N : Nat) : GamK := gam (P := Tryd.prog) [F57_e N, F69_e N]
noncomputable def F79_l6 (N : Nat) : LSpec where
  X := (List (List AV)) × Int × Int × Int
  Y := ((List (List AV)))
  p := fun s => match s.env.length, s.nin, s.at 6, s.at 1, s.at 5, s.at 7 with
    | 41, 0, (AV.list 1 a0 (some 1280000384)), (AV.v (.int .i64 a1)), (AV.v (.int .i64 a2)), (AV.v (.int .i64 a3)) => some (a0, a1, a2, a3)
    | _, _, _, _, _, _ => none
  st := fun x => mkS 41 [(6, (AV.list 1 x.1 (some 1280000384))), (1, (AV.v (.int .i64 x.2.1))), (5, (AV.v (.int .i64 x.2.2.1))), (7, (AV.v (.int .i64 x.2.2.2)))] [] (F79_an 6).1.toks 0
  out := fun y => (.exit 0, mkS 41 [(6, (AV.list 1 y (some 1280000384)))] [] (F79_an 6).2.toks 0)
  sp := fun y α k => k (.exit 0, mkS 41 [(6, (AV.list 1 y (some 1280000384)))] [] (F79_an 6).2.toks 0)
  spe := fun y α k => rfl
  b := fun x α kn ke => (match (decide (x.2.2.2 ≥ 0)) with | true => (if x.2.2.1 = 0 then none else (if (i64 (x.2.2.2 * (i64 ((32 : Int).tdiv x.2.2.1)))) < 0 then none else (if (i64 ((32 : Int).tdiv x.2.2.1)) < 0 then none else (match F69_d N ((bAnd .i64 (shR .i64 x.2.1 (i64 (x.2.2.2 * (i64 ((32 : Int).tdiv x.2.2.1))))) (i64 ((shL .i64 (1 : Int) (i64 ((32 : Int).tdiv x.2.2.1))) - 1))), (i64 ((32 : Int).tdiv x.2.2.1))) with | some y5 => (if (x.1.length + [[(AV.v (.int .i64 y5.1))]].length) * 8 ≤ maxBytes then (kn ((x.1 ++ [[(AV.v (.int .i64 y5.1))]]), x.2.1, x.2.2.1, (i64 (x.2.2.2 - 1)))) else none) | none => none)))) | false => (ke x.1))
noncomputable abbrev F79_d6 (N : Nat) (x : (List (List AV)) × Int × Int × Int) : Option (((List (List AV)))) := (F79_l6 N).L N x
noncomputable def F79_s (N : Nat) : FSpec where
  X := Int × Int
  Y := (List (List AV))
  ash := [[none], [none]]
  bsh := []
  S := ⟨[[some 2000001]], [], [], [], []⟩
  bm := false
  pat := fun a b => match a, b with
    | [(AV.v (.int .i64 a0)), (AV.v (.int .i64 a1))], [] => some (a0, a1)
    | _, _ => none
  args := fun x => [(AV.v (.int .i64 x.1)), (AV.v (.int .i64 x.2))]
  bs := fun x => []
  ret := fun y => ⟨(AV.list 1 y (some 2560000000)), [], none, [], [2560000000], []⟩
  t := fun x α k => (match F57_d N () with | some y1 => (if 0 ≤ x.1 ∧ x.1 < 4 then (match [(AV.v (.int .i64 y1.1)), (AV.v (.int .i64 y1.2.1)), (AV.v (.int .i64 y1.2.2.1)), (AV.v (.int .i64 y1.2.2.2))][(x.1.toNat * 1)]? with | some x2 => (match x2 with | .v (.int q4 n3) => (if q4 = .i64 then (match F79_d6 N (([] : List (List AV)), x.2, n3, (i64 (n3 - 1))) with | some y6 => (k y6) | none => none) else none) | _ => none) | none => none) else none) | none => none)
noncomputable abbrev F79_d (N : Nat) (x : Int × Int) : Option ((List (List AV))) := (F79_s N).d x
theorem F79_par6 (N : Nat) : Par (F79_l6 N).b := by
  intro x α β kn ke kn' ke' r r' h h1 h2
  revert h
  dsimp only [F79_l6]
  (repeat' (first | (with_reducible refine par_ite ?_ ?_) | (with_reducible refine par_both ?_ ?_) | split)) <;> intro h <;> first | exact h1 _ h | exact h2 _ h | (cases h; done)
theorem F79_body6 (N : Nat) (x : (F79_l6 N).X) (α : Type) (kn : AS → Option α) (ke : Out → Option α) : around (tabOf Tryd.prog) (F79_g N) F79_an (lam N [(6, F79_l6 N)]) 6 (bodyOf (nthLoop 6 (Tryd.f79.body.getD .skip))) ((F79_l6 N).st x) kn ke = (F79_l6 N).b x α (fun x' => kn ((F79_l6 N).st x')) (fun y => (F79_l6 N).sp y α ke) := by kernel_rfl
theorem F79_pat6 (N : Nat) (s : AS) (x : (F79_l6 N).X) (hc : s = canon (F79_an 6).1 s) (h : (F79_l6 N).p s = some x) : s = (F79_l6 N).st x := by
  dsimp only [F79_l6] at h
  split at h
  · cases h
    exact canon_mk hc ‹_› ‹_› rfl rfl rfl ⟨‹_›, ‹_›, ‹_›, ‹_›, trivial⟩ trivial
  · cases h
theorem F79_loop6 (N : Nat) : ∀ s o, s = canon (F79_an 6).1 s → (lam N [(6, F79_l6 N)]).v 6 s = some o → LoopSem Tryd.prog (nthLoop 6 (Tryd.f79.body.getD .skip)) s o :=
  loop_ok (tabOf_ok Tryd.prog) (gam_ok _) mixed F79_an N [(6, F79_l6 N)] 6 (bodyOf (nthLoop 6 (Tryd.f79.body.getD .skip))) (nthLoop 6 (Tryd.f79.body.getD .skip)) (by kernel_rfl) (by
    have e : actOf F79_an (bodyOf (nthLoop 6 (Tryd.f79.body.getD .skip))) (6 + 1) = [] := by kernel_rfl
    rw [e]
    intro p hp
    cases hp) (F79_l6 N) rfl (fun s x hc h => F79_pat6 N s x hc h) (fun x => rfl) (fun x α kn ke => (F79_body6 N x α kn ke).trans (congrArg ((F79_l6 N).b x α _) (funext fun y => (F79_l6 N).spe y α ke))) (F79_par6 N)
theorem F79_parF (N : Nat) : ParF (F79_s N).t := by
  intro x α β k k' r r' h h1
  revert h
  dsimp only [F79_s]
  (repeat' (first | (with_reducible refine par_ite ?_ ?_) | (with_reducible refine par_both ?_ ?_) | split)) <;> intro h <;> first | exact h1 _ h | (cases h; done)
theorem F79_text (N : Nat) (x : (F79_s N).X) : acall (tabOf Tryd.prog) (F79_g N) F79_an (lam N [(6, F79_l6 N)]) Tryd.f79 (F79_s N).S ((F79_s N).args x) ((F79_s N).bs x) = (F79_s N).t x Ret (fun y => some ((F79_s N).ret y)) := by kernel_rfl
theorem F79_pat (N : Nat) (a : List AV) (b : List (List AV)) (x : (F79_s N).X) (h : (F79_s N).pat a b = some x) : a = (F79_s N).args x ∧ b = (F79_s N).bs x := by
  dsimp only [F79_s] at h
  split at h
  · cases h; exact ⟨rfl, rfl⟩
  · cases h
noncomputable def F79_e (N : Nat) : Ent Tryd.prog := entOf (tabOf_ok Tryd.prog) (gam_ok _) mixed 79 Tryd.f79 Tryd.func79 rfl F79_an (lam N [(6, F79_l6 N)]) (by
    have e : actOf F79_an (Tryd.f79.body.getD .skip) 0 = [(6, nthLoop 6 (Tryd.f79.body.getD .skip))] := by kernel_rfl
    rw [e]
    intro p hp
    rcases List.mem_cons.1 hp with rfl | hp
    · exact F79_loop6 N
    cases hp) (F79_s N) (fun _ => ⟨rfl, rfl⟩) (F79_text N) (F79_pat N) (F79_parF N)
/-! ### seismonet/steim.decompress (function 67) -/
def F67_an : Nat → Keep × Keep := anL [(10, ⟨[0, 25, 26], [(5, 1)], [], [], [], [], [], [], false⟩, ⟨[3], [(5, 1)], [], [(2, 1)], [], [], [], [], false⟩), (25, ⟨[0, 7, 10, 25, 26], [(5, 1)], [], [(8, 1)], [], [], [], [], false⟩, ⟨[0, 25, 26], [(5, 1)], [], [], [], [], [], [], false⟩)]
noncomputable def F67_g (N : Nat) : GamK := gam (P := Tryd.prog) [F66_e N, F78_e N, F64_e N, F79_e N]
noncomputable def F67_l25 (N : Nat) : LSpec where
  X := (List (List AV)) × (List (List AV)) × ByteArray × ByteArray × Int × Int × Int
  Y := ((List (List AV)) × ByteArray × Int × Int)
  p := fun s => match s.env.length, s.nin, s.at 5, s.at 8, s.at 0, s.at 7, s.at 10, s.at 25, s.at 26 with
    | 82, 0, (AV.list 1 a0 (some 1280000320)), (AV.list 1 a1 none), (AV.v (.string a2)), (AV.v (.string a3)), (AV.v (.int .i64 a4)), (AV.v (.int .i64 a5)), (AV.v (.int .i64 a6)) => some (a0, a1, a2, a3, a4, a5, a6)
    | _, _, _, _, _, _, _, _, _ => none
  st := fun x => mkS 82 [(5, (AV.list 1 x.1 (some 1280000320))), (8, (AV.list 1 x.2.1 none)), (0, (AV.v (.string x.2.2.1))), (7, (AV.v (.string x.2.2.2.1))), (10, (AV.v (.int .i64 x.2.2.2.2.1))), (25, (AV.v (.int .i64 x.2.2.2.2.2.1))), (26, (AV.v (.int .i64 x.2.2.2.2.2.2)))] [] (F67_an 25).1.toks 0
  out := fun y => (.exit 2, mkS 82 [(5, (AV.list 1 y.1 (some 1280000320))), (0, (AV.v (.string y.2.1))), (25, (AV.v (.int .i64 y.2.2.1))), (26, (AV.v (.int .i64 y.2.2.2)))] [] (F67_an 25).2.toks 0)
  sp := fun y α k => k (.exit 2, mkS 82 [(5, (AV.list 1 y.1 (some 1280000320))), (0, (AV.v (.string y.2.1))), (25, (AV.v (.int .i64 y.2.2.1))), (26, (AV.v (.int .i64 y.2.2.2)))] [] (F67_an 25).2.toks 0)
  spe := fun y α k => rfl
  b := fun x α kn ke => (match (decide (x.2.2.2.2.1 < 16)) with | true => (match F64_d N (x.2.2.2.1, (i64 (x.2.2.2.2.1 * 4)), 4) with | some y15 => (if 0 ≤ x.2.2.2.2.1 then (match x.2.1[x.2.2.2.2.1.toNat]? with | some c16 => (match c16[0]? with | some x17 => (match x17 with | .v (.int q19 n18) => (if q19 = .i64 then (match F79_d N (n18, y15.1) with | some y20 => (if (x.1.length + y20.length) * 8 ≤ maxBytes then (kn ((x.1 ++ y20), x.2.1, x.2.2.1, x.2.2.2.1, (i64 (x.2.2.2.2.1 + 1)), x.2.2.2.2.2.1, x.2.2.2.2.2.2)) else none) | none => none) else none) | _ => none) | none => none) | none => none) else none) | none => none) | false => (ke (x.1, x.2.2.1, x.2.2.2.2.2.1, x.2.2.2.2.2.2)))
noncomputable abbrev F67_d25 (N : Nat) (x : (List (List AV)) × (List (List AV)) × ByteArray × ByteArray × Int × Int × Int) : Option (((List (List AV)) × ByteArray × Int × Int)) := (F67_l25 N).L N x
noncomputable def F67_l10 (N : Nat) : LSpec where
  X := (List (List AV)) × ByteArray × Int × Int
  Y := ((List (List AV)) × (List (List AV)) × Bool) ⊕ ((List (List AV)))
  p := fun s => match s.env.length, s.nin, s.at 5, s.at 0, s.at 25, s.at 26 with
    | 82, 0, (AV.list 1 a0 (some 1280000320)), (AV.v (.string a1)), (AV.v (.int .i64 a2)), (AV.v (.int .i64 a3)) => some (a0, a1, a2, a3)
    | _, _, _, _, _, _ => none
  st := fun x => mkS 82 [(5, (AV.list 1 x.1 (some 1280000320))), (0, (AV.v (.string x.2.1))), (25, (AV.v (.int .i64 x.2.2.1))), (26, (AV.v (.int .i64 x.2.2.2)))] [] (F67_an 10).1.toks 0
  out := fun y => match y with
    | .inl y => (.ret, mkS 82 [(5, (AV.list 1 y.1 (some 1280000320))), (2, (AV.list 1 y.2.1 none)), (3, (AV.v (.bool y.2.2)))] [] (F67_an 10).2.toks 0)
    | .inr y => (.exit 0, mkS 82 [(5, (AV.list 1 y (some 1280000320)))] [] (F67_an 10).2.toks 0)
  sp := fun y α k => match y with
    | .inl y => k (.ret, mkS 82 [(5, (AV.list 1 y.1 (some 1280000320))), (2, (AV.list 1 y.2.1 none)), (3, (AV.v (.bool y.2.2)))] [] (F67_an 10).2.toks 0)
    | .inr y => k (.exit 0, mkS 82 [(5, (AV.list 1 y (some 1280000320)))] [] (F67_an 10).2.toks 0)
  spe := fun y α k => by rcases y with _ | _ <;> rfl
  b := fun x α kn ke => (match (decide (x.2.2.2 < x.2.2.1)) with | true => (if 0 ≤ (i64 (x.2.2.2 * 64)) ∧ (i64 (x.2.2.2 * 64)) ≤ (i64 ((i64 (x.2.2.2 + 1)) * 64)) ∧ (i64 ((i64 (x.2.2.2 + 1)) * 64)) ≤ x.2.1.size then (match F78_d N (x.2.1.extract (i64 (x.2.2.2 * 64)).toNat (i64 ((i64 (x.2.2.2 + 1)) * 64)).toNat) with | some y2 => (if 0 ≤ (0 : Int) then (match y2.1[(0 : Int).toNat]? with | some c3 => (match c3[0]? with | some x4 => (match x4 with | .v (.int q6 n5) => (if q6 = .i64 then (match (n5 != 0) with | true => (ke (.inl (x.1, ([] : List (List AV)), false))) | false => (match (x.2.2.2 == 0) with | true => (if 0 ≤ (1 : Int) then (match y2.1[(1 : Int).toNat]? with | some c7 => (match c7[0]? with | some x8 => (match x8 with | .v (.int q10 n9) => (if q10 = .i64 then (match (n9 != 0) with | true => (ke (.inl (x.1, ([] : List (List AV)), false))) | false => (if 0 ≤ (2 : Int) then (match y2.1[(2 : Int).toNat]? with | some c11 => (match c11[0]? with | some x12 => (match x12 with | .v (.int q14 n13) => (if q14 = .i64 then (match (n13 != 0) with | true => (ke (.inl (x.1, ([] : List (List AV)), false))) | false => (match F67_d25 N (x.1, y2.1, x.2.1, (x.2.1.extract (i64 (x.2.2.2 * 64)).toNat (i64 ((i64 (x.2.2.2 + 1)) * 64)).toNat), 1, x.2.2.1, x.2.2.2) with | some y21 => (kn (y21.1, y21.2.1, y21.2.2.1, (i64 (y21.2.2.2 + 1)))) | none => none)) else none) | _ => none) | none => none) | none => none) else none)) else none) | _ => none) | none => none) | none => none) else none) | false => (match F67_d25 N (x.1, y2.1, x.2.1, (x.2.1.extract (i64 (x.2.2.2 * 64)).toNat (i64 ((i64 (x.2.2.2 + 1)) * 64)).toNat), 1, x.2.2.1, x.2.2.2) with | some y22 => (kn (y22.1, y22.2.1, y22.2.2.1, (i64 (y22.2.2.2 + 1)))) | none => none))) else none) | _ => none) | none => none) | none => none) else none) | none => none) else none) | false => (ke (.inr x.1)))
noncomputable abbrev F67_d10 (N : Nat) (x : (List (List AV)) × ByteArray × Int × Int) : Option (((List (List AV)) × (List (List AV)) × Bool) ⊕ ((List (List AV)))) := (F67_l10 N).L N x
noncomputable def F67_s (N : Nat) : FSpec where
  X := ByteArray
  Y := (List (List AV)) × Bool
  ash := [[none]]
  bsh := []
  S := ⟨[[some 1], [none]], [], [], [], []⟩
  bm := false
  pat := fun a b => match a, b with
    | [(AV.v (.string a0))], [] => some a0
    | _, _ => none
  args := fun x => [(AV.v (.string x))]
  bs := fun x => []
  ret := fun y => ⟨(AV.tup [(AV.list 1 y.1 none), (AV.v (.bool y.2))]), [], none, [], [], []⟩
  t := fun x α k => (match (((x.size : Int).tmod 64) != 0) with | true => (k (([] : List (List AV)), false)) | false => (match F66_d N ((i64 ((x.size : Int).tdiv 64)), 1, 8) with | some y1 => (match (!y1) with | true => (k (([] : List (List AV)), false)) | false => (match F67_d10 N (([] : List (List AV)), x, (i64 ((x.size : Int).tdiv 64)), 0) with | some y23 => (match y23 with | .inl z24 => (k (z24.2.1, z24.2.2)) | .inr z25 => (k (z25, true))) | none => none)) | none => none))
noncomputable abbrev F67_d (N : Nat) (x : ByteArray) : Option ((List (List AV)) × Bool) := (F67_s N).d x
theorem F67_par25 (N : Nat) : Par (F67_l25 N).b := by
  intro x α β kn ke kn' ke' r r' h h1 h2
  revert h
  dsimp only [F67_l25]
  (repeat' (first | (with_reducible refine par_ite ?_ ?_) | (with_reducible refine par_both ?_ ?_) | split)) <;> intro h <;> first | exact h1 _ h | exact h2 _ h | (cases h; done)
theorem F67_body25 (N : Nat) (x : (F67_l25 N).X) (α : Type) (kn : AS → Option α) (ke : Out → Option α) : around (tabOf Tryd.prog) (F67_g N) F67_an (lam N [(10, F67_l10 N), (25, F67_l25 N)]) 25 (bodyOf (nthLoop 25 (Tryd.f67.body.getD .skip))) ((F67_l25 N).st x) kn ke = (F67_l25 N).b x α (fun x' => kn ((F67_l25 N).st x')) (fun y => (F67_l25 N).sp y α ke) := by kernel_rfl
theorem F67_pat25 (N : Nat) (s : AS) (x : (F67_l25 N).X) (hc : s = canon (F67_an 25).1 s) (h : (F67_l25 N).p s = some x) : s = (F67_l25 N).st x := by
  dsimp only [F67_l25] at h
  split at h
  · cases h
    exact canon_mk hc ‹_› ‹_› rfl rfl rfl ⟨‹_›, ‹_›, ‹_›, ‹_›, ‹_›, ‹_›, ‹_›, trivial⟩ trivial
  · cases h
theorem F67_loop25 (N : Nat) : ∀ s o, s = canon (F67_an 25).1 s → (lam N [(10, F67_l10 N), (25, F67_l25 N)]).v 25 s = some o → LoopSem Tryd.prog (nthLoop 25 (Tryd.f67.body.getD .skip)) s o :=
  loop_ok (tabOf_ok Tryd.prog) (gam_ok _) mixed F67_an N [(10, F67_l10 N), (25, F67_l25 N)] 25 (bodyOf (nthLoop 25 (Tryd.f67.body.getD .skip))) (nthLoop 25 (Tryd.f67.body.getD .skip)) (by kernel_rfl) (by
    have e : actOf F67_an (bodyOf (nthLoop 25 (Tryd.f67.body.getD .skip))) (25 + 1) = [] := by kernel_rfl
    rw [e]
    intro p hp
    cases hp) (F67_l25 N) rfl (fun s x hc h => F67_pat25 N s x hc h) (fun x => rfl) (fun x α kn ke => (F67_body25 N x α kn ke).trans (congrArg ((F67_l25 N).b x α _) (funext fun y => (F67_l25 N).spe y α ke))) (F67_par25 N)
theorem F67_par10 (N : Nat) : Par (F67_l10 N).b := by
  intro x α β kn ke kn' ke' r r' h h1 h2
  revert h
  dsimp only [F67_l10]
  (repeat' (first | (with_reducible refine par_ite ?_ ?_) | (with_reducible refine par_both ?_ ?_) | split)) <;> intro h <;> first | exact h1 _ h | exact h2 _ h | (cases h; done)
theorem F67_body10 (N : Nat) (x : (F67_l10 N).X) (α : Type) (kn : AS → Option α) (ke : Out → Option α) : around (tabOf Tryd.prog) (F67_g N) F67_an (lam N [(10, F67_l10 N), (25, F67_l25 N)]) 10 (bodyOf (nthLoop 10 (Tryd.f67.body.getD .skip))) ((F67_l10 N).st x) kn ke = (F67_l10 N).b x α (fun x' => kn ((F67_l10 N).st x')) (fun y => (F67_l10 N).sp y α ke) := by kernel_rfl
theorem F67_pat10 (N : Nat) (s : AS) (x : (F67_l10 N).X) (hc : s = canon (F67_an 10).1 s) (h : (F67_l10 N).p s = some x) : s = (F67_l10 N).st x := by
  dsimp only [F67_l10] at h
  split at h
  · cases h
    exact canon_mk hc ‹_› ‹_› rfl rfl rfl ⟨‹_›, ‹_›, ‹_›, ‹_›, trivial⟩ trivial
  · cases h
theorem F67_loop10 (N : Nat) : ∀ s o, s = canon (F67_an 10).1 s → (lam N [(10, F67_l10 N), (25, F67_l25 N)]).v 10 s = some o → LoopSem Tryd.prog (nthLoop 10 (Tryd.f67.body.getD .skip)) s o :=
  loop_ok (tabOf_ok Tryd.prog) (gam_ok _) mixed F67_an N [(10, F67_l10 N), (25, F67_l25 N)] 10 (bodyOf (nthLoop 10 (Tryd.f67.body.getD .skip))) (nthLoop 10 (Tryd.f67.body.getD .skip)) (by kernel_rfl) (by
    have e : actOf F67_an (bodyOf (nthLoop 10 (Tryd.f67.body.getD .skip))) (10 + 1) = [(25, nthLoop 25 (Tryd.f67.body.getD .skip))] := by kernel_rfl
    rw [e]
    intro p hp
    rcases List.mem_cons.1 hp with rfl | hp
    · exact F67_loop25 N
    cases hp) (F67_l10 N) rfl (fun s x hc h => F67_pat10 N s x hc h) (fun x => rfl) (fun x α kn ke => (F67_body10 N x α kn ke).trans (congrArg ((F67_l10 N).b x α _) (funext fun y => (F67_l10 N).spe y α ke))) (F67_par10 N)
theorem F67_parF (N : Nat) : ParF (F67_s N).t := by
  intro x α β k k' r r' h h1
  revert h
  dsimp only [F67_s]
  (repeat' (first | (with_reducible refine par_ite ?_ ?_) | (with_reducible refine par_both ?_ ?_) | split)) <;> intro h <;> first | exact h1 _ h | (cases h; done)
theorem F67_text (N : Nat) (x : (F67_s N).X) : acall (tabOf Tryd.prog) (F67_g N) F67_an (lam N [(10, F67_l10 N), (25, F67_l25 N)]) Tryd.f67 (F67_s N).S ((F67_s N).args x) ((F67_s N).bs x) = (F67_s N).t x Ret (fun y => some ((F67_s N).ret y)) := by kernel_rfl
theorem F67_pat (N : Nat) (a : List AV) (b : List (List AV)) (x : (F67_s N).X) (h : (F67_s N).pat a b = some x) : a = (F67_s N).args x ∧ b = (F67_s N).bs x := by
  dsimp only [F67_s] at h
  split at h
  · cases h; exact ⟨rfl, rfl⟩
  · cases h
noncomputable def F67_e (N : Nat) : Ent Tryd.prog := entOf (tabOf_ok Tryd.prog) (gam_ok _) mixed 67 Tryd.f67 Tryd.func67 rfl F67_an (lam N [(10, F67_l10 N), (25, F67_l25 N)]) (by
    have e : actOf F67_an (Tryd.f67.body.getD .skip) 0 = [(10, nthLoop 10 (Tryd.f67.body.getD .skip)), (25, nthLoop 25 (Tryd.f67.body.getD .skip))] := by kernel_rfl
    rw [e]
    intro p hp
    rcases List.mem_cons.1 hp with rfl | hp
    · exact F67_loop10 N
    rcases List.mem_cons.1 hp with rfl | hp
    · exact F67_loop25 N
    cases hp) (F67_s N) (fun _ => ⟨rfl, rfl⟩) (F67_text N) (F67_pat N) (F67_parF N)
/-! ### seismonet/steim.Decode$1 (function 68) -/
def F68_an : Nat → Keep × Keep := anL []
noncomputable def F68_g (N : Nat) : GamK := gam (P := Tryd.prog) [F64_e N, F69_e N]
noncomputable def F68_s (N : Nat) : FSpec where
  X := Int × ByteArray
  Y := Int × ByteArray
  ash := [[none], [none]]
  bsh := [[none]]
  S := ⟨[[none]], [[none]], [], [], []⟩
  bm := false
  pat := fun a b => match a, b with
    | [(AV.v (.int .i64 a0)), (AV.ptr 0 0)], [[(AV.v (.string a1))]] => some (a0, a1)
    | _, _ => none
  args := fun x => [(AV.v (.int .i64 x.1)), (AV.ptr 0 0)]
  bs := fun x => [[(AV.v (.string x.2))]]
  ret := fun y => ⟨(AV.v (.int .i64 y.1)), [[(AV.v (.string y.2))]], none, [], [], []⟩
  t := fun x α k => (match F64_d N (x.2, (i64 (x.1 * 4)), 4) with | some y1 => (match F69_d N (y1.1, 32) with | some y2 => (k (y2.1, x.2)) | none => none) | none => none)
noncomputable abbrev F68_d (N : Nat) (x : Int × ByteArray) : Option (Int × ByteArray) := (F68_s N).d x
theorem F68_parF (N : Nat) : ParF (F68_s N).t := by
  intro x α β k k' r r' h h1
  revert h
  dsimp only [F68_s]
  (repeat' (first | (with_reducible refine par_ite ?_ ?_) | (with_reducible refine par_both ?_ ?_) | split)) <;> intro h <;> first | exact h1 _ h | (cases h; done)
theorem F68_text (N : Nat) (x : (F68_s N).X) : acall (tabOf Tryd.prog) (F68_g N) F68_an (lam N []) Tryd.f68 (F68_s N).S ((F68_s N).args x) ((F68_s N).bs x) = (F68_s N).t x Ret (fun y => some ((F68_s N).ret y)) := by kernel_rfl
theorem F68_pat (N : Nat) (a : List AV) (b : List (List AV)) (x : (F68_s N).X) (h : (F68_s N).pat a b = some x) : a = (F68_s N).args x ∧ b = (F68_s N).bs x := by
  dsimp only [F68_s] at h
  split at h
  · cases h; exact ⟨rfl, rfl⟩
  · cases h
noncomputable def F68_e (N : Nat) : Ent Tryd.prog := entOf (tabOf_ok Tryd.prog) (gam_ok _) mixed 68 Tryd.f68 Tryd.func68 rfl F68_an (lam N []) (by
    have e : actOf F68_an (Tryd.f68.body.getD .skip) 0 = [] := by kernel_rfl
    rw [e]
    intro p hp
    cases hp) (F68_s N) (fun _ => ⟨rfl, rfl⟩) (F68_text N) (F68_pat N) (F68_parF N)
/-! ### seismonet/steim.Decode$2 (function 70) -/
def F70_an : Nat → Keep × Keep := anL []
noncomputable def F70_g (N : Nat) : GamK := gam (P := Tryd.prog) [F55_e N]
noncomputable def F70_s (N : Nat) : FSpec where
  X := Int
  Y := Bool
  ash := [[none]]
  bsh := []
  S := ⟨[[none]], [], [], [], []⟩
  bm := false
  pat := fun a b => match a, b with
    | [(AV.v (.int .i64 a0))], [] => some a0
    | _, _ => none
  args := fun x => [(AV.v (.int .i64 x))]
  bs := fun x => []
  ret := fun y => ⟨(AV.v (.bool y)), [], none, [], [], []⟩
  t := fun x α k => (match F55_d N x with | some y1 => (k (!y1)) | none => none)
noncomputable abbrev F70_d (N : Nat) (x : Int) : Option (Bool) := (F70_s N).d x
theorem F70_parF (N : Nat) : ParF (F70_s N).t := by
  intro x α β k k' r r' h h1
  revert h
  dsimp only [F70_s]
  (repeat' (first | (with_reducible refine par_ite ?_ ?_) | (with_reducible refine par_both ?_ ?_) | split)) <;> intro h <;> first | exact h1 _ h | (cases h; done)
theorem F70_text (N : Nat) (x : (F70_s N).X) : acall (tabOf Tryd.prog) (F70_g N) F70_an (lam N []) Tryd.f70 (F70_s N).S ((F70_s N).args x) ((F70_s N).bs x) = (F70_s N).t x Ret (fun y => some ((F70_s N).ret y)) := by kernel_rfl
theorem F70_pat (N : Nat) (a : List AV) (b : List (List AV)) (x : (F70_s N).X) (h : (F70_s N).pat a b = some x) : a = (F70_s N).args x ∧ b = (F70_s N).bs x := by
  dsimp only [F70_s] at h
  split at h
  · cases h; exact ⟨rfl, rfl⟩
  · cases h
noncomputable def F70_e (N : Nat) : Ent Tryd.prog := entOf (tabOf_ok Tryd.prog) (gam_ok _) mixed 70 Tryd.f70 Tryd.func70 rfl F70_an (lam N []) (by
    have e : actOf F70_an (Tryd.f70.body.getD .skip) 0 = [] := by kernel_rfl
    rw [e]
    intro p hp
    cases hp) (F70_s N) (fun _ => ⟨rfl, rfl⟩) (F70_text N) (F70_pat N) (F70_parF N)
/-! ### slices.IndexFunc[[]int,int] (function 74) -/
def F74b_an : Nat → Keep × Keep := anL [(4, ⟨[1, 7, 8], [], [], [(0, 1)], [], [], [], [], false⟩, ⟨[4], [], [], [], [], [], [], [], false⟩)]
noncomputable def F74b_g (N : Nat) : GamK := gam (P := Tryd.prog) [F70_e N]
noncomputable def F74b_l4 (N : Nat) : LSpec where
  X := (List (List AV)) × Int × Int
  Y := (Int) ⊕ (Unit)
  p := fun s => match s.env.length, s.nin, s.at 0, s.at 1, s.at 7, s.at 8 with
    | 19, 0, (AV.list 1 a0 none), (AV.fn (.func 70) [] []), (AV.v (.int .i64 a1)), (AV.v (.int .i64 a2)) => some (a0, a1, a2)
    | _, _, _, _, _, _ => none
  st := fun x => mkS 19 [(0, (AV.list 1 x.1 none)), (1, (AV.fn (.func 70) [] [])), (7, (AV.v (.int .i64 x.2.1))), (8, (AV.v (.int .i64 x.2.2)))] [] (F74b_an 4).1.toks 0
  out := fun y => match y with
    | .inl y => (.ret, mkS 19 [(4, (AV.v (.int .i64 y)))] [] (F74b_an 4).2.toks 0)
    | .inr y => (.exit 0, mkS 19 [] [] (F74b_an 4).2.toks 0)
  sp := fun y α k => match y with
    | .inl y => k (.ret, mkS 19 [(4, (AV.v (.int .i64 y)))] [] (F74b_an 4).2.toks 0)
    | .inr y => k (.exit 0, mkS 19 [] [] (F74b_an 4).2.toks 0)
  spe := fun y α k => by rcases y with _ | _ <;> rfl
  b := fun x α kn ke => (match (decide (x.2.2 < x.2.1)) with | true => (if 0 ≤ x.2.2 then (match x.1[x.2.2.toNat]? with | some c1 => (match c1[0]? with | some x2 => (match x2 with | .v (.int q4 n3) => (if q4 = .i64 then (match F70_d N n3 with | some y5 => (match y5 with | true => (ke (.inl x.2.2)) | false => (kn (x.1, x.2.1, (i64 (x.2.2 + 1))))) | none => none) else none) | _ => none) | none => none) | none => none) else none) | false => (ke (.inr ())))
noncomputable abbrev F74b_d4 (N : Nat) (x : (List (List AV)) × Int × Int) : Option ((Int) ⊕ (Unit)) := (F74b_l4 N).L N x
noncomputable def F74b_s (N : Nat) : FSpec where
  X := (List (List AV))
  Y := Int
  ash := [[some 1], [none]]
  bsh := []
  S := ⟨[[none]], [], [], [], []⟩
  bm := false
  pat := fun a b => match a, b with
    | [(AV.list 1 a0 none), (AV.fn (.func 70) [] [])], [] => some a0
    | _, _ => none
  args := fun x => [(AV.list 1 x none), (AV.fn (.func 70) [] [])]
  bs := fun x => []
  ret := fun y => ⟨(AV.v (.int .i64 y)), [], none, [], [], []⟩
  t := fun x α k => (match F74b_d4 N (x, (x.length : Int), 0) with | some y6 => (match y6 with | .inl z7 => (k z7) | .inr z8 => (k (-1))) | none => none)
noncomputable abbrev F74b_d (N : Nat) (x : (List (List AV))) : Option (Int) := (F74b_s N).d x
theorem F74b_par4 (N : Nat) : Par (F74b_l4 N).b := by
  intro x α β kn ke kn' ke' r r' h h1 h2
  revert h
  dsimp only [F74b_l4]
  (repeat' (first | (with_reducible refine par_ite ?_ ?_) | (with_reducible refine par_both ?_ ?_) | split)) <;> intro h <;> first | exact h1 _ h | exact h2 _ h | (cases h; done)
theorem F74b_body4 (N : Nat) (x : (F74b_l4 N).X) (α : Type) (kn : AS → Option α) (ke : Out → Option α) : around (tabOf Tryd.prog) (F74b_g N) F74b_an (lam N [(4, F74b_l4 N)]) 4 (bodyOf (nthLoop 4 (Tryd.f74.body.getD .skip))) ((F74b_l4 N).st x) kn ke = (F74b_l4 N).b x α (fun x' => kn ((F74b_l4 N).st x')) (fun y => (F74b_l4 N).sp y α ke) := by kernel_rfl
theorem F74b_pat4 (N : Nat) (s : AS) (x : (F74b_l4 N).X) (hc : s = canon (F74b_an 4).1 s) (h : (F74b_l4 N).p s = some x) : s = (F74b_l4 N).st x := by
  dsimp only [F74b_l4] at h
  split at h
  · cases h
    exact canon_mk hc ‹_› ‹_› rfl rfl rfl ⟨‹_›, ‹_›, ‹_›, ‹_›, trivial⟩ trivial
  · cases h
theorem F74b_loop4 (N : Nat) : ∀ s o, s = canon (F74b_an 4).1 s → (lam N [(4, F74b_l4 N)]).v 4 s = some o → LoopSem Tryd.prog (nthLoop 4 (Tryd.f74.body.getD .skip)) s o :=
  loop_ok (tabOf_ok Tryd.prog) (gam_ok _) mixed F74b_an N [(4, F74b_l4 N)] 4 (bodyOf (nthLoop 4 (Tryd.f74.body.getD .skip))) (nthLoop 4 (Tryd.f74.body.getD .skip)) (by kernel_rfl) (by
    have e : actOf F74b_an (bodyOf (nthLoop 4 (Tryd.f74.body.getD .skip))) (4 + 1) = [] := by kernel_rfl
    rw [e]
    intro p hp
    cases hp) (F74b_l4 N) rfl (fun s x hc h => F74b_pat4 N s x hc h) (fun x => rfl) (fun x α kn ke => (F74b_body4 N x α kn ke).trans (congrArg ((F74b_l4 N).b x α _) (funext fun y => (F74b_l4 N).spe y α ke))) (F74b_par4 N)
theorem F74b_parF (N : Nat) : ParF (F74b_s N).t := by
  intro x α β k k' r r' h h1
  revert h
  dsimp only [F74b_s]
  (repeat' (first | (with_reducible refine par_ite ?_ ?_) | (with_reducible refine par_both ?_ ?_) | split)) <;> intro h <;> first | exact h1 _ h | (cases h; done)
theorem F74b_text (N : Nat) (x : (F74b_s N).X) : acall (tabOf Tryd.prog) (F74b_g N) F74b_an (lam N [(4, F74b_l4 N)]) Tryd.f74 (F74b_s N).S ((F74b_s N).args x) ((F74b_s N).bs x) = (F74b_s N).t x Ret (fun y => some ((F74b_s N).ret y)) := by kernel_rfl
theorem F74b_pat (N : Nat) (a : List AV) (b : List (List AV)) (x : (F74b_s N).X) (h : (F74b_s N).pat a b = some x) : a = (F74b_s N).args x ∧ b = (F74b_s N).bs x := by
  dsimp only [F74b_s] at h
  split at h
  · cases h; exact ⟨rfl, rfl⟩
  · cases h
noncomputable def F74b_e (N : Nat) : Ent Tryd.prog := entOf (tabOf_ok Tryd.prog) (gam_ok _) mixed 74 Tryd.f74 Tryd.func74 rfl F74b_an (lam N [(4, F74b_l4 N)]) (by
    have e : actOf F74b_an (Tryd.f74.body.getD .skip) 0 = [(4, nthLoop 4 (Tryd.f74.body.getD .skip))] := by kernel_rfl
    rw [e]
    intro p hp
    rcases List.mem_cons.1 hp with rfl | hp
    · exact F74b_loop4 N
    cases hp) (F74b_s N) (fun _ => ⟨rfl, rfl⟩) (F74b_text N) (F74b_pat N) (F74b_parF N)
/-! ### slices.ContainsFunc[[]int,int] (function 53) -/
def F53b_an : Nat → Keep × Keep := anL []
noncomputable def F53b_g (N : Nat) : GamK := gam (P := Tryd.prog) [F74b_e N]
noncomputable def F53b_s (N : Nat) : FSpec where
  X := (List (List AV))
  Y := Bool
  ash := [[some 1], [none]]
  bsh := []
  S := ⟨[[none]], [], [], [], []⟩
  bm := false
  pat := fun a b => match a, b with
    | [(AV.list 1 a0 none), (AV.fn (.func 70) [] [])], [] => some a0
    | _, _ => none
  args := fun x => [(AV.list 1 x none), (AV.fn (.func 70) [] [])]
  bs := fun x => []
  ret := fun y => ⟨(AV.v (.bool y)), [], none, [], [], []⟩
  t := fun x α k => (match F74b_d N x with | some y1 => (k (decide (y1 ≥ 0))) | none => none)
noncomputable abbrev F53b_d (N : Nat) (x : (List (List AV))) : Option (Bool) := (F53b_s N).d x
theorem F53b_parF (N : Nat) : ParF (F53b_s N).t := by
  intro x α β k k' r r' h h1
  revert h
  dsimp only [F53b_s]
  (repeat' (first | (with_reducible refine par_ite ?_ ?_) | (with_reducible refine par_both ?_ ?_) | split)) <;> intro h <;> first | exact h1 _ h | (cases h; done)
theorem F53b_text (N : Nat) (x : (F53b_s N).X) : acall (tabOf Tryd.prog) (F53b_g N) F53b_an (lam N []) Tryd.f53 (F53b_s N).S ((F53b_s N).args x) ((F53b_s N).bs x) = (F53b_s N).t x Ret (fun y => some ((F53b_s N).ret y)) := by kernel_rfl
theorem F53b_pat (N : Nat) (a : List AV) (b : List (List AV)) (x : (F53b_s N).X) (h : (F53b_s N).pat a b = some x) : a = (F53b_s N).args x ∧ b = (F53b_s N).bs x := by
  dsimp only [F53b_s] at h
  split at h
  · cases h; exact ⟨rfl, rfl⟩
  · cases h
noncomputable def F53b_e (N : Nat) : Ent Tryd.prog := entOf (tabOf_ok Tryd.prog) (gam_ok _) mixed 53 Tryd.f53 Tryd.func53 rfl F53b_an (lam N []) (by
    have e : actOf F53b_an (Tryd.f53.body.getD .skip) 0 = [] := by kernel_rfl
    rw [e]
    intro p hp
    cases hp) (F53b_s N) (fun _ => ⟨rfl, rfl⟩) (F53b_text N) (F53b_pat N) (F53b_parF N)
/-! ### seismonet/steim.Decode (function 45) -/
def F45_an : Nat → Keep × Keep := anF [(20, ⟨[1, 8, 9, 10], [], [2, 27], [(6, 1)], [], [], [], [27], false⟩, ⟨[1, 8, 9], [], [2, 27], [], [], [], [], [27], false⟩)] [(100015, ([9], []))]
noncomputable def F45_g (N : Nat) : GamK := gam (P := Tryd.prog) [F66_e N, F67_e N, F68_e N, F53b_e N]
noncomputable def F45_l20 (N : Nat) : LSpec where
  X := (List (List AV)) × Int × Nat × Int × ByteArray × (List AV)
  Y := (Int × Nat × ByteArray × (List AV))
  p := fun s => match s.env.length, s.nin, s.at 6, s.at 1, s.at 8, s.at 9, s.at 10, s.bx 2, s.bx 27 with
    | 61, 0, (AV.list 1 a0 none), (AV.v (.int .i64 a1)), (AV.fn (.func 68) [] [(AV.ptr 2 0)]), (AV.vs 27 0 a2 1), (AV.v (.int .i64 a3)), some [(AV.v (.string a4))], some a5 => some (a0, a1, a2, a3, a4, a5)
    | _, _, _, _, _, _, _, _, _ => none
  st := fun x => mkS 61 [(6, (AV.list 1 x.1 none)), (1, (AV.v (.int .i64 x.2.1))), (8, (AV.fn (.func 68) [] [(AV.ptr 2 0)])), (9, (AV.vs 27 0 x.2.2.1 1)), (10, (AV.v (.int .i64 x.2.2.2.1)))] [(2, [(AV.v (.string x.2.2.2.2.1))]), (27, x.2.2.2.2.2)] (F45_an 20).1.toks 0
  out := fun y => (.exit 0, mkS 61 [(1, (AV.v (.int .i64 y.1))), (8, (AV.fn (.func 68) [] [(AV.ptr 2 0)])), (9, (AV.vs 27 0 y.2.1 1))] [(2, [(AV.v (.string y.2.2.1))]), (27, y.2.2.2)] (F45_an 20).2.toks 0)
  sp := fun y α k => k (.exit 0, mkS 61 [(1, (AV.v (.int .i64 y.1))), (8, (AV.fn (.func 68) [] [(AV.ptr 2 0)])), (9, (AV.vs 27 0 y.2.1 1))] [(2, [(AV.v (.string y.2.2.1))]), (27, y.2.2.2)] (F45_an 20).2.toks 0)
  spe := fun y α k => rfl
  b := fun x α kn ke => (match (decide (x.2.2.2.1 < x.2.1)) with | true => (if 0 ≤ (i64 (x.2.2.2.1 - 1)) ∧ (i64 (x.2.2.2.1 - 1)) < (x.2.2.1 : Int) then (match x.2.2.2.2.2[((0 + (i64 (x.2.2.2.1 - 1)).toNat) * 1)]? with | some x11 => (match x11 with | .v (.int q13 n12) => (if q13 = .i64 then (if 0 ≤ x.2.2.2.1 then (match x.1[x.2.2.2.1.toNat]? with | some c14 => (match c14[0]? with | some x15 => (match x15 with | .v (.int q17 n16) => (if q17 = .i64 then (if 0 ≤ x.2.2.2.1 ∧ x.2.2.2.1 < (x.2.2.1 : Int) then (if ((0 + x.2.2.2.1.toNat) * 1) + 1 ≤ x.2.2.2.2.2.length then (kn (x.1, x.2.1, x.2.2.1, (i64 (x.2.2.2.1 + 1)), x.2.2.2.2.1, ((x.2.2.2.2.2.set (((0 + x.2.2.2.1.toNat) * 1)) (AV.v (.int .i64 (i64 (n12 + n16))))).map dat0))) else none) else none) else none) | _ => none) | none => none) | none => none) else none) else none) | _ => none) | none => none) else none) | false => (ke (x.2.1, x.2.2.1, x.2.2.2.2.1, (x.2.2.2.2.2.map dat0))))
noncomputable abbrev F45_d20 (N : Nat) (x : (List (List AV)) × Int × Nat × Int × ByteArray × (List AV)) : Option ((Int × Nat × ByteArray × (List AV))) := (F45_l20 N).L N x
noncomputable def F45_s (N : Nat) : FSpec where
  X := ByteArray × Int
  Y := (List (List AV)) × Int
  ash := [[none], [none]]
  bsh := []
  S := ⟨[[some 2000001], [none]], [], [], [], []⟩
  bm := false
  pat := fun a b => match a, b with
    | [(AV.v (.string a0)), (AV.v (.int .i64 a1))], [] => some (a0, a1)
    | _, _ => none
  args := fun x => [(AV.v (.string x.1)), (AV.v (.int .i64 x.2))]
  bs := fun x => []
  ret := fun y => ⟨(AV.tup [(AV.list 1 y.1 (some 2560000000)), (AV.v (.int .i64 y.2))]), [], none, [], [2560000000], []⟩
  t := fun x α k => (match F66_d N (x.2, 1, 420) with | some y1 => (match (!y1) with | true => (k (([] : List (List AV)), 2)) | false => (match F67_d N x.1 with | some y2 => (match (!y2.2) with | true => (k (([] : List (List AV)), 3)) | false => (match (decide ((y2.1.length : Int) < x.2)) with | true => (k (([] : List (List AV)), 4)) | false => (if 0 ≤ x.2 ∧ x.2 ≤ x.2 ∧ x.2.toNat * 8 ≤ maxBytes then (match F68_d N (1, x.1) with | some y3 => (if 0 ≤ (0 : Int) ∧ (0 : Int) < ((x.2.toNat) : Int) then (if ((0 + (0 : Int).toNat) * 1) + 1 ≤ (List.replicate x.2.toNat (AV.v (.int .i64 0))).length then (match F45_d20 N (y2.1, x.2, (x.2.toNat), 1, y3.2, (((List.replicate x.2.toNat (AV.v (.int .i64 0))).set (((0 + (0 : Int).toNat) * 1)) (AV.v (.int .i64 y3.1))).map dat0)) with | some y18 => (if y18.2.1 * 1 ≤ y18.2.2.2.length then (match F53b_d N (chunks (y18.2.2.2.take (y18.2.1 * 1)) 1 y18.2.1) with | some y19 => (match y19 with | true => (k (([] : List (List AV)), 2)) | false => (if 0 ≤ (i64 (y18.1 - 1)) then (match (chunks (y18.2.2.2.take (y18.2.1 * 1)) 1 y18.2.1)[(i64 (y18.1 - 1)).toNat]? with | some c20 => (match c20[0]? with | some x21 => (match x21 with | .v (.int q23 n22) => (if q23 = .i64 then (match F68_d N (2, y18.2.2.1) with | some y24 => (match (n22 != y24.1) with | true => (k (([] : List (List AV)), 11)) | false => (k ((chunks (y18.2.2.2.take (y18.2.1 * 1)) 1 y18.2.1), 0))) | none => none) else none) | _ => none) | none => none) | none => none) else none)) | none => none) else none) | none => none) else none) else none) | none => none) else none))) | none => none)) | none => none)
noncomputable abbrev F45_d (N : Nat) (x : ByteArray × Int) : Option ((List (List AV)) × Int) := (F45_s N).d x
theorem F45_par20 (N : Nat) : Par (F45_l20 N).b := by
  intro x α β kn ke kn' ke' r r' h h1 h2
  revert h
  dsimp only [F45_l20]
  (repeat' (first | (with_reducible refine par_ite ?_ ?_) | (with_reducible refine par_both ?_ ?_) | split)) <;> intro h <;> first | exact h1 _ h | exact h2 _ h | (cases h; done)
theorem F45_body20 (N : Nat) (x : (F45_l20 N).X) (α : Type) (kn : AS → Option α) (ke : Out → Option α) : around (tabOf Tryd.prog) (F45_g N) F45_an (lam N [(20, F45_l20 N)]) 20 (bodyOf (nthLoop 20 (Tryd.f45.body.getD .skip))) ((F45_l20 N).st x) kn ke = (F45_l20 N).b x α (fun x' => kn ((F45_l20 N).st x')) (fun y => (F45_l20 N).sp y α ke) := by kernel_rfl
theorem F45_pat20 (N : Nat) (s : AS) (x : (F45_l20 N).X) (hc : s = canon (F45_an 20).1 s) (h : (F45_l20 N).p s = some x) : s = (F45_l20 N).st x := by
  dsimp only [F45_l20] at h
  split at h
  · cases h
    exact canon_mk hc ‹_› ‹_› rfl rfl rfl ⟨‹_›, ‹_›, ‹_›, ‹_›, ‹_›, trivial⟩ ⟨‹_›, ‹_›, trivial⟩
  · cases h
theorem F45_loop20 (N : Nat) : ∀ s o, s = canon (F45_an 20).1 s → (lam N [(20, F45_l20 N)]).v 20 s = some o → LoopSem Tryd.prog (nthLoop 20 (Tryd.f45.body.getD .skip)) s o :=
  loop_ok (tabOf_ok Tryd.prog) (gam_ok _) mixed F45_an N [(20, F45_l20 N)] 20 (bodyOf (nthLoop 20 (Tryd.f45.body.getD .skip))) (nthLoop 20 (Tryd.f45.body.getD .skip)) (by kernel_rfl) (by
    have e : actOf F45_an (bodyOf (nthLoop 20 (Tryd.f45.body.getD .skip))) (20 + 1) = [] := by kernel_rfl
    rw [e]
    intro p hp
    cases hp) (F45_l20 N) rfl (fun s x hc h => F45_pat20 N s x hc h) (fun x => rfl) (fun x α kn ke => (F45_body20 N x α kn ke).trans (congrArg ((F45_l20 N).b x α _) (funext fun y => (F45_l20 N).spe y α ke))) (F45_par20 N)
theorem F45_parF (N : Nat) : ParF (F45_s N).t := by
  intro x α β k k' r r' h h1
  revert h
  dsimp only [F45_s]
  (repeat' (first | (with_reducible refine par_ite ?_ ?_) | (with_reducible refine par_both ?_ ?_) | split)) <;> intro h <;> first | exact h1 _ h | (cases h; done)
theorem F45_text (N : Nat) (x : (F45_s N).X) : acall (tabOf Tryd.prog) (F45_g N) F45_an (lam N [(20, F45_l20 N)]) Tryd.f45 (F45_s N).S ((F45_s N).args x) ((F45_s N).bs x) = (F45_s N).t x Ret (fun y => some ((F45_s N).ret y)) := by kernel_rfl
theorem F45_pat (N : Nat) (a : List AV) (b : List (List AV)) (x : (F45_s N).X) (h : (F45_s N).pat a b = some x) : a = (F45_s N).args x ∧ b = (F45_s N).bs x := by
  dsimp only [F45_s] at h
  split at h
  · cases h; exact ⟨rfl, rfl⟩
  · cases h
noncomputable def F45_e (N : Nat) : Ent Tryd.prog := entOf (tabOf_ok Tryd.prog) (gam_ok _) mixed 45 Tryd.f45 Tryd.func45 rfl F45_an (lam N [(20, F45_l20 N)]) (by
    have e : actOf F45_an (Tryd.f45.body.getD .skip) 0 = [(20, nthLoop 20 (Tryd.f45.body.getD .skip))] := by kernel_rfl
    rw [e]
    intro p hp
    rcases List.mem_cons.1 hp with rfl | hp
    · exact F45_loop20 N
    cases hp) (F45_s N) (fun _ => ⟨rfl, rfl⟩) (F45_text N) (F45_pat N) (F45_parF N)
/-! ### seismonet/seismonetref05.Same (function 29) -/
def F29_an : Nat → Keep × Keep := anL [(8, ⟨[5], [], [], [(0, 1), (1, 1)], [], [], [], [], false⟩, ⟨[4], [], [], [], [], [], [], [], false⟩)]
noncomputable def F29_g (N : Nat) : GamK := gam (P := Tryd.prog) []
noncomputable def F29_l8 (N : Nat) : LSpec where
  X := (List (List AV)) × (List (List AV)) × Int
  Y := (Bool) ⊕ (Unit)
  p := fun s => match s.env.length, s.nin, s.at 0, s.at 1, s.at 5 with
    | 26, 0, (AV.list 1 a0 none), (AV.list 1 a1 none), (AV.v (.int .i64 a2)) => some (a0, a1, a2)
    | _, _, _, _, _ => none
  st := fun x => mkS 26 [(0, (AV.list 1 x.1 none)), (1, (AV.list 1 x.2.1 none)), (5, (AV.v (.int .i64 x.2.2)))] [] (F29_an 8).1.toks 0
  out := fun y => match y with
    | .inl y => (.ret, mkS 26 [(4, (AV.v (.bool y)))] [] (F29_an 8).2.toks 0)
    | .inr y => (.exit 0, mkS 26 [] [] (F29_an 8).2.toks 0)
  sp := fun y α k => match y with
    | .inl y => k (.ret, mkS 26 [(4, (AV.v (.bool y)))] [] (F29_an 8).2.toks 0)
    | .inr y => k (.exit 0, mkS 26 [] [] (F29_an 8).2.toks 0)
  spe := fun y α k => by rcases y with _ | _ <;> rfl
  b := fun x α kn ke => (match (decide (x.2.2 < (x.1.length : Int))) with | true => (if 0 ≤ x.2.2 then (match x.1[x.2.2.toNat]? with | some c1 => (match c1[0]? with | some x2 => (match x2 with | .v (.int q4 n3) => (if q4 = .i64 then (if 0 ≤ x.2.2 then (match x.2.1[x.2.2.toNat]? with | some c5 => (match c5[0]? with | some x6 => (match x6 with | .v (.int q8 n7) => (if q8 = .i64 then (match (n3 != n7) with | true => (ke (.inl false)) | false => (kn (x.1, x.2.1, (i64 (x.2.2 + 1))))) else none) | _ => none) | none => none) | none => none) else none) else none) | _ => none) | none => none) | none => none) else none) | false => (ke (.inr ())))
noncomputable abbrev F29_d8 (N : Nat) (x : (List (List AV)) × (List (List AV)) × Int) : Option ((Bool) ⊕ (Unit)) := (F29_l8 N).L N x
noncomputable def F29_s (N : Nat) : FSpec where
  X := (List (List AV)) × (List (List AV))
  Y := Bool
  ash := [[some 1], [some 1]]
  bsh := []
  S := ⟨[[none]], [], [], [], []⟩
  bm := false
  pat := fun a b => match a, b with
    | [(AV.list 1 a0 none), (AV.list 1 a1 none)], [] => some (a0, a1)
    | _, _ => none
  args := fun x => [(AV.list 1 x.1 none), (AV.list 1 x.2 none)]
  bs := fun x => []
  ret := fun y => ⟨(AV.v (.bool y)), [], none, [], [], []⟩
  t := fun x α k => (match ((x.1.length : Int) != (x.2.length : Int)) with | true => (k false) | false => (match F29_d8 N (x.1, x.2, 0) with | some y9 => (match y9 with | .inl z10 => (k z10) | .inr z11 => (k true)) | none => none))
noncomputable abbrev F29_d (N : Nat) (x : (List (List AV)) × (List (List AV))) : Option (Bool) := (F29_s N).d x
theorem F29_par8 (N : Nat) : Par (F29_l8 N).b := by
  intro x α β kn ke kn' ke' r r' h h1 h2
  revert h
  dsimp only [F29_l8]
  (repeat' (first | (with_reducible refine par_ite ?_ ?_) | (with_reducible refine par_both ?_ ?_) | split)) <;> intro h <;> first | exact h1 _ h | exact h2 _ h | (cases h; done)
theorem F29_body8 (N : Nat) (x : (F29_l8 N).X) (α : Type) (kn : AS → Option α) (ke : Out → Option α) : around (tabOf Tryd.prog) (F29_g N) F29_an (lam N [(8, F29_l8 N)]) 8 (bodyOf (nthLoop 8 (Tryd.f29.body.getD .skip))) ((F29_l8 N).st x) kn ke = (F29_l8 N).b x α (fun x' => kn ((F29_l8 N).st x')) (fun y => (F29_l8 N).sp y α ke) := by kernel_rfl
theorem F29_pat8 (N : Nat) (s : AS) (x : (F29_l8 N).X) (hc : s = canon (F29_an 8).1 s) (h : (F29_l8 N).p s = some x) : s = (F29_l8 N).st x := by
  dsimp only [F29_l8] at h
  split at h
  · cases h
    exact canon_mk hc ‹_› ‹_› rfl rfl rfl ⟨‹_›, ‹_›, ‹_›, trivial⟩ trivial
  · cases h
theorem F29_loop8 (N : Nat) : ∀ s o, s = canon (F29_an 8).1 s → (lam N [(8, F29_l8 N)]).v 8 s = some o → LoopSem Tryd.prog (nthLoop 8 (Tryd.f29.body.getD .skip)) s o :=
  loop_ok (tabOf_ok Tryd.prog) (gam_ok _) mixed F29_an N [(8, F29_l8 N)] 8 (bodyOf (nthLoop 8 (Tryd.f29.body.getD .skip))) (nthLoop 8 (Tryd.f29.body.getD .skip)) (by kernel_rfl) (by
    have e : actOf F29_an (bodyOf (nthLoop 8 (Tryd.f29.body.getD .skip))) (8 + 1) = [] := by kernel_rfl
    rw [e]
    intro p hp
    cases hp) (F29_l8 N) rfl (fun s x hc h => F29_pat8 N s x hc h) (fun x => rfl) (fun x α kn ke => (F29_body8 N x α kn ke).trans (congrArg ((F29_l8 N).b x α _) (funext fun y => (F29_l8 N).spe y α ke))) (F29_par8 N)
theorem F29_parF (N : Nat) : ParF (F29_s N).t := by
  intro x α β k k' r r' h h1
  revert h
  dsimp only [F29_s]
  (repeat' (first | (with_reducible refine par_ite ?_ ?_) | (with_reducible refine par_both ?_ ?_) | split)) <;> intro h <;> first | exact h1 _ h | (cases h; done)
theorem F29_text (N : Nat) (x : (F29_s N).X) : acall (tabOf Tryd.prog) (F29_g N) F29_an (lam N [(8, F29_l8 N)]) Tryd.f29 (F29_s N).S ((F29_s N).args x) ((F29_s N).bs x) = (F29_s N).t x Ret (fun y => some ((F29_s N).ret y)) := by kernel_rfl
theorem F29_pat (N : Nat) (a : List AV) (b : List (List AV)) (x : (F29_s N).X) (h : (F29_s N).pat a b = some x) : a = (F29_s N).args x ∧ b = (F29_s N).bs x := by
  dsimp only [F29_s] at h
  split at h
  · cases h; exact ⟨rfl, rfl⟩
  · cases h
noncomputable def F29_e (N : Nat) : Ent Tryd.prog := entOf (tabOf_ok Tryd.prog) (gam_ok _) mixed 29 Tryd.f29 Tryd.func29 rfl F29_an (lam N [(8, F29_l8 N)]) (by
    have e : actOf F29_an (Tryd.f29.body.getD .skip) 0 = [(8, nthLoop 8 (Tryd.f29.body.getD .skip))] := by kernel_rfl
    rw [e]
    intro p hp
    rcases List.mem_cons.1 hp with rfl | hp
    · exact F29_loop8 N
    cases hp) (F29_s N) (fun _ => ⟨rfl, rfl⟩) (F29_text N) (F29_pat N) (F29_parF N)
/-! ### seismonet/seismonetmade.Light (function 6) -/
def F6_an : Nat → Keep × Keep := anL []
noncomputable def F6_g (N : Nat) : GamK := gam (P := Tryd.prog) []
noncomputable def F6_s (N : Nat) : FSpec where
  X := (List (List AV))
  Y := Bool
  ash := [[some 1]]
  bsh := []
  S := ⟨[[none]], [], [], [], []⟩
  bm := false
  pat := fun a b => match a, b with
    | [(AV.list 1 a0 none)], [] => some a0
    | _, _ => none
  args := fun x => [(AV.list 1 x none)]
  bs := fun x => []
  ret := fun y => ⟨(AV.v (.bool y)), [], none, [], [], []⟩
  t := fun x α k => (k (decide ((x.length : Int) ≤ 500)))
noncomputable abbrev F6_d (N : Nat) (x : (List (List AV))) : Option (Bool) := (F6_s N).d x
theorem F6_parF (N : Nat) : ParF (F6_s N).t := by
  intro x α β k k' r r' h h1
  revert h
  dsimp only [F6_s]
  (repeat' (first | (with_reducible refine par_ite ?_ ?_) | (with_reducible refine par_both ?_ ?_) | split)) <;> intro h <;> first | exact h1 _ h | (cases h; done)
theorem F6_text (N : Nat) (x : (F6_s N).X) : acall (tabOf Tryd.prog) (F6_g N) F6_an (lam N []) Tryd.f6 (F6_s N).S ((F6_s N).args x) ((F6_s N).bs x) = (F6_s N).t x Ret (fun y => some ((F6_s N).ret y)) := by kernel_rfl
theorem F6_pat (N : Nat) (a : List AV) (b : List (List AV)) (x : (F6_s N).X) (h : (F6_s N).pat a b = some x) : a = (F6_s N).args x ∧ b = (F6_s N).bs x := by
  dsimp only [F6_s] at h
  split at h
  · cases h; exact ⟨rfl, rfl⟩
  · cases h
noncomputable def F6_e (N : Nat) : Ent Tryd.prog := entOf (tabOf_ok Tryd.prog) (gam_ok _) mixed 6 Tryd.f6 Tryd.func6 rfl F6_an (lam N []) (by
    have e : actOf F6_an (Tryd.f6.body.getD .skip) 0 = [] := by kernel_rfl
    rw [e]
    intro p hp
    cases hp) (F6_s N) (fun _ => ⟨rfl, rfl⟩) (F6_text N) (F6_pat N) (F6_parF N)
/-! ### seismonet/seismonetmade.Roll (function 8) -/
def F8_an : Nat → Keep × Keep := anL []
noncomputable def F8_g (N : Nat) : GamK := gam (P := Tryd.prog) []
noncomputable def F8_s (N : Nat) : FSpec where
  X := (List (List AV))
  Y := (List (List AV)) × Int
  ash := [[some 1]]
  bsh := []
  S := ⟨[[none]], [], [some 1, none], [], []⟩
  bm := false
  pat := fun a b => match a, b with
    | [(AV.list 1 a0 none)], [] => some a0
    | _, _ => none
  args := fun x => [(AV.list 1 x none)]
  bs := fun x => []
  ret := fun y => ⟨(AV.ptr 0 0), [], some [(AV.list 1 y.1 none), (AV.v (.int .i64 y.2))], [], [], []⟩
  t := fun x α k => (k (x, 0))
noncomputable abbrev F8_d (N : Nat) (x : (List (List AV))) : Option ((List (List AV)) × Int) := (F8_s N).d x
theorem F8_parF (N : Nat) : ParF (F8_s N).t := by
  intro x α β k k' r r' h h1
  revert h
  dsimp only [F8_s]
  (repeat' (first | (with_reducible refine par_ite ?_ ?_) | (with_reducible refine par_both ?_ ?_) | split)) <;> intro h <;> first | exact h1 _ h | (cases h; done)
theorem F8_text (N : Nat) (x : (F8_s N).X) : acall (tabOf Tryd.prog) (F8_g N) F8_an (lam N []) Tryd.f8 (F8_s N).S ((F8_s N).args x) ((F8_s N).bs x) = (F8_s N).t x Ret (fun y => some ((F8_s N).ret y)) := by kernel_rfl
theorem F8_pat (N : Nat) (a : List AV) (b : List (List AV)) (x : (F8_s N).X) (h : (F8_s N).pat a b = some x) : a = (F8_s N).args x ∧ b = (F8_s N).bs x := by
  dsimp only [F8_s] at h
  split at h
  · cases h; exact ⟨rfl, rfl⟩
  · cases h
noncomputable def F8_e (N : Nat) : Ent Tryd.prog := entOf (tabOf_ok Tryd.prog) (gam_ok _) mixed 8 Tryd.f8 Tryd.func8 rfl F8_an (lam N []) (by
    have e : actOf F8_an (Tryd.f8.body.getD .skip) 0 = [] := by kernel_rfl
    rw [e]
    intro p hp
    cases hp) (F8_s N) (fun _ => ⟨rfl, rfl⟩) (F8_text N) (F8_pat N) (F8_parF N)
/-! ### seismonet/source.plain (function 71) -/
def F71_an : Nat → Keep × Keep := anL []
noncomputable def F71_g (N : Nat) : GamK := gam (P := Tryd.prog) []
noncomputable def F71_s (N : Nat) : FSpec where
  X := Int
  Y := Bool
  ash := [[none]]
  bsh := []
  S := ⟨[[none]], [], [], [], []⟩
  bm := false
  pat := fun a b => match a, b with
    | [(AV.v (.int .u8 a0))], [] => some a0
    | _, _ => none
  args := fun x => [(AV.v (.int .u8 x))]
  bs := fun x => []
  ret := fun y => ⟨(AV.v (.bool y)), [], none, [], [], []⟩
  t := fun x α k => (match (decide (x ≥ 65)) with | true => (match (decide (x ≤ 90)) with | true => (k true) | false => (match (decide (x ≥ 48)) with | true => (k (decide (x ≤ 57))) | false => (k false))) | false => (match (decide (x ≥ 48)) with | true => (k (decide (x ≤ 57))) | false => (k false)))
noncomputable abbrev F71_d (N : Nat) (x : Int) : Option (Bool) := (F71_s N).d x
theorem F71_parF (N : Nat) : ParF (F71_s N).t := by
  intro x α β k k' r r' h h1
  revert h
  dsimp only [F71_s]
  (repeat' (first | (with_reducible refine par_ite ?_ ?_) | (with_reducible refine par_both ?_ ?_) | split)) <;> intro h <;> first | exact h1 _ h | (cases h; done)
theorem F71_text (N : Nat) (x : (F71_s N).X) : acall (tabOf Tryd.prog) (F71_g N) F71_an (lam N []) Tryd.f71 (F71_s N).S ((F71_s N).args x) ((F71_s N).bs x) = (F71_s N).t x Ret (fun y => some ((F71_s N).ret y)) := by kernel_rfl
theorem F71_pat (N : Nat) (a : List AV) (b : List (List AV)) (x : (F71_s N).X) (h : (F71_s N).pat a b = some x) : a = (F71_s N).args x ∧ b = (F71_s N).bs x := by
  dsimp only [F71_s] at h
  split at h
  · cases h; exact ⟨rfl, rfl⟩
  · cases h
noncomputable def F71_e (N : Nat) : Ent Tryd.prog := entOf (tabOf_ok Tryd.prog) (gam_ok _) mixed 71 Tryd.f71 Tryd.func71 rfl F71_an (lam N []) (by
    have e : actOf F71_an (Tryd.f71.body.getD .skip) 0 = [] := by kernel_rfl
    rw [e]
    intro p hp
    cases hp) (F71_s N) (fun _ => ⟨rfl, rfl⟩) (F71_text N) (F71_pat N) (F71_parF N)
/-! ### seismonet/source.code (function 46) -/
def F46_an : Nat → Keep × Keep := anL [(4, ⟨[0, 1, 2, 9, 10], [], [], [], [], [], [], [], false⟩, ⟨[0, 1, 2, 6], [], [], [], [], [], [], [], false⟩)]
noncomputable def F46_g (N : Nat) : GamK := gam (P := Tryd.prog) [F71_e N]
noncomputable def F46_l4 (N : Nat) : LSpec where
  X := ByteArray × Int × Int × Int × Int
  Y := (ByteArray × Int × Int × Bool) ⊕ (ByteArray × Int × Int)
  p := fun s => match s.env.length, s.nin, s.at 0, s.at 1, s.at 2, s.at 9, s.at 10 with
    | 29, 0, (AV.v (.string a0)), (AV.v (.int .i64 a1)), (AV.v (.int .i64 a2)), (AV.v (.int .i64 a3)), (AV.v (.int .i64 a4)) => some (a0, a1, a2, a3, a4)
    | _, _, _, _, _, _, _ => none
  st := fun x => mkS 29 [(0, (AV.v (.string x.1))), (1, (AV.v (.int .i64 x.2.1))), (2, (AV.v (.int .i64 x.2.2.1))), (9, (AV.v (.int .i64 x.2.2.2.1))), (10, (AV.v (.int .i64 x.2.2.2.2)))] [] (F46_an 4).1.toks 0
  out := fun y => match y with
    | .inl y => (.ret, mkS 29 [(0, (AV.v (.string y.1))), (1, (AV.v (.int .i64 y.2.1))), (2, (AV.v (.int .i64 y.2.2.1))), (6, (AV.v (.bool y.2.2.2)))] [] (F46_an 4).2.toks 0)
    | .inr y => (.exit 0, mkS 29 [(0, (AV.v (.string y.1))), (1, (AV.v (.int .i64 y.2.1))), (2, (AV.v (.int .i64 y.2.2)))] [] (F46_an 4).2.toks 0)
  sp := fun y α k => match y with
    | .inl y => k (.ret, mkS 29 [(0, (AV.v (.string y.1))), (1, (AV.v (.int .i64 y.2.1))), (2, (AV.v (.int .i64 y.2.2.1))), (6, (AV.v (.bool y.2.2.2)))] [] (F46_an 4).2.toks 0)
    | .inr y => k (.exit 0, mkS 29 [(0, (AV.v (.string y.1))), (1, (AV.v (.int .i64 y.2.1))), (2, (AV.v (.int .i64 y.2.2)))] [] (F46_an 4).2.toks 0)
  spe := fun y α k => by rcases y with _ | _ <;> rfl
  b := fun x α kn ke => (match (decide (x.2.2.2.2 < x.2.2.2.1)) with | true => (if 0 ≤ x.2.2.2.2 then (match x.1[x.2.2.2.2.toNat]? with | some c1 => (match F71_d N (c1.toNat : Int) with | some y2 => (match (!y2) with | true => (ke (.inl (x.1, x.2.1, x.2.2.1, false))) | false => (kn (x.1, x.2.1, x.2.2.1, x.2.2.2.1, (i64 (x.2.2.2.2 + 1))))) | none => none) | none => none) else none) | false => (ke (.inr (x.1, x.2.1, x.2.2.1))))
noncomputable abbrev F46_d4 (N : Nat) (x : ByteArray × Int × Int × Int × Int) : Option ((ByteArray × Int × Int × Bool) ⊕ (ByteArray × Int × Int)) := (F46_l4 N).L N x
noncomputable def F46_s (N : Nat) : FSpec where
  X := ByteArray × Int × Int
  Y := Bool
  ash := [[none], [none], [none]]
  bsh := []
  S := ⟨[[none]], [], [], [], []⟩
  bm := false
  pat := fun a b => match a, b with
    | [(AV.v (.string a0)), (AV.v (.int .i64 a1)), (AV.v (.int .i64 a2))], [] => some (a0, a1, a2)
    | _, _ => none
  args := fun x => [(AV.v (.string x.1)), (AV.v (.int .i64 x.2.1)), (AV.v (.int .i64 x.2.2))]
  bs := fun x => []
  ret := fun y => ⟨(AV.v (.bool y)), [], none, [], [], []⟩
  t := fun x α k => (match F46_d4 N (x.1, x.2.1, x.2.2, (x.1.size : Int), 0) with | some y3 => (match y3 with | .inl z4 => (k z4.2.2.2) | .inr z5 => (match (decide ((z5.1.size : Int) ≥ z5.2.1)) with | true => (k (decide ((z5.1.size : Int) ≤ z5.2.2))) | false => (k false))) | none => none)
noncomputable abbrev F46_d (N : Nat) (x : ByteArray × Int × Int) : Option (Bool) := (F46_s N).d x
theorem F46_par4 (N : Nat) : Par (F46_l4 N).b := by
  intro x α β kn ke kn' ke' r r' h h1 h2
  revert h
  dsimp only [F46_l4]
  (repeat' (first | (with_reducible refine par_ite ?_ ?_) | (with_reducible refine par_both ?_ ?_) | split)) <;> intro h <;> first | exact h1 _ h | exact h2 _ h | (cases h; done)
theorem F46_body4 (N : Nat) (x : (F46_l4 N).X) (α : Type) (kn : AS → Option α) (ke : Out → Option α) : around (tabOf Tryd.prog) (F46_g N) F46_an (lam N [(4, F46_l4 N)]) 4 (bodyOf (nthLoop 4 (Tryd.f46.body.getD .skip))) ((F46_l4 N).st x) kn ke = (F46_l4 N).b x α (fun x' => kn ((F46_l4 N).st x')) (fun y => (F46_l4 N).sp y α ke) := by kernel_rfl
theorem F46_pat4 (N : Nat) (s : AS) (x : (F46_l4 N).X) (hc : s = canon (F46_an 4).1 s) (h : (F46_l4 N).p s = some x) : s = (F46_l4 N).st x := by
  dsimp only [F46_l4] at h
  split at h
  · cases h
    exact canon_mk hc ‹_› ‹_› rfl rfl rfl ⟨‹_›, ‹_›, ‹_›, ‹_›, ‹_›, trivial⟩ trivial
  · cases h
theorem F46_loop4 (N : Nat) : ∀ s o, s = canon (F46_an 4).1 s → (lam N [(4, F46_l4 N)]).v 4 s = some o → LoopSem Tryd.prog (nthLoop 4 (Tryd.f46.body.getD .skip)) s o :=
  loop_ok (tabOf_ok Tryd.prog) (gam_ok _) mixed F46_an N [(4, F46_l4 N)] 4 (bodyOf (nthLoop 4 (Tryd.f46.body.getD .skip))) (nthLoop 4 (Tryd.f46.body.getD .skip)) (by kernel_rfl) (by
    have e : actOf F46_an (bodyOf (nthLoop 4 (Tryd.f46.body.getD .skip))) (4 + 1) = [] := by kernel_rfl
    rw [e]
    intro p hp
    cases hp) (F46_l4 N) rfl (fun s x hc h => F46_pat4 N s x hc h) (fun x => rfl) (fun x α kn ke => (F46_body4 N x α kn ke).trans (congrArg ((F46_l4 N).b x α _) (funext fun y => (F46_l4 N).spe y α ke))) (F46_par4 N)
theorem F46_parF (N : Nat) : ParF (F46_s N).t := by
  intro x α β k k' r r' h h1
  revert h
  dsimp only [F46_s]
  (repeat' (first | (with_reducible refine par_ite ?_ ?_) | (with_reducible refine par_both ?_ ?_) | split)) <;> intro h <;> first | exact h1 _ h | (cases h; done)
theorem F46_text (N : Nat) (x : (F46_s N).X) : acall (tabOf Tryd.prog) (F46_g N) F46_an (lam N [(4, F46_l4 N)]) Tryd.f46 (F46_s N).S ((F46_s N).args x) ((F46_s N).bs x) = (F46_s N).t x Ret (fun y => some ((F46_s N).ret y)) := by kernel_rfl
theorem F46_pat (N : Nat) (a : List AV) (b : List (List AV)) (x : (F46_s N).X) (h : (F46_s N).pat a b = some x) : a = (F46_s N).args x ∧ b = (F46_s N).bs x := by
  dsimp only [F46_s] at h
  split at h
  · cases h; exact ⟨rfl, rfl⟩
  · cases h
noncomputable def F46_e (N : Nat) : Ent Tryd.prog := entOf (tabOf_ok Tryd.prog) (gam_ok _) mixed 46 Tryd.f46 Tryd.func46 rfl F46_an (lam N [(4, F46_l4 N)]) (by
    have e : actOf F46_an (Tryd.f46.body.getD .skip) 0 = [(4, nthLoop 4 (Tryd.f46.body.getD .skip))] := by kernel_rfl
    rw [e]
    intro p hp
    rcases List.mem_cons.1 hp with rfl | hp
    · exact F46_loop4 N
    cases hp) (F46_s N) (fun _ => ⟨rfl, rfl⟩) (F46_text N) (F46_pat N) (F46_parF N)
/-! ### seismonet/source.Valid (function 31) -/
def F31_an : Nat → Keep × Keep := anL []
noncomputable def F31_g (N : Nat) : GamK := gam (P := Tryd.prog) [F46_e N]
noncomputable def F31_s (N : Nat) : FSpec where
  X := ByteArray × ByteArray × ByteArray × ByteArray
  Y := Bool
  ash := [[none, none, none, none]]
  bsh := []
  S := ⟨[[none]], [], [], [], []⟩
  bm := false
  pat := fun a b => match a, b with
    | [(AV.agg [(AV.v (.string a0)), (AV.v (.string a1)), (AV.v (.string a2)), (AV.v (.string a3))])], [] => some (a0, a1, a2, a3)
    | _, _ => none
  args := fun x => [(AV.agg [(AV.v (.string x.1)), (AV.v (.string x.2.1)), (AV.v (.string x.2.2.1)), (AV.v (.string x.2.2.2))])]
  bs := fun x => []
  ret := fun y => ⟨(AV.v (.bool y)), [], none, [], [], []⟩
  t := fun x α k => (match F46_d N (x.1, 1, 2) with | some y1 => (match y1 with | true => (match F46_d N (x.2.1, 1, 5) with | some y2 => (match y2 with | true => (match F46_d N (x.2.2.1, 0, 2) with | some y3 => (match y3 with | true => (match ((x.2.2.1.size : Int) != 1) with | true => (match F46_d N (x.2.2.2, 3, 3) with | some y4 => (k y4) | none => none) | false => (k false)) | false => (k false)) | none => none) | false => (k false)) | none => none) | false => (k false)) | none => none)
noncomputable abbrev F31_d (N : Nat) (x : ByteArray × ByteArray × ByteArray × ByteArray) : Option (Bool) := (F31_s N).d x
theorem F31_parF (N : Nat) : ParF (F31_s N).t := by
  intro x α β k k' r r' h h1
  revert h
  dsimp only [F31_s]
  (repeat' (first | (with_reducible refine par_ite ?_ ?_) | (with_reducible refine par_both ?_ ?_) | split)) <;> intro h <;> first | exact h1 _ h | (cases h; done)
theorem F31_text (N : Nat) (x : (F31_s N).X) : acall (tabOf Tryd.prog) (F31_g N) F31_an (lam N []) Tryd.f31 (F31_s N).S ((F31_s N).args x) ((F31_s N).bs x) = (F31_s N).t x Ret (fun y => some ((F31_s N).ret y)) := by kernel_rfl
theorem F31_pat (N : Nat) (a : List AV) (b : List (List AV)) (x : (F31_s N).X) (h : (F31_s N).pat a b = some x) : a = (F31_s N).args x ∧ b = (F31_s N).bs x := by
  dsimp only [F31_s] at h
  split at h
  · cases h; exact ⟨rfl, rfl⟩
  · cases h
noncomputable def F31_e (N : Nat) : Ent Tryd.prog := entOf (tabOf_ok Tryd.prog) (gam_ok _) mixed 31 Tryd.f31 Tryd.func31 rfl F31_an (lam N []) (by
    have e : actOf F31_an (Tryd.f31.body.getD .skip) 0 = [] := by kernel_rfl
    rw [e]
    intro p hp
    cases hp) (F31_s N) (fun _ => ⟨rfl, rfl⟩) (F31_text N) (F31_pat N) (F31_parF N)
/-! ### seismonet/source.parts (function 34) -/
def F34_an : Nat → Keep × Keep := anL []
noncomputable def F34_g (N : Nat) : GamK := gam (P := Tryd.prog) []
noncomputable def F34_s (N : Nat) : FSpec where
  X := ByteArray × ByteArray × ByteArray × ByteArray
  Y := ByteArray × ByteArray × ByteArray × ByteArray
  ash := [[none, none, none, none]]
  bsh := []
  S := ⟨[[none, none, none, none]], [], [], [], []⟩
  bm := false
  pat := fun a b => match a, b with
    | [(AV.agg [(AV.v (.string a0)), (AV.v (.string a1)), (AV.v (.string a2)), (AV.v (.string a3))])], [] => some (a0, a1, a2, a3)
    | _, _ => none
  args := fun x => [(AV.agg [(AV.v (.string x.1)), (AV.v (.string x.2.1)), (AV.v (.string x.2.2.1)), (AV.v (.string x.2.2.2))])]
  bs := fun x => []
  ret := fun y => ⟨(AV.agg [(AV.v (.string y.1)), (AV.v (.string y.2.1)), (AV.v (.string y.2.2.1)), (AV.v (.string y.2.2.2))]), [], none, [], [], []⟩
  t := fun x α k => (k (x.1, x.2.1, x.2.2.1, x.2.2.2))
noncomputable abbrev F34_d (N : Nat) (x : ByteArray × ByteArray × ByteArray × ByteArray) : Option (ByteArray × ByteArray × ByteArray × ByteArray) := (F34_s N).d x
theorem F34_parF (N : Nat) : ParF (F34_s N).t := by
  intro x α β k k' r r' h h1
  revert h
  dsimp only [F34_s]
  (repeat' (first | (with_reducible refine par_ite ?_ ?_) | (with_reducible refine par_both ?_ ?_) | split)) <;> intro h <;> first | exact h1 _ h | (cases h; done)
theorem F34_text (N : Nat) (x : (F34_s N).X) : acall (tabOf Tryd.prog) (F34_g N) F34_an (lam N []) Tryd.f34 (F34_s N).S ((F34_s N).args x) ((F34_s N).bs x) = (F34_s N).t x Ret (fun y => some ((F34_s N).ret y)) := by kernel_rfl
theorem F34_pat (N : Nat) (a : List AV) (b : List (List AV)) (x : (F34_s N).X) (h : (F34_s N).pat a b = some x) : a = (F34_s N).args x ∧ b = (F34_s N).bs x := by
  dsimp only [F34_s] at h
  split at h
  · cases h; exact ⟨rfl, rfl⟩
  · cases h
noncomputable def F34_e (N : Nat) : Ent Tryd.prog := entOf (tabOf_ok Tryd.prog) (gam_ok _) mixed 34 Tryd.f34 Tryd.func34 rfl F34_an (lam N []) (by
    have e : actOf F34_an (Tryd.f34.body.getD .skip) 0 = [] := by kernel_rfl
    rw [e]
    intro p hp
    cases hp) (F34_s N) (fun _ => ⟨rfl, rfl⟩) (F34_text N) (F34_pat N) (F34_parF N)
end Go.Proofs.YtdmedeaknnldcaaDoor
