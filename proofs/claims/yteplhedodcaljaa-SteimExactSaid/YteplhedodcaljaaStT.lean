/- Functions without memory. (written by sx.py) -/
import Derived.Test.YteplhedodcaljaaSymY
namespace Go.Proofs.Yteplhedodcaljaa
open Go.RowKit
set_option linter.unusedVariables false
set_option linter.unusedSimpArgs false
set_option linter.unnecessarySimpa false
set_option maxRecDepth 4000
/-! ### seismonet/steim.in (function 34) -/
def F34_an : Nat → Keep × Keep := anL []
noncomputable def F34_g (N : Nat) : GamK := gam (P := Try.prog) []
noncomputable def F34_s (N : Nat) : FSpec where
  X := Int × Int × Int
  Y := Bool
  ash := [[none], [none], [none]]
  bsh := []
  S := ⟨[[none]], [], [], [], []⟩
  bm := false
  pat := fun a b => match a, b with
    | [(AV.v (.int .i64 a0)), (AV.v (.int .i64 a1)), (AV.v (.int .i64 a2))], [] => some (a0, a1, a2)
    | _, _ => none
  args := fun x => [(AV.v (.int .i64 x.1)), (AV.v (.int .i64 x.2.1)), (AV.v (.int .i64 x.2.2))]
  bs := fun x => []
  ret := fun y => ⟨(AV.v (.bool y)), [], none, [], [], []⟩
  t := fun x α k => (match (decide (x.1 ≥ x.2.1)) with | true => (k (decide (x.1 ≤ x.2.2))) | false => (k false))
noncomputable abbrev F34_d (N : Nat) (x : Int × Int × Int) : Option (Bool) := (F34_s N).d x
theorem F34_parF (N : Nat) : ParF (F34_s N).t := by
  intro x α β k k' r r' h h1
  revert h
  dsimp only [F34_s]
  (repeat' (first | (with_reducible refine par_ite ?_ ?_) | (with_reducible refine par_both ?_ ?_) | split)) <;> intro h <;> first | exact h1 _ h | (cases h; done)
theorem F34_text (N : Nat) (x : (F34_s N).X) : acall (tabOf Try.prog) (F34_g N) F34_an (lam N []) Try.f34 (F34_s N).S ((F34_s N).args x) ((F34_s N).bs x) = (F34_s N).t x Ret (fun y => some ((F34_s N).ret y)) := by kernel_rfl
theorem F34_pat (N : Nat) (a : List AV) (b : List (List AV)) (x : (F34_s N).X) (h : (F34_s N).pat a b = some x) : a = (F34_s N).args x ∧ b = (F34_s N).bs x := by
  dsimp only [F34_s] at h
  split at h
  · cases h; exact ⟨rfl, rfl⟩
  · cases h
noncomputable def F34_e (N : Nat) : Ent Try.prog := entOf (tabOf_ok Try.prog) (gam_ok _) mixed 34 Try.f34 Try.func34 rfl F34_an (lam N []) (by
    have e : actOf F34_an (Try.f34.body.getD .skip) 0 = [] := by kernel_rfl
    rw [e]
    intro p hp
    cases hp) (F34_s N) (fun _ => ⟨rfl, rfl⟩) (F34_text N) (F34_pat N) (F34_parF N)
/-! ### seismonet/steim.sample (function 41) -/
def F41_an : Nat → Keep × Keep := anL []
noncomputable def F41_g (N : Nat) : GamK := gam (P := Try.prog) [F34_e N]
noncomputable def F41_s (N : Nat) : FSpec where
  X := Int
  Y := Bool
  ash := [[none]]
  bsh := []
  S := ⟨[[none]], [], [], [], []⟩
  bm := false
  pat := fun a b => match a, b with
    | [(AV.v (.int .i64 a0))], [] => some a0
    | _, _ => none
  args := fun x => [(AV.v (.int .i64 x))]
  bs := fun x => []
  ret := fun y => ⟨(AV.v (.bool y)), [], none, [], [], []⟩
  t := fun x α k => (match F34_d N (x, (-1073741823), 1073741823) with | some y1 => (k y1) | none => none)
noncomputable abbrev F41_d (N : Nat) (x : Int) : Option (Bool) := (F41_s N).d x
theorem F41_parF (N : Nat) : ParF (F41_s N).t := by
  intro x α β k k' r r' h h1
  revert h
  dsimp only [F41_s]
  (repeat' (first | (with_reducible refine par_ite ?_ ?_) | (with_reducible refine par_both ?_ ?_) | split)) <;> intro h <;> first | exact h1 _ h | (cases h; done)
theorem F41_text (N : Nat) (x : (F41_s N).X) : acall (tabOf Try.prog) (F41_g N) F41_an (lam N []) Try.f41 (F41_s N).S ((F41_s N).args x) ((F41_s N).bs x) = (F41_s N).t x Ret (fun y => some ((F41_s N).ret y)) := by kernel_rfl
theorem F41_pat (N : Nat) (a : List AV) (b : List (List AV)) (x : (F41_s N).X) (h : (F41_s N).pat a b = some x) : a = (F41_s N).args x ∧ b = (F41_s N).bs x := by
  dsimp only [F41_s] at h
  split at h
  · cases h; exact ⟨rfl, rfl⟩
  · cases h
noncomputable def F41_e (N : Nat) : Ent Try.prog := entOf (tabOf_ok Try.prog) (gam_ok _) mixed 41 Try.f41 Try.func41 rfl F41_an (lam N []) (by
    have e : actOf F41_an (Try.f41.body.getD .skip) 0 = [] := by kernel_rfl
    rw [e]
    intro p hp
    cases hp) (F41_s N) (fun _ => ⟨rfl, rfl⟩) (F41_text N) (F41_pat N) (F41_parF N)
/-! ### seismonet/steim.compress$1 (function 53) -/
def F53_an : Nat → Keep × Keep := anL []
noncomputable def F53_g (N : Nat) : GamK := gam (P := Try.prog) [F41_e N]
noncomputable def F53_s (N : Nat) : FSpec where
  X := Int
  Y := Bool
  ash := [[none]]
  bsh := []
  S := ⟨[[none]], [], [], [], []⟩
  bm := false
  pat := fun a b => match a, b with
    | [(AV.v (.int .i64 a0))], [] => some a0
    | _, _ => none
  args := fun x => [(AV.v (.int .i64 x))]
  bs := fun x => []
  ret := fun y => ⟨(AV.v (.bool y)), [], none, [], [], []⟩
  t := fun x α k => (match F41_d N x with | some y1 => (k (!y1)) | none => none)
noncomputable abbrev F53_d (N : Nat) (x : Int) : Option (Bool) := (F53_s N).d x
theorem F53_parF (N : Nat) : ParF (F53_s N).t := by
  intro x α β k k' r r' h h1
  revert h
  dsimp only [F53_s]
  (repeat' (first | (with_reducible refine par_ite ?_ ?_) | (with_reducible refine par_both ?_ ?_) | split)) <;> intro h <;> first | exact h1 _ h | (cases h; done)
theorem F53_text (N : Nat) (x : (F53_s N).X) : acall (tabOf Try.prog) (F53_g N) F53_an (lam N []) Try.f53 (F53_s N).S ((F53_s N).args x) ((F53_s N).bs x) = (F53_s N).t x Ret (fun y => some ((F53_s N).ret y)) := by kernel_rfl
theorem F53_pat (N : Nat) (a : List AV) (b : List (List AV)) (x : (F53_s N).X) (h : (F53_s N).pat a b = some x) : a = (F53_s N).args x ∧ b = (F53_s N).bs x := by
  dsimp only [F53_s] at h
  split at h
  · cases h; exact ⟨rfl, rfl⟩
  · cases h
noncomputable def F53_e (N : Nat) : Ent Try.prog := entOf (tabOf_ok Try.prog) (gam_ok _) mixed 53 Try.f53 Try.func53 rfl F53_an (lam N []) (by
    have e : actOf F53_an (Try.f53.body.getD .skip) 0 = [] := by kernel_rfl
    rw [e]
    intro p hp
    cases hp) (F53_s N) (fun _ => ⟨rfl, rfl⟩) (F53_text N) (F53_pat N) (F53_parF N)
/-! ### slices.IndexFunc[[]int,int] (function 62) -/
def F62_an : Nat → Keep × Keep := anL [(4, ⟨[1, 7, 8], [], [], [(0, 1)], [], [], [], [], false⟩, ⟨[4], [], [], [], [], [], [], [], false⟩)]
noncomputable def F62_g (N : Nat) : GamK := gam (P := Try.prog) [F53_e N]
noncomputable def F62_l4 (N : Nat) : LSpec where
  X := (List (List AV)) × Int × Int
  Y := (Int) ⊕ (Unit)
  p := fun s => match s.env.length, s.nin, s.at 0, s.at 1, s.at 7, s.at 8 with
    | 19, 0, (AV.list 1 a0 none), (AV.fn (.func 53) [] []), (AV.v (.int .i64 a1)), (AV.v (.int .i64 a2)) => some (a0, a1, a2)
    | _, _, _, _, _, _ => none
  st := fun x => mkS 19 [(0, (AV.list 1 x.1 none)), (1, (AV.fn (.func 53) [] [])), (7, (AV.v (.int .i64 x.2.1))), (8, (AV.v (.int .i64 x.2.2)))] [] (F62_an 4).1.toks 0
  out := fun y => match y with
    | .inl y => (.ret, mkS 19 [(4, (AV.v (.int .i64 y)))] [] (F62_an 4).2.toks 0)
    | .inr y => (.exit 0, mkS 19 [] [] (F62_an 4).2.toks 0)
  sp := fun y α k => match y with
    | .inl y => k (.ret, mkS 19 [(4, (AV.v (.int .i64 y)))] [] (F62_an 4).2.toks 0)
    | .inr y => k (.exit 0, mkS 19 [] [] (F62_an 4).2.toks 0)
  spe := fun y α k => by rcases y with _ | _ <;> rfl
  b := fun x α kn ke => (match (decide (x.2.2 < x.2.1)) with | true => (if 0 ≤ x.2.2 then (match x.1[x.2.2.toNat]? with | some c1 => (match c1[0]? with | some x2 => (match x2 with | .v (.int q4 n3) => (if q4 = .i64 then (match F53_d N n3 with | some y5 => (match y5 with | true => (ke (.inl x.2.2)) | false => (kn (x.1, x.2.1, (i64 (x.2.2 + 1))))) | none => none) else none) | _ => none) | none => none) | none => none) else none) | false => (ke (.inr ())))
noncomputable abbrev F62_d4 (N : Nat) (x : (List (List AV)) × Int × Int) : Option ((Int) ⊕ (Unit)) := (F62_l4 N).L N x
noncomputable def F62_s (N : Nat) : FSpec where
  X := (List (List AV))
  Y := Int
  ash := [[some 1], [none]]
  bsh := []
  S := ⟨[[none]], [], [], [], []⟩
  bm := false
  pat := fun a b => match a, b with
    | [(AV.list 1 a0 none), (AV.fn (.func 53) [] [])], [] => some a0
    | _, _ => none
  args := fun x => [(AV.list 1 x none), (AV.fn (.func 53) [] [])]
  bs := fun x => []
  ret := fun y => ⟨(AV.v (.int .i64 y)), [], none, [], [], []⟩
  t := fun x α k => (match F62_d4 N (x, (x.length : Int), 0) with | some y6 => (match y6 with | .inl z7 => (k z7) | .inr z8 => (k (-1))) | none => none)
noncomputable abbrev F62_d (N : Nat) (x : (List (List AV))) : Option (Int) := (F62_s N).d x
theorem F62_par4 (N : Nat) : Par (F62_l4 N).b := by
  intro x α β kn ke kn' ke' r r' h h1 h2
  revert h
  dsimp only [F62_l4]
  (repeat' (first | (with_reducible refine par_ite ?_ ?_) | (with_reducible refine par_both ?_ ?_) | split)) <;> intro h <;> first | exact h1 _ h | exact h2 _ h | (cases h; done)
theorem F62_body4 (N : Nat) (x : (F62_l4 N).X) (α : Type) (kn : AS → Option α) (ke : Out → Option α) : around (tabOf Try.prog) (F62_g N) F62_an (lam N [(4, F62_l4 N)]) 4 (bodyOf (nthLoop 4 (Try.f62.body.getD .skip))) ((F62_l4 N).st x) kn ke = (F62_l4 N).b x α (fun x' => kn ((F62_l4 N).st x')) (fun y => (F62_l4 N).sp y α ke) := by kernel_rfl
theorem F62_pat4 (N : Nat) (s : AS) (x : (F62_l4 N).X) (hc : s = canon (F62_an 4).1 s) (h : (F62_l4 N).p s = some x) : s = (F62_l4 N).st x := by
  dsimp only [F62_l4] at h
  split at h
  · cases h
    exact canon_mk hc ‹_› ‹_› rfl rfl rfl ⟨‹_›, ‹_›, ‹_›, ‹_›, trivial⟩ trivial
  · cases h
theorem F62_loop4 (N : Nat) : ∀ s o, s = canon (F62_an 4).1 s → (lam N [(4, F62_l4 N)]).v 4 s = some o → LoopSem Try.prog (nthLoop 4 (Try.f62.body.getD .skip)) s o :=
  loop_ok (tabOf_ok Try.prog) (gam_ok _) mixed F62_an N [(4, F62_l4 N)] 4 (bodyOf (nthLoop 4 (Try.f62.body.getD .skip))) (nthLoop 4 (Try.f62.body.getD .skip)) (by kernel_rfl) (by
    have e : actOf F62_an (bodyOf (nthLoop 4 (Try.f62.body.getD .skip))) (4 + 1) = [] := by kernel_rfl
    rw [e]
    intro p hp
    cases hp) (F62_l4 N) rfl (fun s x hc h => F62_pat4 N s x hc h) (fun x => rfl) (fun x α kn ke => (F62_body4 N x α kn ke).trans (congrArg ((F62_l4 N).b x α _) (funext fun y => (F62_l4 N).spe y α ke))) (F62_par4 N)
theorem F62_parF (N : Nat) : ParF (F62_s N).t := by
  intro x α β k k' r r' h h1
  revert h
  dsimp only [F62_s]
  (repeat' (first | (with_reducible refine par_ite ?_ ?_) | (with_reducible refine par_both ?_ ?_) | split)) <;> intro h <;> first | exact h1 _ h | (cases h; done)
theorem F62_text (N : Nat) (x : (F62_s N).X) : acall (tabOf Try.prog) (F62_g N) F62_an (lam N [(4, F62_l4 N)]) Try.f62 (F62_s N).S ((F62_s N).args x) ((F62_s N).bs x) = (F62_s N).t x Ret (fun y => some ((F62_s N).ret y)) := by kernel_rfl
theorem F62_pat (N : Nat) (a : List AV) (b : List (List AV)) (x : (F62_s N).X) (h : (F62_s N).pat a b = some x) : a = (F62_s N).args x ∧ b = (F62_s N).bs x := by
  dsimp only [F62_s] at h
  split at h
  · cases h; exact ⟨rfl, rfl⟩
  · cases h
noncomputable def F62_e (N : Nat) : Ent Try.prog := entOf (tabOf_ok Try.prog) (gam_ok _) mixed 62 Try.f62 Try.func62 rfl F62_an (lam N [(4, F62_l4 N)]) (by
    have e : actOf F62_an (Try.f62.body.getD .skip) 0 = [(4, nthLoop 4 (Try.f62.body.getD .skip))] := by kernel_rfl
    rw [e]
    intro p hp
    rcases List.mem_cons.1 hp with rfl | hp
    · exact F62_loop4 N
    cases hp) (F62_s N) (fun _ => ⟨rfl, rfl⟩) (F62_text N) (F62_pat N) (F62_parF N)
/-! ### slices.ContainsFunc[[]int,int] (function 39) -/
def F39_an : Nat → Keep × Keep := anL []
noncomputable def F39_g (N : Nat) : GamK := gam (P := Try.prog) [F62_e N]
noncomputable def F39_s (N : Nat) : FSpec where
  X := (List (List AV))
  Y := Bool
  ash := [[some 1], [none]]
  bsh := []
  S := ⟨[[none]], [], [], [], []⟩
  bm := false
  pat := fun a b => match a, b with
    | [(AV.list 1 a0 none), (AV.fn (.func 53) [] [])], [] => some a0
    | _, _ => none
  args := fun x => [(AV.list 1 x none), (AV.fn (.func 53) [] [])]
  bs := fun x => []
  ret := fun y => ⟨(AV.v (.bool y)), [], none, [], [], []⟩
  t := fun x α k => (match F62_d N x with | some y1 => (k (decide (y1 ≥ 0))) | none => none)
noncomputable abbrev F39_d (N : Nat) (x : (List (List AV))) : Option (Bool) := (F39_s N).d x
theorem F39_parF (N : Nat) : ParF (F39_s N).t := by
  intro x α β k k' r r' h h1
  revert h
  dsimp only [F39_s]
  (repeat' (first | (with_reducible refine par_ite ?_ ?_) | (with_reducible refine par_both ?_ ?_) | split)) <;> intro h <;> first | exact h1 _ h | (cases h; done)
theorem F39_text (N : Nat) (x : (F39_s N).X) : acall (tabOf Try.prog) (F39_g N) F39_an (lam N []) Try.f39 (F39_s N).S ((F39_s N).args x) ((F39_s N).bs x) = (F39_s N).t x Ret (fun y => some ((F39_s N).ret y)) := by kernel_rfl
theorem F39_pat (N : Nat) (a : List AV) (b : List (List AV)) (x : (F39_s N).X) (h : (F39_s N).pat a b = some x) : a = (F39_s N).args x ∧ b = (F39_s N).bs x := by
  dsimp only [F39_s] at h
  split at h
  · cases h; exact ⟨rfl, rfl⟩
  · cases h
noncomputable def F39_e (N : Nat) : Ent Try.prog := entOf (tabOf_ok Try.prog) (gam_ok _) mixed 39 Try.f39 Try.func39 rfl F39_an (lam N []) (by
    have e : actOf F39_an (Try.f39.body.getD .skip) 0 = [] := by kernel_rfl
    rw [e]
    intro p hp
    cases hp) (F39_s N) (fun _ => ⟨rfl, rfl⟩) (F39_text N) (F39_pat N) (F39_parF N)
/-! ### seismonet/steim.differences (function 54) -/
def F54_an : Nat → Keep × Keep := anF [(5, ⟨[3, 4], [], [7], [(0, 1)], [], [], [], [7], false⟩, ⟨[3], [], [7], [], [], [], [], [7], false⟩)] [(100006, ([3], []))]
noncomputable def F54_g (N : Nat) : GamK := gam (P := Try.prog) []
noncomputable def F54_l5 (N : Nat) : LSpec where
  X := (List (List AV)) × Nat × Int × (List AV)
  Y := (Nat × (List AV))
  p := fun s => match s.env.length, s.nin, s.at 0, s.at 3, s.at 4, s.bx 7 with
    | 28, 0, (AV.list 1 a0 none), (AV.vs 7 0 a1 1), (AV.v (.int .i64 a2)), some a3 => some (a0, a1, a2, a3)
    | _, _, _, _, _, _ => none
  st := fun x => mkS 28 [(0, (AV.list 1 x.1 none)), (3, (AV.vs 7 0 x.2.1 1)), (4, (AV.v (.int .i64 x.2.2.1)))] [(7, x.2.2.2)] (F54_an 5).1.toks 0
  out := fun y => (.exit 0, mkS 28 [(3, (AV.vs 7 0 y.1 1))] [(7, y.2)] (F54_an 5).2.toks 0)
  sp := fun y α k => k (.exit 0, mkS 28 [(3, (AV.vs 7 0 y.1 1))] [(7, y.2)] (F54_an 5).2.toks 0)
  spe := fun y α k => rfl
  b := fun x α kn ke => (match (decide (x.2.2.1 < (x.1.length : Int))) with | true => (if 0 ≤ x.2.2.1 then (match x.1[x.2.2.1.toNat]? with | some c9 => (match c9[0]? with | some x10 => (match x10 with | .v (.int q12 n11) => (if q12 = .i64 then (if 0 ≤ (i64 (x.2.2.1 - 1)) then (match x.1[(i64 (x.2.2.1 - 1)).toNat]? with | some c13 => (match c13[0]? with | some x14 => (match x14 with | .v (.int q16 n15) => (if q16 = .i64 then (if 0 ≤ x.2.2.1 ∧ x.2.2.1 < (x.2.1 : Int) then (if ((0 + x.2.2.1.toNat) * 1) + 1 ≤ x.2.2.2.length then (kn (x.1, x.2.1, (i64 (x.2.2.1 + 1)), ((x.2.2.2.set (((0 + x.2.2.1.toNat) * 1)) (AV.v (.int .i64 (i64 (n11 - n15))))).map dat0))) else none) else none) else none) | _ => none) | none => none) | none => none) else none) else none) | _ => none) | none => none) | none => none) else none) | false => (ke (x.2.1, (x.2.2.2.map dat0))))
noncomputable abbrev F54_d5 (N : Nat) (x : (List (List AV)) × Nat × Int × (List AV)) : Option ((Nat × (List AV))) := (F54_l5 N).L N x
noncomputable def F54_s (N : Nat) : FSpec where
  X := (List (List AV))
  Y := (List (List AV))
  ash := [[some 1]]
  bsh := []
  S := ⟨[[some 2000001]], [], [], [], []⟩
  bm := false
  pat := fun a b => match a, b with
    | [(AV.list 1 a0 none)], [] => some a0
    | _, _ => none
  args := fun x => [(AV.list 1 x none)]
  bs := fun x => []
  ret := fun y => ⟨(AV.list 1 y (some 2560000000)), [], none, [], [2560000000], []⟩
  t := fun x α k => (if 0 ≤ (x.length : Int) ∧ (x.length : Int) ≤ (x.length : Int) ∧ (x.length : Int).toNat * 8 ≤ maxBytes then (match F54_d5 N (x, ((x.length : Int).toNat), 1, ((List.replicate (x.length : Int).toNat (AV.v (.int .i64 0))).map dat0)) with | some y17 => (if y17.1 * 1 ≤ y17.2.length then (k (chunks (y17.2.take (y17.1 * 1)) 1 y17.1)) else none) | none => none) else none)
noncomputable abbrev F54_d (N : Nat) (x : (List (List AV))) : Option ((List (List AV))) := (F54_s N).d x
theorem F54_par5 (N : Nat) : Par (F54_l5 N).b := by
  intro x α β kn ke kn' ke' r r' h h1 h2
  revert h
  dsimp only [F54_l5]
  (repeat' (first | (with_reducible refine par_ite ?_ ?_) | (with_reducible refine par_both ?_ ?_) | split)) <;> intro h <;> first | exact h1 _ h | exact h2 _ h | (cases h; done)
theorem F54_body5 (N : Nat) (x : (F54_l5 N).X) (α : Type) (kn : AS → Option α) (ke : Out → Option α) : around (tabOf Try.prog) (F54_g N) F54_an (lam N [(5, F54_l5 N)]) 5 (bodyOf (nthLoop 5 (Try.f54.body.getD .skip))) ((F54_l5 N).st x) kn ke = (F54_l5 N).b x α (fun x' => kn ((F54_l5 N).st x')) (fun y => (F54_l5 N).sp y α ke) := by kernel_rfl
theorem F54_pat5 (N : Nat) (s : AS) (x : (F54_l5 N).X) (hc : s = canon (F54_an 5).1 s) (h : (F54_l5 N).p s = some x) : s = (F54_l5 N).st x := by
  dsimp only [F54_l5] at h
  split at h
  · cases h
    exact canon_mk hc ‹_› ‹_› rfl rfl rfl ⟨‹_›, ‹_›, ‹_›, trivial⟩ ⟨‹_›, trivial⟩
  · cases h
theorem F54_loop5 (N : Nat) : ∀ s o, s = canon (F54_an 5).1 s → (lam N [(5, F54_l5 N)]).v 5 s = some o → LoopSem Try.prog (nthLoop 5 (Try.f54.body.getD .skip)) s o :=
  loop_ok (tabOf_ok Try.prog) (gam_ok _) mixed F54_an N [(5, F54_l5 N)] 5 (bodyOf (nthLoop 5 (Try.f54.body.getD .skip))) (nthLoop 5 (Try.f54.body.getD .skip)) (by kernel_rfl) (by
    have e : actOf F54_an (bodyOf (nthLoop 5 (Try.f54.body.getD .skip))) (5 + 1) = [] := by kernel_rfl
    rw [e]
    intro p hp
    cases hp) (F54_l5 N) rfl (fun s x hc h => F54_pat5 N s x hc h) (fun x => rfl) (fun x α kn ke => (F54_body5 N x α kn ke).trans (congrArg ((F54_l5 N).b x α _) (funext fun y => (F54_l5 N).spe y α ke))) (F54_par5 N)
theorem F54_parF (N : Nat) : ParF (F54_s N).t := by
  intro x α β k k' r r' h h1
  revert h
  dsimp only [F54_s]
  (repeat' (first | (with_reducible refine par_ite ?_ ?_) | (with_reducible refine par_both ?_ ?_) | split)) <;> intro h <;> first | exact h1 _ h | (cases h; done)
theorem F54_text (N : Nat) (x : (F54_s N).X) : acall (tabOf Try.prog) (F54_g N) F54_an (lam N [(5, F54_l5 N)]) Try.f54 (F54_s N).S ((F54_s N).args x) ((F54_s N).bs x) = (F54_s N).t x Ret (fun y => some ((F54_s N).ret y)) := by kernel_rfl
theorem F54_pat (N : Nat) (a : List AV) (b : List (List AV)) (x : (F54_s N).X) (h : (F54_s N).pat a b = some x) : a = (F54_s N).args x ∧ b = (F54_s N).bs x := by
  dsimp only [F54_s] at h
  split at h
  · cases h; exact ⟨rfl, rfl⟩
  · cases h
noncomputable def F54_e (N : Nat) : Ent Try.prog := entOf (tabOf_ok Try.prog) (gam_ok _) mixed 54 Try.f54 Try.func54 rfl F54_an (lam N [(5, F54_l5 N)]) (by
    have e : actOf F54_an (Try.f54.body.getD .skip) 0 = [(5, nthLoop 5 (Try.f54.body.getD .skip))] := by kernel_rfl
    rw [e]
    intro p hp
    rcases List.mem_cons.1 hp with rfl | hp
    · exact F54_loop5 N
    cases hp) (F54_s N) (fun _ => ⟨rfl, rfl⟩) (F54_text N) (F54_pat N) (F54_parF N)
/-! ### seismonet/steim.counts (function 55) -/
def F55_an : Nat → Keep × Keep := anL []
noncomputable def F55_g (N : Nat) : GamK := gam (P := Try.prog) []
noncomputable def F55_s (N : Nat) : FSpec where
  X := Unit
  Y := Int × Int × Int × Int
  ash := []
  bsh := []
  S := ⟨[[none, none, none, none]], [], [], [], []⟩
  bm := false
  pat := fun a b => match a, b with
    | [], [] => some ()
    | _, _ => none
  args := fun x => []
  bs := fun x => []
  ret := fun y => ⟨(AV.agg [(AV.v (.int .i64 y.1)), (AV.v (.int .i64 y.2.1)), (AV.v (.int .i64 y.2.2.1)), (AV.v (.int .i64 y.2.2.2))]), [], none, [], [], []⟩
  t := fun x α k => (k (0, 4, 2, 1))
noncomputable abbrev F55_d (N : Nat) (x : Unit) : Option (Int × Int × Int × Int) := (F55_s N).d x
theorem F55_parF (N : Nat) : ParF (F55_s N).t := by
  intro x α β k k' r r' h h1
  revert h
  dsimp only [F55_s]
  (repeat' (first | (with_reducible refine par_ite ?_ ?_) | (with_reducible refine par_both ?_ ?_) | split)) <;> intro h <;> first | exact h1 _ h | (cases h; done)
theorem F55_text (N : Nat) (x : (F55_s N).X) : acall (tabOf Try.prog) (F55_g N) F55_an (lam N []) Try.f55 (F55_s N).S ((F55_s N).args x) ((F55_s N).bs x) = (F55_s N).t x Ret (fun y => some ((F55_s N).ret y)) := by kernel_rfl
theorem F55_pat (N : Nat) (a : List AV) (b : List (List AV)) (x : (F55_s N).X) (h : (F55_s N).pat a b = some x) : a = (F55_s N).args x ∧ b = (F55_s N).bs x := by
  dsimp only [F55_s] at h
  split at h
  · cases h; exact ⟨rfl, rfl⟩
  · cases h
noncomputable def F55_e (N : Nat) : Ent Try.prog := entOf (tabOf_ok Try.prog) (gam_ok _) mixed 55 Try.f55 Try.func55 rfl F55_an (lam N []) (by
    have e : actOf F55_an (Try.f55.body.getD .skip) 0 = [] := by kernel_rfl
    rw [e]
    intro p hp
    cases hp) (F55_s N) (fun _ => ⟨rfl, rfl⟩) (F55_text N) (F55_pat N) (F55_parF N)
/-! ### seismonet/bits.in (function 60) -/
def F60_an : Nat → Keep × Keep := anL []
noncomputable def F60_g (N : Nat) : GamK := gam (P := Try.prog) []
noncomputable def F60_s (N : Nat) : FSpec where
  X := Int × Int × Int
  Y := Bool
  ash := [[none], [none], [none]]
  bsh := []
  S := ⟨[[none]], [], [], [], []⟩
  bm := false
  pat := fun a b => match a, b with
    | [(AV.v (.int .i64 a0)), (AV.v (.int .i64 a1)), (AV.v (.int .i64 a2))], [] => some (a0, a1, a2)
    | _, _ => none
  args := fun x => [(AV.v (.int .i64 x.1)), (AV.v (.int .i64 x.2.1)), (AV.v (.int .i64 x.2.2))]
  bs := fun x => []
  ret := fun y => ⟨(AV.v (.bool y)), [], none, [], [], []⟩
  t := fun x α k => (match (decide (x.1 ≥ x.2.1)) with | true => (k (decide (x.1 ≤ x.2.2))) | false => (k false))
noncomputable abbrev F60_d (N : Nat) (x : Int × Int × Int) : Option (Bool) := (F60_s N).d x
theorem F60_parF (N : Nat) : ParF (F60_s N).t := by
  intro x α β k k' r r' h h1
  revert h
  dsimp only [F60_s]
  (repeat' (first | (with_reducible refine par_ite ?_ ?_) | (with_reducible refine par_both ?_ ?_) | split)) <;> intro h <;> first | exact h1 _ h | (cases h; done)
theorem F60_text (N : Nat) (x : (F60_s N).X) : acall (tabOf Try.prog) (F60_g N) F60_an (lam N []) Try.f60 (F60_s N).S ((F60_s N).args x) ((F60_s N).bs x) = (F60_s N).t x Ret (fun y => some ((F60_s N).ret y)) := by kernel_rfl
theorem F60_pat (N : Nat) (a : List AV) (b : List (List AV)) (x : (F60_s N).X) (h : (F60_s N).pat a b = some x) : a = (F60_s N).args x ∧ b = (F60_s N).bs x := by
  dsimp only [F60_s] at h
  split at h
  · cases h; exact ⟨rfl, rfl⟩
  · cases h
noncomputable def F60_e (N : Nat) : Ent Try.prog := entOf (tabOf_ok Try.prog) (gam_ok _) mixed 60 Try.f60 Try.func60 rfl F60_an (lam N []) (by
    have e : actOf F60_an (Try.f60.body.getD .skip) 0 = [] := by kernel_rfl
    rw [e]
    intro p hp
    cases hp) (F60_s N) (fun _ => ⟨rfl, rfl⟩) (F60_text N) (F60_pat N) (F60_parF N)
/-! ### seismonet/bits.Fits (function 58) -/
def F58_an : Nat → Keep × Keep := anL []
noncomputable def F58_g (N : Nat) : GamK := gam (P := Try.prog) [F60_e N]
noncomputable def F58_s (N : Nat) : FSpec where
  X := Int × Int
  Y := Bool
  ash := [[none], [none]]
  bsh := []
  S := ⟨[[none]], [], [], [], []⟩
  bm := false
  pat := fun a b => match a, b with
    | [(AV.v (.int .i64 a0)), (AV.v (.int .i64 a1))], [] => some (a0, a1)
    | _, _ => none
  args := fun x => [(AV.v (.int .i64 x.1)), (AV.v (.int .i64 x.2))]
  bs := fun x => []
  ret := fun y => ⟨(AV.v (.bool y)), [], none, [], [], []⟩
  t := fun x α k => (match F60_d N (x.2, 1, 56) with | some y1 => (match y1 with | true => (if (i64 (x.2 - 1)) < 0 then none else (if (i64 (x.2 - 1)) < 0 then none else (match F60_d N (x.1, (shL .i64 ((-1) : Int) (i64 (x.2 - 1))), (i64 ((shL .i64 (1 : Int) (i64 (x.2 - 1))) - 1))) with | some y2 => (k y2) | none => none))) | false => (k false)) | none => none)
noncomputable abbrev F58_d (N : Nat) (x : Int × Int) : Option (Bool) := (F58_s N).d x
theorem F58_parF (N : Nat) : ParF (F58_s N).t := by
  intro x α β k k' r r' h h1
  revert h
  dsimp only [F58_s]
  (repeat' (first | (with_reducible refine par_ite ?_ ?_) | (with_reducible refine par_both ?_ ?_) | split)) <;> intro h <;> first | exact h1 _ h | (cases h; done)
theorem F58_text (N : Nat) (x : (F58_s N).X) : acall (tabOf Try.prog) (F58_g N) F58_an (lam N []) Try.f58 (F58_s N).S ((F58_s N).args x) ((F58_s N).bs x) = (F58_s N).t x Ret (fun y => some ((F58_s N).ret y)) := by kernel_rfl
theorem F58_pat (N : Nat) (a : List AV) (b : List (List AV)) (x : (F58_s N).X) (h : (F58_s N).pat a b = some x) : a = (F58_s N).args x ∧ b = (F58_s N).bs x := by
  dsimp only [F58_s] at h
  split at h
  · cases h; exact ⟨rfl, rfl⟩
  · cases h
noncomputable def F58_e (N : Nat) : Ent Try.prog := entOf (tabOf_ok Try.prog) (gam_ok _) mixed 58 Try.f58 Try.func58 rfl F58_an (lam N []) (by
    have e : actOf F58_an (Try.f58.body.getD .skip) 0 = [] := by kernel_rfl
    rw [e]
    intro p hp
    cases hp) (F58_s N) (fun _ => ⟨rfl, rfl⟩) (F58_text N) (F58_pat N) (F58_parF N)
/-! ### seismonet/steim.fit$1 (function 66) -/
def F66_an : Nat → Keep × Keep := anL []
noncomputable def F66_g (N : Nat) : GamK := gam (P := Try.prog) [F58_e N]
noncomputable def F66_s (N : Nat) : FSpec where
  X := Int × Int
  Y := Bool × Int
  ash := [[none], [none]]
  bsh := [[none]]
  S := ⟨[[none]], [[]], [], [], []⟩
  bm := false
  pat := fun a b => match a, b with
    | [(AV.v (.int .i64 a0)), (AV.ptr 0 0)], [[(AV.v (.int .i64 a1))]] => some (a0, a1)
    | _, _ => none
  args := fun x => [(AV.v (.int .i64 x.1)), (AV.ptr 0 0)]
  bs := fun x => [[(AV.v (.int .i64 x.2))]]
  ret := fun y => ⟨(AV.v (.bool y.1)), [[(AV.v (.int .i64 y.2))]], none, [], [], []⟩
  t := fun x α k => (match F58_d N (x.1, x.2) with | some y1 => (k ((!y1), x.2)) | none => none)
noncomputable abbrev F66_d (N : Nat) (x : Int × Int) : Option (Bool × Int) := (F66_s N).d x
theorem F66_parF (N : Nat) : ParF (F66_s N).t := by
  intro x α β k k' r r' h h1
  revert h
  dsimp only [F66_s]
  (repeat' (first | (with_reducible refine par_ite ?_ ?_) | (with_reducible refine par_both ?_ ?_) | split)) <;> intro h <;> first | exact h1 _ h | (cases h; done)
theorem F66_text (N : Nat) (x : (F66_s N).X) : acall (tabOf Try.prog) (F66_g N) F66_an (lam N []) Try.f66 (F66_s N).S ((F66_s N).args x) ((F66_s N).bs x) = (F66_s N).t x Ret (fun y => some ((F66_s N).ret y)) := by kernel_rfl
theorem F66_pat (N : Nat) (a : List AV) (b : List (List AV)) (x : (F66_s N).X) (h : (F66_s N).pat a b = some x) : a = (F66_s N).args x ∧ b = (F66_s N).bs x := by
  dsimp only [F66_s] at h
  split at h
  · cases h; exact ⟨rfl, rfl⟩
  · cases h
noncomputable def F66_e (N : Nat) : Ent Try.prog := entOf (tabOf_ok Try.prog) (gam_ok _) mixed 66 Try.f66 Try.func66 rfl F66_an (lam N []) (by
    have e : actOf F66_an (Try.f66.body.getD .skip) 0 = [] := by kernel_rfl
    rw [e]
    intro p hp
    cases hp) (F66_s N) (fun _ => ⟨rfl, rfl⟩) (F66_text N) (F66_pat N) (F66_parF N)
/-! ### slices.IndexFunc[[]int,int] (function 62) -/
def F62a_an : Nat → Keep × Keep := anL [(4, ⟨[1, 7, 8], [], [0], [(0, 1)], [], [], [], [], false⟩, ⟨[4], [], [0], [], [], [], [], [], false⟩)]
noncomputable def F62a_g (N : Nat) : GamK := gam (P := Try.prog) [F66_e N]
noncomputable def F62a_l4 (N : Nat) : LSpec where
  X := (List (List AV)) × Int × Int × Int
  Y := (Int × Int) ⊕ (Int)
  p := fun s => match s.env.length, s.nin, s.at 0, s.at 1, s.at 7, s.at 8, s.bx 0 with
    | 19, 1, (AV.list 1 a0 none), (AV.fn (.func 66) [] [(AV.ptr 0 0)]), (AV.v (.int .i64 a1)), (AV.v (.int .i64 a2)), some [(AV.v (.int .i64 a3))] => some (a0, a1, a2, a3)
    | _, _, _, _, _, _, _ => none
  st := fun x => mkS 19 [(0, (AV.list 1 x.1 none)), (1, (AV.fn (.func 66) [] [(AV.ptr 0 0)])), (7, (AV.v (.int .i64 x.2.1))), (8, (AV.v (.int .i64 x.2.2.1)))] [(0, [(AV.v (.int .i64 x.2.2.2))])] (F62a_an 4).1.toks 1
  out := fun y => match y with
    | .inl y => (.ret, mkS 19 [(4, (AV.v (.int .i64 y.1)))] [(0, [(AV.v (.int .i64 y.2))])] (F62a_an 4).2.toks 1)
    | .inr y => (.exit 0, mkS 19 [] [(0, [(AV.v (.int .i64 y))])] (F62a_an 4).2.toks 1)
  sp := fun y α k => match y with
    | .inl y => k (.ret, mkS 19 [(4, (AV.v (.int .i64 y.1)))] [(0, [(AV.v (.int .i64 y.2))])] (F62a_an 4).2.toks 1)
    | .inr y => k (.exit 0, mkS 19 [] [(0, [(AV.v (.int .i64 y))])] (F62a_an 4).2.toks 1)
  spe := fun y α k => by rcases y with _ | _ <;> rfl
  b := fun x α kn ke => (match (decide (x.2.2.1 < x.2.1)) with | true => (if 0 ≤ x.2.2.1 then (match x.1[x.2.2.1.toNat]? with | some c6 => (match c6[0]? with | some x7 => (match x7 with | .v (.int q9 n8) => (if q9 = .i64 then (match F66_d N (n8, x.2.2.2) with | some y10 => (match y10.1 with | true => (ke (.inl (x.2.2.1, y10.2))) | false => (kn (x.1, x.2.1, (i64 (x.2.2.1 + 1)), y10.2))) | none => none) else none) | _ => none) | none => none) | none => none) else none) | false => (ke (.inr x.2.2.2)))
noncomputable abbrev F62a_d4 (N : Nat) (x : (List (List AV)) × Int × Int × Int) : Option ((Int × Int) ⊕ (Int)) := (F62a_l4 N).L N x
noncomputable def F62a_s (N : Nat) : FSpec where
  X := (List (List AV)) × Int
  Y := Int × Int
  ash := [[some 1], [none]]
  bsh := [[none]]
  S := ⟨[[none]], [[]], [], [], []⟩
  bm := false
  pat := fun a b => match a, b with
    | [(AV.list 1 a0 none), (AV.fn (.func 66) [] [(AV.ptr 0 0)])], [[(AV.v (.int .i64 a1))]] => some (a0, a1)
    | _, _ => none
  args := fun x => [(AV.list 1 x.1 none), (AV.fn (.func 66) [] [(AV.ptr 0 0)])]
  bs := fun x => [[(AV.v (.int .i64 x.2))]]
  ret := fun y => ⟨(AV.v (.int .i64 y.1)), [[(AV.v (.int .i64 y.2))]], none, [], [], []⟩
  t := fun x α k => (match F62a_d4 N (x.1, (x.1.length : Int), 0, x.2) with | some y11 => (match y11 with | .inl z12 => (k (z12.1, z12.2)) | .inr z13 => (k ((-1), z13))) | none => none)
noncomputable abbrev F62a_d (N : Nat) (x : (List (List AV)) × Int) : Option (Int × Int) := (F62a_s N).d x
theorem F62a_par4 (N : Nat) : Par (F62a_l4 N).b := by
  intro x α β kn ke kn' ke' r r' h h1 h2
  revert h
  dsimp only [F62a_l4]
  (repeat' (first | (with_reducible refine par_ite ?_ ?_) | (with_reducible refine par_both ?_ ?_) | split)) <;> intro h <;> first | exact h1 _ h | exact h2 _ h | (cases h; done)
theorem F62a_body4 (N : Nat) (x : (F62a_l4 N).X) (α : Type) (kn : AS → Option α) (ke : Out → Option α) : around (tabOf Try.prog) (F62a_g N) F62a_an (lam N [(4, F62a_l4 N)]) 4 (bodyOf (nthLoop 4 (Try.f62.body.getD .skip))) ((F62a_l4 N).st x) kn ke = (F62a_l4 N).b x α (fun x' => kn ((F62a_l4 N).st x')) (fun y => (F62a_l4 N).sp y α ke) := by kernel_rfl
theorem F62a_pat4 (N : Nat) (s : AS) (x : (F62a_l4 N).X) (hc : s = canon (F62a_an 4).1 s) (h : (F62a_l4 N).p s = some x) : s = (F62a_l4 N).st x := by
  dsimp only [F62a_l4] at h
  split at h
  · cases h
    exact canon_mk hc ‹_› ‹_› rfl rfl rfl ⟨‹_›, ‹_›, ‹_›, ‹_›, trivial⟩ ⟨‹_›, trivial⟩
  · cases h
theorem F62a_loop4 (N : Nat) : ∀ s o, s = canon (F62a_an 4).1 s → (lam N [(4, F62a_l4 N)]).v 4 s = some o → LoopSem Try.prog (nthLoop 4 (Try.f62.body.getD .skip)) s o :=
  loop_ok (tabOf_ok Try.prog) (gam_ok _) mixed F62a_an N [(4, F62a_l4 N)] 4 (bodyOf (nthLoop 4 (Try.f62.body.getD .skip))) (nthLoop 4 (Try.f62.body.getD .skip)) (by kernel_rfl) (by
    have e : actOf F62a_an (bodyOf (nthLoop 4 (Try.f62.body.getD .skip))) (4 + 1) = [] := by kernel_rfl
    rw [e]
    intro p hp
    cases hp) (F62a_l4 N) rfl (fun s x hc h => F62a_pat4 N s x hc h) (fun x => rfl) (fun x α kn ke => (F62a_body4 N x α kn ke).trans (congrArg ((F62a_l4 N).b x α _) (funext fun y => (F62a_l4 N).spe y α ke))) (F62a_par4 N)
theorem F62a_parF (N : Nat) : ParF (F62a_s N).t := by
  intro x α β k k' r r' h h1
  revert h
  dsimp only [F62a_s]
  (repeat' (first | (with_reducible refine par_ite ?_ ?_) | (with_reducible refine par_both ?_ ?_) | split)) <;> intro h <;> first | exact h1 _ h | (cases h; done)
theorem F62a_text (N : Nat) (x : (F62a_s N).X) : acall (tabOf Try.prog) (F62a_g N) F62a_an (lam N [(4, F62a_l4 N)]) Try.f62 (F62a_s N).S ((F62a_s N).args x) ((F62a_s N).bs x) = (F62a_s N).t x Ret (fun y => some ((F62a_s N).ret y)) := by kernel_rfl
theorem F62a_pat (N : Nat) (a : List AV) (b : List (List AV)) (x : (F62a_s N).X) (h : (F62a_s N).pat a b = some x) : a = (F62a_s N).args x ∧ b = (F62a_s N).bs x := by
  dsimp only [F62a_s] at h
  split at h
  · cases h; exact ⟨rfl, rfl⟩
  · cases h
noncomputable def F62a_e (N : Nat) : Ent Try.prog := entOf (tabOf_ok Try.prog) (gam_ok _) mixed 62 Try.f62 Try.func62 rfl F62a_an (lam N [(4, F62a_l4 N)]) (by
    have e : actOf F62a_an (Try.f62.body.getD .skip) 0 = [(4, nthLoop 4 (Try.f62.body.getD .skip))] := by kernel_rfl
    rw [e]
    intro p hp
    rcases List.mem_cons.1 hp with rfl | hp
    · exact F62a_loop4 N
    cases hp) (F62a_s N) (fun _ => ⟨rfl, rfl⟩) (F62a_text N) (F62a_pat N) (F62a_parF N)
/-! ### slices.ContainsFunc[[]int,int] (function 39) -/
def F39a_an : Nat → Keep × Keep := anL []
noncomputable def F39a_g (N : Nat) : GamK := gam (P := Try.prog) [F62a_e N]
noncomputable def F39a_s (N : Nat) : FSpec where
  X := (List (List AV)) × Int
  Y := Bool × Int
  ash := [[some 1], [none]]
  bsh := [[none]]
  S := ⟨[[none]], [[none]], [], [], []⟩
  bm := false
  pat := fun a b => match a, b with
    | [(AV.list 1 a0 none), (AV.fn (.func 66) [] [(AV.ptr 0 0)])], [[(AV.v (.int .i64 a1))]] => some (a0, a1)
    | _, _ => none
  args := fun x => [(AV.list 1 x.1 none), (AV.fn (.func 66) [] [(AV.ptr 0 0)])]
  bs := fun x => [[(AV.v (.int .i64 x.2))]]
  ret := fun y => ⟨(AV.v (.bool y.1)), [[(AV.v (.int .i64 y.2))]], none, [], [], []⟩
  t := fun x α k => (match F62a_d N (x.1, x.2) with | some y1 => (k ((decide (y1.1 ≥ 0)), y1.2)) | none => none)
noncomputable abbrev F39a_d (N : Nat) (x : (List (List AV)) × Int) : Option (Bool × Int) := (F39a_s N).d x
theorem F39a_parF (N : Nat) : ParF (F39a_s N).t := by
  intro x α β k k' r r' h h1
  revert h
  dsimp only [F39a_s]
  (repeat' (first | (with_reducible refine par_ite ?_ ?_) | (with_reducible refine par_both ?_ ?_) | split)) <;> intro h <;> first | exact h1 _ h | (cases h; done)
theorem F39a_text (N : Nat) (x : (F39a_s N).X) : acall (tabOf Try.prog) (F39a_g N) F39a_an (lam N []) Try.f39 (F39a_s N).S ((F39a_s N).args x) ((F39a_s N).bs x) = (F39a_s N).t x Ret (fun y => some ((F39a_s N).ret y)) := by kernel_rfl
theorem F39a_pat (N : Nat) (a : List AV) (b : List (List AV)) (x : (F39a_s N).X) (h : (F39a_s N).pat a b = some x) : a = (F39a_s N).args x ∧ b = (F39a_s N).bs x := by
  dsimp only [F39a_s] at h
  split at h
  · cases h; exact ⟨rfl, rfl⟩
  · cases h
noncomputable def F39a_e (N : Nat) : Ent Try.prog := entOf (tabOf_ok Try.prog) (gam_ok _) mixed 39 Try.f39 Try.func39 rfl F39a_an (lam N []) (by
    have e : actOf F39a_an (Try.f39.body.getD .skip) 0 = [] := by kernel_rfl
    rw [e]
    intro p hp
    cases hp) (F39a_s N) (fun _ => ⟨rfl, rfl⟩) (F39a_text N) (F39a_pat N) (F39a_parF N)
/-! ### seismonet/steim.fit (function 56) -/
def F56_an : Nat → Keep × Keep := anL []
noncomputable def F56_g (N : Nat) : GamK := gam (P := Try.prog) [F39a_e N]
noncomputable def F56_s (N : Nat) : FSpec where
  X := (List (List AV)) × Int × Int
  Y := Bool
  ash := [[some 1], [none], [none]]
  bsh := []
  S := ⟨[[none]], [], [], [], []⟩
  bm := false
  pat := fun a b => match a, b with
    | [(AV.list 1 a0 none), (AV.v (.int .i64 a1)), (AV.v (.int .i64 a2))], [] => some (a0, a1, a2)
    | _, _ => none
  args := fun x => [(AV.list 1 x.1 none), (AV.v (.int .i64 x.2.1)), (AV.v (.int .i64 x.2.2))]
  bs := fun x => []
  ret := fun y => ⟨(AV.v (.bool y)), [], none, [], [], []⟩
  t := fun x α k => (match (decide ((x.1.length : Int) ≥ x.2.1)) with | true => (if 0 ≤ x.2.1 ∧ x.2.1 ≤ x.1.length then (match F39a_d N ((x.1.take x.2.1.toNat), x.2.2) with | some y1 => (k (!y1.1)) | none => none) else none) | false => (k false))
noncomputable abbrev F56_d (N : Nat) (x : (List (List AV)) × Int × Int) : Option (Bool) := (F56_s N).d x
theorem F56_parF (N : Nat) : ParF (F56_s N).t := by
  intro x α β k k' r r' h h1
  revert h
  dsimp only [F56_s]
  (repeat' (first | (with_reducible refine par_ite ?_ ?_) | (with_reducible refine par_both ?_ ?_) | split)) <;> intro h <;> first | exact h1 _ h | (cases h; done)
theorem F56_text (N : Nat) (x : (F56_s N).X) : acall (tabOf Try.prog) (F56_g N) F56_an (lam N []) Try.f56 (F56_s N).S ((F56_s N).args x) ((F56_s N).bs x) = (F56_s N).t x Ret (fun y => some ((F56_s N).ret y)) := by kernel_rfl
theorem F56_pat (N : Nat) (a : List AV) (b : List (List AV)) (x : (F56_s N).X) (h : (F56_s N).pat a b = some x) : a = (F56_s N).args x ∧ b = (F56_s N).bs x := by
  dsimp only [F56_s] at h
  split at h
  · cases h; exact ⟨rfl, rfl⟩
  · cases h
noncomputable def F56_e (N : Nat) : Ent Try.prog := entOf (tabOf_ok Try.prog) (gam_ok _) mixed 56 Try.f56 Try.func56 rfl F56_an (lam N []) (by
    have e : actOf F56_an (Try.f56.body.getD .skip) 0 = [] := by kernel_rfl
    rw [e]
    intro p hp
    cases hp) (F56_s N) (fun _ => ⟨rfl, rfl⟩) (F56_text N) (F56_pat N) (F56_parF N)
/-! ### seismonet/bits.Wrap (function 31) -/
def F31_an : Nat → Keep × Keep := anL []
noncomputable def F31_g (N : Nat) : GamK := gam (P := Try.prog) [F58_e N]
noncomputable def F31_s (N : Nat) : FSpec where
  X := Int × Int
  Y := Int × Int
  ash := [[none], [none]]
  bsh := []
  S := ⟨[[none], [none]], [], [], [], []⟩
  bm := false
  pat := fun a b => match a, b with
    | [(AV.v (.int .i64 a0)), (AV.v (.int .i64 a1))], [] => some (a0, a1)
    | _, _ => none
  args := fun x => [(AV.v (.int .i64 x.1)), (AV.v (.int .i64 x.2))]
  bs := fun x => []
  ret := fun y => ⟨(AV.tup [(AV.v (.int .i64 y.1)), (AV.v (.int .i64 y.2))]), [], none, [], [], []⟩
  t := fun x α k => (match F58_d N (x.1, x.2) with | some y1 => (match (!y1) with | true => (k (0, 2)) | false => (if x.2 < 0 then none else (k ((bAnd .i64 x.1 (i64 ((shL .i64 (1 : Int) x.2) - 1))), 0)))) | none => none)
noncomputable abbrev F31_d (N : Nat) (x : Int × Int) : Option (Int × Int) := (F31_s N).d x
theorem F31_parF (N : Nat) : ParF (F31_s N).t := by
  intro x α β k k' r r' h h1
  revert h
  dsimp only [F31_s]
  (repeat' (first | (with_reducible refine par_ite ?_ ?_) | (with_reducible refine par_both ?_ ?_) | split)) <;> intro h <;> first | exact h1 _ h | (cases h; done)
theorem F31_text (N : Nat) (x : (F31_s N).X) : acall (tabOf Try.prog) (F31_g N) F31_an (lam N []) Try.f31 (F31_s N).S ((F31_s N).args x) ((F31_s N).bs x) = (F31_s N).t x Ret (fun y => some ((F31_s N).ret y)) := by kernel_rfl
theorem F31_pat (N : Nat) (a : List AV) (b : List (List AV)) (x : (F31_s N).X) (h : (F31_s N).pat a b = some x) : a = (F31_s N).args x ∧ b = (F31_s N).bs x := by
  dsimp only [F31_s] at h
  split at h
  · cases h; exact ⟨rfl, rfl⟩
  · cases h
noncomputable def F31_e (N : Nat) : Ent Try.prog := entOf (tabOf_ok Try.prog) (gam_ok _) mixed 31 Try.f31 Try.func31 rfl F31_an (lam N []) (by
    have e : actOf F31_an (Try.f31.body.getD .skip) 0 = [] := by kernel_rfl
    rw [e]
    intro p hp
    cases hp) (F31_s N) (fun _ => ⟨rfl, rfl⟩) (F31_text N) (F31_pat N) (F31_parF N)
/-! ### seismonet/steim.pack (function 57) -/
def F57_an : Nat → Keep × Keep := anL [(5, ⟨[1, 5, 11, 12], [], [], [(10, 1)], [], [], [], [], false⟩, ⟨[5], [], [], [], [], [], [], [], false⟩)]
noncomputable def F57_g (N : Nat) : GamK := gam (P := Try.prog) [F31_e N]
noncomputable def F57_l5 (N : Nat) : LSpec where
  X := (List (List AV)) × Int × Int × Int × Int
  Y := (Int)
  p := fun s => match s.env.length, s.nin, s.at 10, s.at 1, s.at 5, s.at 11, s.at 12 with
    | 29, 0, (AV.list 1 a0 none), (AV.v (.int .i64 a1)), (AV.v (.int .i64 a2)), (AV.v (.int .i64 a3)), (AV.v (.int .i64 a4)) => some (a0, a1, a2, a3, a4)
    | _, _, _, _, _, _, _ => none
  st := fun x => mkS 29 [(10, (AV.list 1 x.1 none)), (1, (AV.v (.int .i64 x.2.1))), (5, (AV.v (.int .i64 x.2.2.1))), (11, (AV.v (.int .i64 x.2.2.2.1))), (12, (AV.v (.int .i64 x.2.2.2.2)))] [] (F57_an 5).1.toks 0
  out := fun y => (.exit 0, mkS 29 [(5, (AV.v (.int .i64 y)))] [] (F57_an 5).2.toks 0)
  sp := fun y α k => k (.exit 0, mkS 29 [(5, (AV.v (.int .i64 y)))] [] (F57_an 5).2.toks 0)
  spe := fun y α k => rfl
  b := fun x α kn ke => (match (decide (x.2.2.2.2 < x.2.2.2.1)) with | true => (if 0 ≤ x.2.2.2.2 then (match x.1[x.2.2.2.2.toNat]? with | some c1 => (match c1[0]? with | some x2 => (match x2 with | .v (.int q4 n3) => (if q4 = .i64 then (match F31_d N (n3, x.2.1) with | some y5 => (if x.2.1 < 0 then none else (kn (x.1, x.2.1, (bOr .i64 (shL .i64 x.2.2.1 x.2.1) y5.1), x.2.2.2.1, (i64 (x.2.2.2.2 + 1))))) | none => none) else none) | _ => none) | none => none) | none => none) else none) | false => (ke x.2.2.1))
noncomputable abbrev F57_d5 (N : Nat) (x : (List (List AV)) × Int × Int × Int × Int) : Option ((Int)) := (F57_l5 N).L N x
noncomputable def F57_s (N : Nat) : FSpec where
  X := (List (List AV)) × Int
  Y := Int
  ash := [[some 1], [none]]
  bsh := []
  S := ⟨[[none]], [], [], [], []⟩
  bm := false
  pat := fun a b => match a, b with
    | [(AV.list 1 a0 none), (AV.v (.int .i64 a1))], [] => some (a0, a1)
    | _, _ => none
  args := fun x => [(AV.list 1 x.1 none), (AV.v (.int .i64 x.2))]
  bs := fun x => []
  ret := fun y => ⟨(AV.v (.int .i64 y)), [], none, [], [], []⟩
  t := fun x α k => (match F57_d5 N (x.1, x.2, 0, (x.1.length : Int), 0) with | some y6 => (k y6) | none => none)
noncomputable abbrev F57_d (N : Nat) (x : (List (List AV)) × Int) : Option (Int) := (F57_s N).d x
theorem F57_par5 (N : Nat) : Par (F57_l5 N).b := by
  intro x α β kn ke kn' ke' r r' h h1 h2
  revert h
  dsimp only [F57_l5]
  (repeat' (first | (with_reducible refine par_ite ?_ ?_) | (with_reducible refine par_both ?_ ?_) | split)) <;> intro h <;> first | exact h1 _ h | exact h2 _ h | (cases h; done)
theorem F57_body5 (N : Nat) (x : (F57_l5 N).X) (α : Type) (kn : AS → Option α) (ke : Out → Option α) : around (tabOf Try.prog) (F57_g N) F57_an (lam N [(5, F57_l5 N)]) 5 (bodyOf (nthLoop 5 (Try.f57.body.getD .skip))) ((F57_l5 N).st x) kn ke = (F57_l5 N).b x α (fun x' => kn ((F57_l5 N).st x')) (fun y => (F57_l5 N).sp y α ke) := by kernel_rfl
theorem F57_pat5 (N : Nat) (s : AS) (x : (F57_l5 N).X) (hc : s = canon (F57_an 5).1 s) (h : (F57_l5 N).p s = some x) : s = (F57_l5 N).st x := by
  dsimp only [F57_l5] at h
  split at h
  · cases h
    exact canon_mk hc ‹_› ‹_› rfl rfl rfl ⟨‹_›, ‹_›, ‹_›, ‹_›, ‹_›, trivial⟩ trivial
  · cases h
theorem F57_loop5 (N : Nat) : ∀ s o, s = canon (F57_an 5).1 s → (lam N [(5, F57_l5 N)]).v 5 s = some o → LoopSem Try.prog (nthLoop 5 (Try.f57.body.getD .skip)) s o :=
  loop_ok (tabOf_ok Try.prog) (gam_ok _) mixed F57_an N [(5, F57_l5 N)] 5 (bodyOf (nthLoop 5 (Try.f57.body.getD .skip))) (nthLoop 5 (Try.f57.body.getD .skip)) (by kernel_rfl) (by
    have e : actOf F57_an (bodyOf (nthLoop 5 (Try.f57.body.getD .skip))) (5 + 1) = [] := by kernel_rfl
    rw [e]
    intro p hp
    cases hp) (F57_l5 N) rfl (fun s x hc h => F57_pat5 N s x hc h) (fun x => rfl) (fun x α kn ke => (F57_body5 N x α kn ke).trans (congrArg ((F57_l5 N).b x α _) (funext fun y => (F57_l5 N).spe y α ke))) (F57_par5 N)
theorem F57_parF (N : Nat) : ParF (F57_s N).t := by
  intro x α β k k' r r' h h1
  revert h
  dsimp only [F57_s]
  (repeat' (first | (with_reducible refine par_ite ?_ ?_) | (with_reducible refine par_both ?_ ?_) | split)) <;> intro h <;> first | exact h1 _ h | (cases h; done)
theorem F57_text (N : Nat) (x : (F57_s N).X) : acall (tabOf Try.prog) (F57_g N) F57_an (lam N [(5, F57_l5 N)]) Try.f57 (F57_s N).S ((F57_s N).args x) ((F57_s N).bs x) = (F57_s N).t x Ret (fun y => some ((F57_s N).ret y)) := by kernel_rfl
theorem F57_pat (N : Nat) (a : List AV) (b : List (List AV)) (x : (F57_s N).X) (h : (F57_s N).pat a b = some x) : a = (F57_s N).args x ∧ b = (F57_s N).bs x := by
  dsimp only [F57_s] at h
  split at h
  · cases h; exact ⟨rfl, rfl⟩
  · cases h
noncomputable def F57_e (N : Nat) : Ent Try.prog := entOf (tabOf_ok Try.prog) (gam_ok _) mixed 57 Try.f57 Try.func57 rfl F57_an (lam N [(5, F57_l5 N)]) (by
    have e : actOf F57_an (Try.f57.body.getD .skip) 0 = [(5, nthLoop 5 (Try.f57.body.getD .skip))] := by kernel_rfl
    rw [e]
    intro p hp
    rcases List.mem_cons.1 hp with rfl | hp
    · exact F57_loop5 N
    cases hp) (F57_s N) (fun _ => ⟨rfl, rfl⟩) (F57_text N) (F57_pat N) (F57_parF N)
/-! ### seismonet/steim.compress (function 30) -/
def F30_an : Nat → Keep × Keep := anL [(9, ⟨[], [(4, 2)], [], [(5, 1)], [], [], [], [], false⟩, ⟨[], [(4, 2)], [], [], [], [], [], [], false⟩), (16, ⟨[6], [(4, 2)], [], [(5, 1)], [], [], [], [], false⟩, ⟨[], [(4, 2)], [], [(5, 1)], [], [], [], [], false⟩)]
noncomputable def F30_g (N : Nat) : GamK := gam (P := Try.prog) [F39_e N, F54_e N, F55_e N, F56_e N, F57_e N]
noncomputable def F30_l16 (N : Nat) : LSpec where
  X := (List (List AV)) × (List (List AV)) × Int
  Y := ((List (List AV)) × (List (List AV)))
  p := fun s => match s.env.length, s.nin, s.at 4, s.at 5, s.at 6 with
    | 48, 0, (AV.list 2 a0 (some 1280000256)), (AV.list 1 a1 none), (AV.v (.int .i64 a2)) => some (a0, a1, a2)
    | _, _, _, _, _ => none
  st := fun x => mkS 48 [(4, (AV.list 2 x.1 (some 1280000256))), (5, (AV.list 1 x.2.1 none)), (6, (AV.v (.int .i64 x.2.2)))] [] (F30_an 16).1.toks 0
  out := fun y => (.exit 2, mkS 48 [(4, (AV.list 2 y.1 (some 1280000256))), (5, (AV.list 1 y.2 none))] [] (F30_an 16).2.toks 0)
  sp := fun y α k => k (.exit 2, mkS 48 [(4, (AV.list 2 y.1 (some 1280000256))), (5, (AV.list 1 y.2 none))] [] (F30_an 16).2.toks 0)
  spe := fun y α k => rfl
  b := fun x α kn ke => (match (decide (x.2.2 ≤ 3)) with | true => (match F55_d N () with | some y3 => (if 0 ≤ x.2.2 ∧ x.2.2 < 4 then (match [(AV.v (.int .i64 y3.1)), (AV.v (.int .i64 y3.2.1)), (AV.v (.int .i64 y3.2.2.1)), (AV.v (.int .i64 y3.2.2.2))][(x.2.2.toNat * 1)]? with | some x4 => (match x4 with | .v (.int q6 n5) => (if q6 = .i64 then (if n5 = 0 then none else (match F56_d N (x.2.1, n5, (i64 ((32 : Int).tdiv n5))) with | some y7 => (match (!y7) with | true => (kn (x.1, x.2.1, (i64 (x.2.2 + 1)))) | false => (if 0 ≤ n5 ∧ n5 ≤ x.2.1.length then (if n5 = 0 then none else (match F57_d N ((x.2.1.take n5.toNat), (i64 ((32 : Int).tdiv n5))) with | some y8 => (if (x.1.length + [[(AV.v (.int .i64 x.2.2)), (AV.v (.int .i64 y8))]].length) * 16 ≤ maxBytes then (if 0 ≤ n5 ∧ n5 ≤ x.2.1.length then (ke ((x.1 ++ [[(AV.v (.int .i64 x.2.2)), (AV.v (.int .i64 y8))]]), (x.2.1.drop n5.toNat))) else none) else none) | none => none)) else none)) | none => none)) else none) | _ => none) | none => none) else none) | none => none) | false => (ke (x.1, x.2.1)))
noncomputable abbrev F30_d16 (N : Nat) (x : (List (List AV)) × (List (List AV)) × Int) : Option (((List (List AV)) × (List (List AV)))) := (F30_l16 N).L N x
noncomputable def F30_l9 (N : Nat) : LSpec where
  X := (List (List AV)) × (List (List AV))
  Y := ((List (List AV)))
  p := fun s => match s.env.length, s.nin, s.at 4, s.at 5 with
    | 48, 0, (AV.list 2 a0 (some 1280000256)), (AV.list 1 a1 none) => some (a0, a1)
    | _, _, _, _ => none
  st := fun x => mkS 48 [(4, (AV.list 2 x.1 (some 1280000256))), (5, (AV.list 1 x.2 none))] [] (F30_an 9).1.toks 0
  out := fun y => (.exit 0, mkS 48 [(4, (AV.list 2 y (some 1280000256)))] [] (F30_an 9).2.toks 0)
  sp := fun y α k => k (.exit 0, mkS 48 [(4, (AV.list 2 y (some 1280000256)))] [] (F30_an 9).2.toks 0)
  spe := fun y α k => rfl
  b := fun x α kn ke => (match (decide ((x.2.length : Int) > 0)) with | true => (match F30_d16 N (x.1, x.2, 1) with | some y9 => (kn (y9.1, y9.2)) | none => none) | false => (ke x.1))
noncomputable abbrev F30_d9 (N : Nat) (x : (List (List AV)) × (List (List AV))) : Option (((List (List AV)))) := (F30_l9 N).L N x
noncomputable def F30_s (N : Nat) : FSpec where
  X := (List (List AV))
  Y := (List (List AV)) × Bool
  ash := [[some 1]]
  bsh := []
  S := ⟨[[some 2000002], [none]], [], [], [], []⟩
  bm := false
  pat := fun a b => match a, b with
    | [(AV.list 1 a0 none)], [] => some a0
    | _, _ => none
  args := fun x => [(AV.list 1 x none)]
  bs := fun x => []
  ret := fun y => ⟨(AV.tup [(AV.list 2 y.1 (some 2560000000)), (AV.v (.bool y.2))]), [], none, [], [2560000000], []⟩
  t := fun x α k => (match ((x.length : Int) == 0) with | true => (k (([] : List (List AV)), false)) | false => (match F39_d N x with | some y1 => (match y1 with | true => (k (([] : List (List AV)), false)) | false => (match F54_d N x with | some y2 => (match F30_d9 N (([] : List (List AV)), y2) with | some y10 => (k (y10, true)) | none => none) | none => none)) | none => none))
noncomputable abbrev F30_d (N : Nat) (x : (List (List AV))) : Option ((List (List AV)) × Bool) := (F30_s N).d x
theorem F30_par16 (N : Nat) : Par (F30_l16 N).b := by
  intro x α β kn ke kn' ke' r r' h h1 h2
  revert h
  dsimp only [F30_l16]
  (repeat' (first | (with_reducible refine par_ite ?_ ?_) | (with_reducible refine par_both ?_ ?_) | split)) <;> intro h <;> first | exact h1 _ h | exact h2 _ h | (cases h; done)
theorem F30_body16 (N : Nat) (x : (F30_l16 N).X) (α : Type) (kn : AS → Option α) (ke : Out → Option α) : around (tabOf Try.prog) (F30_g N) F30_an (lam N [(9, F30_l9 N), (16, F30_l16 N)]) 16 (bodyOf (nthLoop 16 (Try.f30.body.getD .skip))) ((F30_l16 N).st x) kn ke = (F30_l16 N).b x α (fun x' => kn ((F30_l16 N).st x')) (fun y => (F30_l16 N).sp y α ke) := by kernel_rfl
theorem F30_pat16 (N : Nat) (s : AS) (x : (F30_l16 N).X) (hc : s = canon (F30_an 16).1 s) (h : (F30_l16 N).p s = some x) : s = (F30_l16 N).st x := by
  dsimp only [F30_l16] at h
  split at h
  · cases h
    exact canon_mk hc ‹_› ‹_› rfl rfl rfl ⟨‹_›, ‹_›, ‹_›, trivial⟩ trivial
  · cases h
theorem F30_loop16 (N : Nat) : ∀ s o, s = canon (F30_an 16).1 s → (lam N [(9, F30_l9 N), (16, F30_l16 N)]).v 16 s = some o → LoopSem Try.prog (nthLoop 16 (Try.f30.body.getD .skip)) s o :=
  loop_ok (tabOf_ok Try.prog) (gam_ok _) mixed F30_an N [(9, F30_l9 N), (16, F30_l16 N)] 16 (bodyOf (nthLoop 16 (Try.f30.body.getD .skip))) (nthLoop 16 (Try.f30.body.getD .skip)) (by kernel_rfl) (by
    have e : actOf F30_an (bodyOf (nthLoop 16 (Try.f30.body.getD .skip))) (16 + 1) = [] := by kernel_rfl
    rw [e]
    intro p hp
    cases hp) (F30_l16 N) rfl (fun s x hc h => F30_pat16 N s x hc h) (fun x => rfl) (fun x α kn ke => (F30_body16 N x α kn ke).trans (congrArg ((F30_l16 N).b x α _) (funext fun y => (F30_l16 N).spe y α ke))) (F30_par16 N)
theorem F30_par9 (N : Nat) : Par (F30_l9 N).b := by
  intro x α β kn ke kn' ke' r r' h h1 h2
  revert h
  dsimp only [F30_l9]
  (repeat' (first | (with_reducible refine par_ite ?_ ?_) | (with_reducible refine par_both ?_ ?_) | split)) <;> intro h <;> first | exact h1 _ h | exact h2 _ h | (cases h; done)
theorem F30_body9 (N : Nat) (x : (F30_l9 N).X) (α : Type) (kn : AS → Option α) (ke : Out → Option α) : around (tabOf Try.prog) (F30_g N) F30_an (lam N [(9, F30_l9 N), (16, F30_l16 N)]) 9 (bodyOf (nthLoop 9 (Try.f30.body.getD .skip))) ((F30_l9 N).st x) kn ke = (F30_l9 N).b x α (fun x' => kn ((F30_l9 N).st x')) (fun y => (F30_l9 N).sp y α ke) := by kernel_rfl
theorem F30_pat9 (N : Nat) (s : AS) (x : (F30_l9 N).X) (hc : s = canon (F30_an 9).1 s) (h : (F30_l9 N).p s = some x) : s = (F30_l9 N).st x := by
  dsimp only [F30_l9] at h
  split at h
  · cases h
    exact canon_mk hc ‹_› ‹_› rfl rfl rfl ⟨‹_›, ‹_›, trivial⟩ trivial
  · cases h
theorem F30_loop9 (N : Nat) : ∀ s o, s = canon (F30_an 9).1 s → (lam N [(9, F30_l9 N), (16, F30_l16 N)]).v 9 s = some o → LoopSem Try.prog (nthLoop 9 (Try.f30.body.getD .skip)) s o :=
  loop_ok (tabOf_ok Try.prog) (gam_ok _) mixed F30_an N [(9, F30_l9 N), (16, F30_l16 N)] 9 (bodyOf (nthLoop 9 (Try.f30.body.getD .skip))) (nthLoop 9 (Try.f30.body.getD .skip)) (by kernel_rfl) (by
    have e : actOf F30_an (bodyOf (nthLoop 9 (Try.f30.body.getD .skip))) (9 + 1) = [(16, nthLoop 16 (Try.f30.body.getD .skip))] := by kernel_rfl
    rw [e]
    intro p hp
    rcases List.mem_cons.1 hp with rfl | hp
    · exact F30_loop16 N
    cases hp) (F30_l9 N) rfl (fun s x hc h => F30_pat9 N s x hc h) (fun x => rfl) (fun x α kn ke => (F30_body9 N x α kn ke).trans (congrArg ((F30_l9 N).b x α _) (funext fun y => (F30_l9 N).spe y α ke))) (F30_par9 N)
theorem F30_parF (N : Nat) : ParF (F30_s N).t := by
  intro x α β k k' r r' h h1
  revert h
  dsimp only [F30_s]
  (repeat' (first | (with_reducible refine par_ite ?_ ?_) | (with_reducible refine par_both ?_ ?_) | split)) <;> intro h <;> first | exact h1 _ h | (cases h; done)
theorem F30_text (N : Nat) (x : (F30_s N).X) : acall (tabOf Try.prog) (F30_g N) F30_an (lam N [(9, F30_l9 N), (16, F30_l16 N)]) Try.f30 (F30_s N).S ((F30_s N).args x) ((F30_s N).bs x) = (F30_s N).t x Ret (fun y => some ((F30_s N).ret y)) := by kernel_rfl
theorem F30_pat (N : Nat) (a : List AV) (b : List (List AV)) (x : (F30_s N).X) (h : (F30_s N).pat a b = some x) : a = (F30_s N).args x ∧ b = (F30_s N).bs x := by
  dsimp only [F30_s] at h
  split at h
  · cases h; exact ⟨rfl, rfl⟩
  · cases h
noncomputable def F30_e (N : Nat) : Ent Try.prog := entOf (tabOf_ok Try.prog) (gam_ok _) mixed 30 Try.f30 Try.func30 rfl F30_an (lam N [(9, F30_l9 N), (16, F30_l16 N)]) (by
    have e : actOf F30_an (Try.f30.body.getD .skip) 0 = [(9, nthLoop 9 (Try.f30.body.getD .skip)), (16, nthLoop 16 (Try.f30.body.getD .skip))] := by kernel_rfl
    rw [e]
    intro p hp
    rcases List.mem_cons.1 hp with rfl | hp
    · exact F30_loop9 N
    rcases List.mem_cons.1 hp with rfl | hp
    · exact F30_loop16 N
    cases hp) (F30_s N) (fun _ => ⟨rfl, rfl⟩) (F30_text N) (F30_pat N) (F30_parF N)
/-! ### seismonet/steim.Words (function 13) -/
def F13_an : Nat → Keep × Keep := anL []
noncomputable def F13_g (N : Nat) : GamK := gam (P := Try.prog) [F30_e N]
noncomputable def F13_s (N : Nat) : FSpec where
  X := (List (List AV))
  Y := Int
  ash := [[some 1]]
  bsh := []
  S := ⟨[[none]], [], [], [], []⟩
  bm := false
  pat := fun a b => match a, b with
    | [(AV.list 1 a0 none)], [] => some a0
    | _, _ => none
  args := fun x => [(AV.list 1 x none)]
  bs := fun x => []
  ret := fun y => ⟨(AV.v (.int .i64 y)), [], none, [], [], []⟩
  t := fun x α k => (match F30_d N x with | some y1 => (k (y1.1.length : Int)) | none => none)
noncomputable abbrev F13_d (N : Nat) (x : (List (List AV))) : Option (Int) := (F13_s N).d x
theorem F13_parF (N : Nat) : ParF (F13_s N).t := by
  intro x α β k k' r r' h h1
  revert h
  dsimp only [F13_s]
  (repeat' (first | (with_reducible refine par_ite ?_ ?_) | (with_reducible refine par_both ?_ ?_) | split)) <;> intro h <;> first | exact h1 _ h | (cases h; done)
theorem F13_text (N : Nat) (x : (F13_s N).X) : acall (tabOf Try.prog) (F13_g N) F13_an (lam N []) Try.f13 (F13_s N).S ((F13_s N).args x) ((F13_s N).bs x) = (F13_s N).t x Ret (fun y => some ((F13_s N).ret y)) := by kernel_rfl
theorem F13_pat (N : Nat) (a : List AV) (b : List (List AV)) (x : (F13_s N).X) (h : (F13_s N).pat a b = some x) : a = (F13_s N).args x ∧ b = (F13_s N).bs x := by
  dsimp only [F13_s] at h
  split at h
  · cases h; exact ⟨rfl, rfl⟩
  · cases h
noncomputable def F13_e (N : Nat) : Ent Try.prog := entOf (tabOf_ok Try.prog) (gam_ok _) mixed 13 Try.f13 Try.func13 rfl F13_an (lam N []) (by
    have e : actOf F13_an (Try.f13.body.getD .skip) 0 = [] := by kernel_rfl
    rw [e]
    intro p hp
    cases hp) (F13_s N) (fun _ => ⟨rfl, rfl⟩) (F13_text N) (F13_pat N) (F13_parF N)
/-! ### seismonet/steim.Frames (function 15) -/
def F15_an : Nat → Keep × Keep := anL []
noncomputable def F15_g (N : Nat) : GamK := gam (P := Try.prog) [F13_e N]
noncomputable def F15_s (N : Nat) : FSpec where
  X := (List (List AV))
  Y := Int
  ash := [[some 1]]
  bsh := []
  S := ⟨[[none]], [], [], [], []⟩
  bm := false
  pat := fun a b => match a, b with
    | [(AV.list 1 a0 none)], [] => some a0
    | _, _ => none
  args := fun x => [(AV.list 1 x none)]
  bs := fun x => []
  ret := fun y => ⟨(AV.v (.int .i64 y)), [], none, [], [], []⟩
  t := fun x α k => (match F13_d N x with | some y1 => (match (y1 == 0) with | true => (k 0) | false => (k (i64 ((i64 ((i64 ((i64 (y1 + 2)) + 16)) - 2)).tdiv 15)))) | none => none)
noncomputable abbrev F15_d (N : Nat) (x : (List (List AV))) : Option (Int) := (F15_s N).d x
theorem F15_parF (N : Nat) : ParF (F15_s N).t := by
  intro x α β k k' r r' h h1
  revert h
  dsimp only [F15_s]
  (repeat' (first | (with_reducible refine par_ite ?_ ?_) | (with_reducible refine par_both ?_ ?_) | split)) <;> intro h <;> first | exact h1 _ h | (cases h; done)
theorem F15_text (N : Nat) (x : (F15_s N).X) : acall (tabOf Try.prog) (F15_g N) F15_an (lam N []) Try.f15 (F15_s N).S ((F15_s N).args x) ((F15_s N).bs x) = (F15_s N).t x Ret (fun y => some ((F15_s N).ret y)) := by kernel_rfl
theorem F15_pat (N : Nat) (a : List AV) (b : List (List AV)) (x : (F15_s N).X) (h : (F15_s N).pat a b = some x) : a = (F15_s N).args x ∧ b = (F15_s N).bs x := by
  dsimp only [F15_s] at h
  split at h
  · cases h; exact ⟨rfl, rfl⟩
  · cases h
noncomputable def F15_e (N : Nat) : Ent Try.prog := entOf (tabOf_ok Try.prog) (gam_ok _) mixed 15 Try.f15 Try.func15 rfl F15_an (lam N []) (by
    have e : actOf F15_an (Try.f15.body.getD .skip) 0 = [] := by kernel_rfl
    rw [e]
    intro p hp
    cases hp) (F15_s N) (fun _ => ⟨rfl, rfl⟩) (F15_text N) (F15_pat N) (F15_parF N)
/-! ### seismonet/bits.shift (function 59) -/
def F59_an : Nat → Keep × Keep := anL []
noncomputable def F59_g (N : Nat) : GamK := gam (P := Try.prog) [F60_e N]
noncomputable def F59_s (N : Nat) : FSpec where
  X := Int × Int
  Y := Int × Bool
  ash := [[none], [none]]
  bsh := []
  S := ⟨[[none], [none]], [], [], [], []⟩
  bm := false
  pat := fun a b => match a, b with
    | [(AV.v (.int .i64 a0)), (AV.v (.int .i64 a1))], [] => some (a0, a1)
    | _, _ => none
  args := fun x => [(AV.v (.int .i64 x.1)), (AV.v (.int .i64 x.2))]
  bs := fun x => []
  ret := fun y => ⟨(AV.tup [(AV.v (.int .i64 y.1)), (AV.v (.bool y.2))]), [], none, [], [], []⟩
  t := fun x α k => (match F60_d N (x.1, 0, 4294967295) with | some y1 => (match y1 with | true => (match F60_d N (x.2, 0, 15) with | some y2 => (k ((i64 (30 - (i64 (2 * x.2)))), y2)) | none => none) | false => (k ((i64 (30 - (i64 (2 * x.2)))), false))) | none => none)
noncomputable abbrev F59_d (N : Nat) (x : Int × Int) : Option (Int × Bool) := (F59_s N).d x
theorem F59_parF (N : Nat) : ParF (F59_s N).t := by
  intro x α β k k' r r' h h1
  revert h
  dsimp only [F59_s]
  (repeat' (first | (with_reducible refine par_ite ?_ ?_) | (with_reducible refine par_both ?_ ?_) | split)) <;> intro h <;> first | exact h1 _ h | (cases h; done)
theorem F59_text (N : Nat) (x : (F59_s N).X) : acall (tabOf Try.prog) (F59_g N) F59_an (lam N []) Try.f59 (F59_s N).S ((F59_s N).args x) ((F59_s N).bs x) = (F59_s N).t x Ret (fun y => some ((F59_s N).ret y)) := by kernel_rfl
theorem F59_pat (N : Nat) (a : List AV) (b : List (List AV)) (x : (F59_s N).X) (h : (F59_s N).pat a b = some x) : a = (F59_s N).args x ∧ b = (F59_s N).bs x := by
  dsimp only [F59_s] at h
  split at h
  · cases h; exact ⟨rfl, rfl⟩
  · cases h
noncomputable def F59_e (N : Nat) : Ent Try.prog := entOf (tabOf_ok Try.prog) (gam_ok _) mixed 59 Try.f59 Try.func59 rfl F59_an (lam N []) (by
    have e : actOf F59_an (Try.f59.body.getD .skip) 0 = [] := by kernel_rfl
    rw [e]
    intro p hp
    cases hp) (F59_s N) (fun _ => ⟨rfl, rfl⟩) (F59_text N) (F59_pat N) (F59_parF N)
/-! ### seismonet/bits.SetPair (function 32) -/
def F32_an : Nat → Keep × Keep := anL []
noncomputable def F32_g (N : Nat) : GamK := gam (P := Try.prog) [F59_e N, F60_e N]
noncomputable def F32_s (N : Nat) : FSpec where
  X := Int × Int × Int
  Y := Int × Int
  ash := [[none], [none], [none]]
  bsh := []
  S := ⟨[[none], [none]], [], [], [], []⟩
  bm := false
  pat := fun a b => match a, b with
    | [(AV.v (.int .i64 a0)), (AV.v (.int .i64 a1)), (AV.v (.int .i64 a2))], [] => some (a0, a1, a2)
    | _, _ => none
  args := fun x => [(AV.v (.int .i64 x.1)), (AV.v (.int .i64 x.2.1)), (AV.v (.int .i64 x.2.2))]
  bs := fun x => []
  ret := fun y => ⟨(AV.tup [(AV.v (.int .i64 y.1)), (AV.v (.int .i64 y.2))]), [], none, [], [], []⟩
  t := fun x α k => (match F59_d N (x.1, x.2.1) with | some y1 => (match (!y1.2) with | true => (k (0, 2)) | false => (match F60_d N (x.2.2, 0, 3) with | some y2 => (match (!y2) with | true => (k (0, 2)) | false => (if y1.1 < 0 then none else (if y1.1 < 0 then none else (k ((bOr .i64 (bNot .i64 x.1 (shL .i64 (3 : Int) y1.1)) (shL .i64 x.2.2 y1.1)), 0))))) | none => none)) | none => none)
noncomputable abbrev F32_d (N : Nat) (x : Int × Int × Int) : Option (Int × Int) := (F32_s N).d x
theorem F32_parF (N : Nat) : ParF (F32_s N).t := by
  intro x α β k k' r r' h h1
  revert h
  dsimp only [F32_s]
  (repeat' (first | (with_reducible refine par_ite ?_ ?_) | (with_reducible refine par_both ?_ ?_) | split)) <;> intro h <;> first | exact h1 _ h | (cases h; done)
theorem F32_text (N : Nat) (x : (F32_s N).X) : acall (tabOf Try.prog) (F32_g N) F32_an (lam N []) Try.f32 (F32_s N).S ((F32_s N).args x) ((F32_s N).bs x) = (F32_s N).t x Ret (fun y => some ((F32_s N).ret y)) := by kernel_rfl
theorem F32_pat (N : Nat) (a : List AV) (b : List (List AV)) (x : (F32_s N).X) (h : (F32_s N).pat a b = some x) : a = (F32_s N).args x ∧ b = (F32_s N).bs x := by
  dsimp only [F32_s] at h
  split at h
  · cases h; exact ⟨rfl, rfl⟩
  · cases h
noncomputable def F32_e (N : Nat) : Ent Try.prog := entOf (tabOf_ok Try.prog) (gam_ok _) mixed 32 Try.f32 Try.func32 rfl F32_an (lam N []) (by
    have e : actOf F32_an (Try.f32.body.getD .skip) 0 = [] := by kernel_rfl
    rw [e]
    intro p hp
    cases hp) (F32_s N) (fun _ => ⟨rfl, rfl⟩) (F32_text N) (F32_pat N) (F32_parF N)
/-! ### seismonet/bits.Put (function 33) -/
def F33_an : Nat → Keep × Keep := anL [(9, ⟨[1, 9], [(8, 1)], [], [], [], [], [], [], false⟩, ⟨[], [(8, 1)], [], [], [], [], [], [], false⟩)]
noncomputable def F33_g (N : Nat) : GamK := gam (P := Try.prog) [F60_e N]
noncomputable def F33_l9 (N : Nat) : LSpec where
  X := (List (List AV)) × Int × Int
  Y := ((List (List AV)))
  p := fun s => match s.env.length, s.nin, s.at 8, s.at 1, s.at 9 with
    | 40, 0, (AV.list 1 a0 (some 1280000512)), (AV.v (.int .i64 a1)), (AV.v (.int .i64 a2)) => some (a0, a1, a2)
    | _, _, _, _, _ => none
  st := fun x => mkS 40 [(8, (AV.list 1 x.1 (some 1280000512))), (1, (AV.v (.int .i64 x.2.1))), (9, (AV.v (.int .i64 x.2.2)))] [] (F33_an 9).1.toks 0
  out := fun y => (.exit 0, mkS 40 [(8, (AV.list 1 y (some 1280000512)))] [] (F33_an 9).2.toks 0)
  sp := fun y α k => k (.exit 0, mkS 40 [(8, (AV.list 1 y (some 1280000512)))] [] (F33_an 9).2.toks 0)
  spe := fun y α k => rfl
  b := fun x α kn ke => (match (decide (x.2.2 ≥ 0)) with | true => (if (i64 (8 * x.2.2)) < 0 then none else (if (x.1.length + [[(AV.v (.int .u8 (IntKind.u8.wrap (shR .i64 x.2.1 (i64 (8 * x.2.2))))))]].length) * 1 ≤ maxBytes then (kn ((x.1 ++ [[(AV.v (.int .u8 (IntKind.u8.wrap (shR .i64 x.2.1 (i64 (8 * x.2.2))))))]]), x.2.1, (i64 (x.2.2 - 1)))) else none)) | false => (ke x.1))
noncomputable abbrev F33_d9 (N : Nat) (x : (List (List AV)) × Int × Int) : Option (((List (List AV)))) := (F33_l9 N).L N x
noncomputable def F33_s (N : Nat) : FSpec where
  X := ByteArray × Int × Int
  Y := ByteArray × Int
  ash := [[none], [none], [none]]
  bsh := []
  S := ⟨[[none], [none]], [], [], [], []⟩
  bm := false
  pat := fun a b => match a, b with
    | [(AV.v (.string a0)), (AV.v (.int .i64 a1)), (AV.v (.int .i64 a2))], [] => some (a0, a1, a2)
    | _, _ => none
  args := fun x => [(AV.v (.string x.1)), (AV.v (.int .i64 x.2.1)), (AV.v (.int .i64 x.2.2))]
  bs := fun x => []
  ret := fun y => ⟨(AV.tup [(AV.v (.string y.1)), (AV.v (.int .i64 y.2))]), [], none, [], [], []⟩
  t := fun x α k => (match F60_d N (x.2.2, 1, 7) with | some y1 => (match (!y1) with | true => (k ((⟨#[]⟩ : ByteArray), 2)) | false => (if (i64 (8 * x.2.2)) < 0 then none else (match F60_d N (x.2.1, 0, (i64 ((shL .i64 (1 : Int) (i64 (8 * x.2.2))) - 1))) with | some y2 => (match (!y2) with | true => (k ((⟨#[]⟩ : ByteArray), 2)) | false => (match F33_d9 N ((bytesL x.1), x.2.1, (i64 (x.2.2 - 1))) with | some y3 => (match numsOf y3 with | some s4 => (k ((strOfNums s4), 0)) | none => none) | none => none)) | none => none))) | none => none)
noncomputable abbrev F33_d (N : Nat) (x : ByteArray × Int × Int) : Option (ByteArray × Int) := (F33_s N).d x
theorem F33_par9 (N : Nat) : Par (F33_l9 N).b := by
  intro x α β kn ke kn' ke' r r' h h1 h2
  revert h
  dsimp only [F33_l9]
  (repeat' (first | (with_reducible refine par_ite ?_ ?_) | (with_reducible refine par_both ?_ ?_) | split)) <;> intro h <;> first | exact h1 _ h | exact h2 _ h | (cases h; done)
theorem F33_body9 (N : Nat) (x : (F33_l9 N).X) (α : Type) (kn : AS → Option α) (ke : Out → Option α) : around (tabOf Try.prog) (F33_g N) F33_an (lam N [(9, F33_l9 N)]) 9 (bodyOf (nthLoop 9 (Try.f33.body.getD .skip))) ((F33_l9 N).st x) kn ke = (F33_l9 N).b x α (fun x' => kn ((F33_l9 N).st x')) (fun y => (F33_l9 N).sp y α ke) := by kernel_rfl
theorem F33_pat9 (N : Nat) (s : AS) (x : (F33_l9 N).X) (hc : s = canon (F33_an 9).1 s) (h : (F33_l9 N).p s = some x) : s = (F33_l9 N).st x := by
  dsimp only [F33_l9] at h
  split at h
  · cases h
    exact canon_mk hc ‹_› ‹_› rfl rfl rfl ⟨‹_›, ‹_›, ‹_›, trivial⟩ trivial
  · cases h
theorem F33_loop9 (N : Nat) : ∀ s o, s = canon (F33_an 9).1 s → (lam N [(9, F33_l9 N)]).v 9 s = some o → LoopSem Try.prog (nthLoop 9 (Try.f33.body.getD .skip)) s o :=
  loop_ok (tabOf_ok Try.prog) (gam_ok _) mixed F33_an N [(9, F33_l9 N)] 9 (bodyOf (nthLoop 9 (Try.f33.body.getD .skip))) (nthLoop 9 (Try.f33.body.getD .skip)) (by kernel_rfl) (by
    have e : actOf F33_an (bodyOf (nthLoop 9 (Try.f33.body.getD .skip))) (9 + 1) = [] := by kernel_rfl
    rw [e]
    intro p hp
    cases hp) (F33_l9 N) rfl (fun s x hc h => F33_pat9 N s x hc h) (fun x => rfl) (fun x α kn ke => (F33_body9 N x α kn ke).trans (congrArg ((F33_l9 N).b x α _) (funext fun y => (F33_l9 N).spe y α ke))) (F33_par9 N)
theorem F33_parF (N : Nat) : ParF (F33_s N).t := by
  intro x α β k k' r r' h h1
  revert h
  dsimp only [F33_s]
  (repeat' (first | (with_reducible refine par_ite ?_ ?_) | (with_reducible refine par_both ?_ ?_) | split)) <;> intro h <;> first | exact h1 _ h | (cases h; done)
theorem F33_text (N : Nat) (x : (F33_s N).X) : acall (tabOf Try.prog) (F33_g N) F33_an (lam N [(9, F33_l9 N)]) Try.f33 (F33_s N).S ((F33_s N).args x) ((F33_s N).bs x) = (F33_s N).t x Ret (fun y => some ((F33_s N).ret y)) := by kernel_rfl
theorem F33_pat (N : Nat) (a : List AV) (b : List (List AV)) (x : (F33_s N).X) (h : (F33_s N).pat a b = some x) : a = (F33_s N).args x ∧ b = (F33_s N).bs x := by
  dsimp only [F33_s] at h
  split at h
  · cases h; exact ⟨rfl, rfl⟩
  · cases h
noncomputable def F33_e (N : Nat) : Ent Try.prog := entOf (tabOf_ok Try.prog) (gam_ok _) mixed 33 Try.f33 Try.func33 rfl F33_an (lam N [(9, F33_l9 N)]) (by
    have e : actOf F33_an (Try.f33.body.getD .skip) 0 = [(9, nthLoop 9 (Try.f33.body.getD .skip))] := by kernel_rfl
    rw [e]
    intro p hp
    rcases List.mem_cons.1 hp with rfl | hp
    · exact F33_loop9 N
    cases hp) (F33_s N) (fun _ => ⟨rfl, rfl⟩) (F33_text N) (F33_pat N) (F33_parF N)
/-! ### seismonet/steim.Encode (function 14) -/
def F14_an : Nat → Keep × Keep := anL [(22, ⟨[11, 54, 55], [], [], [(4, 2)], [], [], [], [], false⟩, ⟨[11], [], [], [], [], [], [], [], false⟩), (32, ⟨[11, 12, 13, 14, 54, 55], [], [], [(4, 2)], [], [], [], [], false⟩, ⟨[11, 12, 13, 54, 55], [], [], [(4, 2)], [], [], [], [], false⟩)]
noncomputable def F14_g (N : Nat) : GamK := gam (P := Try.prog) [F30_e N, F15_e N, F31_e N, F32_e N, F33_e N]
noncomputable def F14_l32 (N : Nat) : LSpec where
  X := (List (List AV)) × ByteArray × Int × ByteArray × Int × Int × Int
  Y := ((List (List AV)) × ByteArray × Int × ByteArray × Int × Int)
  p := fun s => match s.env.length, s.nin, s.at 4, s.at 11, s.at 12, s.at 13, s.at 14, s.at 54, s.at 55 with
    | 95, 0, (AV.list 2 a0 none), (AV.v (.string a1)), (AV.v (.int .i64 a2)), (AV.v (.string a3)), (AV.v (.int .i64 a4)), (AV.v (.int .i64 a5)), (AV.v (.int .i64 a6)) => some (a0, a1, a2, a3, a4, a5, a6)
    | _, _, _, _, _, _, _, _, _ => none
  st := fun x => mkS 95 [(4, (AV.list 2 x.1 none)), (11, (AV.v (.string x.2.1))), (12, (AV.v (.int .i64 x.2.2.1))), (13, (AV.v (.string x.2.2.2.1))), (14, (AV.v (.int .i64 x.2.2.2.2.1))), (54, (AV.v (.int .i64 x.2.2.2.2.2.1))), (55, (AV.v (.int .i64 x.2.2.2.2.2.2)))] [] (F14_an 32).1.toks 0
  out := fun y => (.exit 2, mkS 95 [(4, (AV.list 2 y.1 none)), (11, (AV.v (.string y.2.1))), (12, (AV.v (.int .i64 y.2.2.1))), (13, (AV.v (.string y.2.2.2.1))), (54, (AV.v (.int .i64 y.2.2.2.2.1))), (55, (AV.v (.int .i64 y.2.2.2.2.2)))] [] (F14_an 32).2.toks 0)
  sp := fun y α k => k (.exit 2, mkS 95 [(4, (AV.list 2 y.1 none)), (11, (AV.v (.string y.2.1))), (12, (AV.v (.int .i64 y.2.2.1))), (13, (AV.v (.string y.2.2.2.1))), (54, (AV.v (.int .i64 y.2.2.2.2.1))), (55, (AV.v (.int .i64 y.2.2.2.2.2)))] [] (F14_an 32).2.toks 0)
  spe := fun y α k => rfl
  b := fun x α kn ke => (match (decide (x.2.2.2.2.1 < 16)) with | true => (match (decide ((x.1.length : Int) > 0)) with | true => (if 0 ≤ (0 : Int) then (match x.1[(0 : Int).toNat]? with | some c13 => (match c13[0]? with | some x14 => (match x14 with | .v (.int q16 n15) => (if q16 = .i64 then (match c13[1]? with | some x17 => (match x17 with | .v (.int q19 n18) => (if q19 = .i64 then (if 0 ≤ (1 : Int) ∧ (1 : Int) ≤ x.1.length then (match F32_d N (x.2.2.1, x.2.2.2.2.1, n15) with | some y20 => (match F33_d N (x.2.2.2.1, n18, 4) with | some y21 => (kn ((x.1.drop (1 : Int).toNat), x.2.1, y20.1, y21.1, (i64 (x.2.2.2.2.1 + 1)), x.2.2.2.2.2.1, x.2.2.2.2.2.2)) | none => none) | none => none) else none) else none) | _ => none) | none => none) else none) | _ => none) | none => none) | none => none) else none) | false => (match F32_d N (x.2.2.1, x.2.2.2.2.1, 0) with | some y22 => (match F33_d N (x.2.2.2.1, 0, 4) with | some y23 => (kn (x.1, x.2.1, y22.1, y23.1, (i64 (x.2.2.2.2.1 + 1)), x.2.2.2.2.2.1, x.2.2.2.2.2.2)) | none => none) | none => none)) | false => (ke (x.1, x.2.1, x.2.2.1, x.2.2.2.1, x.2.2.2.2.2.1, x.2.2.2.2.2.2)))
noncomputable abbrev F14_d32 (N : Nat) (x : (List (List AV)) × ByteArray × Int × ByteArray × Int × Int × Int) : Option (((List (List AV)) × ByteArray × Int × ByteArray × Int × Int)) := (F14_l32 N).L N x
noncomputable def F14_l22 (N : Nat) : LSpec where
  X := (List (List AV)) × ByteArray × Int × Int
  Y := (ByteArray)
  p := fun s => match s.env.length, s.nin, s.at 4, s.at 11, s.at 54, s.at 55 with
    | 95, 0, (AV.list 2 a0 none), (AV.v (.string a1)), (AV.v (.int .i64 a2)), (AV.v (.int .i64 a3)) => some (a0, a1, a2, a3)
    | _, _, _, _, _, _ => none
  st := fun x => mkS 95 [(4, (AV.list 2 x.1 none)), (11, (AV.v (.string x.2.1))), (54, (AV.v (.int .i64 x.2.2.1))), (55, (AV.v (.int .i64 x.2.2.2)))] [] (F14_an 22).1.toks 0
  out := fun y => (.exit 0, mkS 95 [(11, (AV.v (.string y)))] [] (F14_an 22).2.toks 0)
  sp := fun y α k => k (.exit 0, mkS 95 [(11, (AV.v (.string y)))] [] (F14_an 22).2.toks 0)
  spe := fun y α k => rfl
  b := fun x α kn ke => (match (decide (x.2.2.2 < x.2.2.1)) with | true => (match F14_d32 N (x.1, x.2.1, 0, (⟨#[]⟩ : ByteArray), 1, x.2.2.1, x.2.2.2) with | some y24 => (match F33_d N (y24.2.1, y24.2.2.1, 4) with | some y25 => (if y25.1.size + y24.2.2.2.1.size ≤ 9223372036854775807 then (kn (y24.1, (y25.1 ++ y24.2.2.2.1), y24.2.2.2.2.1, (i64 (y24.2.2.2.2.2 + 1)))) else none) | none => none) | none => none) | false => (ke x.2.1))
noncomputable abbrev F14_d22 (N : Nat) (x : (List (List AV)) × ByteArray × Int × Int) : Option ((ByteArray)) := (F14_l22 N).L N x
noncomputable def F14_s (N : Nat) : FSpec where
  X := (List (List AV))
  Y := ByteArray × Int
  ash := [[some 1]]
  bsh := []
  S := ⟨[[none], [none]], [], [], [], []⟩
  bm := false
  pat := fun a b => match a, b with
    | [(AV.list 1 a0 none)], [] => some a0
    | _, _ => none
  args := fun x => [(AV.list 1 x none)]
  bs := fun x => []
  ret := fun y => ⟨(AV.tup [(AV.v (.string y.1)), (AV.v (.int .i64 y.2))]), [], none, [], [], []⟩
  t := fun x α k => (match ((x.length : Int) == 0) with | true => (k ((⟨#[]⟩ : ByteArray), 1)) | false => (match F30_d N x with | some y1 => (match (!y1.2) with | true => (k ((⟨#[]⟩ : ByteArray), 2)) | false => (match F15_d N x with | some y2 => (match (decide (y2 > 8)) with | true => (k ((⟨#[]⟩ : ByteArray), 8)) | false => (if 0 ≤ (0 : Int) then (match x[(0 : Int).toNat]? with | some c3 => (match c3[0]? with | some x4 => (match x4 with | .v (.int q6 n5) => (if q6 = .i64 then (match F31_d N (n5, 32) with | some y7 => (if 0 ≤ (i64 ((x.length : Int) - 1)) then (match x[(i64 ((x.length : Int) - 1)).toNat]? with | some c8 => (match c8[0]? with | some x9 => (match x9 with | .v (.int q11 n10) => (if q11 = .i64 then (match F31_d N (n10, 32) with | some y12 => (if ([[(AV.v (.int .i64 0)), (AV.v (.int .i64 y7.1))], [(AV.v (.int .i64 0)), (AV.v (.int .i64 y12.1))]].length + y1.1.length) * 16 ≤ maxBytes then (match F14_d22 N (([[(AV.v (.int .i64 0)), (AV.v (.int .i64 y7.1))], [(AV.v (.int .i64 0)), (AV.v (.int .i64 y12.1))]] ++ y1.1), (⟨#[]⟩ : ByteArray), y2, 0) with | some y26 => (k (y26, 0)) | none => none) else none) | none => none) else none) | _ => none) | none => none) | none => none) else none) | none => none) else none) | _ => none) | none => none) | none => none) else none)) | none => none)) | none => none))
noncomputable abbrev F14_d (N : Nat) (x : (List (List AV))) : Option (ByteArray × Int) := (F14_s N).d x
theorem F14_par32 (N : Nat) : Par (F14_l32 N).b := by
  intro x α β kn ke kn' ke' r r' h h1 h2
  revert h
  dsimp only [F14_l32]
  (repeat' (first | (with_reducible refine par_ite ?_ ?_) | (with_reducible refine par_both ?_ ?_) | split)) <;> intro h <;> first | exact h1 _ h | exact h2 _ h | (cases h; done)
theorem F14_body32 (N : Nat) (x : (F14_l32 N).X) (α : Type) (kn : AS → Option α) (ke : Out → Option α) : around (tabOf Try.prog) (F14_g N) F14_an (lam N [(22, F14_l22 N), (32, F14_l32 N)]) 32 (bodyOf (nthLoop 32 (Try.f14.body.getD .skip))) ((F14_l32 N).st x) kn ke = (F14_l32 N).b x α (fun x' => kn ((F14_l32 N).st x')) (fun y => (F14_l32 N).sp y α ke) := by kernel_rfl
theorem F14_pat32 (N : Nat) (s : AS) (x : (F14_l32 N).X) (hc : s = canon (F14_an 32).1 s) (h : (F14_l32 N).p s = some x) : s = (F14_l32 N).st x := by
  dsimp only [F14_l32] at h
  split at h
  · cases h
    exact canon_mk hc ‹_› ‹_› rfl rfl rfl ⟨‹_›, ‹_›, ‹_›, ‹_›, ‹_›, ‹_›, ‹_›, trivial⟩ trivial
  · cases h
theorem F14_loop32 (N : Nat) : ∀ s o, s = canon (F14_an 32).1 s → (lam N [(22, F14_l22 N), (32, F14_l32 N)]).v 32 s = some o → LoopSem Try.prog (nthLoop 32 (Try.f14.body.getD .skip)) s o :=
  loop_ok (tabOf_ok Try.prog) (gam_ok _) mixed F14_an N [(22, F14_l22 N), (32, F14_l32 N)] 32 (bodyOf (nthLoop 32 (Try.f14.body.getD .skip))) (nthLoop 32 (Try.f14.body.getD .skip)) (by kernel_rfl) (by
    have e : actOf F14_an (bodyOf (nthLoop 32 (Try.f14.body.getD .skip))) (32 + 1) = [] := by kernel_rfl
    rw [e]
    intro p hp
    cases hp) (F14_l32 N) rfl (fun s x hc h => F14_pat32 N s x hc h) (fun x => rfl) (fun x α kn ke => (F14_body32 N x α kn ke).trans (congrArg ((F14_l32 N).b x α _) (funext fun y => (F14_l32 N).spe y α ke))) (F14_par32 N)
theorem F14_par22 (N : Nat) : Par (F14_l22 N).b := by
  intro x α β kn ke kn' ke' r r' h h1 h2
  revert h
  dsimp only [F14_l22]
  (repeat' (first | (with_reducible refine par_ite ?_ ?_) | (with_reducible refine par_both ?_ ?_) | split)) <;> intro h <;> first | exact h1 _ h | exact h2 _ h | (cases h; done)
theorem F14_body22 (N : Nat) (x : (F14_l22 N).X) (α : Type) (kn : AS → Option α) (ke : Out → Option α) : around (tabOf Try.prog) (F14_g N) F14_an (lam N [(22, F14_l22 N), (32, F14_l32 N)]) 22 (bodyOf (nthLoop 22 (Try.f14.body.getD .skip))) ((F14_l22 N).st x) kn ke = (F14_l22 N).b x α (fun x' => kn ((F14_l22 N).st x')) (fun y => (F14_l22 N).sp y α ke) := by kernel_rfl
theorem F14_pat22 (N : Nat) (s : AS) (x : (F14_l22 N).X) (hc : s = canon (F14_an 22).1 s) (h : (F14_l22 N).p s = some x) : s = (F14_l22 N).st x := by
  dsimp only [F14_l22] at h
  split at h
  · cases h
    exact canon_mk hc ‹_› ‹_› rfl rfl rfl ⟨‹_›, ‹_›, ‹_›, ‹_›, trivial⟩ trivial
  · cases h
theorem F14_loop22 (N : Nat) : ∀ s o, s = canon (F14_an 22).1 s → (lam N [(22, F14_l22 N), (32, F14_l32 N)]).v 22 s = some o → LoopSem Try.prog (nthLoop 22 (Try.f14.body.getD .skip)) s o :=
  loop_ok (tabOf_ok Try.prog) (gam_ok _) mixed F14_an N [(22, F14_l22 N), (32, F14_l32 N)] 22 (bodyOf (nthLoop 22 (Try.f14.body.getD .skip))) (nthLoop 22 (Try.f14.body.getD .skip)) (by kernel_rfl) (by
    have e : actOf F14_an (bodyOf (nthLoop 22 (Try.f14.body.getD .skip))) (22 + 1) = [(32, nthLoop 32 (Try.f14.body.getD .skip))] := by kernel_rfl
    rw [e]
    intro p hp
    rcases List.mem_cons.1 hp with rfl | hp
    · exact F14_loop32 N
    cases hp) (F14_l22 N) rfl (fun s x hc h => F14_pat22 N s x hc h) (fun x => rfl) (fun x α kn ke => (F14_body22 N x α kn ke).trans (congrArg ((F14_l22 N).b x α _) (funext fun y => (F14_l22 N).spe y α ke))) (F14_par22 N)
theorem F14_parF (N : Nat) : ParF (F14_s N).t := by
  intro x α β k k' r r' h h1
  revert h
  dsimp only [F14_s]
  (repeat' (first | (with_reducible refine par_ite ?_ ?_) | (with_reducible refine par_both ?_ ?_) | split)) <;> intro h <;> first | exact h1 _ h | (cases h; done)
theorem F14_text (N : Nat) (x : (F14_s N).X) : acall (tabOf Try.prog) (F14_g N) F14_an (lam N [(22, F14_l22 N), (32, F14_l32 N)]) Try.f14 (F14_s N).S ((F14_s N).args x) ((F14_s N).bs x) = (F14_s N).t x Ret (fun y => some ((F14_s N).ret y)) := by kernel_rfl
theorem F14_pat (N : Nat) (a : List AV) (b : List (List AV)) (x : (F14_s N).X) (h : (F14_s N).pat a b = some x) : a = (F14_s N).args x ∧ b = (F14_s N).bs x := by
  dsimp only [F14_s] at h
  split at h
  · cases h; exact ⟨rfl, rfl⟩
  · cases h
noncomputable def F14_e (N : Nat) : Ent Try.prog := entOf (tabOf_ok Try.prog) (gam_ok _) mixed 14 Try.f14 Try.func14 rfl F14_an (lam N [(22, F14_l22 N), (32, F14_l32 N)]) (by
    have e : actOf F14_an (Try.f14.body.getD .skip) 0 = [(22, nthLoop 22 (Try.f14.body.getD .skip)), (32, nthLoop 32 (Try.f14.body.getD .skip))] := by kernel_rfl
    rw [e]
    intro p hp
    rcases List.mem_cons.1 hp with rfl | hp
    · exact F14_loop22 N
    rcases List.mem_cons.1 hp with rfl | hp
    · exact F14_loop32 N
    cases hp) (F14_s N) (fun _ => ⟨rfl, rfl⟩) (F14_text N) (F14_pat N) (F14_parF N)
/-! ### seismonet/bits.Get (function 37) -/
def F37_an : Nat → Keep × Keep := anL [(13, ⟨[0, 1, 8, 23, 24], [], [], [], [], [], [], [], false⟩, ⟨[8], [], [], [], [], [], [], [], false⟩)]
noncomputable def F37_g (N : Nat) : GamK := gam (P := Try.prog) [F60_e N]
noncomputable def F37_l13 (N : Nat) : LSpec where
  X := ByteArray × Int × Int × Int × Int
  Y := (Int)
  p := fun s => match s.env.length, s.nin, s.at 0, s.at 1, s.at 8, s.at 23, s.at 24 with
    | 38, 0, (AV.v (.string a0)), (AV.v (.int .i64 a1)), (AV.v (.int .i64 a2)), (AV.v (.int .i64 a3)), (AV.v (.int .i64 a4)) => some (a0, a1, a2, a3, a4)
    | _, _, _, _, _, _, _ => none
  st := fun x => mkS 38 [(0, (AV.v (.string x.1))), (1, (AV.v (.int .i64 x.2.1))), (8, (AV.v (.int .i64 x.2.2.1))), (23, (AV.v (.int .i64 x.2.2.2.1))), (24, (AV.v (.int .i64 x.2.2.2.2)))] [] (F37_an 13).1.toks 0
  out := fun y => (.exit 0, mkS 38 [(8, (AV.v (.int .i64 y)))] [] (F37_an 13).2.toks 0)
  sp := fun y α k => k (.exit 0, mkS 38 [(8, (AV.v (.int .i64 y)))] [] (F37_an 13).2.toks 0)
  spe := fun y α k => rfl
  b := fun x α kn ke => (match (decide (x.2.2.2.2 < x.2.2.2.1)) with | true => (if 0 ≤ (i64 (x.2.1 + x.2.2.2.2)) then (match x.1[(i64 (x.2.1 + x.2.2.2.2)).toNat]? with | some c2 => (kn (x.1, x.2.1, (bOr .i64 (shL .i64 x.2.2.1 (8 : Int)) (IntKind.i64.wrap (c2.toNat : Int))), x.2.2.2.1, (i64 (x.2.2.2.2 + 1)))) | none => none) else none) | false => (ke x.2.2.1))
noncomputable abbrev F37_d13 (N : Nat) (x : ByteArray × Int × Int × Int × Int) : Option ((Int)) := (F37_l13 N).L N x
noncomputable def F37_s (N : Nat) : FSpec where
  X := ByteArray × Int × Int
  Y := Int × Int
  ash := [[none], [none], [none]]
  bsh := []
  S := ⟨[[none], [none]], [], [], [], []⟩
  bm := false
  pat := fun a b => match a, b with
    | [(AV.v (.string a0)), (AV.v (.int .i64 a1)), (AV.v (.int .i64 a2))], [] => some (a0, a1, a2)
    | _, _ => none
  args := fun x => [(AV.v (.string x.1)), (AV.v (.int .i64 x.2.1)), (AV.v (.int .i64 x.2.2))]
  bs := fun x => []
  ret := fun y => ⟨(AV.tup [(AV.v (.int .i64 y.1)), (AV.v (.int .i64 y.2))]), [], none, [], [], []⟩
  t := fun x α k => (match F60_d N (x.2.2, 1, 7) with | some y1 => (match (!y1) with | true => (k (0, 2)) | false => (match (decide (x.2.1 < 0)) with | true => (k (0, 2)) | false => (match (decide (x.2.1 > (i64 ((x.1.size : Int) - x.2.2)))) with | true => (k (0, 4)) | false => (match F37_d13 N (x.1, x.2.1, 0, x.2.2, 0) with | some y3 => (k (y3, 0)) | none => none)))) | none => none)
noncomputable abbrev F37_d (N : Nat) (x : ByteArray × Int × Int) : Option (Int × Int) := (F37_s N).d x
theorem F37_par13 (N : Nat) : Par (F37_l13 N).b := by
  intro x α β kn ke kn' ke' r r' h h1 h2
  revert h
  dsimp only [F37_l13]
  (repeat' (first | (with_reducible refine par_ite ?_ ?_) | (with_reducible refine par_both ?_ ?_) | split)) <;> intro h <;> first | exact h1 _ h | exact h2 _ h | (cases h; done)
theorem F37_body13 (N : Nat) (x : (F37_l13 N).X) (α : Type) (kn : AS → Option α) (ke : Out → Option α) : around (tabOf Try.prog) (F37_g N) F37_an (lam N [(13, F37_l13 N)]) 13 (bodyOf (nthLoop 13 (Try.f37.body.getD .skip))) ((F37_l13 N).st x) kn ke = (F37_l13 N).b x α (fun x' => kn ((F37_l13 N).st x')) (fun y => (F37_l13 N).sp y α ke) := by kernel_rfl
theorem F37_pat13 (N : Nat) (s : AS) (x : (F37_l13 N).X) (hc : s = canon (F37_an 13).1 s) (h : (F37_l13 N).p s = some x) : s = (F37_l13 N).st x := by
  dsimp only [F37_l13] at h
  split at h
  · cases h
    exact canon_mk hc ‹_› ‹_› rfl rfl rfl ⟨‹_›, ‹_›, ‹_›, ‹_›, ‹_›, trivial⟩ trivial
  · cases h
theorem F37_loop13 (N : Nat) : ∀ s o, s = canon (F37_an 13).1 s → (lam N [(13, F37_l13 N)]).v 13 s = some o → LoopSem Try.prog (nthLoop 13 (Try.f37.body.getD .skip)) s o :=
  loop_ok (tabOf_ok Try.prog) (gam_ok _) mixed F37_an N [(13, F37_l13 N)] 13 (bodyOf (nthLoop 13 (Try.f37.body.getD .skip))) (nthLoop 13 (Try.f37.body.getD .skip)) (by kernel_rfl) (by
    have e : actOf F37_an (bodyOf (nthLoop 13 (Try.f37.body.getD .skip))) (13 + 1) = [] := by kernel_rfl
    rw [e]
    intro p hp
    cases hp) (F37_l13 N) rfl (fun s x hc h => F37_pat13 N s x hc h) (fun x => rfl) (fun x α kn ke => (F37_body13 N x α kn ke).trans (congrArg ((F37_l13 N).b x α _) (funext fun y => (F37_l13 N).spe y α ke))) (F37_par13 N)
theorem F37_parF (N : Nat) : ParF (F37_s N).t := by
  intro x α β k k' r r' h h1
  revert h
  dsimp only [F37_s]
  (repeat' (first | (with_reducible refine par_ite ?_ ?_) | (with_reducible refine par_both ?_ ?_) | split)) <;> intro h <;> first | exact h1 _ h | (cases h; done)
theorem F37_text (N : Nat) (x : (F37_s N).X) : acall (tabOf Try.prog) (F37_g N) F37_an (lam N [(13, F37_l13 N)]) Try.f37 (F37_s N).S ((F37_s N).args x) ((F37_s N).bs x) = (F37_s N).t x Ret (fun y => some ((F37_s N).ret y)) := by kernel_rfl
theorem F37_pat (N : Nat) (a : List AV) (b : List (List AV)) (x : (F37_s N).X) (h : (F37_s N).pat a b = some x) : a = (F37_s N).args x ∧ b = (F37_s N).bs x := by
  dsimp only [F37_s] at h
  split at h
  · cases h; exact ⟨rfl, rfl⟩
  · cases h
noncomputable def F37_e (N : Nat) : Ent Try.prog := entOf (tabOf_ok Try.prog) (gam_ok _) mixed 37 Try.f37 Try.func37 rfl F37_an (lam N [(13, F37_l13 N)]) (by
    have e : actOf F37_an (Try.f37.body.getD .skip) 0 = [(13, nthLoop 13 (Try.f37.body.getD .skip))] := by kernel_rfl
    rw [e]
    intro p hp
    rcases List.mem_cons.1 hp with rfl | hp
    · exact F37_loop13 N
    cases hp) (F37_s N) (fun _ => ⟨rfl, rfl⟩) (F37_text N) (F37_pat N) (F37_parF N)
/-! ### seismonet/bits.Pair (function 51) -/
def F51_an : Nat → Keep × Keep := anL []
noncomputable def F51_g (N : Nat) : GamK := gam (P := Try.prog) [F59_e N]
noncomputable def F51_s (N : Nat) : FSpec where
  X := Int × Int
  Y := Int × Int
  ash := [[none], [none]]
  bsh := []
  S := ⟨[[none], [none]], [], [], [], []⟩
  bm := false
  pat := fun a b => match a, b with
    | [(AV.v (.int .i64 a0)), (AV.v (.int .i64 a1))], [] => some (a0, a1)
    | _, _ => none
  args := fun x => [(AV.v (.int .i64 x.1)), (AV.v (.int .i64 x.2))]
  bs := fun x => []
  ret := fun y => ⟨(AV.tup [(AV.v (.int .i64 y.1)), (AV.v (.int .i64 y.2))]), [], none, [], [], []⟩
  t := fun x α k => (match F59_d N (x.1, x.2) with | some y1 => (match (!y1.2) with | true => (k (0, 2)) | false => (if y1.1 < 0 then none else (k ((bAnd .i64 (shR .i64 x.1 y1.1) (3 : Int)), 0)))) | none => none)
noncomputable abbrev F51_d (N : Nat) (x : Int × Int) : Option (Int × Int) := (F51_s N).d x
theorem F51_parF (N : Nat) : ParF (F51_s N).t := by
  intro x α β k k' r r' h h1
  revert h
  dsimp only [F51_s]
  (repeat' (first | (with_reducible refine par_ite ?_ ?_) | (with_reducible refine par_both ?_ ?_) | split)) <;> intro h <;> first | exact h1 _ h | (cases h; done)
theorem F51_text (N : Nat) (x : (F51_s N).X) : acall (tabOf Try.prog) (F51_g N) F51_an (lam N []) Try.f51 (F51_s N).S ((F51_s N).args x) ((F51_s N).bs x) = (F51_s N).t x Ret (fun y => some ((F51_s N).ret y)) := by kernel_rfl
theorem F51_pat (N : Nat) (a : List AV) (b : List (List AV)) (x : (F51_s N).X) (h : (F51_s N).pat a b = some x) : a = (F51_s N).args x ∧ b = (F51_s N).bs x := by
  dsimp only [F51_s] at h
  split at h
  · cases h; exact ⟨rfl, rfl⟩
  · cases h
noncomputable def F51_e (N : Nat) : Ent Try.prog := entOf (tabOf_ok Try.prog) (gam_ok _) mixed 51 Try.f51 Try.func51 rfl F51_an (lam N []) (by
    have e : actOf F51_an (Try.f51.body.getD .skip) 0 = [] := by kernel_rfl
    rw [e]
    intro p hp
    cases hp) (F51_s N) (fun _ => ⟨rfl, rfl⟩) (F51_text N) (F51_pat N) (F51_parF N)
/-! ### seismonet/steim.Codes (function 28) -/
def F28_an : Nat → Keep × Keep := anL [(10, ⟨[4, 18], [(6, 1)], [], [], [], [], [], [], false⟩, ⟨[], [(6, 1)], [], [], [], [], [], [], false⟩)]
noncomputable def F28_g (N : Nat) : GamK := gam (P := Try.prog) [F37_e N, F51_e N]
noncomputable def F28_l10 (N : Nat) : LSpec where
  X := (List (List AV)) × Int × Int
  Y := ((List (List AV)))
  p := fun s => match s.env.length, s.nin, s.at 6, s.at 4, s.at 18 with
    | 33, 0, (AV.list 1 a0 (some 1280000384)), (AV.v (.int .i64 a1)), (AV.v (.int .i64 a2)) => some (a0, a1, a2)
    | _, _, _, _, _ => none
  st := fun x => mkS 33 [(6, (AV.list 1 x.1 (some 1280000384))), (4, (AV.v (.int .i64 x.2.1))), (18, (AV.v (.int .i64 x.2.2)))] [] (F28_an 10).1.toks 0
  out := fun y => (.exit 0, mkS 33 [(6, (AV.list 1 y (some 1280000384)))] [] (F28_an 10).2.toks 0)
  sp := fun y α k => k (.exit 0, mkS 33 [(6, (AV.list 1 y (some 1280000384)))] [] (F28_an 10).2.toks 0)
  spe := fun y α k => rfl
  b := fun x α kn ke => (match (decide (x.2.2 < 16)) with | true => (match F51_d N (x.2.1, x.2.2) with | some y2 => (if (x.1.length + [[(AV.v (.int .i64 y2.1))]].length) * 8 ≤ maxBytes then (kn ((x.1 ++ [[(AV.v (.int .i64 y2.1))]]), x.2.1, (i64 (x.2.2 + 1)))) else none) | none => none) | false => (ke x.1))
noncomputable abbrev F28_d10 (N : Nat) (x : (List (List AV)) × Int × Int) : Option (((List (List AV)))) := (F28_l10 N).L N x
noncomputable def F28_s (N : Nat) : FSpec where
  X := ByteArray
  Y := (List (List AV)) × Int
  ash := [[none]]
  bsh := []
  S := ⟨[[some 2000001], [none]], [], [], [], []⟩
  bm := false
  pat := fun a b => match a, b with
    | [(AV.v (.string a0))], [] => some a0
    | _, _ => none
  args := fun x => [(AV.v (.string x))]
  bs := fun x => []
  ret := fun y => ⟨(AV.tup [(AV.list 1 y.1 (some 2560000000)), (AV.v (.int .i64 y.2))]), [], none, [], [2560000000], []⟩
  t := fun x α k => (match ((x.size : Int) != 64) with | true => (k (([] : List (List AV)), 3)) | false => (match F37_d N (x, 0, 4) with | some y1 => (match F28_d10 N (([] : List (List AV)), y1.1, 0) with | some y3 => (k (y3, 0)) | none => none) | none => none))
noncomputable abbrev F28_d (N : Nat) (x : ByteArray) : Option ((List (List AV)) × Int) := (F28_s N).d x
theorem F28_par10 (N : Nat) : Par (F28_l10 N).b := by
  intro x α β kn ke kn' ke' r r' h h1 h2
  revert h
  dsimp only [F28_l10]
  (repeat' (first | (with_reducible refine par_ite ?_ ?_) | (with_reducible refine par_both ?_ ?_) | split)) <;> intro h <;> first | exact h1 _ h | exact h2 _ h | (cases h; done)
theorem F28_body10 (N : Nat) (x : (F28_l10 N).X) (α : Type) (kn : AS → Option α) (ke : Out → Option α) : around (tabOf Try.prog) (F28_g N) F28_an (lam N [(10, F28_l10 N)]) 10 (bodyOf (nthLoop 10 (Try.f28.body.getD .skip))) ((F28_l10 N).st x) kn ke = (F28_l10 N).b x α (fun x' => kn ((F28_l10 N).st x')) (fun y => (F28_l10 N).sp y α ke) := by kernel_rfl
theorem F28_pat10 (N : Nat) (s : AS) (x : (F28_l10 N).X) (hc : s = canon (F28_an 10).1 s) (h : (F28_l10 N).p s = some x) : s = (F28_l10 N).st x := by
  dsimp only [F28_l10] at h
  split at h
  · cases h
    exact canon_mk hc ‹_› ‹_› rfl rfl rfl ⟨‹_›, ‹_›, ‹_›, trivial⟩ trivial
  · cases h
theorem F28_loop10 (N : Nat) : ∀ s o, s = canon (F28_an 10).1 s → (lam N [(10, F28_l10 N)]).v 10 s = some o → LoopSem Try.prog (nthLoop 10 (Try.f28.body.getD .skip)) s o :=
  loop_ok (tabOf_ok Try.prog) (gam_ok _) mixed F28_an N [(10, F28_l10 N)] 10 (bodyOf (nthLoop 10 (Try.f28.body.getD .skip))) (nthLoop 10 (Try.f28.body.getD .skip)) (by kernel_rfl) (by
    have e : actOf F28_an (bodyOf (nthLoop 10 (Try.f28.body.getD .skip))) (10 + 1) = [] := by kernel_rfl
    rw [e]
    intro p hp
    cases hp) (F28_l10 N) rfl (fun s x hc h => F28_pat10 N s x hc h) (fun x => rfl) (fun x α kn ke => (F28_body10 N x α kn ke).trans (congrArg ((F28_l10 N).b x α _) (funext fun y => (F28_l10 N).spe y α ke))) (F28_par10 N)
theorem F28_parF (N : Nat) : ParF (F28_s N).t := by
  intro x α β k k' r r' h h1
  revert h
  dsimp only [F28_s]
  (repeat' (first | (with_reducible refine par_ite ?_ ?_) | (with_reducible refine par_both ?_ ?_) | split)) <;> intro h <;> first | exact h1 _ h | (cases h; done)
theorem F28_text (N : Nat) (x : (F28_s N).X) : acall (tabOf Try.prog) (F28_g N) F28_an (lam N [(10, F28_l10 N)]) Try.f28 (F28_s N).S ((F28_s N).args x) ((F28_s N).bs x) = (F28_s N).t x Ret (fun y => some ((F28_s N).ret y)) := by kernel_rfl
theorem F28_pat (N : Nat) (a : List AV) (b : List (List AV)) (x : (F28_s N).X) (h : (F28_s N).pat a b = some x) : a = (F28_s N).args x ∧ b = (F28_s N).bs x := by
  dsimp only [F28_s] at h
  split at h
  · cases h; exact ⟨rfl, rfl⟩
  · cases h
noncomputable def F28_e (N : Nat) : Ent Try.prog := entOf (tabOf_ok Try.prog) (gam_ok _) mixed 28 Try.f28 Try.func28 rfl F28_an (lam N [(10, F28_l10 N)]) (by
    have e : actOf F28_an (Try.f28.body.getD .skip) 0 = [(10, nthLoop 10 (Try.f28.body.getD .skip))] := by kernel_rfl
    rw [e]
    intro p hp
    rcases List.mem_cons.1 hp with rfl | hp
    · exact F28_loop10 N
    cases hp) (F28_s N) (fun _ => ⟨rfl, rfl⟩) (F28_text N) (F28_pat N) (F28_parF N)
/-! ### seismonet/bits.Sign (function 38) -/
def F38_an : Nat → Keep × Keep := anL []
noncomputable def F38_g (N : Nat) : GamK := gam (P := Try.prog) [F60_e N]
noncomputable def F38_s (N : Nat) : FSpec where
  X := Int × Int
  Y := Int × Int
  ash := [[none], [none]]
  bsh := []
  S := ⟨[[none], [none]], [], [], [], []⟩
  bm := false
  pat := fun a b => match a, b with
    | [(AV.v (.int .i64 a0)), (AV.v (.int .i64 a1))], [] => some (a0, a1)
    | _, _ => none
  args := fun x => [(AV.v (.int .i64 x.1)), (AV.v (.int .i64 x.2))]
  bs := fun x => []
  ret := fun y => ⟨(AV.tup [(AV.v (.int .i64 y.1)), (AV.v (.int .i64 y.2))]), [], none, [], [], []⟩
  t := fun x α k => (match F60_d N (x.2, 1, 56) with | some y1 => (match (!y1) with | true => (k (0, 2)) | false => (if x.2 < 0 then none else (match F60_d N (x.1, 0, (i64 ((shL .i64 (1 : Int) x.2) - 1))) with | some y2 => (match (!y2) with | true => (k (0, 2)) | false => (if (i64 (x.2 - 1)) < 0 then none else (match ((shR .i64 x.1 (i64 (x.2 - 1))) == 1) with | true => (if x.2 < 0 then none else (k ((i64 (x.1 - (shL .i64 (1 : Int) x.2))), 0))) | false => (k (x.1, 0))))) | none => none))) | none => none)
noncomputable abbrev F38_d (N : Nat) (x : Int × Int) : Option (Int × Int) := (F38_s N).d x
theorem F38_parF (N : Nat) : ParF (F38_s N).t := by
  intro x α β k k' r r' h h1
  revert h
  dsimp only [F38_s]
  (repeat' (first | (with_reducible refine par_ite ?_ ?_) | (with_reducible refine par_both ?_ ?_) | split)) <;> intro h <;> first | exact h1 _ h | (cases h; done)
theorem F38_text (N : Nat) (x : (F38_s N).X) : acall (tabOf Try.prog) (F38_g N) F38_an (lam N []) Try.f38 (F38_s N).S ((F38_s N).args x) ((F38_s N).bs x) = (F38_s N).t x Ret (fun y => some ((F38_s N).ret y)) := by kernel_rfl
theorem F38_pat (N : Nat) (a : List AV) (b : List (List AV)) (x : (F38_s N).X) (h : (F38_s N).pat a b = some x) : a = (F38_s N).args x ∧ b = (F38_s N).bs x := by
  dsimp only [F38_s] at h
  split at h
  · cases h; exact ⟨rfl, rfl⟩
  · cases h
noncomputable def F38_e (N : Nat) : Ent Try.prog := entOf (tabOf_ok Try.prog) (gam_ok _) mixed 38 Try.f38 Try.func38 rfl F38_an (lam N []) (by
    have e : actOf F38_an (Try.f38.body.getD .skip) 0 = [] := by kernel_rfl
    rw [e]
    intro p hp
    cases hp) (F38_s N) (fun _ => ⟨rfl, rfl⟩) (F38_text N) (F38_pat N) (F38_parF N)
/-! ### seismonet/steim.unpack (function 61) -/
def F61_an : Nat → Keep × Keep := anL [(6, ⟨[1, 5, 7], [(6, 1)], [], [], [], [], [], [], false⟩, ⟨[], [(6, 1)], [], [], [], [], [], [], false⟩)]
noncomputable def F61_g (N : Nat) : GamK := gam (P := Try.prog) [F55_e N, F38_e N]
noncomputable def F61_l6 (N : Nat) : LSpec where
  X := (List (List AV)) × Int × Int × Int
  Y := ((List (List AV)))
  p := fun s => match s.env.length, s.nin, s.at 6, s.at 1, s.at 5, s.at 7 with
    | 41, 0, (AV.list 1 a0 (some 1280000384)), (AV.v (.int .i64 a1)), (AV.v (.int .i64 a2)), (AV.v (.int .i64 a3)) => some (a0, a1, a2, a3)
    | _, _, _, _, _, _ => none
  st := fun x => mkS 41 [(6, (AV.list 1 x.1 (some 1280000384))), (1, (AV.v (.int .i64 x.2.1))), (5, (AV.v (.int .i64 x.2.2.1))), (7, (AV.v (.int .i64 x.2.2.2)))] [] (F61_an 6).1.toks 0
  out := fun y => (.exit 0, mkS 41 [(6, (AV.list 1 y (some 1280000384)))] [] (F61_an 6).2.toks 0)
  sp := fun y α k => k (.exit 0, mkS 41 [(6, (AV.list 1 y (some 1280000384)))] [] (F61_an 6).2.toks 0)
  spe := fun y α k => rfl
  b := fun x α kn ke => (match (decide (x.2.2.2 ≥ 0)) with | true => (if x.2.2.1 = 0 then none else (if (i64 (x.2.2.2 * (i64 ((32 : Int).tdiv x.2.2.1)))) < 0 then none else (if (i64 ((32 : Int).tdiv x.2.2.1)) < 0 then none else (match F38_d N ((bAnd .i64 (shR .i64 x.2.1 (i64 (x.2.2.2 * (i64 ((32 : Int).tdiv x.2.2.1))))) (i64 ((shL .i64 (1 : Int) (i64 ((32 : Int).tdiv x.2.2.1))) - 1))), (i64 ((32 : Int).tdiv x.2.2.1))) with | some y5 => (if (x.1.length + [[(AV.v (.int .i64 y5.1))]].length) * 8 ≤ maxBytes then (kn ((x.1 ++ [[(AV.v (.int .i64 y5.1))]]), x.2.1, x.2.2.1, (i64 (x.2.2.2 - 1)))) else none) | none => none)))) | false => (ke x.1))
noncomputable abbrev F61_d6 (N : Nat) (x : (List (List AV)) × Int × Int × Int) : Option (((List (List AV)))) := (F61_l6 N).L N x
noncomputable def F61_s (N : Nat) : FSpec where
  X := Int × Int
  Y := (List (List AV))
  ash := [[none], [none]]
  bsh := []
  S := ⟨[[some 2000001]], [], [], [], []⟩
  bm := false
  pat := fun a b => match a, b with
    | [(AV.v (.int .i64 a0)), (AV.v (.int .i64 a1))], [] => some (a0, a1)
    | _, _ => none
  args := fun x => [(AV.v (.int .i64 x.1)), (AV.v (.int .i64 x.2))]
  bs := fun x => []
  ret := fun y => ⟨(AV.list 1 y (some 2560000000)), [], none, [], [2560000000], []⟩
  t := fun x α k => (match F55_d N () with | some y1 => (if 0 ≤ x.1 ∧ x.1 < 4 then (match [(AV.v (.int .i64 y1.1)), (AV.v (.int .i64 y1.2.1)), (AV.v (.int .i64 y1.2.2.1)), (AV.v (.int .i64 y1.2.2.2))][(x.1.toNat * 1)]? with | some x2 => (match x2 with | .v (.int q4 n3) => (if q4 = .i64 then (match F61_d6 N (([] : List (List AV)), x.2, n3, (i64 (n3 - 1))) with | some y6 => (k y6) | none => none) else none) | _ => none) | none => none) else none) | none => none)
noncomputable abbrev F61_d (N : Nat) (x : Int × Int) : Option ((List (List AV))) := (F61_s N).d x
theorem F61_par6 (N : Nat) : Par (F61_l6 N).b := by
  intro x α β kn ke kn' ke' r r' h h1 h2
  revert h
  dsimp only [F61_l6]
  (repeat' (first | (with_reducible refine par_ite ?_ ?_) | (with_reducible refine par_both ?_ ?_) | split)) <;> intro h <;> first | exact h1 _ h | exact h2 _ h | (cases h; done)
theorem F61_body6 (N : Nat) (x : (F61_l6 N).X) (α : Type) (kn : AS → Option α) (ke : Out → Option α) : around (tabOf Try.prog) (F61_g N) F61_an (lam N [(6, F61_l6 N)]) 6 (bodyOf (nthLoop 6 (Try.f61.body.getD .skip))) ((F61_l6 N).st x) kn ke = (F61_l6 N).b x α (fun x' => kn ((F61_l6 N).st x')) (fun y => (F61_l6 N).sp y α ke) := by kernel_rfl
theorem F61_pat6 (N : Nat) (s : AS) (x : (F61_l6 N).X) (hc : s = canon (F61_an 6).1 s) (h : (F61_l6 N).p s = some x) : s = (F61_l6 N).st x := by
  dsimp only [F61_l6] at h
  split at h
  · cases h
    exact canon_mk hc ‹_› ‹_› rfl rfl rfl ⟨‹_›, ‹_›, ‹_›, ‹_›, trivial⟩ trivial
  · cases h
theorem F61_loop6 (N : Nat) : ∀ s o, s = canon (F61_an 6).1 s → (lam N [(6, F61_l6 N)]).v 6 s = some o → LoopSem Try.prog (nthLoop 6 (Try.f61.body.getD .skip)) s o :=
  loop_ok (tabOf_ok Try.prog) (gam_ok _) mixed F61_an N [(6, F61_l6 N)] 6 (bodyOf (nthLoop 6 (Try.f61.body.getD .skip))) (nthLoop 6 (Try.f61.body.getD .skip)) (by kernel_rfl) (by
    have e : actOf F61_an (bodyOf (nthLoop 6 (Try.f61.body.getD .skip))) (6 + 1) = [] := by kernel_rfl
    rw [e]
    intro p hp
    cases hp) (F61_l6 N) rfl (fun s x hc h => F61_pat6 N s x hc h) (fun x => rfl) (fun x α kn ke => (F61_body6 N x α kn ke).trans (congrArg ((F61_l6 N).b x α _) (funext fun y => (F61_l6 N).spe y α ke))) (F61_par6 N)
theorem F61_parF (N : Nat) : ParF (F61_s N).t := by
  intro x α β k k' r r' h h1
  revert h
  dsimp only [F61_s]
  (repeat' (first | (with_reducible refine par_ite ?_ ?_) | (with_reducible refine par_both ?_ ?_) | split)) <;> intro h <;> first | exact h1 _ h | (cases h; done)
theorem F61_text (N : Nat) (x : (F61_s N).X) : acall (tabOf Try.prog) (F61_g N) F61_an (lam N [(6, F61_l6 N)]) Try.f61 (F61_s N).S ((F61_s N).args x) ((F61_s N).bs x) = (F61_s N).t x Ret (fun y => some ((F61_s N).ret y)) := by kernel_rfl
theorem F61_pat (N : Nat) (a : List AV) (b : List (List AV)) (x : (F61_s N).X) (h : (F61_s N).pat a b = some x) : a = (F61_s N).args x ∧ b = (F61_s N).bs x := by
  dsimp only [F61_s] at h
  split at h
  · cases h; exact ⟨rfl, rfl⟩
  · cases h
noncomputable def F61_e (N : Nat) : Ent Try.prog := entOf (tabOf_ok Try.prog) (gam_ok _) mixed 61 Try.f61 Try.func61 rfl F61_an (lam N [(6, F61_l6 N)]) (by
    have e : actOf F61_an (Try.f61.body.getD .skip) 0 = [(6, nthLoop 6 (Try.f61.body.getD .skip))] := by kernel_rfl
    rw [e]
    intro p hp
    rcases List.mem_cons.1 hp with rfl | hp
    · exact F61_loop6 N
    cases hp) (F61_s N) (fun _ => ⟨rfl, rfl⟩) (F61_text N) (F61_pat N) (F61_parF N)
/-! ### seismonet/steim.decompress (function 35) -/
def F35_an : Nat → Keep × Keep := anL [(10, ⟨[0, 25, 26], [(5, 1)], [], [], [], [], [], [], false⟩, ⟨[3], [(5, 1)], [], [(2, 1)], [], [], [], [], false⟩), (25, ⟨[0, 7, 10, 25, 26], [(5, 1)], [], [(8, 1)], [], [], [], [], false⟩, ⟨[0, 25, 26], [(5, 1)], [], [], [], [], [], [], false⟩)]
noncomputable def F35_g (N : Nat) : GamK := gam (P := Try.prog) [F34_e N, F28_e N, F37_e N, F61_e N]
noncomputable def F35_l25 (N : Nat) : LSpec where
  X := (List (List AV)) × (List (List AV)) × ByteArray × ByteArray × Int × Int × Int
  Y := ((List (List AV)) × ByteArray × Int × Int)
  p := fun s => match s.env.length, s.nin, s.at 5, s.at 8, s.at 0, s.at 7, s.at 10, s.at 25, s.at 26 with
    | 82, 0, (AV.list 1 a0 (some 1280000320)), (AV.list 1 a1 none), (AV.v (.string a2)), (AV.v (.string a3)), (AV.v (.int .i64 a4)), (AV.v (.int .i64 a5)), (AV.v (.int .i64 a6)) => some (a0, a1, a2, a3, a4, a5, a6)
    | _, _, _, _, _, _, _, _, _ => none
  st := fun x => mkS 82 [(5, (AV.list 1 x.1 (some 1280000320))), (8, (AV.list 1 x.2.1 none)), (0, (AV.v (.string x.2.2.1))), (7, (AV.v (.string x.2.2.2.1))), (10, (AV.v (.int .i64 x.2.2.2.2.1))), (25, (AV.v (.int .i64 x.2.2.2.2.2.1))), (26, (AV.v (.int .i64 x.2.2.2.2.2.2)))] [] (F35_an 25).1.toks 0
  out := fun y => (.exit 2, mkS 82 [(5, (AV.list 1 y.1 (some 1280000320))), (0, (AV.v (.string y.2.1))), (25, (AV.v (.int .i64 y.2.2.1))), (26, (AV.v (.int .i64 y.2.2.2)))] [] (F35_an 25).2.toks 0)
  sp := fun y α k => k (.exit 2, mkS 82 [(5, (AV.list 1 y.1 (some 1280000320))), (0, (AV.v (.string y.2.1))), (25, (AV.v (.int .i64 y.2.2.1))), (26, (AV.v (.int .i64 y.2.2.2)))] [] (F35_an 25).2.toks 0)
  spe := fun y α k => rfl
  b := fun x α kn ke => (match (decide (x.2.2.2.2.1 < 16)) with | true => (match F37_d N (x.2.2.2.1, (i64 (x.2.2.2.2.1 * 4)), 4) with | some y15 => (if 0 ≤ x.2.2.2.2.1 then (match x.2.1[x.2.2.2.2.1.toNat]? with | some c16 => (match c16[0]? with | some x17 => (match x17 with | .v (.int q19 n18) => (if q19 = .i64 then (match F61_d N (n18, y15.1) with | some y20 => (if (x.1.length + y20.length) * 8 ≤ maxBytes then (kn ((x.1 ++ y20), x.2.1, x.2.2.1, x.2.2.2.1, (i64 (x.2.2.2.2.1 + 1)), x.2.2.2.2.2.1, x.2.2.2.2.2.2)) else none) | none => none) else none) | _ => none) | none => none) | none => none) else none) | none => none) | false => (ke (x.1, x.2.2.1, x.2.2.2.2.2.1, x.2.2.2.2.2.2)))
noncomputable abbrev F35_d25 (N : Nat) (x : (List (List AV)) × (List (List AV)) × ByteArray × ByteArray × Int × Int × Int) : Option (((List (List AV)) × ByteArray × Int × Int)) := (F35_l25 N).L N x
noncomputable def F35_l10 (N : Nat) : LSpec where
  X := (List (List AV)) × ByteArray × Int × Int
  Y := ((List (List AV)) × (List (List AV)) × Bool) ⊕ ((List (List AV)))
  p := fun s => match s.env.length, s.nin, s.at 5, s.at 0, s.at 25, s.at 26 with
    | 82, 0, (AV.list 1 a0 (some 1280000320)), (AV.v (.string a1)), (AV.v (.int .i64 a2)), (AV.v (.int .i64 a3)) => some (a0, a1, a2, a3)
    | _, _, _, _, _, _ => none
  st := fun x => mkS 82 [(5, (AV.list 1 x.1 (some 1280000320))), (0, (AV.v (.string x.2.1))), (25, (AV.v (.int .i64 x.2.2.1))), (26, (AV.v (.int .i64 x.2.2.2)))] [] (F35_an 10).1.toks 0
  out := fun y => match y with
    | .inl y => (.ret, mkS 82 [(5, (AV.list 1 y.1 (some 1280000320))), (2, (AV.list 1 y.2.1 none)), (3, (AV.v (.bool y.2.2)))] [] (F35_an 10).2.toks 0)
    | .inr y => (.exit 0, mkS 82 [(5, (AV.list 1 y (some 1280000320)))] [] (F35_an 10).2.toks 0)
  sp := fun y α k => match y with
    | .inl y => k (.ret, mkS 82 [(5, (AV.list 1 y.1 (some 1280000320))), (2, (AV.list 1 y.2.1 none)), (3, (AV.v (.bool y.2.2)))] [] (F35_an 10).2.toks 0)
    | .inr y => k (.exit 0, mkS 82 [(5, (AV.list 1 y (some 1280000320)))] [] (F35_an 10).2.toks 0)
  spe := fun y α k => by rcases y with _ | _ <;> rfl
  b := fun x α kn ke => (match (decide (x.2.2.2 < x.2.2.1)) with | true => (if 0 ≤ (i64 (x.2.2.2 * 64)) ∧ (i64 (x.2.2.2 * 64)) ≤ (i64 ((i64 (x.2.2.2 + 1)) * 64)) ∧ (i64 ((i64 (x.2.2.2 + 1)) * 64)) ≤ x.2.1.size then (match F28_d N (x.2.1.extract (i64 (x.2.2.2 * 64)).toNat (i64 ((i64 (x.2.2.2 + 1)) * 64)).toNat) with | some y2 => (if 0 ≤ (0 : Int) then (match y2.1[(0 : Int).toNat]? with | some c3 => (match c3[0]? with | some x4 => (match x4 with | .v (.int q6 n5) => (if q6 = .i64 then (match (n5 != 0) with | true => (ke (.inl (x.1, ([] : List (List AV)), false))) | false => (match (x.2.2.2 == 0) with | true => (if 0 ≤ (1 : Int) then (match y2.1[(1 : Int).toNat]? with | some c7 => (match c7[0]? with | some x8 => (match x8 with | .v (.int q10 n9) => (if q10 = .i64 then (match (n9 != 0) with | true => (ke (.inl (x.1, ([] : List (List AV)), false))) | false => (if 0 ≤ (2 : Int) then (match y2.1[(2 : Int).toNat]? with | some c11 => (match c11[0]? with | some x12 => (match x12 with | .v (.int q14 n13) => (if q14 = .i64 then (match (n13 != 0) with | true => (ke (.inl (x.1, ([] : List (List AV)), false))) | false => (match F35_d25 N (x.1, y2.1, x.2.1, (x.2.1.extract (i64 (x.2.2.2 * 64)).toNat (i64 ((i64 (x.2.2.2 + 1)) * 64)).toNat), 1, x.2.2.1, x.2.2.2) with | some y21 => (kn (y21.1, y21.2.1, y21.2.2.1, (i64 (y21.2.2.2 + 1)))) | none => none)) else none) | _ => none) | none => none) | none => none) else none)) else none) | _ => none) | none => none) | none => none) else none) | false => (match F35_d25 N (x.1, y2.1, x.2.1, (x.2.1.extract (i64 (x.2.2.2 * 64)).toNat (i64 ((i64 (x.2.2.2 + 1)) * 64)).toNat), 1, x.2.2.1, x.2.2.2) with | some y22 => (kn (y22.1, y22.2.1, y22.2.2.1, (i64 (y22.2.2.2 + 1)))) | none => none))) else none) | _ => none) | none => none) | none => none) else none) | none => none) else none) | false => (ke (.inr x.1)))
noncomputable abbrev F35_d10 (N : Nat) (x : (List (List AV)) × ByteArray × Int × Int) : Option (((List (List AV)) × (List (List AV)) × Bool) ⊕ ((List (List AV)))) := (F35_l10 N).L N x
noncomputable def F35_s (N : Nat) : FSpec where
  X := ByteArray
  Y := (List (List AV)) × Bool
  ash := [[none]]
  bsh := []
  S := ⟨[[some 1], [none]], [], [], [], []⟩
  bm := false
  pat := fun a b => match a, b with
    | [(AV.v (.string a0))], [] => some a0
    | _, _ => none
  args := fun x => [(AV.v (.string x))]
  bs := fun x => []
  ret := fun y => ⟨(AV.tup [(AV.list 1 y.1 none), (AV.v (.bool y.2))]), [], none, [], [], []⟩
  t := fun x α k => (match (((x.size : Int).tmod 64) != 0) with | true => (k (([] : List (List AV)), false)) | false => (match F34_d N ((i64 ((x.size : Int).tdiv 64)), 1, 8) with | some y1 => (match (!y1) with | true => (k (([] : List (List AV)), false)) | false => (match F35_d10 N (([] : List (List AV)), x, (i64 ((x.size : Int).tdiv 64)), 0) with | some y23 => (match y23 with | .inl z24 => (k (z24.2.1, z24.2.2)) | .inr z25 => (k (z25, true))) | none => none)) | none => none))
noncomputable abbrev F35_d (N : Nat) (x : ByteArray) : Option ((List (List AV)) × Bool) := (F35_s N).d x
theorem F35_par25 (N : Nat) : Par (F35_l25 N).b := by
  intro x α β kn ke kn' ke' r r' h h1 h2
  revert h
  dsimp only [F35_l25]
  (repeat' (first | (with_reducible refine par_ite ?_ ?_) | (with_reducible refine par_both ?_ ?_) | split)) <;> intro h <;> first | exact h1 _ h | exact h2 _ h | (cases h; done)
theorem F35_body25 (N : Nat) (x : (F35_l25 N).X) (α : Type) (kn : AS → Option α) (ke : Out → Option α) : around (tabOf Try.prog) (F35_g N) F35_an (lam N [(10, F35_l10 N), (25, F35_l25 N)]) 25 (bodyOf (nthLoop 25 (Try.f35.body.getD .skip))) ((F35_l25 N).st x) kn ke = (F35_l25 N).b x α (fun x' => kn ((F35_l25 N).st x')) (fun y => (F35_l25 N).sp y α ke) := by kernel_rfl
theorem F35_pat25 (N : Nat) (s : AS) (x : (F35_l25 N).X) (hc : s = canon (F35_an 25).1 s) (h : (F35_l25 N).p s = some x) : s = (F35_l25 N).st x := by
  dsimp only [F35_l25] at h
  split at h
  · cases h
    exact canon_mk hc ‹_› ‹_› rfl rfl rfl ⟨‹_›, ‹_›, ‹_›, ‹_›, ‹_›, ‹_›, ‹_›, trivial⟩ trivial
  · cases h
theorem F35_loop25 (N : Nat) : ∀ s o, s = canon (F35_an 25).1 s → (lam N [(10, F35_l10 N), (25, F35_l25 N)]).v 25 s = some o → LoopSem Try.prog (nthLoop 25 (Try.f35.body.getD .skip)) s o :=
  loop_ok (tabOf_ok Try.prog) (gam_ok _) mixed F35_an N [(10, F35_l10 N), (25, F35_l25 N)] 25 (bodyOf (nthLoop 25 (Try.f35.body.getD .skip))) (nthLoop 25 (Try.f35.body.getD .skip)) (by kernel_rfl) (by
    have e : actOf F35_an (bodyOf (nthLoop 25 (Try.f35.body.getD .skip))) (25 + 1) = [] := by kernel_rfl
    rw [e]
    intro p hp
    cases hp) (F35_l25 N) rfl (fun s x hc h => F35_pat25 N s x hc h) (fun x => rfl) (fun x α kn ke => (F35_body25 N x α kn ke).trans (congrArg ((F35_l25 N).b x α _) (funext fun y => (F35_l25 N).spe y α ke))) (F35_par25 N)
theorem F35_par10 (N : Nat) : Par (F35_l10 N).b := by
  intro x α β kn ke kn' ke' r r' h h1 h2
  revert h
  dsimp only [F35_l10]
  (repeat' (first | (with_reducible refine par_ite ?_ ?_) | (with_reducible refine par_both ?_ ?_) | split)) <;> intro h <;> first | exact h1 _ h | exact h2 _ h | (cases h; done)
theorem F35_body10 (N : Nat) (x : (F35_l10 N).X) (α : Type) (kn : AS → Option α) (ke : Out → Option α) : around (tabOf Try.prog) (F35_g N) F35_an (lam N [(10, F35_l10 N), (25, F35_l25 N)]) 10 (bodyOf (nthLoop 10 (Try.f35.body.getD .skip))) ((F35_l10 N).st x) kn ke = (F35_l10 N).b x α (fun x' => kn ((F35_l10 N).st x')) (fun y => (F35_l10 N).sp y α ke) := by kernel_rfl
theorem F35_pat10 (N : Nat) (s : AS) (x : (F35_l10 N).X) (hc : s = canon (F35_an 10).1 s) (h : (F35_l10 N).p s = some x) : s = (F35_l10 N).st x := by
  dsimp only [F35_l10] at h
  split at h
  · cases h
    exact canon_mk hc ‹_› ‹_› rfl rfl rfl ⟨‹_›, ‹_›, ‹_›, ‹_›, trivial⟩ trivial
  · cases h
theorem F35_loop10 (N : Nat) : ∀ s o, s = canon (F35_an 10).1 s → (lam N [(10, F35_l10 N), (25, F35_l25 N)]).v 10 s = some o → LoopSem Try.prog (nthLoop 10 (Try.f35.body.getD .skip)) s o :=
  loop_ok (tabOf_ok Try.prog) (gam_ok _) mixed F35_an N [(10, F35_l10 N), (25, F35_l25 N)] 10 (bodyOf (nthLoop 10 (Try.f35.body.getD .skip))) (nthLoop 10 (Try.f35.body.getD .skip)) (by kernel_rfl) (by
    have e : actOf F35_an (bodyOf (nthLoop 10 (Try.f35.body.getD .skip))) (10 + 1) = [(25, nthLoop 25 (Try.f35.body.getD .skip))] := by kernel_rfl
    rw [e]
    intro p hp
    rcases List.mem_cons.1 hp with rfl | hp
    · exact F35_loop25 N
    cases hp) (F35_l10 N) rfl (fun s x hc h => F35_pat10 N s x hc h) (fun x => rfl) (fun x α kn ke => (F35_body10 N x α kn ke).trans (congrArg ((F35_l10 N).b x α _) (funext fun y => (F35_l10 N).spe y α ke))) (F35_par10 N)
theorem F35_parF (N : Nat) : ParF (F35_s N).t := by
  intro x α β k k' r r' h h1
  revert h
  dsimp only [F35_s]
  (repeat' (first | (with_reducible refine par_ite ?_ ?_) | (with_reducible refine par_both ?_ ?_) | split)) <;> intro h <;> first | exact h1 _ h | (cases h; done)
theorem F35_text (N : Nat) (x : (F35_s N).X) : acall (tabOf Try.prog) (F35_g N) F35_an (lam N [(10, F35_l10 N), (25, F35_l25 N)]) Try.f35 (F35_s N).S ((F35_s N).args x) ((F35_s N).bs x) = (F35_s N).t x Ret (fun y => some ((F35_s N).ret y)) := by kernel_rfl
theorem F35_pat (N : Nat) (a : List AV) (b : List (List AV)) (x : (F35_s N).X) (h : (F35_s N).pat a b = some x) : a = (F35_s N).args x ∧ b = (F35_s N).bs x := by
  dsimp only [F35_s] at h
  split at h
  · cases h; exact ⟨rfl, rfl⟩
  · cases h
noncomputable def F35_e (N : Nat) : Ent Try.prog := entOf (tabOf_ok Try.prog) (gam_ok _) mixed 35 Try.f35 Try.func35 rfl F35_an (lam N [(10, F35_l10 N), (25, F35_l25 N)]) (by
    have e : actOf F35_an (Try.f35.body.getD .skip) 0 = [(10, nthLoop 10 (Try.f35.body.getD .skip)), (25, nthLoop 25 (Try.f35.body.getD .skip))] := by kernel_rfl
    rw [e]
    intro p hp
    rcases List.mem_cons.1 hp with rfl | hp
    · exact F35_loop10 N
    rcases List.mem_cons.1 hp with rfl | hp
    · exact F35_loop25 N
    cases hp) (F35_s N) (fun _ => ⟨rfl, rfl⟩) (F35_text N) (F35_pat N) (F35_parF N)
/-! ### seismonet/steim.Decode$1 (function 36) -/
def F36_an : Nat → Keep × Keep := anL []
noncomputable def F36_g (N : Nat) : GamK := gam (P := Try.prog) [F37_e N, F38_e N]
noncomputable def F36_s (N : Nat) : FSpec where
  X := Int × ByteArray
  Y := Int × ByteArray
  ash := [[none], [none]]
  bsh := [[none]]
  S := ⟨[[none]], [[none]], [], [], []⟩
  bm := false
  pat := fun a b => match a, b with
    | [(AV.v (.int .i64 a0)), (AV.ptr 0 0)], [[(AV.v (.string a1))]] => some (a0, a1)
    | _, _ => none
  args := fun x => [(AV.v (.int .i64 x.1)), (AV.ptr 0 0)]
  bs := fun x => [[(AV.v (.string x.2))]]
  ret := fun y => ⟨(AV.v (.int .i64 y.1)), [[(AV.v (.string y.2))]], none, [], [], []⟩
  t := fun x α k => (match F37_d N (x.2, (i64 (x.1 * 4)), 4) with | some y1 => (match F38_d N (y1.1, 32) with | some y2 => (k (y2.1, x.2)) | none => none) | none => none)
noncomputable abbrev F36_d (N : Nat) (x : Int × ByteArray) : Option (Int × ByteArray) := (F36_s N).d x
theorem F36_parF (N : Nat) : ParF (F36_s N).t := by
  intro x α β k k' r r' h h1
  revert h
  dsimp only [F36_s]
  (repeat' (first | (with_reducible refine par_ite ?_ ?_) | (with_reducible refine par_both ?_ ?_) | split)) <;> intro h <;> first | exact h1 _ h | (cases h; done)
theorem F36_text (N : Nat) (x : (F36_s N).X) : acall (tabOf Try.prog) (F36_g N) F36_an (lam N []) Try.f36 (F36_s N).S ((F36_s N).args x) ((F36_s N).bs x) = (F36_s N).t x Ret (fun y => some ((F36_s N).ret y)) := by kernel_rfl
theorem F36_pat (N : Nat) (a : List AV) (b : List (List AV)) (x : (F36_s N).X) (h : (F36_s N).pat a b = some x) : a = (F36_s N).args x ∧ b = (F36_s N).bs x := by
  dsimp only [F36_s] at h
  split at h
  · cases h; exact ⟨rfl, rfl⟩
  · cases h
noncomputable def F36_e (N : Nat) : Ent Try.prog := entOf (tabOf_ok Try.prog) (gam_ok _) mixed 36 Try.f36 Try.func36 rfl F36_an (lam N []) (by
    have e : actOf F36_an (Try.f36.body.getD .skip) 0 = [] := by kernel_rfl
    rw [e]
    intro p hp
    cases hp) (F36_s N) (fun _ => ⟨rfl, rfl⟩) (F36_text N) (F36_pat N) (F36_parF N)
/-! ### seismonet/steim.Decode$2 (function 40) -/
def F40_an : Nat → Keep × Keep := anL []
noncomputable def F40_g (N : Nat) : GamK := gam (P := Try.prog) [F41_e N]
noncomputable def F40_s (N : Nat) : FSpec where
  X := Int
  Y := Bool
  ash := [[none]]
  bsh := []
  S := ⟨[[none]], [], [], [], []⟩
  bm := false
  pat := fun a b => match a, b with
    | [(AV.v (.int .i64 a0))], [] => some a0
    | _, _ => none
  args := fun x => [(AV.v (.int .i64 x))]
  bs := fun x => []
  ret := fun y => ⟨(AV.v (.bool y)), [], none, [], [], []⟩
  t := fun x α k => (match F41_d N x with | some y1 => (k (!y1)) | none => none)
noncomputable abbrev F40_d (N : Nat) (x : Int) : Option (Bool) := (F40_s N).d x
theorem F40_parF (N : Nat) : ParF (F40_s N).t := by
  intro x α β k k' r r' h h1
  revert h
  dsimp only [F40_s]
  (repeat' (first | (with_reducible refine par_ite ?_ ?_) | (with_reducible refine par_both ?_ ?_) | split)) <;> intro h <;> first | exact h1 _ h | (cases h; done)
theorem F40_text (N : Nat) (x : (F40_s N).X) : acall (tabOf Try.prog) (F40_g N) F40_an (lam N []) Try.f40 (F40_s N).S ((F40_s N).args x) ((F40_s N).bs x) = (F40_s N).t x Ret (fun y => some ((F40_s N).ret y)) := by kernel_rfl
theorem F40_pat (N : Nat) (a : List AV) (b : List (List AV)) (x : (F40_s N).X) (h : (F40_s N).pat a b = some x) : a = (F40_s N).args x ∧ b = (F40_s N).bs x := by
  dsimp only [F40_s] at h
  split at h
  · cases h; exact ⟨rfl, rfl⟩
  · cases h
noncomputable def F40_e (N : Nat) : Ent Try.prog := entOf (tabOf_ok Try.prog) (gam_ok _) mixed 40 Try.f40 Try.func40 rfl F40_an (lam N []) (by
    have e : actOf F40_an (Try.f40.body.getD .skip) 0 = [] := by kernel_rfl
    rw [e]
    intro p hp
    cases hp) (F40_s N) (fun _ => ⟨rfl, rfl⟩) (F40_text N) (F40_pat N) (F40_parF N)
/-! ### slices.IndexFunc[[]int,int] (function 62) -/
def F62b_an : Nat → Keep × Keep := anL [(4, ⟨[1, 7, 8], [], [], [(0, 1)], [], [], [], [], false⟩, ⟨[4], [], [], [], [], [], [], [], false⟩)]
noncomputable def F62b_g (N : Nat) : GamK := gam (P := Try.prog) [F40_e N]
noncomputable def F62b_l4 (N : Nat) : LSpec where
  X := (List (List AV)) × Int × Int
  Y := (Int) ⊕ (Unit)
  p := fun s => match s.env.length, s.nin, s.at 0, s.at 1, s.at 7, s.at 8 with
    | 19, 0, (AV.list 1 a0 none), (AV.fn (.func 40) [] []), (AV.v (.int .i64 a1)), (AV.v (.int .i64 a2)) => some (a0, a1, a2)
    | _, _, _, _, _, _ => none
  st := fun x => mkS 19 [(0, (AV.list 1 x.1 none)), (1, (AV.fn (.func 40) [] [])), (7, (AV.v (.int .i64 x.2.1))), (8, (AV.v (.int .i64 x.2.2)))] [] (F62b_an 4).1.toks 0
  out := fun y => match y with
    | .inl y => (.ret, mkS 19 [(4, (AV.v (.int .i64 y)))] [] (F62b_an 4).2.toks 0)
    | .inr y => (.exit 0, mkS 19 [] [] (F62b_an 4).2.toks 0)
  sp := fun y α k => match y with
    | .inl y => k (.ret, mkS 19 [(4, (AV.v (.int .i64 y)))] [] (F62b_an 4).2.toks 0)
    | .inr y => k (.exit 0, mkS 19 [] [] (F62b_an 4).2.toks 0)
  spe := fun y α k => by rcases y with _ | _ <;> rfl
  b := fun x α kn ke => (match (decide (x.2.2 < x.2.1)) with | true => (if 0 ≤ x.2.2 then (match x.1[x.2.2.toNat]? with | some c1 => (match c1[0]? with | some x2 => (match x2 with | .v (.int q4 n3) => (if q4 = .i64 then (match F40_d N n3 with | some y5 => (match y5 with | true => (ke (.inl x.2.2)) | false => (kn (x.1, x.2.1, (i64 (x.2.2 + 1))))) | none => none) else none) | _ => none) | none => none) | none => none) else none) | false => (ke (.inr ())))
noncomputable abbrev F62b_d4 (N : Nat) (x : (List (List AV)) × Int × Int) : Option ((Int) ⊕ (Unit)) := (F62b_l4 N).L N x
noncomputable def F62b_s (N : Nat) : FSpec where
  X := (List (List AV))
  Y := Int
  ash := [[some 1], [none]]
  bsh := []
  S := ⟨[[none]], [], [], [], []⟩
  bm := false
  pat := fun a b => match a, b with
    | [(AV.list 1 a0 none), (AV.fn (.func 40) [] [])], [] => some a0
    | _, _ => none
  args := fun x => [(AV.list 1 x none), (AV.fn (.func 40) [] [])]
  bs := fun x => []
  ret := fun y => ⟨(AV.v (.int .i64 y)), [], none, [], [], []⟩
  t := fun x α k => (match F62b_d4 N (x, (x.length : Int), 0) with | some y6 => (match y6 with | .inl z7 => (k z7) | .inr z8 => (k (-1))) | none => none)
noncomputable abbrev F62b_d (N : Nat) (x : (List (List AV))) : Option (Int) := (F62b_s N).d x
theorem F62b_par4 (N : Nat) : Par (F62b_l4 N).b := by
  intro x α β kn ke kn' ke' r r' h h1 h2
  revert h
  dsimp only [F62b_l4]
  (repeat' (first | (with_reducible refine par_ite ?_ ?_) | (with_reducible refine par_both ?_ ?_) | split)) <;> intro h <;> first | exact h1 _ h | exact h2 _ h | (cases h; done)
theorem F62b_body4 (N : Nat) (x : (F62b_l4 N).X) (α : Type) (kn : AS → Option α) (ke : Out → Option α) : around (tabOf Try.prog) (F62b_g N) F62b_an (lam N [(4, F62b_l4 N)]) 4 (bodyOf (nthLoop 4 (Try.f62.body.getD .skip))) ((F62b_l4 N).st x) kn ke = (F62b_l4 N).b x α (fun x' => kn ((F62b_l4 N).st x')) (fun y => (F62b_l4 N).sp y α ke) := by kernel_rfl
theorem F62b_pat4 (N : Nat) (s : AS) (x : (F62b_l4 N).X) (hc : s = canon (F62b_an 4).1 s) (h : (F62b_l4 N).p s = some x) : s = (F62b_l4 N).st x := by
  dsimp only [F62b_l4] at h
  split at h
  · cases h
    exact canon_mk hc ‹_› ‹_› rfl rfl rfl ⟨‹_›, ‹_›, ‹_›, ‹_›, trivial⟩ trivial
  · cases h
theorem F62b_loop4 (N : Nat) : ∀ s o, s = canon (F62b_an 4).1 s → (lam N [(4, F62b_l4 N)]).v 4 s = some o → LoopSem Try.prog (nthLoop 4 (Try.f62.body.getD .skip)) s o :=
  loop_ok (tabOf_ok Try.prog) (gam_ok _) mixed F62b_an N [(4, F62b_l4 N)] 4 (bodyOf (nthLoop 4 (Try.f62.body.getD .skip))) (nthLoop 4 (Try.f62.body.getD .skip)) (by kernel_rfl) (by
    have e : actOf F62b_an (bodyOf (nthLoop 4 (Try.f62.body.getD .skip))) (4 + 1) = [] := by kernel_rfl
    rw [e]
    intro p hp
    cases hp) (F62b_l4 N) rfl (fun s x hc h => F62b_pat4 N s x hc h) (fun x => rfl) (fun x α kn ke => (F62b_body4 N x α kn ke).trans (congrArg ((F62b_l4 N).b x α _) (funext fun y => (F62b_l4 N).spe y α ke))) (F62b_par4 N)
theorem F62b_parF (N : Nat) : ParF (F62b_s N).t := by
  intro x α β k k' r r' h h1
  revert h
  dsimp only [F62b_s]
  (repeat' (first | (with_reducible refine par_ite ?_ ?_) | (with_reducible refine par_both ?_ ?_) | split)) <;> intro h <;> first | exact h1 _ h | (cases h; done)
theorem F62b_text (N : Nat) (x : (F62b_s N).X) : acall (tabOf Try.prog) (F62b_g N) F62b_an (lam N [(4, F62b_l4 N)]) Try.f62 (F62b_s N).S ((F62b_s N).args x) ((F62b_s N).bs x) = (F62b_s N).t x Ret (fun y => some ((F62b_s N).ret y)) := by kernel_rfl
theorem F62b_pat (N : Nat) (a : List AV) (b : List (List AV)) (x : (F62b_s N).X) (h : (F62b_s N).pat a b = some x) : a = (F62b_s N).args x ∧ b = (F62b_s N).bs x := by
  dsimp only [F62b_s] at h
  split at h
  · cases h; exact ⟨rfl, rfl⟩
  · cases h
noncomputable def F62b_e (N : Nat) : Ent Try.prog := entOf (tabOf_ok Try.prog) (gam_ok _) mixed 62 Try.f62 Try.func62 rfl F62b_an (lam N [(4, F62b_l4 N)]) (by
    have e : actOf F62b_an (Try.f62.body.getD .skip) 0 = [(4, nthLoop 4 (Try.f62.body.getD .skip))] := by kernel_rfl
    rw [e]
    intro p hp
    rcases List.mem_cons.1 hp with rfl | hp
    · exact F62b_loop4 N
    cases hp) (F62b_s N) (fun _ => ⟨rfl, rfl⟩) (F62b_text N) (F62b_pat N) (F62b_parF N)
/-! ### slices.ContainsFunc[[]int,int] (function 39) -/
def F39b_an : Nat → Keep × Keep := anL []
noncomputable def F39b_g (N : Nat) : GamK := gam (P := Try.prog) [F62b_e N]
noncomputable def F39b_s (N : Nat) : FSpec where
  X := (List (List AV))
  Y := Bool
  ash := [[some 1], [none]]
  bsh := []
  S := ⟨[[none]], [], [], [], []⟩
  bm := false
  pat := fun a b => match a, b with
    | [(AV.list 1 a0 none), (AV.fn (.func 40) [] [])], [] => some a0
    | _, _ => none
  args := fun x => [(AV.list 1 x none), (AV.fn (.func 40) [] [])]
  bs := fun x => []
  ret := fun y => ⟨(AV.v (.bool y)), [], none, [], [], []⟩
  t := fun x α k => (match F62b_d N x with | some y1 => (k (decide (y1 ≥ 0))) | none => none)
noncomputable abbrev F39b_d (N : Nat) (x : (List (List AV))) : Option (Bool) := (F39b_s N).d x
theorem F39b_parF (N : Nat) : ParF (F39b_s N).t := by
  intro x α β k k' r r' h h1
  revert h
  dsimp only [F39b_s]
  (repeat' (first | (with_reducible refine par_ite ?_ ?_) | (with_reducible refine par_both ?_ ?_) | split)) <;> intro h <;> first | exact h1 _ h | (cases h; done)
theorem F39b_text (N : Nat) (x : (F39b_s N).X) : acall (tabOf Try.prog) (F39b_g N) F39b_an (lam N []) Try.f39 (F39b_s N).S ((F39b_s N).args x) ((F39b_s N).bs x) = (F39b_s N).t x Ret (fun y => some ((F39b_s N).ret y)) := by kernel_rfl
theorem F39b_pat (N : Nat) (a : List AV) (b : List (List AV)) (x : (F39b_s N).X) (h : (F39b_s N).pat a b = some x) : a = (F39b_s N).args x ∧ b = (F39b_s N).bs x := by
  dsimp only [F39b_s] at h
  split at h
  · cases h; exact ⟨rfl, rfl⟩
  · cases h
noncomputable def F39b_e (N : Nat) : Ent Try.prog := entOf (tabOf_ok Try.prog) (gam_ok _) mixed 39 Try.f39 Try.func39 rfl F39b_an (lam N []) (by
    have e : actOf F39b_an (Try.f39.body.getD .skip) 0 = [] := by kernel_rfl
    rw [e]
    intro p hp
    cases hp) (F39b_s N) (fun _ => ⟨rfl, rfl⟩) (F39b_text N) (F39b_pat N) (F39b_parF N)
/-! ### seismonet/steim.Decode (function 16) -/
def F16_an : Nat → Keep × Keep := anF [(20, ⟨[1, 8, 9, 10], [], [2, 27], [(6, 1)], [], [], [], [27], false⟩, ⟨[1, 8, 9], [], [2, 27], [], [], [], [], [27], false⟩)] [(100015, ([9], []))]
noncomputable def F16_g (N : Nat) : GamK := gam (P := Try.prog) [F34_e N, F35_e N, F36_e N, F39b_e N]
noncomputable def F16_l20 (N : Nat) : LSpec where
  X := (List (List AV)) × Int × Nat × Int × ByteArray × (List AV)
  Y := (Int × Nat × ByteArray × (List AV))
  p := fun s => match s.env.length, s.nin, s.at 6, s.at 1, s.at 8, s.at 9, s.at 10, s.bx 2, s.bx 27 with
    | 61, 0, (AV.list 1 a0 none), (AV.v (.int .i64 a1)), (AV.fn (.func 36) [] [(AV.ptr 2 0)]), (AV.vs 27 0 a2 1), (AV.v (.int .i64 a3)), some [(AV.v (.string a4))], some a5 => some (a0, a1, a2, a3, a4, a5)
    | _, _, _, _, _, _, _, _, _ => none
  st := fun x => mkS 61 [(6, (AV.list 1 x.1 none)), (1, (AV.v (.int .i64 x.2.1))), (8, (AV.fn (.func 36) [] [(AV.ptr 2 0)])), (9, (AV.vs 27 0 x.2.2.1 1)), (10, (AV.v (.int .i64 x.2.2.2.1)))] [(2, [(AV.v (.string x.2.2.2.2.1))]), (27, x.2.2.2.2.2)] (F16_an 20).1.toks 0
  out := fun y => (.exit 0, mkS 61 [(1, (AV.v (.int .i64 y.1))), (8, (AV.fn (.func 36) [] [(AV.ptr 2 0)])), (9, (AV.vs 27 0 y.2.1 1))] [(2, [(AV.v (.string y.2.2.1))]), (27, y.2.2.2)] (F16_an 20).2.toks 0)
  sp := fun y α k => k (.exit 0, mkS 61 [(1, (AV.v (.int .i64 y.1))), (8, (AV.fn (.func 36) [] [(AV.ptr 2 0)])), (9, (AV.vs 27 0 y.2.1 1))] [(2, [(AV.v (.string y.2.2.1))]), (27, y.2.2.2)] (F16_an 20).2.toks 0)
  spe := fun y α k => rfl
  b := fun x α kn ke => (match (decide (x.2.2.2.1 < x.2.1)) with | true => (if 0 ≤ (i64 (x.2.2.2.1 - 1)) ∧ (i64 (x.2.2.2.1 - 1)) < (x.2.2.1 : Int) then (match x.2.2.2.2.2[((0 + (i64 (x.2.2.2.1 - 1)).toNat) * 1)]? with | some x11 => (match x11 with | .v (.int q13 n12) => (if q13 = .i64 then (if 0 ≤ x.2.2.2.1 then (match x.1[x.2.2.2.1.toNat]? with | some c14 => (match c14[0]? with | some x15 => (match x15 with | .v (.int q17 n16) => (if q17 = .i64 then (if 0 ≤ x.2.2.2.1 ∧ x.2.2.2.1 < (x.2.2.1 : Int) then (if ((0 + x.2.2.2.1.toNat) * 1) + 1 ≤ x.2.2.2.2.2.length then (kn (x.1, x.2.1, x.2.2.1, (i64 (x.2.2.2.1 + 1)), x.2.2.2.2.1, ((x.2.2.2.2.2.set (((0 + x.2.2.2.1.toNat) * 1)) (AV.v (.int .i64 (i64 (n12 + n16))))).map dat0))) else none) else none) else none) | _ => none) | none => none) | none => none) else none) else none) | _ => none) | none => none) else none) | false => (ke (x.2.1, x.2.2.1, x.2.2.2.2.1, (x.2.2.2.2.2.map dat0))))
noncomputable abbrev F16_d20 (N : Nat) (x : (List (List AV)) × Int × Nat × Int × ByteArray × (List AV)) : Option ((Int × Nat × ByteArray × (List AV))) := (F16_l20 N).L N x
noncomputable def F16_s (N : Nat) : FSpec where
  X := ByteArray × Int
  Y := (List (List AV)) × Int
  ash := [[none], [none]]
  bsh := []
  S := ⟨[[some 2000001], [none]], [], [], [], []⟩
  bm := false
  pat := fun a b => match a, b with
    | [(AV.v (.string a0)), (AV.v (.int .i64 a1))], [] => some (a0, a1)
    | _, _ => none
  args := fun x => [(AV.v (.string x.1)), (AV.v (.int .i64 x.2))]
  bs := fun x => []
  ret := fun y => ⟨(AV.tup [(AV.list 1 y.1 (some 2560000000)), (AV.v (.int .i64 y.2))]), [], none, [], [2560000000], []⟩
  t := fun x α k => (match F34_d N (x.2, 1, 420) with | some y1 => (match (!y1) with | true => (k (([] : List (List AV)), 2)) | false => (match F35_d N x.1 with | some y2 => (match (!y2.2) with | true => (k (([] : List (List AV)), 3)) | false => (match (decide ((y2.1.length : Int) < x.2)) with | true => (k (([] : List (List AV)), 4)) | false => (if 0 ≤ x.2 ∧ x.2 ≤ x.2 ∧ x.2.toNat * 8 ≤ maxBytes then (match F36_d N (1, x.1) with | some y3 => (if 0 ≤ (0 : Int) ∧ (0 : Int) < ((x.2.toNat) : Int) then (if ((0 + (0 : Int).toNat) * 1) + 1 ≤ (List.replicate x.2.toNat (AV.v (.int .i64 0))).length then (match F16_d20 N (y2.1, x.2, (x.2.toNat), 1, y3.2, (((List.replicate x.2.toNat (AV.v (.int .i64 0))).set (((0 + (0 : Int).toNat) * 1)) (AV.v (.int .i64 y3.1))).map dat0)) with | some y18 => (if y18.2.1 * 1 ≤ y18.2.2.2.length then (match F39b_d N (chunks (y18.2.2.2.take (y18.2.1 * 1)) 1 y18.2.1) with | some y19 => (match y19 with | true => (k (([] : List (List AV)), 2)) | false => (if 0 ≤ (i64 (y18.1 - 1)) then (match (chunks (y18.2.2.2.take (y18.2.1 * 1)) 1 y18.2.1)[(i64 (y18.1 - 1)).toNat]? with | some c20 => (match c20[0]? with | some x21 => (match x21 with | .v (.int q23 n22) => (if q23 = .i64 then (match F36_d N (2, y18.2.2.1) with | some y24 => (match (n22 != y24.1) with | true => (k (([] : List (List AV)), 11)) | false => (k ((chunks (y18.2.2.2.take (y18.2.1 * 1)) 1 y18.2.1), 0))) | none => none) else none) | _ => none) | none => none) | none => none) else none)) | none => none) else none) | none => none) else none) else none) | none => none) else none))) | none => none)) | none => none)
noncomputable abbrev F16_d (N : Nat) (x : ByteArray × Int) : Option ((List (List AV)) × Int) := (F16_s N).d x
theorem F16_par20 (N : Nat) : Par (F16_l20 N).b := by
  intro x α β kn ke kn' ke' r r' h h1 h2
  revert h
  dsimp only [F16_l20]
  (repeat' (first | (with_reducible refine par_ite ?_ ?_) | (with_reducible refine par_both ?_ ?_) | split)) <;> intro h <;> first | exact h1 _ h | exact h2 _ h | (cases h; done)
theorem F16_body20 (N : Nat) (x : (F16_l20 N).X) (α : Type) (kn : AS → Option α) (ke : Out → Option α) : around (tabOf Try.prog) (F16_g N) F16_an (lam N [(20, F16_l20 N)]) 20 (bodyOf (nthLoop 20 (Try.f16.body.getD .skip))) ((F16_l20 N).st x) kn ke = (F16_l20 N).b x α (fun x' => kn ((F16_l20 N).st x')) (fun y => (F16_l20 N).sp y α ke) := by kernel_rfl
theorem F16_pat20 (N : Nat) (s : AS) (x : (F16_l20 N).X) (hc : s = canon (F16_an 20).1 s) (h : (F16_l20 N).p s = some x) : s = (F16_l20 N).st x := by
  dsimp only [F16_l20] at h
  split at h
  · cases h
    exact canon_mk hc ‹_› ‹_› rfl rfl rfl ⟨‹_›, ‹_›, ‹_›, ‹_›, ‹_›, trivial⟩ ⟨‹_›, ‹_›, trivial⟩
  · cases h
theorem F16_loop20 (N : Nat) : ∀ s o, s = canon (F16_an 20).1 s → (lam N [(20, F16_l20 N)]).v 20 s = some o → LoopSem Try.prog (nthLoop 20 (Try.f16.body.getD .skip)) s o :=
  loop_ok (tabOf_ok Try.prog) (gam_ok _) mixed F16_an N [(20, F16_l20 N)] 20 (bodyOf (nthLoop 20 (Try.f16.body.getD .skip))) (nthLoop 20 (Try.f16.body.getD .skip)) (by kernel_rfl) (by
    have e : actOf F16_an (bodyOf (nthLoop 20 (Try.f16.body.getD .skip))) (20 + 1) = [] := by kernel_rfl
    rw [e]
    intro p hp
    cases hp) (F16_l20 N) rfl (fun s x hc h => F16_pat20 N s x hc h) (fun x => rfl) (fun x α kn ke => (F16_body20 N x α kn ke).trans (congrArg ((F16_l20 N).b x α _) (funext fun y => (F16_l20 N).spe y α ke))) (F16_par20 N)
theorem F16_parF (N : Nat) : ParF (F16_s N).t := by
  intro x α β k k' r r' h h1
  revert h
  dsimp only [F16_s]
  (repeat' (first | (with_reducible refine par_ite ?_ ?_) | (with_reducible refine par_both ?_ ?_) | split)) <;> intro h <;> first | exact h1 _ h | (cases h; done)
theorem F16_text (N : Nat) (x : (F16_s N).X) : acall (tabOf Try.prog) (F16_g N) F16_an (lam N [(20, F16_l20 N)]) Try.f16 (F16_s N).S ((F16_s N).args x) ((F16_s N).bs x) = (F16_s N).t x Ret (fun y => some ((F16_s N).ret y)) := by kernel_rfl
theorem F16_pat (N : Nat) (a : List AV) (b : List (List AV)) (x : (F16_s N).X) (h : (F16_s N).pat a b = some x) : a = (F16_s N).args x ∧ b = (F16_s N).bs x := by
  dsimp only [F16_s] at h
  split at h
  · cases h; exact ⟨rfl, rfl⟩
  · cases h
noncomputable def F16_e (N : Nat) : Ent Try.prog := entOf (tabOf_ok Try.prog) (gam_ok _) mixed 16 Try.f16 Try.func16 rfl F16_an (lam N [(20, F16_l20 N)]) (by
    have e : actOf F16_an (Try.f16.body.getD .skip) 0 = [(20, nthLoop 20 (Try.f16.body.getD .skip))] := by kernel_rfl
    rw [e]
    intro p hp
    rcases List.mem_cons.1 hp with rfl | hp
    · exact F16_loop20 N
    cases hp) (F16_s N) (fun _ => ⟨rfl, rfl⟩) (F16_text N) (F16_pat N) (F16_parF N)
/-! ### seismonet/steim.Canonical (function 26) -/
def F26_an : Nat → Keep × Keep := anL []
noncomputable def F26_g (N : Nat) : GamK := gam (P := Try.prog) [F16_e N, F14_e N]
noncomputable def F26_s (N : Nat) : FSpec where
  X := ByteArray × Int
  Y := Bool
  ash := [[none], [none]]
  bsh := []
  S := ⟨[[none]], [], [], [], []⟩
  bm := false
  pat := fun a b => match a, b with
    | [(AV.v (.string a0)), (AV.v (.int .i64 a1))], [] => some (a0, a1)
    | _, _ => none
  args := fun x => [(AV.v (.string x.1)), (AV.v (.int .i64 x.2))]
  bs := fun x => []
  ret := fun y => ⟨(AV.v (.bool y)), [], none, [], [], []⟩
  t := fun x α k => (match F16_d N (x.1, x.2) with | some y1 => (match (y1.2 != 0) with | true => (k false) | false => (match F14_d N y1.1 with | some y2 => (match (y2.2 == 0) with | true => (k (y2.1.toList == x.1.toList)) | false => (k false)) | none => none)) | none => none)
noncomputable abbrev F26_d (N : Nat) (x : ByteArray × Int) : Option (Bool) := (F26_s N).d x
theorem F26_parF (N : Nat) : ParF (F26_s N).t := by
  intro x α β k k' r r' h h1
  revert h
  dsimp only [F26_s]
  (repeat' (first | (with_reducible refine par_ite ?_ ?_) | (with_reducible refine par_both ?_ ?_) | split)) <;> intro h <;> first | exact h1 _ h | (cases h; done)
theorem F26_text (N : Nat) (x : (F26_s N).X) : acall (tabOf Try.prog) (F26_g N) F26_an (lam N []) Try.f26 (F26_s N).S ((F26_s N).args x) ((F26_s N).bs x) = (F26_s N).t x Ret (fun y => some ((F26_s N).ret y)) := by kernel_rfl
theorem F26_pat (N : Nat) (a : List AV) (b : List (List AV)) (x : (F26_s N).X) (h : (F26_s N).pat a b = some x) : a = (F26_s N).args x ∧ b = (F26_s N).bs x := by
  dsimp only [F26_s] at h
  split at h
  · cases h; exact ⟨rfl, rfl⟩
  · cases h
noncomputable def F26_e (N : Nat) : Ent Try.prog := entOf (tabOf_ok Try.prog) (gam_ok _) mixed 26 Try.f26 Try.func26 rfl F26_an (lam N []) (by
    have e : actOf F26_an (Try.f26.body.getD .skip) 0 = [] := by kernel_rfl
    rw [e]
    intro p hp
    cases hp) (F26_s N) (fun _ => ⟨rfl, rfl⟩) (F26_text N) (F26_pat N) (F26_parF N)
/-! ### seismonet/seismonetref05.Same (function 17) -/
def F17_an : Nat → Keep × Keep := anL [(8, ⟨[5], [], [], [(0, 1), (1, 1)], [], [], [], [], false⟩, ⟨[4], [], [], [], [], [], [], [], false⟩)]
noncomputable def F17_g (N : Nat) : GamK := gam (P := Try.prog) []
noncomputable def F17_l8 (N : Nat) : LSpec where
  X := (List (List AV)) × (List (List AV)) × Int
  Y := (Bool) ⊕ (Unit)
  p := fun s => match s.env.length, s.nin, s.at 0, s.at 1, s.at 5 with
    | 26, 0, (AV.list 1 a0 none), (AV.list 1 a1 none), (AV.v (.int .i64 a2)) => some (a0, a1, a2)
    | _, _, _, _, _ => none
  st := fun x => mkS 26 [(0, (AV.list 1 x.1 none)), (1, (AV.list 1 x.2.1 none)), (5, (AV.v (.int .i64 x.2.2)))] [] (F17_an 8).1.toks 0
  out := fun y => match y with
    | .inl y => (.ret, mkS 26 [(4, (AV.v (.bool y)))] [] (F17_an 8).2.toks 0)
    | .inr y => (.exit 0, mkS 26 [] [] (F17_an 8).2.toks 0)
  sp := fun y α k => match y with
    | .inl y => k (.ret, mkS 26 [(4, (AV.v (.bool y)))] [] (F17_an 8).2.toks 0)
    | .inr y => k (.exit 0, mkS 26 [] [] (F17_an 8).2.toks 0)
  spe := fun y α k => by rcases y with _ | _ <;> rfl
  b := fun x α kn ke => (match (decide (x.2.2 < (x.1.length : Int))) with | true => (if 0 ≤ x.2.2 then (match x.1[x.2.2.toNat]? with | some c1 => (match c1[0]? with | some x2 => (match x2 with | .v (.int q4 n3) => (if q4 = .i64 then (if 0 ≤ x.2.2 then (match x.2.1[x.2.2.toNat]? with | some c5 => (match c5[0]? with | some x6 => (match x6 with | .v (.int q8 n7) => (if q8 = .i64 then (match (n3 != n7) with | true => (ke (.inl false)) | false => (kn (x.1, x.2.1, (i64 (x.2.2 + 1))))) else none) | _ => none) | none => none) | none => none) else none) else none) | _ => none) | none => none) | none => none) else none) | false => (ke (.inr ())))
noncomputable abbrev F17_d8 (N : Nat) (x : (List (List AV)) × (List (List AV)) × Int) : Option ((Bool) ⊕ (Unit)) := (F17_l8 N).L N x
noncomputable def F17_s (N : Nat) : FSpec where
  X := (List (List AV)) × (List (List AV))
  Y := Bool
  ash := [[some 1], [some 1]]
  bsh := []
  S := ⟨[[none]], [], [], [], []⟩
  bm := false
  pat := fun a b => match a, b with
    | [(AV.list 1 a0 none), (AV.list 1 a1 none)], [] => some (a0, a1)
    | _, _ => none
  args := fun x => [(AV.list 1 x.1 none), (AV.list 1 x.2 none)]
  bs := fun x => []
  ret := fun y => ⟨(AV.v (.bool y)), [], none, [], [], []⟩
  t := fun x α k => (match ((x.1.length : Int) != (x.2.length : Int)) with | true => (k false) | false => (match F17_d8 N (x.1, x.2, 0) with | some y9 => (match y9 with | .inl z10 => (k z10) | .inr z11 => (k true)) | none => none))
noncomputable abbrev F17_d (N : Nat) (x : (List (List AV)) × (List (List AV))) : Option (Bool) := (F17_s N).d x
theorem F17_par8 (N : Nat) : Par (F17_l8 N).b := by
  intro x α β kn ke kn' ke' r r' h h1 h2
  revert h
  dsimp only [F17_l8]
  (repeat' (first | (with_reducible refine par_ite ?_ ?_) | (with_reducible refine par_both ?_ ?_) | split)) <;> intro h <;> first | exact h1 _ h | exact h2 _ h | (cases h; done)
theorem F17_body8 (N : Nat) (x : (F17_l8 N).X) (α : Type) (kn : AS → Option α) (ke : Out → Option α) : around (tabOf Try.prog) (F17_g N) F17_an (lam N [(8, F17_l8 N)]) 8 (bodyOf (nthLoop 8 (Try.f17.body.getD .skip))) ((F17_l8 N).st x) kn ke = (F17_l8 N).b x α (fun x' => kn ((F17_l8 N).st x')) (fun y => (F17_l8 N).sp y α ke) := by kernel_rfl
theorem F17_pat8 (N : Nat) (s : AS) (x : (F17_l8 N).X) (hc : s = canon (F17_an 8).1 s) (h : (F17_l8 N).p s = some x) : s = (F17_l8 N).st x := by
  dsimp only [F17_l8] at h
  split at h
  · cases h
    exact canon_mk hc ‹_› ‹_› rfl rfl rfl ⟨‹_›, ‹_›, ‹_›, trivial⟩ trivial
  · cases h
theorem F17_loop8 (N : Nat) : ∀ s o, s = canon (F17_an 8).1 s → (lam N [(8, F17_l8 N)]).v 8 s = some o → LoopSem Try.prog (nthLoop 8 (Try.f17.body.getD .skip)) s o :=
  loop_ok (tabOf_ok Try.prog) (gam_ok _) mixed F17_an N [(8, F17_l8 N)] 8 (bodyOf (nthLoop 8 (Try.f17.body.getD .skip))) (nthLoop 8 (Try.f17.body.getD .skip)) (by kernel_rfl) (by
    have e : actOf F17_an (bodyOf (nthLoop 8 (Try.f17.body.getD .skip))) (8 + 1) = [] := by kernel_rfl
    rw [e]
    intro p hp
    cases hp) (F17_l8 N) rfl (fun s x hc h => F17_pat8 N s x hc h) (fun x => rfl) (fun x α kn ke => (F17_body8 N x α kn ke).trans (congrArg ((F17_l8 N).b x α _) (funext fun y => (F17_l8 N).spe y α ke))) (F17_par8 N)
theorem F17_parF (N : Nat) : ParF (F17_s N).t := by
  intro x α β k k' r r' h h1
  revert h
  dsimp only [F17_s]
  (repeat' (first | (with_reducible refine par_ite ?_ ?_) | (with_reducible refine par_both ?_ ?_) | split)) <;> intro h <;> first | exact h1 _ h | (cases h; done)
theorem F17_text (N : Nat) (x : (F17_s N).X) : acall (tabOf Try.prog) (F17_g N) F17_an (lam N [(8, F17_l8 N)]) Try.f17 (F17_s N).S ((F17_s N).args x) ((F17_s N).bs x) = (F17_s N).t x Ret (fun y => some ((F17_s N).ret y)) := by kernel_rfl
theorem F17_pat (N : Nat) (a : List AV) (b : List (List AV)) (x : (F17_s N).X) (h : (F17_s N).pat a b = some x) : a = (F17_s N).args x ∧ b = (F17_s N).bs x := by
  dsimp only [F17_s] at h
  split at h
  · cases h; exact ⟨rfl, rfl⟩
  · cases h
noncomputable def F17_e (N : Nat) : Ent Try.prog := entOf (tabOf_ok Try.prog) (gam_ok _) mixed 17 Try.f17 Try.func17 rfl F17_an (lam N [(8, F17_l8 N)]) (by
    have e : actOf F17_an (Try.f17.body.getD .skip) 0 = [(8, nthLoop 8 (Try.f17.body.getD .skip))] := by kernel_rfl
    rw [e]
    intro p hp
    rcases List.mem_cons.1 hp with rfl | hp
    · exact F17_loop8 N
    cases hp) (F17_s N) (fun _ => ⟨rfl, rfl⟩) (F17_text N) (F17_pat N) (F17_parF N)
end Go.Proofs.Yteplhedodcaljaa
