/- Functions without memory. (written by sx.py) -/
import Derived.Test.YtecoemdhnphmdaaSymY
namespace Go.Proofs.Ytecoemdhnphmdaa
open Go.RowKit
set_option linter.unusedVariables false
set_option linter.unusedSimpArgs false
set_option linter.unnecessarySimpa false
set_option maxRecDepth 4000
/-! ### seismonet/clock.in (function 39) -/
def F39_an : Nat → Keep × Keep := anL []
noncomputable def F39_g (N : Nat) : GamK := gam (P := Try.prog) []
noncomputable def F39_s (N : Nat) : FSpec where
  X := Int × Int × Int
  Y := Bool
  ash := [[none], [none], [none]]
  bsh := []
  S := ⟨[[none]], [], [], [], []⟩
  bm := false
  pat := fun a b => match a, b with
    | [(AV.v (.int .i64 a0)), (AV.v (.int .i64 a1)), (AV.v (.int .i64 a2))], [] => some (a0, a1, a2)
    | _, _ => none
  args := fun x => [(AV.v (.int .i64 x.1)), (AV.v (.int .i64 x.2.1)), (AV.v (.int .i64 x.2.2))]
  bs := fun x => []
  ret := fun y => ⟨(AV.v (.bool y)), [], none, [], [], []⟩
  t := fun x α k => (match (decide (x.1 ≥ x.2.1)) with | true => (k (decide (x.1 ≤ x.2.2))) | false => (k false))
noncomputable abbrev F39_d (N : Nat) (x : Int × Int × Int) : Option (Bool) := (F39_s N).d x
theorem F39_parF (N : Nat) : ParF (F39_s N).t := by
  intro x α β k k' r r' h h1
  revert h
  dsimp only [F39_s]
  (repeat' (first | (with_reducible refine par_ite ?_ ?_) | (with_reducible refine par_both ?_ ?_) | split)) <;> intro h <;> first | exact h1 _ h | (cases h; done)
theorem F39_text (N : Nat) (x : (F39_s N).X) : acall (tabOf Try.prog) (F39_g N) F39_an (lam N []) Try.f39 (F39_s N).S ((F39_s N).args x) ((F39_s N).bs x) = (F39_s N).t x Ret (fun y => some ((F39_s N).ret y)) := by kernel_rfl
theorem F39_pat (N : Nat) (a : List AV) (b : List (List AV)) (x : (F39_s N).X) (h : (F39_s N).pat a b = some x) : a = (F39_s N).args x ∧ b = (F39_s N).bs x := by
  dsimp only [F39_s] at h
  split at h
  · cases h; exact ⟨rfl, rfl⟩
  · cases h
noncomputable def F39_e (N : Nat) : Ent Try.prog := entOf (tabOf_ok Try.prog) (gam_ok _) mixed 39 Try.f39 Try.func39 rfl F39_an (lam N []) (by
    have e : actOf F39_an (Try.f39.body.getD .skip) 0 = [] := by kernel_rfl
    rw [e]
    intro p hp
    cases hp) (F39_s N) (fun _ => ⟨rfl, rfl⟩) (F39_text N) (F39_pat N) (F39_parF N)
/-! ### seismonet/clock.time (function 35) -/
def F35_an : Nat → Keep × Keep := anL []
noncomputable def F35_g (N : Nat) : GamK := gam (P := Try.prog) [F39_e N]
noncomputable def F35_s (N : Nat) : FSpec where
  X := Int
  Y := Bool
  ash := [[none]]
  bsh := []
  S := ⟨[[none]], [], [], [], []⟩
  bm := false
  pat := fun a b => match a, b with
    | [(AV.v (.int .i64 a0))], [] => some a0
    | _, _ => none
  args := fun x => [(AV.v (.int .i64 x))]
  bs := fun x => []
  ret := fun y => ⟨(AV.v (.bool y)), [], none, [], [], []⟩
  t := fun x α k => (match F39_d N (x, 0, 9007199254740992) with | some y1 => (k y1) | none => none)
noncomputable abbrev F35_d (N : Nat) (x : Int) : Option (Bool) := (F35_s N).d x
theorem F35_parF (N : Nat) : ParF (F35_s N).t := by
  intro x α β k k' r r' h h1
  revert h
  dsimp only [F35_s]
  (repeat' (first | (with_reducible refine par_ite ?_ ?_) | (with_reducible refine par_both ?_ ?_) | split)) <;> intro h <;> first | exact h1 _ h | (cases h; done)
theorem F35_text (N : Nat) (x : (F35_s N).X) : acall (tabOf Try.prog) (F35_g N) F35_an (lam N []) Try.f35 (F35_s N).S ((F35_s N).args x) ((F35_s N).bs x) = (F35_s N).t x Ret (fun y => some ((F35_s N).ret y)) := by kernel_rfl
theorem F35_pat (N : Nat) (a : List AV) (b : List (List AV)) (x : (F35_s N).X) (h : (F35_s N).pat a b = some x) : a = (F35_s N).args x ∧ b = (F35_s N).bs x := by
  dsimp only [F35_s] at h
  split at h
  · cases h; exact ⟨rfl, rfl⟩
  · cases h
noncomputable def F35_e (N : Nat) : Ent Try.prog := entOf (tabOf_ok Try.prog) (gam_ok _) mixed 35 Try.f35 Try.func35 rfl F35_an (lam N []) (by
    have e : actOf F35_an (Try.f35.body.getD .skip) 0 = [] := by kernel_rfl
    rw [e]
    intro p hp
    cases hp) (F35_s N) (fun _ => ⟨rfl, rfl⟩) (F35_text N) (F35_pat N) (F35_parF N)
/-! ### seismonet/clock.Valid (function 26) -/
def F26_an : Nat → Keep × Keep := anL [(4, ⟨[1, 8, 9], [], [], [(0, 3), (7, 3)], [], [], [], [], false⟩, ⟨[1, 4], [], [], [(0, 3)], [], [], [], [], false⟩)]
noncomputable def F26_g (N : Nat) : GamK := gam (P := Try.prog) [F35_e N, F39_e N]
noncomputable def F26_l4 (N : Nat) : LSpec where
  X := (List (List AV)) × (List (List AV)) × Int × Int × Int
  Y := ((List (List AV)) × Int × Bool) ⊕ ((List (List AV)) × Int)
  p := fun s => match s.env.length, s.nin, s.at 0, s.at 7, s.at 1, s.at 8, s.at 9 with
    | 60, 0, (AV.list 3 a0 none), (AV.list 3 a1 none), (AV.v (.int .i64 a2)), (AV.v (.int .i64 a3)), (AV.v (.int .i64 a4)) => some (a0, a1, a2, a3, a4)
    | _, _, _, _, _, _, _ => none
  st := fun x => mkS 60 [(0, (AV.list 3 x.1 none)), (7, (AV.list 3 x.2.1 none)), (1, (AV.v (.int .i64 x.2.2.1))), (8, (AV.v (.int .i64 x.2.2.2.1))), (9, (AV.v (.int .i64 x.2.2.2.2)))] [] (F26_an 4).1.toks 0
  out := fun y => match y with
    | .inl y => (.ret, mkS 60 [(0, (AV.list 3 y.1 none)), (1, (AV.v (.int .i64 y.2.1))), (4, (AV.v (.bool y.2.2)))] [] (F26_an 4).2.toks 0)
    | .inr y => (.exit 0, mkS 60 [(0, (AV.list 3 y.1 none)), (1, (AV.v (.int .i64 y.2)))] [] (F26_an 4).2.toks 0)
  sp := fun y α k => match y with
    | .inl y => k (.ret, mkS 60 [(0, (AV.list 3 y.1 none)), (1, (AV.v (.int .i64 y.2.1))), (4, (AV.v (.bool y.2.2)))] [] (F26_an 4).2.toks 0)
    | .inr y => k (.exit 0, mkS 60 [(0, (AV.list 3 y.1 none)), (1, (AV.v (.int .i64 y.2)))] [] (F26_an 4).2.toks 0)
  spe := fun y α k => by rcases y with _ | _ <;> rfl
  b := fun x α kn ke => (match (decide (x.2.2.2.2 < x.2.2.2.1)) with | true => (if 0 ≤ x.2.2.2.2 then (match x.2.1[x.2.2.2.2.toNat]? with | some c1 => (match c1[0]? with | some x2 => (match x2 with | .v (.int q4 n3) => (if q4 = .i64 then (match c1[1]? with | some x5 => (match x5 with | .v (.int q7 n6) => (if q7 = .i64 then (match c1[2]? with | some x8 => (match x8 with | .v (.int q10 n9) => (if q10 = .i64 then (match F35_d N n3 with | some y11 => (match (!y11) with | true => (ke (.inl (x.1, x.2.2.1, false))) | false => (match F35_d N n6 with | some y12 => (match (!y12) with | true => (ke (.inl (x.1, x.2.2.1, false))) | false => (match F35_d N n9 with | some y13 => (match (!y13) with | true => (ke (.inl (x.1, x.2.2.1, false))) | false => (match (decide (n6 > n9)) with | true => (ke (.inl (x.1, x.2.2.1, false))) | false => (match (decide (x.2.2.2.2 > 0)) with | true => (if 0 ≤ (i64 (x.2.2.2.2 - 1)) then (match x.1[(i64 (x.2.2.2.2 - 1)).toNat]? with | some c14 => (match (c14.drop 0)[0]? with | some x15 => (match x15 with | .v (.int q17 n16) => (if q17 = .i64 then (match (decide (n3 ≤ n16)) with | true => (ke (.inl (x.1, x.2.2.1, false))) | false => (kn (x.1, x.2.1, x.2.2.1, x.2.2.2.1, (i64 (x.2.2.2.2 + 1))))) else none) | _ => none) | none => none) | none => none) else none) | false => (kn (x.1, x.2.1, x.2.2.1, x.2.2.2.1, (i64 (x.2.2.2.2 + 1))))))) | none => none)) | none => none)) | none => none) else none) | _ => none) | none => none) else none) | _ => none) | none => none) else none) | _ => none) | none => none) | none => none) else none) | false => (ke (.inr (x.1, x.2.2.1))))
noncomputable abbrev F26_d4 (N : Nat) (x : (List (List AV)) × (List (List AV)) × Int × Int × Int) : Option (((List (List AV)) × Int × Bool) ⊕ ((List (List AV)) × Int)) := (F26_l4 N).L N x
noncomputable def F26_s (N : Nat) : FSpec where
  X := (List (List AV)) × Int
  Y := Bool
  ash := [[some 3], [none]]
  bsh := []
  S := ⟨[[none]], [], [], [], []⟩
  bm := false
  pat := fun a b => match a, b with
    | [(AV.list 3 a0 none), (AV.v (.int .i64 a1))], [] => some (a0, a1)
    | _, _ => none
  args := fun x => [(AV.list 3 x.1 none), (AV.v (.int .i64 x.2))]
  bs := fun x => []
  ret := fun y => ⟨(AV.v (.bool y)), [], none, [], [], []⟩
  t := fun x α k => (match F26_d4 N (x.1, x.1, x.2, (x.1.length : Int), 0) with | some y18 => (match y18 with | .inl z19 => (k z19.2.2) | .inr z20 => (match (decide ((z20.1.length : Int) ≤ 256)) with | true => (match F39_d N (z20.2, 0, 500000) with | some y21 => (k y21) | none => none) | false => (k false))) | none => none)
noncomputable abbrev F26_d (N : Nat) (x : (List (List AV)) × Int) : Option (Bool) := (F26_s N).d x
theorem F26_par4 (N : Nat) : Par (F26_l4 N).b := by
  intro x α β kn ke kn' ke' r r' h h1 h2
  revert h
  dsimp only [F26_l4]
  (repeat' (first | (with_reducible refine par_ite ?_ ?_) | (with_reducible refine par_both ?_ ?_) | split)) <;> intro h <;> first | exact h1 _ h | exact h2 _ h | (cases h; done)
theorem F26_body4 (N : Nat) (x : (F26_l4 N).X) (α : Type) (kn : AS → Option α) (ke : Out → Option α) : around (tabOf Try.prog) (F26_g N) F26_an (lam N [(4, F26_l4 N)]) 4 (bodyOf (nthLoop 4 (Try.f26.body.getD .skip))) ((F26_l4 N).st x) kn ke = (F26_l4 N).b x α (fun x' => kn ((F26_l4 N).st x')) (fun y => (F26_l4 N).sp y α ke) := by kernel_rfl
theorem F26_pat4 (N : Nat) (s : AS) (x : (F26_l4 N).X) (hc : s = canon (F26_an 4).1 s) (h : (F26_l4 N).p s = some x) : s = (F26_l4 N).st x := by
  dsimp only [F26_l4] at h
  split at h
  · cases h
    exact canon_mk hc ‹_› ‹_› rfl rfl rfl ⟨‹_›, ‹_›, ‹_›, ‹_›, ‹_›, trivial⟩ trivial
  · cases h
theorem F26_loop4 (N : Nat) : ∀ s o, s = canon (F26_an 4).1 s → (lam N [(4, F26_l4 N)]).v 4 s = some o → LoopSem Try.prog (nthLoop 4 (Try.f26.body.getD .skip)) s o :=
  loop_ok (tabOf_ok Try.prog) (gam_ok _) mixed F26_an N [(4, F26_l4 N)] 4 (bodyOf (nthLoop 4 (Try.f26.body.getD .skip))) (nthLoop 4 (Try.f26.body.getD .skip)) (by kernel_rfl) (by
    have e : actOf F26_an (bodyOf (nthLoop 4 (Try.f26.body.getD .skip))) (4 + 1) = [] := by kernel_rfl
    rw [e]
    intro p hp
    cases hp) (F26_l4 N) rfl (fun s x hc h => F26_pat4 N s x hc h) (fun x => rfl) (fun x α kn ke => (F26_body4 N x α kn ke).trans (congrArg ((F26_l4 N).b x α _) (funext fun y => (F26_l4 N).spe y α ke))) (F26_par4 N)
theorem F26_parF (N : Nat) : ParF (F26_s N).t := by
  intro x α β k k' r r' h h1
  revert h
  dsimp only [F26_s]
  (repeat' (first | (with_reducible refine par_ite ?_ ?_) | (with_reducible refine par_both ?_ ?_) | split)) <;> intro h <;> first | exact h1 _ h | (cases h; done)
theorem F26_text (N : Nat) (x : (F26_s N).X) : acall (tabOf Try.prog) (F26_g N) F26_an (lam N [(4, F26_l4 N)]) Try.f26 (F26_s N).S ((F26_s N).args x) ((F26_s N).bs x) = (F26_s N).t x Ret (fun y => some ((F26_s N).ret y)) := by kernel_rfl
theorem F26_pat (N : Nat) (a : List AV) (b : List (List AV)) (x : (F26_s N).X) (h : (F26_s N).pat a b = some x) : a = (F26_s N).args x ∧ b = (F26_s N).bs x := by
  dsimp only [F26_s] at h
  split at h
  · cases h; exact ⟨rfl, rfl⟩
  · cases h
noncomputable def F26_e (N : Nat) : Ent Try.prog := entOf (tabOf_ok Try.prog) (gam_ok _) mixed 26 Try.f26 Try.func26 rfl F26_an (lam N [(4, F26_l4 N)]) (by
    have e : actOf F26_an (Try.f26.body.getD .skip) 0 = [(4, nthLoop 4 (Try.f26.body.getD .skip))] := by kernel_rfl
    rw [e]
    intro p hp
    rcases List.mem_cons.1 hp with rfl | hp
    · exact F26_loop4 N
    cases hp) (F26_s N) (fun _ => ⟨rfl, rfl⟩) (F26_text N) (F26_pat N) (F26_parF N)
/-! ### seismonet/clock.Elapsed (function 17) -/
def F17_an : Nat → Keep × Keep := anL []
noncomputable def F17_g (N : Nat) : GamK := gam (P := Try.prog) [F39_e N, F35_e N]
noncomputable def F17_s (N : Nat) : FSpec where
  X := Int × Int
  Y := Int × Int
  ash := [[none], [none]]
  bsh := []
  S := ⟨[[none], [none]], [], [], [], []⟩
  bm := false
  pat := fun a b => match a, b with
    | [(AV.v (.int .i64 a0)), (AV.v (.int .i64 a1))], [] => some (a0, a1)
    | _, _ => none
  args := fun x => [(AV.v (.int .i64 x.1)), (AV.v (.int .i64 x.2))]
  bs := fun x => []
  ret := fun y => ⟨(AV.tup [(AV.v (.int .i64 y.1)), (AV.v (.int .i64 y.2))]), [], none, [], [], []⟩
  t := fun x α k => (match F39_d N (x.1, 0, 500000) with | some y1 => (match (!y1) with | true => (k (0, 0)) | false => (match F35_d N x.2 with | some y2 => (match (!y2) with | true => (k (0, 0)) | false => (if (i64 (1000000 + x.1)) = 0 then none else (if (i64 (1000000 + x.1)) = 0 then none else (if (i64 (1000000 + x.1)) = 0 then none else (if (i64 (1000000 - x.1)) = 0 then none else (if (i64 (1000000 - x.1)) = 0 then none else (if (i64 (1000000 - x.1)) = 0 then none else (k ((i64 ((i64 ((i64 (x.2.tdiv (i64 (1000000 + x.1)))) * 1000000)) + (i64 ((i64 ((x.2.tmod (i64 (1000000 + x.1))) * 1000000)).tdiv (i64 (1000000 + x.1)))))), (i64 ((i64 ((i64 (x.2.tdiv (i64 (1000000 - x.1)))) * 1000000)) + (i64 ((i64 ((i64 ((i64 ((x.2.tmod (i64 (1000000 - x.1))) * 1000000)) + (i64 (1000000 - x.1)))) - 1)).tdiv (i64 (1000000 - x.1))))))))))))))) | none => none)) | none => none)
noncomputable abbrev F17_d (N : Nat) (x : Int × Int) : Option (Int × Int) := (F17_s N).d x
theorem F17_parF (N : Nat) : ParF (F17_s N).t := by
  intro x α β k k' r r' h h1
  revert h
  dsimp only [F17_s]
  (repeat' (first | (with_reducible refine par_ite ?_ ?_) | (with_reducible refine par_both ?_ ?_) | split)) <;> intro h <;> first | exact h1 _ h | (cases h; done)
theorem F17_text (N : Nat) (x : (F17_s N).X) : acall (tabOf Try.prog) (F17_g N) F17_an (lam N []) Try.f17 (F17_s N).S ((F17_s N).args x) ((F17_s N).bs x) = (F17_s N).t x Ret (fun y => some ((F17_s N).ret y)) := by kernel_rfl
theorem F17_pat (N : Nat) (a : List AV) (b : List (List AV)) (x : (F17_s N).X) (h : (F17_s N).pat a b = some x) : a = (F17_s N).args x ∧ b = (F17_s N).bs x := by
  dsimp only [F17_s] at h
  split at h
  · cases h; exact ⟨rfl, rfl⟩
  · cases h
noncomputable def F17_e (N : Nat) : Ent Try.prog := entOf (tabOf_ok Try.prog) (gam_ok _) mixed 17 Try.f17 Try.func17 rfl F17_an (lam N []) (by
    have e : actOf F17_an (Try.f17.body.getD .skip) 0 = [] := by kernel_rfl
    rw [e]
    intro p hp
    cases hp) (F17_s N) (fun _ => ⟨rfl, rfl⟩) (F17_text N) (F17_pat N) (F17_parF N)
/-! ### seismonet/clock.from (function 47) -/
def F47_an : Nat → Keep × Keep := anL []
noncomputable def F47_g (N : Nat) : GamK := gam (P := Try.prog) [F17_e N]
noncomputable def F47_s (N : Nat) : FSpec where
  X := Int × Int × Int × Int × Int
  Y := Int × Int
  ash := [[none, none, none], [none], [none]]
  bsh := []
  S := ⟨[[none, none]], [], [], [], []⟩
  bm := false
  pat := fun a b => match a, b with
    | [(AV.agg [(AV.v (.int .i64 a0)), (AV.v (.int .i64 a1)), (AV.v (.int .i64 a2))]), (AV.v (.int .i64 a3)), (AV.v (.int .i64 a4))], [] => some (a0, a1, a2, a3, a4)
    | _, _ => none
  args := fun x => [(AV.agg [(AV.v (.int .i64 x.1)), (AV.v (.int .i64 x.2.1)), (AV.v (.int .i64 x.2.2.1))]), (AV.v (.int .i64 x.2.2.2.1)), (AV.v (.int .i64 x.2.2.2.2))]
  bs := fun x => []
  ret := fun y => ⟨(AV.agg [(AV.v (.int .i64 y.1)), (AV.v (.int .i64 y.2))]), [], none, [], [], []⟩
  t := fun x α k => (match (decide (x.2.2.2.2 ≥ x.1)) with | true => (match F17_d N (x.2.2.2.1, (i64 (x.2.2.2.2 - x.1))) with | some y1 => (k ((i64 (x.2.1 + y1.1)), (i64 (x.2.2.1 + y1.2)))) | none => none) | false => (match F17_d N (x.2.2.2.1, (i64 (x.1 - x.2.2.2.2))) with | some y2 => (k ((i64 (x.2.1 - y2.2)), (i64 (x.2.2.1 - y2.1)))) | none => none))
noncomputable abbrev F47_d (N : Nat) (x : Int × Int × Int × Int × Int) : Option (Int × Int) := (F47_s N).d x
theorem F47_parF (N : Nat) : ParF (F47_s N).t := by
  intro x α β k k' r r' h h1
  revert h
  dsimp only [F47_s]
  (repeat' (first | (with_reducible refine par_ite ?_ ?_) | (with_reducible refine par_both ?_ ?_) | split)) <;> intro h <;> first | exact h1 _ h | (cases h; done)
theorem F47_text (N : Nat) (x : (F47_s N).X) : acall (tabOf Try.prog) (F47_g N) F47_an (lam N []) Try.f47 (F47_s N).S ((F47_s N).args x) ((F47_s N).bs x) = (F47_s N).t x Ret (fun y => some ((F47_s N).ret y)) := by kernel_rfl
theorem F47_pat (N : Nat) (a : List AV) (b : List (List AV)) (x : (F47_s N).X) (h : (F47_s N).pat a b = some x) : a = (F47_s N).args x ∧ b = (F47_s N).bs x := by
  dsimp only [F47_s] at h
  split at h
  · cases h; exact ⟨rfl, rfl⟩
  · cases h
noncomputable def F47_e (N : Nat) : Ent Try.prog := entOf (tabOf_ok Try.prog) (gam_ok _) mixed 47 Try.f47 Try.func47 rfl F47_an (lam N []) (by
    have e : actOf F47_an (Try.f47.body.getD .skip) 0 = [] := by kernel_rfl
    rw [e]
    intro p hp
    cases hp) (F47_s N) (fun _ => ⟨rfl, rfl⟩) (F47_text N) (F47_pat N) (F47_parF N)
/-! ### (seismonet/clock.interval).common (function 37) -/
def F37_an : Nat → Keep × Keep := anL []
noncomputable def F37_g (N : Nat) : GamK := gam (P := Try.prog) []
noncomputable def F37_s (N : Nat) : FSpec where
  X := Int × Int × Int × Int
  Y := Int × Int
  ash := [[none, none], [none, none]]
  bsh := []
  S := ⟨[[none, none]], [], [], [], []⟩
  bm := false
  pat := fun a b => match a, b with
    | [(AV.agg [(AV.v (.int .i64 a0)), (AV.v (.int .i64 a1))]), (AV.agg [(AV.v (.int .i64 a2)), (AV.v (.int .i64 a3))])], [] => some (a0, a1, a2, a3)
    | _, _ => none
  args := fun x => [(AV.agg [(AV.v (.int .i64 x.1)), (AV.v (.int .i64 x.2.1))]), (AV.agg [(AV.v (.int .i64 x.2.2.1)), (AV.v (.int .i64 x.2.2.2))])]
  bs := fun x => []
  ret := fun y => ⟨(AV.agg [(AV.v (.int .i64 y.1)), (AV.v (.int .i64 y.2))]), [], none, [], [], []⟩
  t := fun x α k => (k ((if x.2.2.1 > x.1 then x.2.2.1 else x.1), (if x.2.2.2 < x.2.1 then x.2.2.2 else x.2.1)))
noncomputable abbrev F37_d (N : Nat) (x : Int × Int × Int × Int) : Option (Int × Int) := (F37_s N).d x
theorem F37_parF (N : Nat) : ParF (F37_s N).t := by
  intro x α β k k' r r' h h1
  revert h
  dsimp only [F37_s]
  (repeat' (first | (with_reducible refine par_ite ?_ ?_) | (with_reducible refine par_both ?_ ?_) | split)) <;> intro h <;> first | exact h1 _ h | (cases h; done)
theorem F37_text (N : Nat) (x : (F37_s N).X) : acall (tabOf Try.prog) (F37_g N) F37_an (lam N []) Try.f37 (F37_s N).S ((F37_s N).args x) ((F37_s N).bs x) = (F37_s N).t x Ret (fun y => some ((F37_s N).ret y)) := by kernel_rfl
theorem F37_pat (N : Nat) (a : List AV) (b : List (List AV)) (x : (F37_s N).X) (h : (F37_s N).pat a b = some x) : a = (F37_s N).args x ∧ b = (F37_s N).bs x := by
  dsimp only [F37_s] at h
  split at h
  · cases h; exact ⟨rfl, rfl⟩
  · cases h
noncomputable def F37_e (N : Nat) : Ent Try.prog := entOf (tabOf_ok Try.prog) (gam_ok _) mixed 37 Try.f37 Try.func37 rfl F37_an (lam N []) (by
    have e : actOf F37_an (Try.f37.body.getD .skip) 0 = [] := by kernel_rfl
    rw [e]
    intro p hp
    cases hp) (F37_s N) (fun _ => ⟨rfl, rfl⟩) (F37_text N) (F37_pat N) (F37_parF N)
/-! ### seismonet/clock.agrees (function 38) -/
def F38_an : Nat → Keep × Keep := anL []
noncomputable def F38_g (N : Nat) : GamK := gam (P := Try.prog) [F47_e N, F37_e N]
noncomputable def F38_s (N : Nat) : FSpec where
  X := Int × Int × Int × Int × Int × Int × Int
  Y := Bool
  ash := [[none, none, none], [none, none, none], [none]]
  bsh := []
  S := ⟨[[none]], [], [], [], []⟩
  bm := false
  pat := fun a b => match a, b with
    | [(AV.agg [(AV.v (.int .i64 a0)), (AV.v (.int .i64 a1)), (AV.v (.int .i64 a2))]), (AV.agg [(AV.v (.int .i64 a3)), (AV.v (.int .i64 a4)), (AV.v (.int .i64 a5))]), (AV.v (.int .i64 a6))], [] => some (a0, a1, a2, a3, a4, a5, a6)
    | _, _ => none
  args := fun x => [(AV.agg [(AV.v (.int .i64 x.1)), (AV.v (.int .i64 x.2.1)), (AV.v (.int .i64 x.2.2.1))]), (AV.agg [(AV.v (.int .i64 x.2.2.2.1)), (AV.v (.int .i64 x.2.2.2.2.1)), (AV.v (.int .i64 x.2.2.2.2.2.1))]), (AV.v (.int .i64 x.2.2.2.2.2.2))]
  bs := fun x => []
  ret := fun y => ⟨(AV.v (.bool y)), [], none, [], [], []⟩
  t := fun x α k => (match F47_d N (x.1, x.2.1, x.2.2.1, x.2.2.2.2.2.2, x.2.2.2.1) with | some y1 => (match F37_d N (y1.1, y1.2, x.2.2.2.2.1, x.2.2.2.2.2.1) with | some y2 => (k (decide (y2.1 ≤ y2.2))) | none => none) | none => none)
noncomputable abbrev F38_d (N : Nat) (x : Int × Int × Int × Int × Int × Int × Int) : Option (Bool) := (F38_s N).d x
theorem F38_parF (N : Nat) : ParF (F38_s N).t := by
  intro x α β k k' r r' h h1
  revert h
  dsimp only [F38_s]
  (repeat' (first | (with_reducible refine par_ite ?_ ?_) | (with_reducible refine par_both ?_ ?_) | split)) <;> intro h <;> first | exact h1 _ h | (cases h; done)
theorem F38_text (N : Nat) (x : (F38_s N).X) : acall (tabOf Try.prog) (F38_g N) F38_an (lam N []) Try.f38 (F38_s N).S ((F38_s N).args x) ((F38_s N).bs x) = (F38_s N).t x Ret (fun y => some ((F38_s N).ret y)) := by kernel_rfl
theorem F38_pat (N : Nat) (a : List AV) (b : List (List AV)) (x : (F38_s N).X) (h : (F38_s N).pat a b = some x) : a = (F38_s N).args x ∧ b = (F38_s N).bs x := by
  dsimp only [F38_s] at h
  split at h
  · cases h; exact ⟨rfl, rfl⟩
  · cases h
noncomputable def F38_e (N : Nat) : Ent Try.prog := entOf (tabOf_ok Try.prog) (gam_ok _) mixed 38 Try.f38 Try.func38 rfl F38_an (lam N []) (by
    have e : actOf F38_an (Try.f38.body.getD .skip) 0 = [] := by kernel_rfl
    rw [e]
    intro p hp
    cases hp) (F38_s N) (fun _ => ⟨rfl, rfl⟩) (F38_text N) (F38_pat N) (F38_parF N)
/-! ### seismonet/clock.Jumps (function 16) -/
def F16_an : Nat → Keep × Keep := anL [(9, ⟨[1, 7], [(6, 1)], [], [(0, 3)], [], [], [], [], false⟩, ⟨[], [(6, 1)], [], [], [], [], [], [], false⟩)]
noncomputable def F16_g (N : Nat) : GamK := gam (P := Try.prog) [F26_e N, F38_e N]
noncomputable def F16_l9 (N : Nat) : LSpec where
  X := (List (List AV)) × (List (List AV)) × Int × Int
  Y := ((List (List AV)))
  p := fun s => match s.env.length, s.nin, s.at 6, s.at 0, s.at 1, s.at 7 with
    | 35, 0, (AV.list 1 a0 (some 1280000384)), (AV.list 3 a1 none), (AV.v (.int .i64 a2)), (AV.v (.int .i64 a3)) => some (a0, a1, a2, a3)
    | _, _, _, _, _, _ => none
  st := fun x => mkS 35 [(6, (AV.list 1 x.1 (some 1280000384))), (0, (AV.list 3 x.2.1 none)), (1, (AV.v (.int .i64 x.2.2.1))), (7, (AV.v (.int .i64 x.2.2.2)))] [] (F16_an 9).1.toks 0
  out := fun y => (.exit 0, mkS 35 [(6, (AV.list 1 y (some 1280000384)))] [] (F16_an 9).2.toks 0)
  sp := fun y α k => k (.exit 0, mkS 35 [(6, (AV.list 1 y (some 1280000384)))] [] (F16_an 9).2.toks 0)
  spe := fun y α k => rfl
  b := fun x α kn ke => (match (decide (x.2.2.2 < (x.2.1.length : Int))) with | true => (if 0 ≤ (i64 (x.2.2.2 - 1)) then (match x.2.1[(i64 (x.2.2.2 - 1)).toNat]? with | some c2 => (match c2[0]? with | some x3 => (match x3 with | .v (.int q5 n4) => (if q5 = .i64 then (match c2[1]? with | some x6 => (match x6 with | .v (.int q8 n7) => (if q8 = .i64 then (match c2[2]? with | some x9 => (match x9 with | .v (.int q11 n10) => (if q11 = .i64 then (if 0 ≤ x.2.2.2 then (match x.2.1[x.2.2.2.toNat]? with | some c12 => (match c12[0]? with | some x13 => (match x13 with | .v (.int q15 n14) => (if q15 = .i64 then (match c12[1]? with | some x16 => (match x16 with | .v (.int q18 n17) => (if q18 = .i64 then (match c12[2]? with | some x19 => (match x19 with | .v (.int q21 n20) => (if q21 = .i64 then (match F38_d N (n4, n7, n10, n14, n17, n20, x.2.2.1) with | some y22 => (match (!y22) with | true => (if (x.1.length + [[(AV.v (.int .i64 x.2.2.2))]].length) * 8 ≤ maxBytes then (kn ((x.1 ++ [[(AV.v (.int .i64 x.2.2.2))]]), x.2.1, x.2.2.1, (i64 (x.2.2.2 + 1)))) else none) | false => (kn (x.1, x.2.1, x.2.2.1, (i64 (x.2.2.2 + 1))))) | none => none) else none) | _ => none) | none => none) else none) | _ => none) | none => none) else none) | _ => none) | none => none) | none => none) else none) else none) | _ => none) | none => none) else none) | _ => none) | none => none) else none) | _ => none) | none => none) | none => none) else none) | false => (ke x.1))
noncomputable abbrev F16_d9 (N : Nat) (x : (List (List AV)) × (List (List AV)) × Int × Int) : Option (((List (List AV)))) := (F16_l9 N).L N x
noncomputable def F16_s (N : Nat) : FSpec where
  X := (List (List AV)) × Int
  Y := (List (List AV)) × Int
  ash := [[some 3], [none]]
  bsh := []
  S := ⟨[[some 2000001], [none]], [], [], [], []⟩
  bm := false
  pat := fun a b => match a, b with
    | [(AV.list 3 a0 none), (AV.v (.int .i64 a1))], [] => some (a0, a1)
    | _, _ => none
  args := fun x => [(AV.list 3 x.1 none), (AV.v (.int .i64 x.2))]
  bs := fun x => []
  ret := fun y => ⟨(AV.tup [(AV.list 1 y.1 (some 2560000000)), (AV.v (.int .i64 y.2))]), [], none, [], [2560000000], []⟩
  t := fun x α k => (match F26_d N (x.1, x.2) with | some y1 => (match (!y1) with | true => (k (([] : List (List AV)), 1)) | false => (match F16_d9 N (([] : List (List AV)), x.1, x.2, 1) with | some y23 => (k (y23, 0)) | none => none)) | none => none)
noncomputable abbrev F16_d (N : Nat) (x : (List (List AV)) × Int) : Option ((List (List AV)) × Int) := (F16_s N).d x
theorem F16_par9 (N : Nat) : Par (F16_l9 N).b := by
  intro x α β kn ke kn' ke' r r' h h1 h2
  revert h
  dsimp only [F16_l9]
  (repeat' (first | (with_reducible refine par_ite ?_ ?_) | (with_reducible refine par_both ?_ ?_) | split)) <;> intro h <;> first | exact h1 _ h | exact h2 _ h | (cases h; done)
theorem F16_body9 (N : Nat) (x : (F16_l9 N).X) (α : Type) (kn : AS → Option α) (ke : Out → Option α) : around (tabOf Try.prog) (F16_g N) F16_an (lam N [(9, F16_l9 N)]) 9 (bodyOf (nthLoop 9 (Try.f16.body.getD .skip))) ((F16_l9 N).st x) kn ke = (F16_l9 N).b x α (fun x' => kn ((F16_l9 N).st x')) (fun y => (F16_l9 N).sp y α ke) := by kernel_rfl
theorem F16_pat9 (N : Nat) (s : AS) (x : (F16_l9 N).X) (hc : s = canon (F16_an 9).1 s) (h : (F16_l9 N).p s = some x) : s = (F16_l9 N).st x := by
  dsimp only [F16_l9] at h
  split at h
  · cases h
    exact canon_mk hc ‹_› ‹_› rfl rfl rfl ⟨‹_›, ‹_›, ‹_›, ‹_›, trivial⟩ trivial
  · cases h
theorem F16_loop9 (N : Nat) : ∀ s o, s = canon (F16_an 9).1 s → (lam N [(9, F16_l9 N)]).v 9 s = some o → LoopSem Try.prog (nthLoop 9 (Try.f16.body.getD .skip)) s o :=
  loop_ok (tabOf_ok Try.prog) (gam_ok _) mixed F16_an N [(9, F16_l9 N)] 9 (bodyOf (nthLoop 9 (Try.f16.body.getD .skip))) (nthLoop 9 (Try.f16.body.getD .skip)) (by kernel_rfl) (by
    have e : actOf F16_an (bodyOf (nthLoop 9 (Try.f16.body.getD .skip))) (9 + 1) = [] := by kernel_rfl
    rw [e]
    intro p hp
    cases hp) (F16_l9 N) rfl (fun s x hc h => F16_pat9 N s x hc h) (fun x => rfl) (fun x α kn ke => (F16_body9 N x α kn ke).trans (congrArg ((F16_l9 N).b x α _) (funext fun y => (F16_l9 N).spe y α ke))) (F16_par9 N)
theorem F16_parF (N : Nat) : ParF (F16_s N).t := by
  intro x α β k k' r r' h h1
  revert h
  dsimp only [F16_s]
  (repeat' (first | (with_reducible refine par_ite ?_ ?_) | (with_reducible refine par_both ?_ ?_) | split)) <;> intro h <;> first | exact h1 _ h | (cases h; done)
theorem F16_text (N : Nat) (x : (F16_s N).X) : acall (tabOf Try.prog) (F16_g N) F16_an (lam N [(9, F16_l9 N)]) Try.f16 (F16_s N).S ((F16_s N).args x) ((F16_s N).bs x) = (F16_s N).t x Ret (fun y => some ((F16_s N).ret y)) := by kernel_rfl
theorem F16_pat (N : Nat) (a : List AV) (b : List (List AV)) (x : (F16_s N).X) (h : (F16_s N).pat a b = some x) : a = (F16_s N).args x ∧ b = (F16_s N).bs x := by
  dsimp only [F16_s] at h
  split at h
  · cases h; exact ⟨rfl, rfl⟩
  · cases h
noncomputable def F16_e (N : Nat) : Ent Try.prog := entOf (tabOf_ok Try.prog) (gam_ok _) mixed 16 Try.f16 Try.func16 rfl F16_an (lam N [(9, F16_l9 N)]) (by
    have e : actOf F16_an (Try.f16.body.getD .skip) 0 = [(9, nthLoop 9 (Try.f16.body.getD .skip))] := by kernel_rfl
    rw [e]
    intro p hp
    rcases List.mem_cons.1 hp with rfl | hp
    · exact F16_loop9 N
    cases hp) (F16_s N) (fun _ => ⟨rfl, rfl⟩) (F16_text N) (F16_pat N) (F16_parF N)
/-! ### slices.Index[[]int,int] (function 58) -/
def F58_an : Nat → Keep × Keep := anL [(4, ⟨[1, 7, 8], [], [], [(0, 1)], [], [], [], [], false⟩, ⟨[4], [], [], [], [], [], [], [], false⟩)]
noncomputable def F58_g (N : Nat) : GamK := gam (P := Try.prog) []
noncomputable def F58_l4 (N : Nat) : LSpec where
  X := (List (List AV)) × Int × Int × Int
  Y := (Int) ⊕ (Unit)
  p := fun s => match s.env.length, s.nin, s.at 0, s.at 1, s.at 7, s.at 8 with
    | 19, 0, (AV.list 1 a0 none), (AV.v (.int .i64 a1)), (AV.v (.int .i64 a2)), (AV.v (.int .i64 a3)) => some (a0, a1, a2, a3)
    | _, _, _, _, _, _ => none
  st := fun x => mkS 19 [(0, (AV.list 1 x.1 none)), (1, (AV.v (.int .i64 x.2.1))), (7, (AV.v (.int .i64 x.2.2.1))), (8, (AV.v (.int .i64 x.2.2.2)))] [] (F58_an 4).1.toks 0
  out := fun y => match y with
    | .inl y => (.ret, mkS 19 [(4, (AV.v (.int .i64 y)))] [] (F58_an 4).2.toks 0)
    | .inr y => (.exit 0, mkS 19 [] [] (F58_an 4).2.toks 0)
  sp := fun y α k => match y with
    | .inl y => k (.ret, mkS 19 [(4, (AV.v (.int .i64 y)))] [] (F58_an 4).2.toks 0)
    | .inr y => k (.exit 0, mkS 19 [] [] (F58_an 4).2.toks 0)
  spe := fun y α k => by rcases y with _ | _ <;> rfl
  b := fun x α kn ke => (match (decide (x.2.2.2 < x.2.2.1)) with | true => (if 0 ≤ x.2.2.2 then (match x.1[x.2.2.2.toNat]? with | some c1 => (match c1[0]? with | some x2 => (match x2 with | .v (.int q4 n3) => (if q4 = .i64 then (match (x.2.1 == n3) with | true => (ke (.inl x.2.2.2)) | false => (kn (x.1, x.2.1, x.2.2.1, (i64 (x.2.2.2 + 1))))) else none) | _ => none) | none => none) | none => none) else none) | false => (ke (.inr ())))
noncomputable abbrev F58_d4 (N : Nat) (x : (List (List AV)) × Int × Int × Int) : Option ((Int) ⊕ (Unit)) := (F58_l4 N).L N x
noncomputable def F58_s (N : Nat) : FSpec where
  X := (List (List AV)) × Int
  Y := Int
  ash := [[some 1], [none]]
  bsh := []
  S := ⟨[[none]], [], [], [], []⟩
  bm := false
  pat := fun a b => match a, b with
    | [(AV.list 1 a0 none), (AV.v (.int .i64 a1))], [] => some (a0, a1)
    | _, _ => none
  args := fun x => [(AV.list 1 x.1 none), (AV.v (.int .i64 x.2))]
  bs := fun x => []
  ret := fun y => ⟨(AV.v (.int .i64 y)), [], none, [], [], []⟩
  t := fun x α k => (match F58_d4 N (x.1, x.2, (x.1.length : Int), 0) with | some y5 => (match y5 with | .inl z6 => (k z6) | .inr z7 => (k (-1))) | none => none)
noncomputable abbrev F58_d (N : Nat) (x : (List (List AV)) × Int) : Option (Int) := (F58_s N).d x
theorem F58_par4 (N : Nat) : Par (F58_l4 N).b := by
  intro x α β kn ke kn' ke' r r' h h1 h2
  revert h
  dsimp only [F58_l4]
  (repeat' (first | (with_reducible refine par_ite ?_ ?_) | (with_reducible refine par_both ?_ ?_) | split)) <;> intro h <;> first | exact h1 _ h | exact h2 _ h | (cases h; done)
theorem F58_body4 (N : Nat) (x : (F58_l4 N).X) (α : Type) (kn : AS → Option α) (ke : Out → Option α) : around (tabOf Try.prog) (F58_g N) F58_an (lam N [(4, F58_l4 N)]) 4 (bodyOf (nthLoop 4 (Try.f58.body.getD .skip))) ((F58_l4 N).st x) kn ke = (F58_l4 N).b x α (fun x' => kn ((F58_l4 N).st x')) (fun y => (F58_l4 N).sp y α ke) := by kernel_rfl
theorem F58_pat4 (N : Nat) (s : AS) (x : (F58_l4 N).X) (hc : s = canon (F58_an 4).1 s) (h : (F58_l4 N).p s = some x) : s = (F58_l4 N).st x := by
  dsimp only [F58_l4] at h
  split at h
  · cases h
    exact canon_mk hc ‹_› ‹_› rfl rfl rfl ⟨‹_›, ‹_›, ‹_›, ‹_›, trivial⟩ trivial
  · cases h
theorem F58_loop4 (N : Nat) : ∀ s o, s = canon (F58_an 4).1 s → (lam N [(4, F58_l4 N)]).v 4 s = some o → LoopSem Try.prog (nthLoop 4 (Try.f58.body.getD .skip)) s o :=
  loop_ok (tabOf_ok Try.prog) (gam_ok _) mixed F58_an N [(4, F58_l4 N)] 4 (bodyOf (nthLoop 4 (Try.f58.body.getD .skip))) (nthLoop 4 (Try.f58.body.getD .skip)) (by kernel_rfl) (by
    have e : actOf F58_an (bodyOf (nthLoop 4 (Try.f58.body.getD .skip))) (4 + 1) = [] := by kernel_rfl
    rw [e]
    intro p hp
    cases hp) (F58_l4 N) rfl (fun s x hc h => F58_pat4 N s x hc h) (fun x => rfl) (fun x α kn ke => (F58_body4 N x α kn ke).trans (congrArg ((F58_l4 N).b x α _) (funext fun y => (F58_l4 N).spe y α ke))) (F58_par4 N)
theorem F58_parF (N : Nat) : ParF (F58_s N).t := by
  intro x α β k k' r r' h h1
  revert h
  dsimp only [F58_s]
  (repeat' (first | (with_reducible refine par_ite ?_ ?_) | (with_reducible refine par_both ?_ ?_) | split)) <;> intro h <;> first | exact h1 _ h | (cases h; done)
theorem F58_text (N : Nat) (x : (F58_s N).X) : acall (tabOf Try.prog) (F58_g N) F58_an (lam N [(4, F58_l4 N)]) Try.f58 (F58_s N).S ((F58_s N).args x) ((F58_s N).bs x) = (F58_s N).t x Ret (fun y => some ((F58_s N).ret y)) := by kernel_rfl
theorem F58_pat (N : Nat) (a : List AV) (b : List (List AV)) (x : (F58_s N).X) (h : (F58_s N).pat a b = some x) : a = (F58_s N).args x ∧ b = (F58_s N).bs x := by
  dsimp only [F58_s] at h
  split at h
  · cases h; exact ⟨rfl, rfl⟩
  · cases h
noncomputable def F58_e (N : Nat) : Ent Try.prog := entOf (tabOf_ok Try.prog) (gam_ok _) mixed 58 Try.f58 Try.func58 rfl F58_an (lam N [(4, F58_l4 N)]) (by
    have e : actOf F58_an (Try.f58.body.getD .skip) 0 = [(4, nthLoop 4 (Try.f58.body.getD .skip))] := by kernel_rfl
    rw [e]
    intro p hp
    rcases List.mem_cons.1 hp with rfl | hp
    · exact F58_loop4 N
    cases hp) (F58_s N) (fun _ => ⟨rfl, rfl⟩) (F58_text N) (F58_pat N) (F58_parF N)
/-! ### slices.Contains[[]int,int] (function 50) -/
def F50_an : Nat → Keep × Keep := anL []
noncomputable def F50_g (N : Nat) : GamK := gam (P := Try.prog) [F58_e N]
noncomputable def F50_s (N : Nat) : FSpec where
  X := (List (List AV)) × Int
  Y := Bool
  ash := [[some 1], [none]]
  bsh := []
  S := ⟨[[none]], [], [], [], []⟩
  bm := false
  pat := fun a b => match a, b with
    | [(AV.list 1 a0 none), (AV.v (.int .i64 a1))], [] => some (a0, a1)
    | _, _ => none
  args := fun x => [(AV.list 1 x.1 none), (AV.v (.int .i64 x.2))]
  bs := fun x => []
  ret := fun y => ⟨(AV.v (.bool y)), [], none, [], [], []⟩
  t := fun x α k => (match F58_d N (x.1, x.2) with | some y1 => (k (decide (y1 ≥ 0))) | none => none)
noncomputable abbrev F50_d (N : Nat) (x : (List (List AV)) × Int) : Option (Bool) := (F50_s N).d x
theorem F50_parF (N : Nat) : ParF (F50_s N).t := by
  intro x α β k k' r r' h h1
  revert h
  dsimp only [F50_s]
  (repeat' (first | (with_reducible refine par_ite ?_ ?_) | (with_reducible refine par_both ?_ ?_) | split)) <;> intro h <;> first | exact h1 _ h | (cases h; done)
theorem F50_text (N : Nat) (x : (F50_s N).X) : acall (tabOf Try.prog) (F50_g N) F50_an (lam N []) Try.f50 (F50_s N).S ((F50_s N).args x) ((F50_s N).bs x) = (F50_s N).t x Ret (fun y => some ((F50_s N).ret y)) := by kernel_rfl
theorem F50_pat (N : Nat) (a : List AV) (b : List (List AV)) (x : (F50_s N).X) (h : (F50_s N).pat a b = some x) : a = (F50_s N).args x ∧ b = (F50_s N).bs x := by
  dsimp only [F50_s] at h
  split at h
  · cases h; exact ⟨rfl, rfl⟩
  · cases h
noncomputable def F50_e (N : Nat) : Ent Try.prog := entOf (tabOf_ok Try.prog) (gam_ok _) mixed 50 Try.f50 Try.func50 rfl F50_an (lam N []) (by
    have e : actOf F50_an (Try.f50.body.getD .skip) 0 = [] := by kernel_rfl
    rw [e]
    intro p hp
    cases hp) (F50_s N) (fun _ => ⟨rfl, rfl⟩) (F50_text N) (F50_pat N) (F50_parF N)
/-! ### (seismonet/clock.interval).hull (function 51) -/
def F51_an : Nat → Keep × Keep := anL []
noncomputable def F51_g (N : Nat) : GamK := gam (P := Try.prog) []
noncomputable def F51_s (N : Nat) : FSpec where
  X := Int × Int × Int × Int
  Y := Int × Int
  ash := [[none, none], [none, none]]
  bsh := []
  S := ⟨[[none, none]], [], [], [], []⟩
  bm := false
  pat := fun a b => match a, b with
    | [(AV.agg [(AV.v (.int .i64 a0)), (AV.v (.int .i64 a1))]), (AV.agg [(AV.v (.int .i64 a2)), (AV.v (.int .i64 a3))])], [] => some (a0, a1, a2, a3)
    | _, _ => none
  args := fun x => [(AV.agg [(AV.v (.int .i64 x.1)), (AV.v (.int .i64 x.2.1))]), (AV.agg [(AV.v (.int .i64 x.2.2.1)), (AV.v (.int .i64 x.2.2.2))])]
  bs := fun x => []
  ret := fun y => ⟨(AV.agg [(AV.v (.int .i64 y.1)), (AV.v (.int .i64 y.2))]), [], none, [], [], []⟩
  t := fun x α k => (k ((if x.2.2.1 < x.1 then x.2.2.1 else x.1), (if x.2.2.2 > x.2.1 then x.2.2.2 else x.2.1)))
noncomputable abbrev F51_d (N : Nat) (x : Int × Int × Int × Int) : Option (Int × Int) := (F51_s N).d x
theorem F51_parF (N : Nat) : ParF (F51_s N).t := by
  intro x α β k k' r r' h h1
  revert h
  dsimp only [F51_s]
  (repeat' (first | (with_reducible refine par_ite ?_ ?_) | (with_reducible refine par_both ?_ ?_) | split)) <;> intro h <;> first | exact h1 _ h | (cases h; done)
theorem F51_text (N : Nat) (x : (F51_s N).X) : acall (tabOf Try.prog) (F51_g N) F51_an (lam N []) Try.f51 (F51_s N).S ((F51_s N).args x) ((F51_s N).bs x) = (F51_s N).t x Ret (fun y => some ((F51_s N).ret y)) := by kernel_rfl
theorem F51_pat (N : Nat) (a : List AV) (b : List (List AV)) (x : (F51_s N).X) (h : (F51_s N).pat a b = some x) : a = (F51_s N).args x ∧ b = (F51_s N).bs x := by
  dsimp only [F51_s] at h
  split at h
  · cases h; exact ⟨rfl, rfl⟩
  · cases h
noncomputable def F51_e (N : Nat) : Ent Try.prog := entOf (tabOf_ok Try.prog) (gam_ok _) mixed 51 Try.f51 Try.func51 rfl F51_an (lam N []) (by
    have e : actOf F51_an (Try.f51.body.getD .skip) 0 = [] := by kernel_rfl
    rw [e]
    intro p hp
    cases hp) (F51_s N) (fun _ => ⟨rfl, rfl⟩) (F51_text N) (F51_pat N) (F51_parF N)
/-! ### seismonet/clock.run (function 52) -/
def F52_an : Nat → Keep × Keep := anL [(5, ⟨[2, 6, 7, 12, 13], [], [], [(11, 1)], [], [], [], [], false⟩, ⟨[6, 7], [], [], [], [], [], [], [], false⟩)]
noncomputable def F52_g (N : Nat) : GamK := gam (P := Try.prog) []
noncomputable def F52_l5 (N : Nat) : LSpec where
  X := (List (List AV)) × Int × Int × Int × Int × Int
  Y := (Int × Int)
  p := fun s => match s.env.length, s.nin, s.at 11, s.at 2, s.at 6, s.at 7, s.at 12, s.at 13 with
    | 28, 0, (AV.list 1 a0 none), (AV.v (.int .i64 a1)), (AV.v (.int .i64 a2)), (AV.v (.int .i64 a3)), (AV.v (.int .i64 a4)), (AV.v (.int .i64 a5)) => some (a0, a1, a2, a3, a4, a5)
    | _, _, _, _, _, _, _, _ => none
  st := fun x => mkS 28 [(11, (AV.list 1 x.1 none)), (2, (AV.v (.int .i64 x.2.1))), (6, (AV.v (.int .i64 x.2.2.1))), (7, (AV.v (.int .i64 x.2.2.2.1))), (12, (AV.v (.int .i64 x.2.2.2.2.1))), (13, (AV.v (.int .i64 x.2.2.2.2.2)))] [] (F52_an 5).1.toks 0
  out := fun y => (.exit 0, mkS 28 [(6, (AV.v (.int .i64 y.1))), (7, (AV.v (.int .i64 y.2)))] [] (F52_an 5).2.toks 0)
  sp := fun y α k => k (.exit 0, mkS 28 [(6, (AV.v (.int .i64 y.1))), (7, (AV.v (.int .i64 y.2)))] [] (F52_an 5).2.toks 0)
  spe := fun y α k => rfl
  b := fun x α kn ke => (match (decide (x.2.2.2.2.2 < x.2.2.2.2.1)) with | true => (if 0 ≤ x.2.2.2.2.2 then (match x.1[x.2.2.2.2.2.toNat]? with | some c1 => (match c1[0]? with | some x2 => (match x2 with | .v (.int q4 n3) => (if q4 = .i64 then (match (decide (n3 ≤ x.2.1)) with | true => (kn (x.1, x.2.1, n3, x.2.2.2.1, x.2.2.2.2.1, (i64 (x.2.2.2.2.2 + 1)))) | false => (match (decide (n3 < x.2.2.2.1)) with | true => (kn (x.1, x.2.1, x.2.2.1, n3, x.2.2.2.2.1, (i64 (x.2.2.2.2.2 + 1)))) | false => (kn (x.1, x.2.1, x.2.2.1, x.2.2.2.1, x.2.2.2.2.1, (i64 (x.2.2.2.2.2 + 1)))))) else none) | _ => none) | none => none) | none => none) else none) | false => (ke (x.2.2.1, x.2.2.2.1)))
noncomputable abbrev F52_d5 (N : Nat) (x : (List (List AV)) × Int × Int × Int × Int × Int) : Option ((Int × Int)) := (F52_l5 N).L N x
noncomputable def F52_s (N : Nat) : FSpec where
  X := (List (List AV)) × Int × Int
  Y := Int × Int
  ash := [[some 1], [none], [none]]
  bsh := []
  S := ⟨[[none], [none]], [], [], [], []⟩
  bm := false
  pat := fun a b => match a, b with
    | [(AV.list 1 a0 none), (AV.v (.int .i64 a1)), (AV.v (.int .i64 a2))], [] => some (a0, a1, a2)
    | _, _ => none
  args := fun x => [(AV.list 1 x.1 none), (AV.v (.int .i64 x.2.1)), (AV.v (.int .i64 x.2.2))]
  bs := fun x => []
  ret := fun y => ⟨(AV.tup [(AV.v (.int .i64 y.1)), (AV.v (.int .i64 y.2))]), [], none, [], [], []⟩
  t := fun x α k => (match F52_d5 N (x.1, x.2.2, 0, x.2.1, (x.1.length : Int), 0) with | some y5 => (k (y5.1, y5.2)) | none => none)
noncomputable abbrev F52_d (N : Nat) (x : (List (List AV)) × Int × Int) : Option (Int × Int) := (F52_s N).d x
theorem F52_par5 (N : Nat) : Par (F52_l5 N).b := by
  intro x α β kn ke kn' ke' r r' h h1 h2
  revert h
  dsimp only [F52_l5]
  (repeat' (first | (with_reducible refine par_ite ?_ ?_) | (with_reducible refine par_both ?_ ?_) | split)) <;> intro h <;> first | exact h1 _ h | exact h2 _ h | (cases h; done)
theorem F52_body5 (N : Nat) (x : (F52_l5 N).X) (α : Type) (kn : AS → Option α) (ke : Out → Option α) : around (tabOf Try.prog) (F52_g N) F52_an (lam N [(5, F52_l5 N)]) 5 (bodyOf (nthLoop 5 (Try.f52.body.getD .skip))) ((F52_l5 N).st x) kn ke = (F52_l5 N).b x α (fun x' => kn ((F52_l5 N).st x')) (fun y => (F52_l5 N).sp y α ke) := by kernel_rfl
theorem F52_pat5 (N : Nat) (s : AS) (x : (F52_l5 N).X) (hc : s = canon (F52_an 5).1 s) (h : (F52_l5 N).p s = some x) : s = (F52_l5 N).st x := by
  dsimp only [F52_l5] at h
  split at h
  · cases h
    exact canon_mk hc ‹_› ‹_› rfl rfl rfl ⟨‹_›, ‹_›, ‹_›, ‹_›, ‹_›, ‹_›, trivial⟩ trivial
  · cases h
theorem F52_loop5 (N : Nat) : ∀ s o, s = canon (F52_an 5).1 s → (lam N [(5, F52_l5 N)]).v 5 s = some o → LoopSem Try.prog (nthLoop 5 (Try.f52.body.getD .skip)) s o :=
  loop_ok (tabOf_ok Try.prog) (gam_ok _) mixed F52_an N [(5, F52_l5 N)] 5 (bodyOf (nthLoop 5 (Try.f52.body.getD .skip))) (nthLoop 5 (Try.f52.body.getD .skip)) (by kernel_rfl) (by
    have e : actOf F52_an (bodyOf (nthLoop 5 (Try.f52.body.getD .skip))) (5 + 1) = [] := by kernel_rfl
    rw [e]
    intro p hp
    cases hp) (F52_l5 N) rfl (fun s x hc h => F52_pat5 N s x hc h) (fun x => rfl) (fun x α kn ke => (F52_body5 N x α kn ke).trans (congrArg ((F52_l5 N).b x α _) (funext fun y => (F52_l5 N).spe y α ke))) (F52_par5 N)
theorem F52_parF (N : Nat) : ParF (F52_s N).t := by
  intro x α β k k' r r' h h1
  revert h
  dsimp only [F52_s]
  (repeat' (first | (with_reducible refine par_ite ?_ ?_) | (with_reducible refine par_both ?_ ?_) | split)) <;> intro h <;> first | exact h1 _ h | (cases h; done)
theorem F52_text (N : Nat) (x : (F52_s N).X) : acall (tabOf Try.prog) (F52_g N) F52_an (lam N [(5, F52_l5 N)]) Try.f52 (F52_s N).S ((F52_s N).args x) ((F52_s N).bs x) = (F52_s N).t x Ret (fun y => some ((F52_s N).ret y)) := by kernel_rfl
theorem F52_pat (N : Nat) (a : List AV) (b : List (List AV)) (x : (F52_s N).X) (h : (F52_s N).pat a b = some x) : a = (F52_s N).args x ∧ b = (F52_s N).bs x := by
  dsimp only [F52_s] at h
  split at h
  · cases h; exact ⟨rfl, rfl⟩
  · cases h
noncomputable def F52_e (N : Nat) : Ent Try.prog := entOf (tabOf_ok Try.prog) (gam_ok _) mixed 52 Try.f52 Try.func52 rfl F52_an (lam N [(5, F52_l5 N)]) (by
    have e : actOf F52_an (Try.f52.body.getD .skip) 0 = [(5, nthLoop 5 (Try.f52.body.getD .skip))] := by kernel_rfl
    rw [e]
    intro p hp
    rcases List.mem_cons.1 hp with rfl | hp
    · exact F52_loop5 N
    cases hp) (F52_s N) (fun _ => ⟨rfl, rfl⟩) (F52_text N) (F52_pat N) (F52_parF N)
/-! ### seismonet/clock.within (function 36) -/
def F36_an : Nat → Keep × Keep := anL [(4, ⟨[2, 3, 8, 9], [], [8], [(0, 3), (1, 1)], [], [], [], [], false⟩, ⟨[2, 3, 8, 9], [], [8], [(0, 3), (1, 1)], [], [], [], [], false⟩), (18, ⟨[2, 3, 8, 12, 70, 71], [], [8, 12], [(69, 3)], [], [], [], [], false⟩, ⟨[8, 12], [], [8, 12], [], [], [], [], [], false⟩)]
noncomputable def F36_g (N : Nat) : GamK := gam (P := Try.prog) [F50_e N, F47_e N, F51_e N, F52_e N, F37_e N]
noncomputable def F36_l18 (N : Nat) : LSpec where
  X := (List (List AV)) × Int × Int × Int × Int × Int × Int × Int × Int
  Y := (Int × Int × Int × Int)
  p := fun s => match s.env.length, s.nin, s.at 69, s.at 2, s.at 3, s.at 8, s.at 12, s.at 70, s.at 71, s.bx 8, s.bx 12 with
    | 83, 0, (AV.list 3 a0 none), (AV.v (.int .i64 a1)), (AV.v (.int .i64 a2)), (AV.ptr 8 0), (AV.ptr 12 0), (AV.v (.int .i64 a3)), (AV.v (.int .i64 a4)), some [(AV.v (.int .i64 a5)), (AV.v (.int .i64 a6))], some [(AV.v (.int .i64 a7)), (AV.v (.int .i64 a8))] => some (a0, a1, a2, a3, a4, a5, a6, a7, a8)
    | _, _, _, _, _, _, _, _, _, _, _ => none
  st := fun x => mkS 83 [(69, (AV.list 3 x.1 none)), (2, (AV.v (.int .i64 x.2.1))), (3, (AV.v (.int .i64 x.2.2.1))), (8, (AV.ptr 8 0)), (12, (AV.ptr 12 0)), (70, (AV.v (.int .i64 x.2.2.2.1))), (71, (AV.v (.int .i64 x.2.2.2.2.1)))] [(8, [(AV.v (.int .i64 x.2.2.2.2.2.1)), (AV.v (.int .i64 x.2.2.2.2.2.2.1))]), (12, [(AV.v (.int .i64 x.2.2.2.2.2.2.2.1)), (AV.v (.int .i64 x.2.2.2.2.2.2.2.2))])] (F36_an 18).1.toks 0
  out := fun y => (.exit 2, mkS 83 [(8, (AV.ptr 8 0)), (12, (AV.ptr 12 0))] [(8, [(AV.v (.int .i64 y.1)), (AV.v (.int .i64 y.2.1))]), (12, [(AV.v (.int .i64 y.2.2.1)), (AV.v (.int .i64 y.2.2.2))])] (F36_an 18).2.toks 0)
  sp := fun y α k => k (.exit 2, mkS 83 [(8, (AV.ptr 8 0)), (12, (AV.ptr 12 0))] [(8, [(AV.v (.int .i64 y.1)), (AV.v (.int .i64 y.2.1))]), (12, [(AV.v (.int .i64 y.2.2.1)), (AV.v (.int .i64 y.2.2.2))])] (F36_an 18).2.toks 0)
  spe := fun y α k => rfl
  b := fun x α kn ke => (match (decide (x.2.2.2.2.1 < x.2.2.2.1)) with | true => (if 0 ≤ x.2.2.2.2.1 then (match x.1[x.2.2.2.2.1.toNat]? with | some c58 => (match c58[0]? with | some x59 => (match x59 with | .v (.int q61 n60) => (if q61 = .i64 then (match c58[1]? with | some x62 => (match x62 with | .v (.int q64 n63) => (if q64 = .i64 then (match c58[2]? with | some x65 => (match x65 with | .v (.int q67 n66) => (if q67 = .i64 then (match F47_d N (n60, n63, n66, x.2.1, x.2.2.1) with | some y68 => (match F37_d N (x.2.2.2.2.2.2.2.1, x.2.2.2.2.2.2.2.2, y68.1, y68.2) with | some y69 => (kn (x.1, x.2.1, x.2.2.1, x.2.2.2.1, (i64 (x.2.2.2.2.1 + 1)), x.2.2.2.2.2.1, x.2.2.2.2.2.2.1, y69.1, y69.2)) | none => none) | none => none) else none) | _ => none) | none => none) else none) | _ => none) | none => none) else none) | _ => none) | none => none) | none => none) else none) | false => (ke (x.2.2.2.2.2.1, x.2.2.2.2.2.2.1, x.2.2.2.2.2.2.2.1, x.2.2.2.2.2.2.2.2)))
noncomputable abbrev F36_d18 (N : Nat) (x : (List (List AV)) × Int × Int × Int × Int × Int × Int × Int × Int) : Option ((Int × Int × Int × Int)) := (F36_l18 N).L N x
noncomputable def F36_l4 (N : Nat) : LSpec where
  X := (List (List AV)) × (List (List AV)) × Int × Int × Int × Int × Int
  Y := ((List (List AV)) × (List (List AV)) × Int × Int × Int × Int × Int)
  p := fun s => match s.env.length, s.nin, s.at 0, s.at 1, s.at 2, s.at 3, s.at 8, s.at 9, s.bx 8 with
    | 83, 0, (AV.list 3 a0 none), (AV.list 1 a1 none), (AV.v (.int .i64 a2)), (AV.v (.int .i64 a3)), (AV.ptr 8 0), (AV.v (.int .i64 a4)), some [(AV.v (.int .i64 a5)), (AV.v (.int .i64 a6))] => some (a0, a1, a2, a3, a4, a5, a6)
    | _, _, _, _, _, _, _, _, _ => none
  st := fun x => mkS 83 [(0, (AV.list 3 x.1 none)), (1, (AV.list 1 x.2.1 none)), (2, (AV.v (.int .i64 x.2.2.1))), (3, (AV.v (.int .i64 x.2.2.2.1))), (8, (AV.ptr 8 0)), (9, (AV.v (.int .i64 x.2.2.2.2.1)))] [(8, [(AV.v (.int .i64 x.2.2.2.2.2.1)), (AV.v (.int .i64 x.2.2.2.2.2.2))])] (F36_an 4).1.toks 0
  out := fun y => (.exit 0, mkS 83 [(0, (AV.list 3 y.1 none)), (1, (AV.list 1 y.2.1 none)), (2, (AV.v (.int .i64 y.2.2.1))), (3, (AV.v (.int .i64 y.2.2.2.1))), (8, (AV.ptr 8 0)), (9, (AV.v (.int .i64 y.2.2.2.2.1)))] [(8, [(AV.v (.int .i64 y.2.2.2.2.2.1)), (AV.v (.int .i64 y.2.2.2.2.2.2))])] (F36_an 4).2.toks 0)
  sp := fun y α k => k (.exit 0, mkS 83 [(0, (AV.list 3 y.1 none)), (1, (AV.list 1 y.2.1 none)), (2, (AV.v (.int .i64 y.2.2.1))), (3, (AV.v (.int .i64 y.2.2.2.1))), (8, (AV.ptr 8 0)), (9, (AV.v (.int .i64 y.2.2.2.2.1)))] [(8, [(AV.v (.int .i64 y.2.2.2.2.2.1)), (AV.v (.int .i64 y.2.2.2.2.2.2))])] (F36_an 4).2.toks 0)
  spe := fun y α k => rfl
  b := fun x α kn ke => (match (decide (x.2.2.2.2.1 < (x.1.length : Int))) with | true => (if 0 ≤ x.2.2.2.2.1 then (match x.1[x.2.2.2.2.1.toNat]? with | some c5 => (match (c5.drop 0)[0]? with | some x6 => (match x6 with | .v (.int q8 n7) => (if q8 = .i64 then (match (decide (n7 ≤ x.2.2.2.1)) with | true => (kn (x.1, x.2.1, x.2.2.1, x.2.2.2.1, (i64 (x.2.2.2.2.1 + 1)), x.2.2.2.2.2.1, x.2.2.2.2.2.2)) | false => (ke (x.1, x.2.1, x.2.2.1, x.2.2.2.1, x.2.2.2.2.1, x.2.2.2.2.2.1, x.2.2.2.2.2.2))) else none) | _ => none) | none => none) | none => none) else none) | false => (ke (x.1, x.2.1, x.2.2.1, x.2.2.2.1, x.2.2.2.2.1, x.2.2.2.2.2.1, x.2.2.2.2.2.2)))
noncomputable abbrev F36_d4 (N : Nat) (x : (List (List AV)) × (List (List AV)) × Int × Int × Int × Int × Int) : Option (((List (List AV)) × (List (List AV)) × Int × Int × Int × Int × Int)) := (F36_l4 N).L N x
noncomputable def F36_s (N : Nat) : FSpec where
  X := (List (List AV)) × (List (List AV)) × Int × Int
  Y := Int × Int
  ash := [[some 3], [some 1], [none], [none]]
  bsh := []
  S := ⟨[[none, none]], [], [], [], []⟩
  bm := false
  pat := fun a b => match a, b with
    | [(AV.list 3 a0 none), (AV.list 1 a1 none), (AV.v (.int .i64 a2)), (AV.v (.int .i64 a3))], [] => some (a0, a1, a2, a3)
    | _, _ => none
  args := fun x => [(AV.list 3 x.1 none), (AV.list 1 x.2.1 none), (AV.v (.int .i64 x.2.2.1)), (AV.v (.int .i64 x.2.2.2))]
  bs := fun x => []
  ret := fun y => ⟨(AV.agg [(AV.v (.int .i64 y.1)), (AV.v (.int .i64 y.2))]), [], none, [], [], []⟩
  t := fun x α k => (match F36_d4 N (x.1, x.2.1, x.2.2.1, x.2.2.2, 0, 0, 0) with | some y9 => (match F50_d N (y9.2.1, y9.2.2.2.2.1) with | some y10 => (match y10 with | true => (if 0 ≤ (i64 (y9.2.2.2.2.1 - 1)) then (match y9.1[(i64 (y9.2.2.2.2.1 - 1)).toNat]? with | some c11 => (match c11[0]? with | some x12 => (match x12 with | .v (.int q14 n13) => (if q14 = .i64 then (match c11[1]? with | some x15 => (match x15 with | .v (.int q17 n16) => (if q17 = .i64 then (match c11[2]? with | some x18 => (match x18 with | .v (.int q20 n19) => (if q20 = .i64 then (match F47_d N (n13, n16, n19, y9.2.2.1, y9.2.2.2.1) with | some y21 => (if 0 ≤ y9.2.2.2.2.1 then (match y9.1[y9.2.2.2.2.1.toNat]? with | some c22 => (match c22[0]? with | some x23 => (match x23 with | .v (.int q25 n24) => (if q25 = .i64 then (match c22[1]? with | some x26 => (match x26 with | .v (.int q28 n27) => (if q28 = .i64 then (match c22[2]? with | some x29 => (match x29 with | .v (.int q31 n30) => (if q31 = .i64 then (match F47_d N (n24, n27, n30, y9.2.2.1, y9.2.2.2.1) with | some y32 => (match F51_d N (y21.1, y21.2, y32.1, y32.2) with | some y33 => (k (y33.1, y33.2)) | none => none) | none => none) else none) | _ => none) | none => none) else none) | _ => none) | none => none) else none) | _ => none) | none => none) | none => none) else none) | none => none) else none) | _ => none) | none => none) else none) | _ => none) | none => none) else none) | _ => none) | none => none) | none => none) else none) | false => (match F52_d N (y9.2.1, (y9.1.length : Int), (if 0 > (i64 (y9.2.2.2.2.1 - 1)) then 0 else (i64 (y9.2.2.2.2.1 - 1)))) with | some y34 => (if 0 ≤ y34.1 then (match y9.1[y34.1.toNat]? with | some c35 => (match c35[0]? with | some x36 => (match x36 with | .v (.int q38 n37) => (if q38 = .i64 then (match c35[1]? with | some x39 => (match x39 with | .v (.int q41 n40) => (if q41 = .i64 then (match c35[2]? with | some x42 => (match x42 with | .v (.int q44 n43) => (if q44 = .i64 then (match F47_d N (n37, n40, n43, y9.2.2.1, y9.2.2.2.1) with | some y45 => (if 0 ≤ y34.1 ∧ y34.1 ≤ y34.2 ∧ y34.2 ≤ y9.1.length then (match F36_d18 N (((y9.1.take y34.2.toNat).drop y34.1.toNat), y9.2.2.1, y9.2.2.2.1, (((y9.1.take y34.2.toNat).drop y34.1.toNat).length : Int), 0, y9.2.2.2.2.2.1, y9.2.2.2.2.2.2, y45.1, y45.2) with | some y70 => (k (y70.2.2.1, y70.2.2.2)) | none => none) else none) | none => none) else none) | _ => none) | none => none) else none) | _ => none) | none => none) else none) | _ => none) | none => none) | none => none) else none) | none => none)) | none => none) | none => none)
noncomputable abbrev F36_d (N : Nat) (x : (List (List AV)) × (List (List AV)) × Int × Int) : Option (Int × Int) := (F36_s N).d x
theorem F36_par18 (N : Nat) : Par (F36_l18 N).b := by
  intro x α β kn ke kn' ke' r r' h h1 h2
  revert h
  dsimp only [F36_l18]
  (repeat' (first | (with_reducible refine par_ite ?_ ?_) | (with_reducible refine par_both ?_ ?_) | split)) <;> intro h <;> first | exact h1 _ h | exact h2 _ h | (cases h; done)
theorem F36_body18 (N : Nat) (x : (F36_l18 N).X) (α : Type) (kn : AS → Option α) (ke : Out → Option α) : around (tabOf Try.prog) (F36_g N) F36_an (lam N [(4, F36_l4 N), (18, F36_l18 N)]) 18 (bodyOf (nthLoop 18 (Try.f36.body.getD .skip))) ((F36_l18 N).st x) kn ke = (F36_l18 N).b x α (fun x' => kn ((F36_l18 N).st x')) (fun y => (F36_l18 N).sp y α ke) := by kernel_rfl
theorem F36_pat18 (N : Nat) (s : AS) (x : (F36_l18 N).X) (hc : s = canon (F36_an 18).1 s) (h : (F36_l18 N).p s = some x) : s = (F36_l18 N).st x := by
  dsimp only [F36_l18] at h
  split at h
  · cases h
    exact canon_mk hc ‹_› ‹_› rfl rfl rfl ⟨‹_›, ‹_›, ‹_›, ‹_›, ‹_›, ‹_›, ‹_›, trivial⟩ ⟨‹_›, ‹_›, trivial⟩
  · cases h
theorem F36_loop18 (N : Nat) : ∀ s o, s = canon (F36_an 18).1 s → (lam N [(4, F36_l4 N), (18, F36_l18 N)]).v 18 s = some o → LoopSem Try.prog (nthLoop 18 (Try.f36.body.getD .skip)) s o :=
  loop_ok (tabOf_ok Try.prog) (gam_ok _) mixed F36_an N [(4, F36_l4 N), (18, F36_l18 N)] 18 (bodyOf (nthLoop 18 (Try.f36.body.getD .skip))) (nthLoop 18 (Try.f36.body.getD .skip)) (by kernel_rfl) (by
    have e : actOf F36_an (bodyOf (nthLoop 18 (Try.f36.body.getD .skip))) (18 + 1) = [] := by kernel_rfl
    rw [e]
    intro p hp
    cases hp) (F36_l18 N) rfl (fun s x hc h => F36_pat18 N s x hc h) (fun x => rfl) (fun x α kn ke => (F36_body18 N x α kn ke).trans (congrArg ((F36_l18 N).b x α _) (funext fun y => (F36_l18 N).spe y α ke))) (F36_par18 N)
theorem F36_par4 (N : Nat) : Par (F36_l4 N).b := by
  intro x α β kn ke kn' ke' r r' h h1 h2
  revert h
  dsimp only [F36_l4]
  (repeat' (first | (with_reducible refine par_ite ?_ ?_) | (with_reducible refine par_both ?_ ?_) | split)) <;> intro h <;> first | exact h1 _ h | exact h2 _ h | (cases h; done)
theorem F36_body4 (N : Nat) (x : (F36_l4 N).X) (α : Type) (kn : AS → Option α) (ke : Out → Option α) : around (tabOf Try.prog) (F36_g N) F36_an (lam N [(4, F36_l4 N), (18, F36_l18 N)]) 4 (bodyOf (nthLoop 4 (Try.f36.body.getD .skip))) ((F36_l4 N).st x) kn ke = (F36_l4 N).b x α (fun x' => kn ((F36_l4 N).st x')) (fun y => (F36_l4 N).sp y α ke) := by kernel_rfl
theorem F36_pat4 (N : Nat) (s : AS) (x : (F36_l4 N).X) (hc : s = canon (F36_an 4).1 s) (h : (F36_l4 N).p s = some x) : s = (F36_l4 N).st x := by
  dsimp only [F36_l4] at h
  split at h
  · cases h
    exact canon_mk hc ‹_› ‹_› rfl rfl rfl ⟨‹_›, ‹_›, ‹_›, ‹_›, ‹_›, ‹_›, trivial⟩ ⟨‹_›, trivial⟩
  · cases h
theorem F36_loop4 (N : Nat) : ∀ s o, s = canon (F36_an 4).1 s → (lam N [(4, F36_l4 N), (18, F36_l18 N)]).v 4 s = some o → LoopSem Try.prog (nthLoop 4 (Try.f36.body.getD .skip)) s o :=
  loop_ok (tabOf_ok Try.prog) (gam_ok _) mixed F36_an N [(4, F36_l4 N), (18, F36_l18 N)] 4 (bodyOf (nthLoop 4 (Try.f36.body.getD .skip))) (nthLoop 4 (Try.f36.body.getD .skip)) (by kernel_rfl) (by
    have e : actOf F36_an (bodyOf (nthLoop 4 (Try.f36.body.getD .skip))) (4 + 1) = [] := by kernel_rfl
    rw [e]
    intro p hp
    cases hp) (F36_l4 N) rfl (fun s x hc h => F36_pat4 N s x hc h) (fun x => rfl) (fun x α kn ke => (F36_body4 N x α kn ke).trans (congrArg ((F36_l4 N).b x α _) (funext fun y => (F36_l4 N).spe y α ke))) (F36_par4 N)
theorem F36_parF (N : Nat) : ParF (F36_s N).t := by
  intro x α β k k' r r' h h1
  revert h
  dsimp only [F36_s]
  (repeat' (first | (with_reducible refine par_ite ?_ ?_) | (with_reducible refine par_both ?_ ?_) | split)) <;> intro h <;> first | exact h1 _ h | (cases h; done)
theorem F36_text (N : Nat) (x : (F36_s N).X) : acall (tabOf Try.prog) (F36_g N) F36_an (lam N [(4, F36_l4 N), (18, F36_l18 N)]) Try.f36 (F36_s N).S ((F36_s N).args x) ((F36_s N).bs x) = (F36_s N).t x Ret (fun y => some ((F36_s N).ret y)) := by kernel_rfl
theorem F36_pat (N : Nat) (a : List AV) (b : List (List AV)) (x : (F36_s N).X) (h : (F36_s N).pat a b = some x) : a = (F36_s N).args x ∧ b = (F36_s N).bs x := by
  dsimp only [F36_s] at h
  split at h
  · cases h; exact ⟨rfl, rfl⟩
  · cases h
noncomputable def F36_e (N : Nat) : Ent Try.prog := entOf (tabOf_ok Try.prog) (gam_ok _) mixed 36 Try.f36 Try.func36 rfl F36_an (lam N [(4, F36_l4 N), (18, F36_l18 N)]) (by
    have e : actOf F36_an (Try.f36.body.getD .skip) 0 = [(4, nthLoop 4 (Try.f36.body.getD .skip)), (18, nthLoop 18 (Try.f36.body.getD .skip))] := by kernel_rfl
    rw [e]
    intro p hp
    rcases List.mem_cons.1 hp with rfl | hp
    · exact F36_loop4 N
    rcases List.mem_cons.1 hp with rfl | hp
    · exact F36_loop18 N
    cases hp) (F36_s N) (fun _ => ⟨rfl, rfl⟩) (F36_text N) (F36_pat N) (F36_parF N)
/-! ### seismonet/clock.Correct (function 15) -/
def F15_an : Nat → Keep × Keep := anL []
noncomputable def F15_g (N : Nat) : GamK := gam (P := Try.prog) [F16_e N, F35_e N, F36_e N, F37_e N]
noncomputable def F15_s (N : Nat) : FSpec where
  X := (List (List AV)) × Int × Int
  Y := Int × Int × Int
  ash := [[some 3], [none], [none]]
  bsh := []
  S := ⟨[[none], [none], [none]], [], [], [], []⟩
  bm := false
  pat := fun a b => match a, b with
    | [(AV.list 3 a0 none), (AV.v (.int .i64 a1)), (AV.v (.int .i64 a2))], [] => some (a0, a1, a2)
    | _, _ => none
  args := fun x => [(AV.list 3 x.1 none), (AV.v (.int .i64 x.2.1)), (AV.v (.int .i64 x.2.2))]
  bs := fun x => []
  ret := fun y => ⟨(AV.tup [(AV.v (.int .i64 y.1)), (AV.v (.int .i64 y.2.1)), (AV.v (.int .i64 y.2.2))]), [], none, [], [], []⟩
  t := fun x α k => (match F16_d N (x.1, x.2.1) with | some y1 => (match (y1.2 != 0) with | true => (k (0, 0, 1)) | false => (match F35_d N x.2.2 with | some y2 => (match (!y2) with | true => (k (0, 0, 1)) | false => (match ((x.1.length : Int) == 0) with | true => (k (0, 0, 6)) | false => (match F36_d N (x.1, y1.1, x.2.1, x.2.2) with | some y3 => (match F37_d N (y3.1, y3.2, 0, 9007199254740992) with | some y4 => (match (decide (y4.1 > y4.2)) with | true => (k (0, 0, 11)) | false => (k ((i64 ((i64 (y4.1 + y4.2)).tdiv 2)), (i64 (y4.2 - (i64 ((i64 (y4.1 + y4.2)).tdiv 2)))), 0))) | none => none) | none => none))) | none => none)) | none => none)
noncomputable abbrev F15_d (N : Nat) (x : (List (List AV)) × Int × Int) : Option (Int × Int × Int) := (F15_s N).d x
theorem F15_parF (N : Nat) : ParF (F15_s N).t := by
  intro x α β k k' r r' h h1
  revert h
  dsimp only [F15_s]
  (repeat' (first | (with_reducible refine par_ite ?_ ?_) | (with_reducible refine par_both ?_ ?_) | split)) <;> intro h <;> first | exact h1 _ h | (cases h; done)
theorem F15_text (N : Nat) (x : (F15_s N).X) : acall (tabOf Try.prog) (F15_g N) F15_an (lam N []) Try.f15 (F15_s N).S ((F15_s N).args x) ((F15_s N).bs x) = (F15_s N).t x Ret (fun y => some ((F15_s N).ret y)) := by kernel_rfl
theorem F15_pat (N : Nat) (a : List AV) (b : List (List AV)) (x : (F15_s N).X) (h : (F15_s N).pat a b = some x) : a = (F15_s N).args x ∧ b = (F15_s N).bs x := by
  dsimp only [F15_s] at h
  split at h
  · cases h; exact ⟨rfl, rfl⟩
  · cases h
noncomputable def F15_e (N : Nat) : Ent Try.prog := entOf (tabOf_ok Try.prog) (gam_ok _) mixed 15 Try.f15 Try.func15 rfl F15_an (lam N []) (by
    have e : actOf F15_an (Try.f15.body.getD .skip) 0 = [] := by kernel_rfl
    rw [e]
    intro p hp
    cases hp) (F15_s N) (fun _ => ⟨rfl, rfl⟩) (F15_text N) (F15_pat N) (F15_parF N)
/-! ### seismonet/seismonetref01.In (function 45) -/
def F45_an : Nat → Keep × Keep := anL []
noncomputable def F45_g (N : Nat) : GamK := gam (P := Try.prog) []
noncomputable def F45_s (N : Nat) : FSpec where
  X := Int × Int × Int
  Y := Bool
  ash := [[none], [none], [none]]
  bsh := []
  S := ⟨[[none]], [], [], [], []⟩
  bm := false
  pat := fun a b => match a, b with
    | [(AV.v (.int .i64 a0)), (AV.v (.int .i64 a1)), (AV.v (.int .i64 a2))], [] => some (a0, a1, a2)
    | _, _ => none
  args := fun x => [(AV.v (.int .i64 x.1)), (AV.v (.int .i64 x.2.1)), (AV.v (.int .i64 x.2.2))]
  bs := fun x => []
  ret := fun y => ⟨(AV.v (.bool y)), [], none, [], [], []⟩
  t := fun x α k => (match (decide (x.1 ≥ x.2.1)) with | true => (k (decide (x.1 ≤ x.2.2))) | false => (k false))
noncomputable abbrev F45_d (N : Nat) (x : Int × Int × Int) : Option (Bool) := (F45_s N).d x
theorem F45_parF (N : Nat) : ParF (F45_s N).t := by
  intro x α β k k' r r' h h1
  revert h
  dsimp only [F45_s]
  (repeat' (first | (with_reducible refine par_ite ?_ ?_) | (with_reducible refine par_both ?_ ?_) | split)) <;> intro h <;> first | exact h1 _ h | (cases h; done)
theorem F45_text (N : Nat) (x : (F45_s N).X) : acall (tabOf Try.prog) (F45_g N) F45_an (lam N []) Try.f45 (F45_s N).S ((F45_s N).args x) ((F45_s N).bs x) = (F45_s N).t x Ret (fun y => some ((F45_s N).ret y)) := by kernel_rfl
theorem F45_pat (N : Nat) (a : List AV) (b : List (List AV)) (x : (F45_s N).X) (h : (F45_s N).pat a b = some x) : a = (F45_s N).args x ∧ b = (F45_s N).bs x := by
  dsimp only [F45_s] at h
  split at h
  · cases h; exact ⟨rfl, rfl⟩
  · cases h
noncomputable def F45_e (N : Nat) : Ent Try.prog := entOf (tabOf_ok Try.prog) (gam_ok _) mixed 45 Try.f45 Try.func45 rfl F45_an (lam N []) (by
    have e : actOf F45_an (Try.f45.body.getD .skip) 0 = [] := by kernel_rfl
    rw [e]
    intro p hp
    cases hp) (F45_s N) (fun _ => ⟨rfl, rfl⟩) (F45_text N) (F45_pat N) (F45_parF N)
/-! ### seismonet/seismonetref13.anchor (function 44) -/
def F44_an : Nat → Keep × Keep := anL []
noncomputable def F44_g (N : Nat) : GamK := gam (P := Try.prog) [F45_e N]
noncomputable def F44_s (N : Nat) : FSpec where
  X := Int × Int × Int × Int
  Y := Bool
  ash := [[none, none, none], [none]]
  bsh := []
  S := ⟨[[none]], [], [], [], []⟩
  bm := false
  pat := fun a b => match a, b with
    | [(AV.agg [(AV.v (.int .i64 a0)), (AV.v (.int .i64 a1)), (AV.v (.int .i64 a2))]), (AV.v (.int .i64 a3))], [] => some (a0, a1, a2, a3)
    | _, _ => none
  args := fun x => [(AV.agg [(AV.v (.int .i64 x.1)), (AV.v (.int .i64 x.2.1)), (AV.v (.int .i64 x.2.2.1))]), (AV.v (.int .i64 x.2.2.2))]
  bs := fun x => []
  ret := fun y => ⟨(AV.v (.bool y)), [], none, [], [], []⟩
  t := fun x α k => (match F45_d N (x.1, 0, 9007199254740992) with | some y1 => (match y1 with | true => (match F45_d N (x.2.1, 0, x.2.2.1) with | some y2 => (match y2 with | true => (match (decide (x.2.2.1 ≤ 9007199254740992)) with | true => (match F45_d N (x.2.2.2, 0, 500000) with | some y3 => (k y3) | none => none) | false => (k false)) | false => (k false)) | none => none) | false => (k false)) | none => none)
noncomputable abbrev F44_d (N : Nat) (x : Int × Int × Int × Int) : Option (Bool) := (F44_s N).d x
theorem F44_parF (N : Nat) : ParF (F44_s N).t := by
  intro x α β k k' r r' h h1
  revert h
  dsimp only [F44_s]
  (repeat' (first | (with_reducible refine par_ite ?_ ?_) | (with_reducible refine par_both ?_ ?_) | split)) <;> intro h <;> first | exact h1 _ h | (cases h; done)
theorem F44_text (N : Nat) (x : (F44_s N).X) : acall (tabOf Try.prog) (F44_g N) F44_an (lam N []) Try.f44 (F44_s N).S ((F44_s N).args x) ((F44_s N).bs x) = (F44_s N).t x Ret (fun y => some ((F44_s N).ret y)) := by kernel_rfl
theorem F44_pat (N : Nat) (a : List AV) (b : List (List AV)) (x : (F44_s N).X) (h : (F44_s N).pat a b = some x) : a = (F44_s N).args x ∧ b = (F44_s N).bs x := by
  dsimp only [F44_s] at h
  split at h
  · cases h; exact ⟨rfl, rfl⟩
  · cases h
noncomputable def F44_e (N : Nat) : Ent Try.prog := entOf (tabOf_ok Try.prog) (gam_ok _) mixed 44 Try.f44 Try.func44 rfl F44_an (lam N []) (by
    have e : actOf F44_an (Try.f44.body.getD .skip) 0 = [] := by kernel_rfl
    rw [e]
    intro p hp
    cases hp) (F44_s N) (fun _ => ⟨rfl, rfl⟩) (F44_text N) (F44_pat N) (F44_parF N)
/-! ### seismonet/seismonetref13.Valid (function 27) -/
def F27_an : Nat → Keep × Keep := anL [(4, ⟨[1, 5], [], [], [(0, 3)], [], [], [], [], false⟩, ⟨[1, 4], [], [], [(0, 3)], [], [], [], [], false⟩)]
noncomputable def F27_g (N : Nat) : GamK := gam (P := Try.prog) [F44_e N, F45_e N]
noncomputable def F27_l4 (N : Nat) : LSpec where
  X := (List (List AV)) × Int × Int
  Y := ((List (List AV)) × Int × Bool) ⊕ ((List (List AV)) × Int)
  p := fun s => match s.env.length, s.nin, s.at 0, s.at 1, s.at 5 with
    | 44, 0, (AV.list 3 a0 none), (AV.v (.int .i64 a1)), (AV.v (.int .i64 a2)) => some (a0, a1, a2)
    | _, _, _, _, _ => none
  st := fun x => mkS 44 [(0, (AV.list 3 x.1 none)), (1, (AV.v (.int .i64 x.2.1))), (5, (AV.v (.int .i64 x.2.2)))] [] (F27_an 4).1.toks 0
  out := fun y => match y with
    | .inl y => (.ret, mkS 44 [(0, (AV.list 3 y.1 none)), (1, (AV.v (.int .i64 y.2.1))), (4, (AV.v (.bool y.2.2)))] [] (F27_an 4).2.toks 0)
    | .inr y => (.exit 0, mkS 44 [(0, (AV.list 3 y.1 none)), (1, (AV.v (.int .i64 y.2)))] [] (F27_an 4).2.toks 0)
  sp := fun y α k => match y with
    | .inl y => k (.ret, mkS 44 [(0, (AV.list 3 y.1 none)), (1, (AV.v (.int .i64 y.2.1))), (4, (AV.v (.bool y.2.2)))] [] (F27_an 4).2.toks 0)
    | .inr y => k (.exit 0, mkS 44 [(0, (AV.list 3 y.1 none)), (1, (AV.v (.int .i64 y.2)))] [] (F27_an 4).2.toks 0)
  spe := fun y α k => by rcases y with _ | _ <;> rfl
  b := fun x α kn ke => (match (decide (x.2.2 < (x.1.length : Int))) with | true => (if 0 ≤ x.2.2 then (match x.1[x.2.2.toNat]? with | some c1 => (match c1[0]? with | some x2 => (match x2 with | .v (.int q4 n3) => (if q4 = .i64 then (match c1[1]? with | some x5 => (match x5 with | .v (.int q7 n6) => (if q7 = .i64 then (match c1[2]? with | some x8 => (match x8 with | .v (.int q10 n9) => (if q10 = .i64 then (match F44_d N (n3, n6, n9, x.2.1) with | some y11 => (match (!y11) with | true => (ke (.inl (x.1, x.2.1, false))) | false => (match (decide (x.2.2 > 0)) with | true => (if 0 ≤ x.2.2 then (match x.1[x.2.2.toNat]? with | some c12 => (match (c12.drop 0)[0]? with | some x13 => (match x13 with | .v (.int q15 n14) => (if q15 = .i64 then (if 0 ≤ (i64 (x.2.2 - 1)) then (match x.1[(i64 (x.2.2 - 1)).toNat]? with | some c16 => (match (c16.drop 0)[0]? with | some x17 => (match x17 with | .v (.int q19 n18) => (if q19 = .i64 then (match (decide (n14 ≤ n18)) with | true => (ke (.inl (x.1, x.2.1, false))) | false => (kn (x.1, x.2.1, (i64 (x.2.2 + 1))))) else none) | _ => none) | none => none) | none => none) else none) else none) | _ => none) | none => none) | none => none) else none) | false => (kn (x.1, x.2.1, (i64 (x.2.2 + 1)))))) | none => none) else none) | _ => none) | none => none) else none) | _ => none) | none => none) else none) | _ => none) | none => none) | none => none) else none) | false => (ke (.inr (x.1, x.2.1))))
noncomputable abbrev F27_d4 (N : Nat) (x : (List (List AV)) × Int × Int) : Option (((List (List AV)) × Int × Bool) ⊕ ((List (List AV)) × Int)) := (F27_l4 N).L N x
noncomputable def F27_s (N : Nat) : FSpec where
  X := (List (List AV)) × Int
  Y := Bool
  ash := [[some 3], [none]]
  bsh := []
  S := ⟨[[none]], [], [], [], []⟩
  bm := false
  pat := fun a b => match a, b with
    | [(AV.list 3 a0 none), (AV.v (.int .i64 a1))], [] => some (a0, a1)
    | _, _ => none
  args := fun x => [(AV.list 3 x.1 none), (AV.v (.int .i64 x.2))]
  bs := fun x => []
  ret := fun y => ⟨(AV.v (.bool y)), [], none, [], [], []⟩
  t := fun x α k => (match F27_d4 N (x.1, x.2, 0) with | some y20 => (match y20 with | .inl z21 => (k z21.2.2) | .inr z22 => (match F45_d N (z22.2, 0, 500000) with | some y23 => (match y23 with | true => (k (decide ((z22.1.length : Int) ≤ 256))) | false => (k false)) | none => none)) | none => none)
noncomputable abbrev F27_d (N : Nat) (x : (List (List AV)) × Int) : Option (Bool) := (F27_s N).d x
theorem F27_par4 (N : Nat) : Par (F27_l4 N).b := by
  intro x α β kn ke kn' ke' r r' h h1 h2
  revert h
  dsimp only [F27_l4]
  (repeat' (first | (with_reducible refine par_ite ?_ ?_) | (with_reducible refine par_both ?_ ?_) | split)) <;> intro h <;> first | exact h1 _ h | exact h2 _ h | (cases h; done)
theorem F27_body4 (N : Nat) (x : (F27_l4 N).X) (α : Type) (kn : AS → Option α) (ke : Out → Option α) : around (tabOf Try.prog) (F27_g N) F27_an (lam N [(4, F27_l4 N)]) 4 (bodyOf (nthLoop 4 (Try.f27.body.getD .skip))) ((F27_l4 N).st x) kn ke = (F27_l4 N).b x α (fun x' => kn ((F27_l4 N).st x')) (fun y => (F27_l4 N).sp y α ke) := by kernel_rfl
theorem F27_pat4 (N : Nat) (s : AS) (x : (F27_l4 N).X) (hc : s = canon (F27_an 4).1 s) (h : (F27_l4 N).p s = some x) : s = (F27_l4 N).st x := by
  dsimp only [F27_l4] at h
  split at h
  · cases h
    exact canon_mk hc ‹_› ‹_› rfl rfl rfl ⟨‹_›, ‹_›, ‹_›, trivial⟩ trivial
  · cases h
theorem F27_loop4 (N : Nat) : ∀ s o, s = canon (F27_an 4).1 s → (lam N [(4, F27_l4 N)]).v 4 s = some o → LoopSem Try.prog (nthLoop 4 (Try.f27.body.getD .skip)) s o :=
  loop_ok (tabOf_ok Try.prog) (gam_ok _) mixed F27_an N [(4, F27_l4 N)] 4 (bodyOf (nthLoop 4 (Try.f27.body.getD .skip))) (nthLoop 4 (Try.f27.body.getD .skip)) (by kernel_rfl) (by
    have e : actOf F27_an (bodyOf (nthLoop 4 (Try.f27.body.getD .skip))) (4 + 1) = [] := by kernel_rfl
    rw [e]
    intro p hp
    cases hp) (F27_l4 N) rfl (fun s x hc h => F27_pat4 N s x hc h) (fun x => rfl) (fun x α kn ke => (F27_body4 N x α kn ke).trans (congrArg ((F27_l4 N).b x α _) (funext fun y => (F27_l4 N).spe y α ke))) (F27_par4 N)
theorem F27_parF (N : Nat) : ParF (F27_s N).t := by
  intro x α β k k' r r' h h1
  revert h
  dsimp only [F27_s]
  (repeat' (first | (with_reducible refine par_ite ?_ ?_) | (with_reducible refine par_both ?_ ?_) | split)) <;> intro h <;> first | exact h1 _ h | (cases h; done)
theorem F27_text (N : Nat) (x : (F27_s N).X) : acall (tabOf Try.prog) (F27_g N) F27_an (lam N [(4, F27_l4 N)]) Try.f27 (F27_s N).S ((F27_s N).args x) ((F27_s N).bs x) = (F27_s N).t x Ret (fun y => some ((F27_s N).ret y)) := by kernel_rfl
theorem F27_pat (N : Nat) (a : List AV) (b : List (List AV)) (x : (F27_s N).X) (h : (F27_s N).pat a b = some x) : a = (F27_s N).args x ∧ b = (F27_s N).bs x := by
  dsimp only [F27_s] at h
  split at h
  · cases h; exact ⟨rfl, rfl⟩
  · cases h
noncomputable def F27_e (N : Nat) : Ent Try.prog := entOf (tabOf_ok Try.prog) (gam_ok _) mixed 27 Try.f27 Try.func27 rfl F27_an (lam N [(4, F27_l4 N)]) (by
    have e : actOf F27_an (Try.f27.body.getD .skip) 0 = [(4, nthLoop 4 (Try.f27.body.getD .skip))] := by kernel_rfl
    rw [e]
    intro p hp
    rcases List.mem_cons.1 hp with rfl | hp
    · exact F27_loop4 N
    cases hp) (F27_s N) (fun _ => ⟨rfl, rfl⟩) (F27_text N) (F27_pat N) (F27_parF N)
/-! ### seismonet/seismonetref13.Elapsed (function 34) -/
def F34_an : Nat → Keep × Keep := anL []
noncomputable def F34_g (N : Nat) : GamK := gam (P := Try.prog) [F45_e N]
noncomputable def F34_s (N : Nat) : FSpec where
  X := Int × Int
  Y := Int × Int
  ash := [[none], [none]]
  bsh := []
  S := ⟨[[none], [none]], [], [], [], []⟩
  bm := false
  pat := fun a b => match a, b with
    | [(AV.v (.int .i64 a0)), (AV.v (.int .i64 a1))], [] => some (a0, a1)
    | _, _ => none
  args := fun x => [(AV.v (.int .i64 x.1)), (AV.v (.int .i64 x.2))]
  bs := fun x => []
  ret := fun y => ⟨(AV.tup [(AV.v (.int .i64 y.1)), (AV.v (.int .i64 y.2))]), [], none, [], [], []⟩
  t := fun x α k => (match F45_d N (x.1, 0, 500000) with | some y1 => (match (!y1) with | true => (k (0, 0)) | false => (match F45_d N (x.2, 0, 9007199254740992) with | some y2 => (match (!y2) with | true => (k (0, 0)) | false => (if (i64 (1000000 + x.1)) = 0 then none else (if (i64 (1000000 + x.1)) = 0 then none else (if (i64 (1000000 + x.1)) = 0 then none else (if (i64 (1000000 - x.1)) = 0 then none else (if (i64 (1000000 - x.1)) = 0 then none else (if (i64 (1000000 - x.1)) = 0 then none else (k ((i64 ((i64 ((i64 (x.2.tdiv (i64 (1000000 + x.1)))) * 1000000)) + (i64 ((i64 ((x.2.tmod (i64 (1000000 + x.1))) * 1000000)).tdiv (i64 (1000000 + x.1)))))), (i64 ((i64 ((i64 (x.2.tdiv (i64 (1000000 - x.1)))) * 1000000)) + (i64 ((i64 ((i64 ((i64 ((x.2.tmod (i64 (1000000 - x.1))) * 1000000)) + (i64 (1000000 - x.1)))) - 1)).tdiv (i64 (1000000 - x.1))))))))))))))) | none => none)) | none => none)
noncomputable abbrev F34_d (N : Nat) (x : Int × Int) : Option (Int × Int) := (F34_s N).d x
theorem F34_parF (N : Nat) : ParF (F34_s N).t := by
  intro x α β k k' r r' h h1
  revert h
  dsimp only [F34_s]
  (repeat' (first | (with_reducible refine par_ite ?_ ?_) | (with_reducible refine par_both ?_ ?_) | split)) <;> intro h <;> first | exact h1 _ h | (cases h; done)
theorem F34_text (N : Nat) (x : (F34_s N).X) : acall (tabOf Try.prog) (F34_g N) F34_an (lam N []) Try.f34 (F34_s N).S ((F34_s N).args x) ((F34_s N).bs x) = (F34_s N).t x Ret (fun y => some ((F34_s N).ret y)) := by kernel_rfl
theorem F34_pat (N : Nat) (a : List AV) (b : List (List AV)) (x : (F34_s N).X) (h : (F34_s N).pat a b = some x) : a = (F34_s N).args x ∧ b = (F34_s N).bs x := by
  dsimp only [F34_s] at h
  split at h
  · cases h; exact ⟨rfl, rfl⟩
  · cases h
noncomputable def F34_e (N : Nat) : Ent Try.prog := entOf (tabOf_ok Try.prog) (gam_ok _) mixed 34 Try.f34 Try.func34 rfl F34_an (lam N []) (by
    have e : actOf F34_an (Try.f34.body.getD .skip) 0 = [] := by kernel_rfl
    rw [e]
    intro p hp
    cases hp) (F34_s N) (fun _ => ⟨rfl, rfl⟩) (F34_text N) (F34_pat N) (F34_parF N)
/-! ### seismonet/seismonetref13.from (function 48) -/
def F48_an : Nat → Keep × Keep := anL []
noncomputable def F48_g (N : Nat) : GamK := gam (P := Try.prog) [F34_e N]
noncomputable def F48_s (N : Nat) : FSpec where
  X := Int × Int × Int × Int × Int
  Y := Int × Int
  ash := [[none, none, none], [none], [none]]
  bsh := []
  S := ⟨[[none], [none]], [], [], [], []⟩
  bm := false
  pat := fun a b => match a, b with
    | [(AV.agg [(AV.v (.int .i64 a0)), (AV.v (.int .i64 a1)), (AV.v (.int .i64 a2))]), (AV.v (.int .i64 a3)), (AV.v (.int .i64 a4))], [] => some (a0, a1, a2, a3, a4)
    | _, _ => none
  args := fun x => [(AV.agg [(AV.v (.int .i64 x.1)), (AV.v (.int .i64 x.2.1)), (AV.v (.int .i64 x.2.2.1))]), (AV.v (.int .i64 x.2.2.2.1)), (AV.v (.int .i64 x.2.2.2.2))]
  bs := fun x => []
  ret := fun y => ⟨(AV.tup [(AV.v (.int .i64 y.1)), (AV.v (.int .i64 y.2))]), [], none, [], [], []⟩
  t := fun x α k => (match (decide (x.2.2.2.2 ≥ x.1)) with | true => (match F34_d N (x.2.2.2.1, (i64 (x.2.2.2.2 - x.1))) with | some y1 => (k ((i64 (x.2.1 + y1.1)), (i64 (x.2.2.1 + y1.2)))) | none => none) | false => (match F34_d N (x.2.2.2.1, (i64 (x.1 - x.2.2.2.2))) with | some y2 => (k ((i64 (x.2.1 - y2.2)), (i64 (x.2.2.1 - y2.1)))) | none => none))
noncomputable abbrev F48_d (N : Nat) (x : Int × Int × Int × Int × Int) : Option (Int × Int) := (F48_s N).d x
theorem F48_parF (N : Nat) : ParF (F48_s N).t := by
  intro x α β k k' r r' h h1
  revert h
  dsimp only [F48_s]
  (repeat' (first | (with_reducible refine par_ite ?_ ?_) | (with_reducible refine par_both ?_ ?_) | split)) <;> intro h <;> first | exact h1 _ h | (cases h; done)
theorem F48_text (N : Nat) (x : (F48_s N).X) : acall (tabOf Try.prog) (F48_g N) F48_an (lam N []) Try.f48 (F48_s N).S ((F48_s N).args x) ((F48_s N).bs x) = (F48_s N).t x Ret (fun y => some ((F48_s N).ret y)) := by kernel_rfl
theorem F48_pat (N : Nat) (a : List AV) (b : List (List AV)) (x : (F48_s N).X) (h : (F48_s N).pat a b = some x) : a = (F48_s N).args x ∧ b = (F48_s N).bs x := by
  dsimp only [F48_s] at h
  split at h
  · cases h; exact ⟨rfl, rfl⟩
  · cases h
noncomputable def F48_e (N : Nat) : Ent Try.prog := entOf (tabOf_ok Try.prog) (gam_ok _) mixed 48 Try.f48 Try.func48 rfl F48_an (lam N []) (by
    have e : actOf F48_an (Try.f48.body.getD .skip) 0 = [] := by kernel_rfl
    rw [e]
    intro p hp
    cases hp) (F48_s N) (fun _ => ⟨rfl, rfl⟩) (F48_text N) (F48_pat N) (F48_parF N)
/-! ### seismonet/seismonetref13.Agrees (function 32) -/
def F32_an : Nat → Keep × Keep := anL []
noncomputable def F32_g (N : Nat) : GamK := gam (P := Try.prog) [F27_e N, F48_e N]
noncomputable def F32_s (N : Nat) : FSpec where
  X := Int × Int × Int × Int × Int × Int × Int
  Y := Bool
  ash := [[none, none, none], [none, none, none], [none]]
  bsh := []
  S := ⟨[[none]], [], [], [], []⟩
  bm := false
  pat := fun a b => match a, b with
    | [(AV.agg [(AV.v (.int .i64 a0)), (AV.v (.int .i64 a1)), (AV.v (.int .i64 a2))]), (AV.agg [(AV.v (.int .i64 a3)), (AV.v (.int .i64 a4)), (AV.v (.int .i64 a5))]), (AV.v (.int .i64 a6))], [] => some (a0, a1, a2, a3, a4, a5, a6)
    | _, _ => none
  args := fun x => [(AV.agg [(AV.v (.int .i64 x.1)), (AV.v (.int .i64 x.2.1)), (AV.v (.int .i64 x.2.2.1))]), (AV.agg [(AV.v (.int .i64 x.2.2.2.1)), (AV.v (.int .i64 x.2.2.2.2.1)), (AV.v (.int .i64 x.2.2.2.2.2.1))]), (AV.v (.int .i64 x.2.2.2.2.2.2))]
  bs := fun x => []
  ret := fun y => ⟨(AV.v (.bool y)), [], none, [], [], []⟩
  t := fun x α k => (match F27_d N ([[(AV.v (.int .i64 x.1)), (AV.v (.int .i64 x.2.1)), (AV.v (.int .i64 x.2.2.1))], [(AV.v (.int .i64 x.2.2.2.1)), (AV.v (.int .i64 x.2.2.2.2.1)), (AV.v (.int .i64 x.2.2.2.2.2.1))]], x.2.2.2.2.2.2) with | some y1 => (match (!y1) with | true => (k false) | false => (match F48_d N (x.1, x.2.1, x.2.2.1, x.2.2.2.2.2.2, x.2.2.2.1) with | some y2 => (k (decide ((if x.2.2.2.2.1 > y2.1 then x.2.2.2.2.1 else y2.1) ≤ (if x.2.2.2.2.2.1 < y2.2 then x.2.2.2.2.2.1 else y2.2)))) | none => none)) | none => none)
noncomputable abbrev F32_d (N : Nat) (x : Int × Int × Int × Int × Int × Int × Int) : Option (Bool) := (F32_s N).d x
theorem F32_parF (N : Nat) : ParF (F32_s N).t := by
  intro x α β k k' r r' h h1
  revert h
  dsimp only [F32_s]
  (repeat' (first | (with_reducible refine par_ite ?_ ?_) | (with_reducible refine par_both ?_ ?_) | split)) <;> intro h <;> first | exact h1 _ h | (cases h; done)
theorem F32_text (N : Nat) (x : (F32_s N).X) : acall (tabOf Try.prog) (F32_g N) F32_an (lam N []) Try.f32 (F32_s N).S ((F32_s N).args x) ((F32_s N).bs x) = (F32_s N).t x Ret (fun y => some ((F32_s N).ret y)) := by kernel_rfl
theorem F32_pat (N : Nat) (a : List AV) (b : List (List AV)) (x : (F32_s N).X) (h : (F32_s N).pat a b = some x) : a = (F32_s N).args x ∧ b = (F32_s N).bs x := by
  dsimp only [F32_s] at h
  split at h
  · cases h; exact ⟨rfl, rfl⟩
  · cases h
noncomputable def F32_e (N : Nat) : Ent Try.prog := entOf (tabOf_ok Try.prog) (gam_ok _) mixed 32 Try.f32 Try.func32 rfl F32_an (lam N []) (by
    have e : actOf F32_an (Try.f32.body.getD .skip) 0 = [] := by kernel_rfl
    rw [e]
    intro p hp
    cases hp) (F32_s N) (fun _ => ⟨rfl, rfl⟩) (F32_text N) (F32_pat N) (F32_parF N)
/-! ### seismonet/seismonetref13.Jumps (function 24) -/
def F24_an : Nat → Keep × Keep := anL [(9, ⟨[1, 7], [(6, 1)], [], [(0, 3)], [], [], [], [], false⟩, ⟨[], [(6, 1)], [], [], [], [], [], [], false⟩)]
noncomputable def F24_g (N : Nat) : GamK := gam (P := Try.prog) [F27_e N, F32_e N]
noncomputable def F24_l9 (N : Nat) : LSpec where
  X := (List (List AV)) × (List (List AV)) × Int × Int
  Y := ((List (List AV)))
  p := fun s => match s.env.length, s.nin, s.at 6, s.at 0, s.at 1, s.at 7 with
    | 35, 0, (AV.list 1 a0 (some 1280000384)), (AV.list 3 a1 none), (AV.v (.int .i64 a2)), (AV.v (.int .i64 a3)) => some (a0, a1, a2, a3)
    | _, _, _, _, _, _ => none
  st := fun x => mkS 35 [(6, (AV.list 1 x.1 (some 1280000384))), (0, (AV.list 3 x.2.1 none)), (1, (AV.v (.int .i64 x.2.2.1))), (7, (AV.v (.int .i64 x.2.2.2)))] [] (F24_an 9).1.toks 0
  out := fun y => (.exit 0, mkS 35 [(6, (AV.list 1 y (some 1280000384)))] [] (F24_an 9).2.toks 0)
  sp := fun y α k => k (.exit 0, mkS 35 [(6, (AV.list 1 y (some 1280000384)))] [] (F24_an 9).2.toks 0)
  spe := fun y α k => rfl
  b := fun x α kn ke => (match (decide (x.2.2.2 < (x.2.1.length : Int))) with | true => (if 0 ≤ (i64 (x.2.2.2 - 1)) then (match x.2.1[(i64 (x.2.2.2 - 1)).toNat]? with | some c2 => (match c2[0]? with | some x3 => (match x3 with | .v (.int q5 n4) => (if q5 = .i64 then (match c2[1]? with | some x6 => (match x6 with | .v (.int q8 n7) => (if q8 = .i64 then (match c2[2]? with | some x9 => (match x9 with | .v (.int q11 n10) => (if q11 = .i64 then (if 0 ≤ x.2.2.2 then (match x.2.1[x.2.2.2.toNat]? with | some c12 => (match c12[0]? with | some x13 => (match x13 with | .v (.int q15 n14) => (if q15 = .i64 then (match c12[1]? with | some x16 => (match x16 with | .v (.int q18 n17) => (if q18 = .i64 then (match c12[2]? with | some x19 => (match x19 with | .v (.int q21 n20) => (if q21 = .i64 then (match F32_d N (n4, n7, n10, n14, n17, n20, x.2.2.1) with | some y22 => (match (!y22) with | true => (if (x.1.length + [[(AV.v (.int .i64 x.2.2.2))]].length) * 8 ≤ maxBytes then (kn ((x.1 ++ [[(AV.v (.int .i64 x.2.2.2))]]), x.2.1, x.2.2.1, (i64 (x.2.2.2 + 1)))) else none) | false => (kn (x.1, x.2.1, x.2.2.1, (i64 (x.2.2.2 + 1))))) | none => none) else none) | _ => none) | none => none) else none) | _ => none) | none => none) else none) | _ => none) | none => none) | none => none) else none) else none) | _ => none) | none => none) else none) | _ => none) | none => none) else none) | _ => none) | none => none) | none => none) else none) | false => (ke x.1))
noncomputable abbrev F24_d9 (N : Nat) (x : (List (List AV)) × (List (List AV)) × Int × Int) : Option (((List (List AV)))) := (F24_l9 N).L N x
noncomputable def F24_s (N : Nat) : FSpec where
  X := (List (List AV)) × Int
  Y := (List (List AV)) × Int
  ash := [[some 3], [none]]
  bsh := []
  S := ⟨[[some 2000001], [none]], [], [], [], []⟩
  bm := false
  pat := fun a b => match a, b with
    | [(AV.list 3 a0 none), (AV.v (.int .i64 a1))], [] => some (a0, a1)
    | _, _ => none
  args := fun x => [(AV.list 3 x.1 none), (AV.v (.int .i64 x.2))]
  bs := fun x => []
  ret := fun y => ⟨(AV.tup [(AV.list 1 y.1 (some 2560000000)), (AV.v (.int .i64 y.2))]), [], none, [], [2560000000], []⟩
  t := fun x α k => (match F27_d N (x.1, x.2) with | some y1 => (match (!y1) with | true => (k (([] : List (List AV)), 1)) | false => (match F24_d9 N (([] : List (List AV)), x.1, x.2, 1) with | some y23 => (k (y23, 0)) | none => none)) | none => none)
noncomputable abbrev F24_d (N : Nat) (x : (List (List AV)) × Int) : Option ((List (List AV)) × Int) := (F24_s N).d x
theorem F24_par9 (N : Nat) : Par (F24_l9 N).b := by
  intro x α β kn ke kn' ke' r r' h h1 h2
  revert h
  dsimp only [F24_l9]
  (repeat' (first | (with_reducible refine par_ite ?_ ?_) | (with_reducible refine par_both ?_ ?_) | split)) <;> intro h <;> first | exact h1 _ h | exact h2 _ h | (cases h; done)
theorem F24_body9 (N : Nat) (x : (F24_l9 N).X) (α : Type) (kn : AS → Option α) (ke : Out → Option α) : around (tabOf Try.prog) (F24_g N) F24_an (lam N [(9, F24_l9 N)]) 9 (bodyOf (nthLoop 9 (Try.f24.body.getD .skip))) ((F24_l9 N).st x) kn ke = (F24_l9 N).b x α (fun x' => kn ((F24_l9 N).st x')) (fun y => (F24_l9 N).sp y α ke) := by kernel_rfl
theorem F24_pat9 (N : Nat) (s : AS) (x : (F24_l9 N).X) (hc : s = canon (F24_an 9).1 s) (h : (F24_l9 N).p s = some x) : s = (F24_l9 N).st x := by
  dsimp only [F24_l9] at h
  split at h
  · cases h
    exact canon_mk hc ‹_› ‹_› rfl rfl rfl ⟨‹_›, ‹_›, ‹_›, ‹_›, trivial⟩ trivial
  · cases h
theorem F24_loop9 (N : Nat) : ∀ s o, s = canon (F24_an 9).1 s → (lam N [(9, F24_l9 N)]).v 9 s = some o → LoopSem Try.prog (nthLoop 9 (Try.f24.body.getD .skip)) s o :=
  loop_ok (tabOf_ok Try.prog) (gam_ok _) mixed F24_an N [(9, F24_l9 N)] 9 (bodyOf (nthLoop 9 (Try.f24.body.getD .skip))) (nthLoop 9 (Try.f24.body.getD .skip)) (by kernel_rfl) (by
    have e : actOf F24_an (bodyOf (nthLoop 9 (Try.f24.body.getD .skip))) (9 + 1) = [] := by kernel_rfl
    rw [e]
    intro p hp
    cases hp) (F24_l9 N) rfl (fun s x hc h => F24_pat9 N s x hc h) (fun x => rfl) (fun x α kn ke => (F24_body9 N x α kn ke).trans (congrArg ((F24_l9 N).b x α _) (funext fun y => (F24_l9 N).spe y α ke))) (F24_par9 N)
theorem F24_parF (N : Nat) : ParF (F24_s N).t := by
  intro x α β k k' r r' h h1
  revert h
  dsimp only [F24_s]
  (repeat' (first | (with_reducible refine par_ite ?_ ?_) | (with_reducible refine par_both ?_ ?_) | split)) <;> intro h <;> first | exact h1 _ h | (cases h; done)
theorem F24_text (N : Nat) (x : (F24_s N).X) : acall (tabOf Try.prog) (F24_g N) F24_an (lam N [(9, F24_l9 N)]) Try.f24 (F24_s N).S ((F24_s N).args x) ((F24_s N).bs x) = (F24_s N).t x Ret (fun y => some ((F24_s N).ret y)) := by kernel_rfl
theorem F24_pat (N : Nat) (a : List AV) (b : List (List AV)) (x : (F24_s N).X) (h : (F24_s N).pat a b = some x) : a = (F24_s N).args x ∧ b = (F24_s N).bs x := by
  dsimp only [F24_s] at h
  split at h
  · cases h; exact ⟨rfl, rfl⟩
  · cases h
noncomputable def F24_e (N : Nat) : Ent Try.prog := entOf (tabOf_ok Try.prog) (gam_ok _) mixed 24 Try.f24 Try.func24 rfl F24_an (lam N [(9, F24_l9 N)]) (by
    have e : actOf F24_an (Try.f24.body.getD .skip) 0 = [(9, nthLoop 9 (Try.f24.body.getD .skip))] := by kernel_rfl
    rw [e]
    intro p hp
    rcases List.mem_cons.1 hp with rfl | hp
    · exact F24_loop9 N
    cases hp) (F24_s N) (fun _ => ⟨rfl, rfl⟩) (F24_text N) (F24_pat N) (F24_parF N)
/-! ### seismonet/seismonetref13.interval (function 46) -/
def F46_an : Nat → Keep × Keep := anL [(6, ⟨[1, 2, 6, 7, 10, 11, 12], [], [], [(0, 3), (8, 1)], [], [], [], [], false⟩, ⟨[1, 2, 6, 7, 10, 11], [], [], [(0, 3)], [], [], [], [], false⟩), (26, ⟨[1, 2, 6, 7, 10, 11, 18], [], [], [(0, 3)], [], [], [], [], false⟩, ⟨[6, 7], [], [], [], [], [], [], [], false⟩)]
noncomputable def F46_g (N : Nat) : GamK := gam (P := Try.prog) [F24_e N, F48_e N]
noncomputable def F46_l26 (N : Nat) : LSpec where
  X := (List (List AV)) × Int × Int × Int × Int × Int × Int × Int
  Y := (Int × Int)
  p := fun s => match s.env.length, s.nin, s.at 0, s.at 1, s.at 2, s.at 6, s.at 7, s.at 10, s.at 11, s.at 18 with
    | 114, 0, (AV.list 3 a0 none), (AV.v (.int .i64 a1)), (AV.v (.int .i64 a2)), (AV.v (.int .i64 a3)), (AV.v (.int .i64 a4)), (AV.v (.int .i64 a5)), (AV.v (.int .i64 a6)), (AV.v (.int .i64 a7)) => some (a0, a1, a2, a3, a4, a5, a6, a7)
    | _, _, _, _, _, _, _, _, _, _ => none
  st := fun x => mkS 114 [(0, (AV.list 3 x.1 none)), (1, (AV.v (.int .i64 x.2.1))), (2, (AV.v (.int .i64 x.2.2.1))), (6, (AV.v (.int .i64 x.2.2.2.1))), (7, (AV.v (.int .i64 x.2.2.2.2.1))), (10, (AV.v (.int .i64 x.2.2.2.2.2.1))), (11, (AV.v (.int .i64 x.2.2.2.2.2.2.1))), (18, (AV.v (.int .i64 x.2.2.2.2.2.2.2)))] [] (F46_an 26).1.toks 0
  out := fun y => (.exit 2, mkS 114 [(6, (AV.v (.int .i64 y.1))), (7, (AV.v (.int .i64 y.2)))] [] (F46_an 26).2.toks 0)
  sp := fun y α k => k (.exit 2, mkS 114 [(6, (AV.v (.int .i64 y.1))), (7, (AV.v (.int .i64 y.2)))] [] (F46_an 26).2.toks 0)
  spe := fun y α k => rfl
  b := fun x α kn ke => (match (decide (x.2.2.2.2.2.2.2 < x.2.2.2.2.2.2.1)) with | true => (if 0 ≤ x.2.2.2.2.2.2.2 then (match x.1[x.2.2.2.2.2.2.2.toNat]? with | some c39 => (match c39[0]? with | some x40 => (match x40 with | .v (.int q42 n41) => (if q42 = .i64 then (match c39[1]? with | some x43 => (match x43 with | .v (.int q45 n44) => (if q45 = .i64 then (match c39[2]? with | some x46 => (match x46 with | .v (.int q48 n47) => (if q48 = .i64 then (match F48_d N (n41, n44, n47, x.2.1, x.2.2.1) with | some y49 => (match (x.2.2.2.2.2.2.2 == x.2.2.2.2.2.1) with | true => (kn (x.1, x.2.1, x.2.2.1, (if y49.1 > y49.1 then y49.1 else y49.1), (if y49.2 < y49.2 then y49.2 else y49.2), x.2.2.2.2.2.1, x.2.2.2.2.2.2.1, (i64 (x.2.2.2.2.2.2.2 + 1)))) | false => (kn (x.1, x.2.1, x.2.2.1, (if y49.1 > x.2.2.2.1 then y49.1 else x.2.2.2.1), (if y49.2 < x.2.2.2.2.1 then y49.2 else x.2.2.2.2.1), x.2.2.2.2.2.1, x.2.2.2.2.2.2.1, (i64 (x.2.2.2.2.2.2.2 + 1))))) | none => none) else none) | _ => none) | none => none) else none) | _ => none) | none => none) else none) | _ => none) | none => none) | none => none) else none) | false => (ke (x.2.2.2.1, x.2.2.2.2.1)))
noncomputable abbrev F46_d26 (N : Nat) (x : (List (List AV)) × Int × Int × Int × Int × Int × Int × Int) : Option ((Int × Int)) := (F46_l26 N).L N x
noncomputable def F46_l6 (N : Nat) : LSpec where
  X := (List (List AV)) × (List (List AV)) × Int × Int × Int × Int × Int × Int × Int
  Y := ((List (List AV)) × Int × Int × Int × Int × Int × Int) ⊕ ((List (List AV)) × Int × Int × Int × Int × Int × Int)
  p := fun s => match s.env.length, s.nin, s.at 0, s.at 8, s.at 1, s.at 2, s.at 6, s.at 7, s.at 10, s.at 11, s.at 12 with
    | 114, 0, (AV.list 3 a0 none), (AV.list 1 a1 none), (AV.v (.int .i64 a2)), (AV.v (.int .i64 a3)), (AV.v (.int .i64 a4)), (AV.v (.int .i64 a5)), (AV.v (.int .i64 a6)), (AV.v (.int .i64 a7)), (AV.v (.int .i64 a8)) => some (a0, a1, a2, a3, a4, a5, a6, a7, a8)
    | _, _, _, _, _, _, _, _, _, _, _ => none
  st := fun x => mkS 114 [(0, (AV.list 3 x.1 none)), (8, (AV.list 1 x.2.1 none)), (1, (AV.v (.int .i64 x.2.2.1))), (2, (AV.v (.int .i64 x.2.2.2.1))), (6, (AV.v (.int .i64 x.2.2.2.2.1))), (7, (AV.v (.int .i64 x.2.2.2.2.2.1))), (10, (AV.v (.int .i64 x.2.2.2.2.2.2.1))), (11, (AV.v (.int .i64 x.2.2.2.2.2.2.2.1))), (12, (AV.v (.int .i64 x.2.2.2.2.2.2.2.2)))] [] (F46_an 6).1.toks 0
  out := fun y => match y with
    | .inl y => (.ret, mkS 114 [(0, (AV.list 3 y.1 none)), (1, (AV.v (.int .i64 y.2.1))), (2, (AV.v (.int .i64 y.2.2.1))), (6, (AV.v (.int .i64 y.2.2.2.1))), (7, (AV.v (.int .i64 y.2.2.2.2.1))), (10, (AV.v (.int .i64 y.2.2.2.2.2.1))), (11, (AV.v (.int .i64 y.2.2.2.2.2.2)))] [] (F46_an 6).2.toks 0)
    | .inr y => (.exit 0, mkS 114 [(0, (AV.list 3 y.1 none)), (1, (AV.v (.int .i64 y.2.1))), (2, (AV.v (.int .i64 y.2.2.1))), (6, (AV.v (.int .i64 y.2.2.2.1))), (7, (AV.v (.int .i64 y.2.2.2.2.1))), (10, (AV.v (.int .i64 y.2.2.2.2.2.1))), (11, (AV.v (.int .i64 y.2.2.2.2.2.2)))] [] (F46_an 6).2.toks 0)
  sp := fun y α k => match y with
    | .inl y => k (.ret, mkS 114 [(0, (AV.list 3 y.1 none)), (1, (AV.v (.int .i64 y.2.1))), (2, (AV.v (.int .i64 y.2.2.1))), (6, (AV.v (.int .i64 y.2.2.2.1))), (7, (AV.v (.int .i64 y.2.2.2.2.1))), (10, (AV.v (.int .i64 y.2.2.2.2.2.1))), (11, (AV.v (.int .i64 y.2.2.2.2.2.2)))] [] (F46_an 6).2.toks 0)
    | .inr y => k (.exit 0, mkS 114 [(0, (AV.list 3 y.1 none)), (1, (AV.v (.int .i64 y.2.1))), (2, (AV.v (.int .i64 y.2.2.1))), (6, (AV.v (.int .i64 y.2.2.2.1))), (7, (AV.v (.int .i64 y.2.2.2.2.1))), (10, (AV.v (.int .i64 y.2.2.2.2.2.1))), (11, (AV.v (.int .i64 y.2.2.2.2.2.2)))] [] (F46_an 6).2.toks 0)
  spe := fun y α k => by rcases y with _ | _ <;> rfl
  b := fun x α kn ke => (match (decide (x.2.2.2.2.2.2.2.2 < (x.2.1.length : Int))) with | true => (if 0 ≤ x.2.2.2.2.2.2.2.2 then (match x.2.1[x.2.2.2.2.2.2.2.2.toNat]? with | some c2 => (match c2[0]? with | some x3 => (match x3 with | .v (.int q5 n4) => (if q5 = .i64 then (if 0 ≤ n4 then (match x.1[n4.toNat]? with | some c6 => (match (c6.drop 0)[0]? with | some x7 => (match x7 with | .v (.int q9 n8) => (if q9 = .i64 then (match (decide (x.2.2.2.1 ≥ n8)) with | true => (kn (x.1, x.2.1, x.2.2.1, x.2.2.2.1, x.2.2.2.2.1, x.2.2.2.2.2.1, n4, x.2.2.2.2.2.2.2.1, (i64 (x.2.2.2.2.2.2.2.2 + 1)))) | false => (if 0 ≤ (i64 (n4 - 1)) then (match x.1[(i64 (n4 - 1)).toNat]? with | some c10 => (match (c10.drop 0)[0]? with | some x11 => (match x11 with | .v (.int q13 n12) => (if q13 = .i64 then (match (decide (x.2.2.2.1 ≥ n12)) with | true => (if 0 ≤ (i64 (n4 - 1)) then (match x.1[(i64 (n4 - 1)).toNat]? with | some c14 => (match c14[0]? with | some x15 => (match x15 with | .v (.int q17 n16) => (if q17 = .i64 then (match c14[1]? with | some x18 => (match x18 with | .v (.int q20 n19) => (if q20 = .i64 then (match c14[2]? with | some x21 => (match x21 with | .v (.int q23 n22) => (if q23 = .i64 then (match F48_d N (n16, n19, n22, x.2.2.1, x.2.2.2.1) with | some y24 => (if 0 ≤ n4 then (match x.1[n4.toNat]? with | some c25 => (match c25[0]? with | some x26 => (match x26 with | .v (.int q28 n27) => (if q28 = .i64 then (match c25[1]? with | some x29 => (match x29 with | .v (.int q31 n30) => (if q31 = .i64 then (match c25[2]? with | some x32 => (match x32 with | .v (.int q34 n33) => (if q34 = .i64 then (match F48_d N (n27, n30, n33, x.2.2.1, x.2.2.2.1) with | some y35 => (ke (.inl (x.1, x.2.2.1, x.2.2.2.1, (if y35.1 < y24.1 then y35.1 else y24.1), (if y35.2 > y24.2 then y35.2 else y24.2), x.2.2.2.2.2.2.1, x.2.2.2.2.2.2.2.1))) | none => none) else none) | _ => none) | none => none) else none) | _ => none) | none => none) else none) | _ => none) | none => none) | none => none) else none) | none => none) else none) | _ => none) | none => none) else none) | _ => none) | none => none) else none) | _ => none) | none => none) | none => none) else none) | false => (kn (x.1, x.2.1, x.2.2.1, x.2.2.2.1, x.2.2.2.2.1, x.2.2.2.2.2.1, x.2.2.2.2.2.2.1, (if n4 < x.2.2.2.2.2.2.2.1 then n4 else x.2.2.2.2.2.2.2.1), (i64 (x.2.2.2.2.2.2.2.2 + 1))))) else none) | _ => none) | none => none) | none => none) else none)) else none) | _ => none) | none => none) | none => none) else none) else none) | _ => none) | none => none) | none => none) else none) | false => (ke (.inr (x.1, x.2.2.1, x.2.2.2.1, x.2.2.2.2.1, x.2.2.2.2.2.1, x.2.2.2.2.2.2.1, x.2.2.2.2.2.2.2.1))))
noncomputable abbrev F46_d6 (N : Nat) (x : (List (List AV)) × (List (List AV)) × Int × Int × Int × Int × Int × Int × Int) : Option (((List (List AV)) × Int × Int × Int × Int × Int × Int) ⊕ ((List (List AV)) × Int × Int × Int × Int × Int × Int)) := (F46_l6 N).L N x
noncomputable def F46_s (N : Nat) : FSpec where
  X := (List (List AV)) × Int × Int
  Y := Int × Int
  ash := [[some 3], [none], [none]]
  bsh := []
  S := ⟨[[none], [none]], [], [], [], []⟩
  bm := false
  pat := fun a b => match a, b with
    | [(AV.list 3 a0 none), (AV.v (.int .i64 a1)), (AV.v (.int .i64 a2))], [] => some (a0, a1, a2)
    | _, _ => none
  args := fun x => [(AV.list 3 x.1 none), (AV.v (.int .i64 x.2.1)), (AV.v (.int .i64 x.2.2))]
  bs := fun x => []
  ret := fun y => ⟨(AV.tup [(AV.v (.int .i64 y.1)), (AV.v (.int .i64 y.2))]), [], none, [], [], []⟩
  t := fun x α k => (match F24_d N (x.1, x.2.1) with | some y1 => (match F46_d6 N (x.1, y1.1, x.2.1, x.2.2, 0, 0, 0, (x.1.length : Int), 0) with | some y36 => (match y36 with | .inl z37 => (k (z37.2.2.2.1, z37.2.2.2.2.1)) | .inr z38 => (match F46_d26 N (z38.1, z38.2.1, z38.2.2.1, z38.2.2.2.1, z38.2.2.2.2.1, z38.2.2.2.2.2.1, z38.2.2.2.2.2.2, z38.2.2.2.2.2.1) with | some y50 => (k (y50.1, y50.2)) | none => none)) | none => none) | none => none)
noncomputable abbrev F46_d (N : Nat) (x : (List (List AV)) × Int × Int) : Option (Int × Int) := (F46_s N).d x
theorem F46_par26 (N : Nat) : Par (F46_l26 N).b := by
  intro x α β kn ke kn' ke' r r' h h1 h2
  revert h
  dsimp only [F46_l26]
  (repeat' (first | (with_reducible refine par_ite ?_ ?_) | (with_reducible refine par_both ?_ ?_) | split)) <;> intro h <;> first | exact h1 _ h | exact h2 _ h | (cases h; done)
theorem F46_body26 (N : Nat) (x : (F46_l26 N).X) (α : Type) (kn : AS → Option α) (ke : Out → Option α) : around (tabOf Try.prog) (F46_g N) F46_an (lam N [(6, F46_l6 N), (26, F46_l26 N)]) 26 (bodyOf (nthLoop 26 (Try.f46.body.getD .skip))) ((F46_l26 N).st x) kn ke = (F46_l26 N).b x α (fun x' => kn ((F46_l26 N).st x')) (fun y => (F46_l26 N).sp y α ke) := by kernel_rfl
theorem F46_pat26 (N : Nat) (s : AS) (x : (F46_l26 N).X) (hc : s = canon (F46_an 26).1 s) (h : (F46_l26 N).p s = some x) : s = (F46_l26 N).st x := by
  dsimp only [F46_l26] at h
  split at h
  · cases h
    exact canon_mk hc ‹_› ‹_› rfl rfl rfl ⟨‹_›, ‹_›, ‹_›, ‹_›, ‹_›, ‹_›, ‹_›, ‹_›, trivial⟩ trivial
  · cases h
theorem F46_loop26 (N : Nat) : ∀ s o, s = canon (F46_an 26).1 s → (lam N [(6, F46_l6 N), (26, F46_l26 N)]).v 26 s = some o → LoopSem Try.prog (nthLoop 26 (Try.f46.body.getD .skip)) s o :=
  loop_ok (tabOf_ok Try.prog) (gam_ok _) mixed F46_an N [(6, F46_l6 N), (26, F46_l26 N)] 26 (bodyOf (nthLoop 26 (Try.f46.body.getD .skip))) (nthLoop 26 (Try.f46.body.getD .skip)) (by kernel_rfl) (by
    have e : actOf F46_an (bodyOf (nthLoop 26 (Try.f46.body.getD .skip))) (26 + 1) = [] := by kernel_rfl
    rw [e]
    intro p hp
    cases hp) (F46_l26 N) rfl (fun s x hc h => F46_pat26 N s x hc h) (fun x => rfl) (fun x α kn ke => (F46_body26 N x α kn ke).trans (congrArg ((F46_l26 N).b x α _) (funext fun y => (F46_l26 N).spe y α ke))) (F46_par26 N)
theorem F46_par6 (N : Nat) : Par (F46_l6 N).b := by
  intro x α β kn ke kn' ke' r r' h h1 h2
  revert h
  dsimp only [F46_l6]
  (repeat' (first | (with_reducible refine par_ite ?_ ?_) | (with_reducible refine par_both ?_ ?_) | split)) <;> intro h <;> first | exact h1 _ h | exact h2 _ h | (cases h; done)
theorem F46_body6 (N : Nat) (x : (F46_l6 N).X) (α : Type) (kn : AS → Option α) (ke : Out → Option α) : around (tabOf Try.prog) (F46_g N) F46_an (lam N [(6, F46_l6 N), (26, F46_l26 N)]) 6 (bodyOf (nthLoop 6 (Try.f46.body.getD .skip))) ((F46_l6 N).st x) kn ke = (F46_l6 N).b x α (fun x' => kn ((F46_l6 N).st x')) (fun y => (F46_l6 N).sp y α ke) := by kernel_rfl
theorem F46_pat6 (N : Nat) (s : AS) (x : (F46_l6 N).X) (hc : s = canon (F46_an 6).1 s) (h : (F46_l6 N).p s = some x) : s = (F46_l6 N).st x := by
  dsimp only [F46_l6] at h
  split at h
  · cases h
    exact canon_mk hc ‹_› ‹_› rfl rfl rfl ⟨‹_›, ‹_›, ‹_›, ‹_›, ‹_›, ‹_›, ‹_›, ‹_›, ‹_›, trivial⟩ trivial
  · cases h
theorem F46_loop6 (N : Nat) : ∀ s o, s = canon (F46_an 6).1 s → (lam N [(6, F46_l6 N), (26, F46_l26 N)]).v 6 s = some o → LoopSem Try.prog (nthLoop 6 (Try.f46.body.getD .skip)) s o :=
  loop_ok (tabOf_ok Try.prog) (gam_ok _) mixed F46_an N [(6, F46_l6 N), (26, F46_l26 N)] 6 (bodyOf (nthLoop 6 (Try.f46.body.getD .skip))) (nthLoop 6 (Try.f46.body.getD .skip)) (by kernel_rfl) (by
    have e : actOf F46_an (bodyOf (nthLoop 6 (Try.f46.body.getD .skip))) (6 + 1) = [] := by kernel_rfl
    rw [e]
    intro p hp
    cases hp) (F46_l6 N) rfl (fun s x hc h => F46_pat6 N s x hc h) (fun x => rfl) (fun x α kn ke => (F46_body6 N x α kn ke).trans (congrArg ((F46_l6 N).b x α _) (funext fun y => (F46_l6 N).spe y α ke))) (F46_par6 N)
theorem F46_parF (N : Nat) : ParF (F46_s N).t := by
  intro x α β k k' r r' h h1
  revert h
  dsimp only [F46_s]
  (repeat' (first | (with_reducible refine par_ite ?_ ?_) | (with_reducible refine par_both ?_ ?_) | split)) <;> intro h <;> first | exact h1 _ h | (cases h; done)
theorem F46_text (N : Nat) (x : (F46_s N).X) : acall (tabOf Try.prog) (F46_g N) F46_an (lam N [(6, F46_l6 N), (26, F46_l26 N)]) Try.f46 (F46_s N).S ((F46_s N).args x) ((F46_s N).bs x) = (F46_s N).t x Ret (fun y => some ((F46_s N).ret y)) := by kernel_rfl
theorem F46_pat (N : Nat) (a : List AV) (b : List (List AV)) (x : (F46_s N).X) (h : (F46_s N).pat a b = some x) : a = (F46_s N).args x ∧ b = (F46_s N).bs x := by
  dsimp only [F46_s] at h
  split at h
  · cases h; exact ⟨rfl, rfl⟩
  · cases h
noncomputable def F46_e (N : Nat) : Ent Try.prog := entOf (tabOf_ok Try.prog) (gam_ok _) mixed 46 Try.f46 Try.func46 rfl F46_an (lam N [(6, F46_l6 N), (26, F46_l26 N)]) (by
    have e : actOf F46_an (Try.f46.body.getD .skip) 0 = [(6, nthLoop 6 (Try.f46.body.getD .skip)), (26, nthLoop 26 (Try.f46.body.getD .skip))] := by kernel_rfl
    rw [e]
    intro p hp
    rcases List.mem_cons.1 hp with rfl | hp
    · exact F46_loop6 N
    rcases List.mem_cons.1 hp with rfl | hp
    · exact F46_loop26 N
    cases hp) (F46_s N) (fun _ => ⟨rfl, rfl⟩) (F46_text N) (F46_pat N) (F46_parF N)
/-! ### seismonet/seismonetref13.Correct (function 28) -/
def F28_an : Nat → Keep × Keep := anL []
noncomputable def F28_g (N : Nat) : GamK := gam (P := Try.prog) [F27_e N, F45_e N, F46_e N]
noncomputable def F28_s (N : Nat) : FSpec where
  X := (List (List AV)) × Int × Int
  Y := Int × Int × Int
  ash := [[some 3], [none], [none]]
  bsh := []
  S := ⟨[[none], [none], [none]], [], [], [], []⟩
  bm := false
  pat := fun a b => match a, b with
    | [(AV.list 3 a0 none), (AV.v (.int .i64 a1)), (AV.v (.int .i64 a2))], [] => some (a0, a1, a2)
    | _, _ => none
  args := fun x => [(AV.list 3 x.1 none), (AV.v (.int .i64 x.2.1)), (AV.v (.int .i64 x.2.2))]
  bs := fun x => []
  ret := fun y => ⟨(AV.tup [(AV.v (.int .i64 y.1)), (AV.v (.int .i64 y.2.1)), (AV.v (.int .i64 y.2.2))]), [], none, [], [], []⟩
  t := fun x α k => (match F27_d N (x.1, x.2.1) with | some y1 => (match (!y1) with | true => (k (0, 0, 1)) | false => (match F45_d N (x.2.2, 0, 9007199254740992) with | some y2 => (match (!y2) with | true => (k (0, 0, 1)) | false => (match ((x.1.length : Int) == 0) with | true => (k (0, 0, 6)) | false => (match F46_d N (x.1, x.2.1, x.2.2) with | some y3 => (match (decide ((if 0 > y3.1 then 0 else y3.1) > (if 9007199254740992 < y3.2 then 9007199254740992 else y3.2))) with | true => (k (0, 0, 11)) | false => (k ((i64 ((i64 ((if 0 > y3.1 then 0 else y3.1) + (if 9007199254740992 < y3.2 then 9007199254740992 else y3.2))).tdiv 2)), (i64 ((if 9007199254740992 < y3.2 then 9007199254740992 else y3.2) - (i64 ((i64 ((if 0 > y3.1 then 0 else y3.1) + (if 9007199254740992 < y3.2 then 9007199254740992 else y3.2))).tdiv 2)))), 0))) | none => none))) | none => none)) | none => none)
noncomputable abbrev F28_d (N : Nat) (x : (List (List AV)) × Int × Int) : Option (Int × Int × Int) := (F28_s N).d x
theorem F28_parF (N : Nat) : ParF (F28_s N).t := by
  intro x α β k k' r r' h h1
  revert h
  dsimp only [F28_s]
  (repeat' (first | (with_reducible refine par_ite ?_ ?_) | (with_reducible refine par_both ?_ ?_) | split)) <;> intro h <;> first | exact h1 _ h | (cases h; done)
theorem F28_text (N : Nat) (x : (F28_s N).X) : acall (tabOf Try.prog) (F28_g N) F28_an (lam N []) Try.f28 (F28_s N).S ((F28_s N).args x) ((F28_s N).bs x) = (F28_s N).t x Ret (fun y => some ((F28_s N).ret y)) := by kernel_rfl
theorem F28_pat (N : Nat) (a : List AV) (b : List (List AV)) (x : (F28_s N).X) (h : (F28_s N).pat a b = some x) : a = (F28_s N).args x ∧ b = (F28_s N).bs x := by
  dsimp only [F28_s] at h
  split at h
  · cases h; exact ⟨rfl, rfl⟩
  · cases h
noncomputable def F28_e (N : Nat) : Ent Try.prog := entOf (tabOf_ok Try.prog) (gam_ok _) mixed 28 Try.f28 Try.func28 rfl F28_an (lam N []) (by
    have e : actOf F28_an (Try.f28.body.getD .skip) 0 = [] := by kernel_rfl
    rw [e]
    intro p hp
    cases hp) (F28_s N) (fun _ => ⟨rfl, rfl⟩) (F28_text N) (F28_pat N) (F28_parF N)
/-! ### seismonet/rate.in (function 55) -/
def F55_an : Nat → Keep × Keep := anL []
noncomputable def F55_g (N : Nat) : GamK := gam (P := Try.prog) []
noncomputable def F55_s (N : Nat) : FSpec where
  X := Int × Int × Int
  Y := Bool
  ash := [[none], [none], [none]]
  bsh := []
  S := ⟨[[none]], [], [], [], []⟩
  bm := false
  pat := fun a b => match a, b with
    | [(AV.v (.int .i64 a0)), (AV.v (.int .i64 a1)), (AV.v (.int .i64 a2))], [] => some (a0, a1, a2)
    | _, _ => none
  args := fun x => [(AV.v (.int .i64 x.1)), (AV.v (.int .i64 x.2.1)), (AV.v (.int .i64 x.2.2))]
  bs := fun x => []
  ret := fun y => ⟨(AV.v (.bool y)), [], none, [], [], []⟩
  t := fun x α k => (match (decide (x.1 ≥ x.2.1)) with | true => (k (decide (x.1 ≤ x.2.2))) | false => (k false))
noncomputable abbrev F55_d (N : Nat) (x : Int × Int × Int) : Option (Bool) := (F55_s N).d x
theorem F55_parF (N : Nat) : ParF (F55_s N).t := by
  intro x α β k k' r r' h h1
  revert h
  dsimp only [F55_s]
  (repeat' (first | (with_reducible refine par_ite ?_ ?_) | (with_reducible refine par_both ?_ ?_) | split)) <;> intro h <;> first | exact h1 _ h | (cases h; done)
theorem F55_text (N : Nat) (x : (F55_s N).X) : acall (tabOf Try.prog) (F55_g N) F55_an (lam N []) Try.f55 (F55_s N).S ((F55_s N).args x) ((F55_s N).bs x) = (F55_s N).t x Ret (fun y => some ((F55_s N).ret y)) := by kernel_rfl
theorem F55_pat (N : Nat) (a : List AV) (b : List (List AV)) (x : (F55_s N).X) (h : (F55_s N).pat a b = some x) : a = (F55_s N).args x ∧ b = (F55_s N).bs x := by
  dsimp only [F55_s] at h
  split at h
  · cases h; exact ⟨rfl, rfl⟩
  · cases h
noncomputable def F55_e (N : Nat) : Ent Try.prog := entOf (tabOf_ok Try.prog) (gam_ok _) mixed 55 Try.f55 Try.func55 rfl F55_an (lam N []) (by
    have e : actOf F55_an (Try.f55.body.getD .skip) 0 = [] := by kernel_rfl
    rw [e]
    intro p hp
    cases hp) (F55_s N) (fun _ => ⟨rfl, rfl⟩) (F55_text N) (F55_pat N) (F55_parF N)
/-! ### seismonet/rate.gcd (function 59) -/
def F59_an : Nat → Keep × Keep := anL [(3, ⟨[0, 1], [], [], [], [], [], [], [], false⟩, ⟨[0], [], [], [], [], [], [], [], false⟩)]
noncomputable def F59_g (N : Nat) : GamK := gam (P := Try.prog) []
noncomputable def F59_l3 (N : Nat) : LSpec where
  X := Int × Int
  Y := (Int)
  p := fun s => match s.env.length, s.nin, s.at 0, s.at 1 with
    | 12, 0, (AV.v (.int .i64 a0)), (AV.v (.int .i64 a1)) => some (a0, a1)
    | _, _, _, _ => none
  st := fun x => mkS 12 [(0, (AV.v (.int .i64 x.1))), (1, (AV.v (.int .i64 x.2)))] [] (F59_an 3).1.toks 0
  out := fun y => (.exit 0, mkS 12 [(0, (AV.v (.int .i64 y)))] [] (F59_an 3).2.toks 0)
  sp := fun y α k => k (.exit 0, mkS 12 [(0, (AV.v (.int .i64 y)))] [] (F59_an 3).2.toks 0)
  spe := fun y α k => rfl
  b := fun x α kn ke => (match (x.2 != 0) with | true => (if x.2 = 0 then none else (kn (x.2, (x.1.tmod x.2)))) | false => (ke x.1))
noncomputable abbrev F59_d3 (N : Nat) (x : Int × Int) : Option ((Int)) := (F59_l3 N).L N x
noncomputable def F59_s (N : Nat) : FSpec where
  X := Int × Int
  Y := Int
  ash := [[none], [none]]
  bsh := []
  S := ⟨[[none]], [], [], [], []⟩
  bm := false
  pat := fun a b => match a, b with
    | [(AV.v (.int .i64 a0)), (AV.v (.int .i64 a1))], [] => some (a0, a1)
    | _, _ => none
  args := fun x => [(AV.v (.int .i64 x.1)), (AV.v (.int .i64 x.2))]
  bs := fun x => []
  ret := fun y => ⟨(AV.v (.int .i64 y)), [], none, [], [], []⟩
  t := fun x α k => (match F59_d3 N (x.1, x.2) with | some y1 => (k y1) | none => none)
noncomputable abbrev F59_d (N : Nat) (x : Int × Int) : Option (Int) := (F59_s N).d x
theorem F59_par3 (N : Nat) : Par (F59_l3 N).b := by
  intro x α β kn ke kn' ke' r r' h h1 h2
  revert h
  dsimp only [F59_l3]
  (repeat' (first | (with_reducible refine par_ite ?_ ?_) | (with_reducible refine par_both ?_ ?_) | split)) <;> intro h <;> first | exact h1 _ h | exact h2 _ h | (cases h; done)
theorem F59_body3 (N : Nat) (x : (F59_l3 N).X) (α : Type) (kn : AS → Option α) (ke : Out → Option α) : around (tabOf Try.prog) (F59_g N) F59_an (lam N [(3, F59_l3 N)]) 3 (bodyOf (nthLoop 3 (Try.f59.body.getD .skip))) ((F59_l3 N).st x) kn ke = (F59_l3 N).b x α (fun x' => kn ((F59_l3 N).st x')) (fun y => (F59_l3 N).sp y α ke) := by kernel_rfl
theorem F59_pat3 (N : Nat) (s : AS) (x : (F59_l3 N).X) (hc : s = canon (F59_an 3).1 s) (h : (F59_l3 N).p s = some x) : s = (F59_l3 N).st x := by
  dsimp only [F59_l3] at h
  split at h
  · cases h
    exact canon_mk hc ‹_› ‹_› rfl rfl rfl ⟨‹_›, ‹_›, trivial⟩ trivial
  · cases h
theorem F59_loop3 (N : Nat) : ∀ s o, s = canon (F59_an 3).1 s → (lam N [(3, F59_l3 N)]).v 3 s = some o → LoopSem Try.prog (nthLoop 3 (Try.f59.body.getD .skip)) s o :=
  loop_ok (tabOf_ok Try.prog) (gam_ok _) mixed F59_an N [(3, F59_l3 N)] 3 (bodyOf (nthLoop 3 (Try.f59.body.getD .skip))) (nthLoop 3 (Try.f59.body.getD .skip)) (by kernel_rfl) (by
    have e : actOf F59_an (bodyOf (nthLoop 3 (Try.f59.body.getD .skip))) (3 + 1) = [] := by kernel_rfl
    rw [e]
    intro p hp
    cases hp) (F59_l3 N) rfl (fun s x hc h => F59_pat3 N s x hc h) (fun x => rfl) (fun x α kn ke => (F59_body3 N x α kn ke).trans (congrArg ((F59_l3 N).b x α _) (funext fun y => (F59_l3 N).spe y α ke))) (F59_par3 N)
theorem F59_parF (N : Nat) : ParF (F59_s N).t := by
  intro x α β k k' r r' h h1
  revert h
  dsimp only [F59_s]
  (repeat' (first | (with_reducible refine par_ite ?_ ?_) | (with_reducible refine par_both ?_ ?_) | split)) <;> intro h <;> first | exact h1 _ h | (cases h; done)
theorem F59_text (N : Nat) (x : (F59_s N).X) : acall (tabOf Try.prog) (F59_g N) F59_an (lam N [(3, F59_l3 N)]) Try.f59 (F59_s N).S ((F59_s N).args x) ((F59_s N).bs x) = (F59_s N).t x Ret (fun y => some ((F59_s N).ret y)) := by kernel_rfl
theorem F59_pat (N : Nat) (a : List AV) (b : List (List AV)) (x : (F59_s N).X) (h : (F59_s N).pat a b = some x) : a = (F59_s N).args x ∧ b = (F59_s N).bs x := by
  dsimp only [F59_s] at h
  split at h
  · cases h; exact ⟨rfl, rfl⟩
  · cases h
noncomputable def F59_e (N : Nat) : Ent Try.prog := entOf (tabOf_ok Try.prog) (gam_ok _) mixed 59 Try.f59 Try.func59 rfl F59_an (lam N [(3, F59_l3 N)]) (by
    have e : actOf F59_an (Try.f59.body.getD .skip) 0 = [(3, nthLoop 3 (Try.f59.body.getD .skip))] := by kernel_rfl
    rw [e]
    intro p hp
    rcases List.mem_cons.1 hp with rfl | hp
    · exact F59_loop3 N
    cases hp) (F59_s N) (fun _ => ⟨rfl, rfl⟩) (F59_text N) (F59_pat N) (F59_parF N)
/-! ### seismonet/rate.Valid (function 54) -/
def F54_an : Nat → Keep × Keep := anL []
noncomputable def F54_g (N : Nat) : GamK := gam (P := Try.prog) [F55_e N, F59_e N]
noncomputable def F54_s (N : Nat) : FSpec where
  X := Int × Int
  Y := Bool
  ash := [[none, none]]
  bsh := []
  S := ⟨[[none]], [], [], [], []⟩
  bm := false
  pat := fun a b => match a, b with
    | [(AV.agg [(AV.v (.int .i64 a0)), (AV.v (.int .i64 a1))])], [] => some (a0, a1)
    | _, _ => none
  args := fun x => [(AV.agg [(AV.v (.int .i64 x.1)), (AV.v (.int .i64 x.2))])]
  bs := fun x => []
  ret := fun y => ⟨(AV.v (.bool y)), [], none, [], [], []⟩
  t := fun x α k => (match F55_d N (x.1, 1, 4096) with | some y1 => (match y1 with | true => (match F55_d N (x.2, 1, 4096) with | some y2 => (match y2 with | true => (match F59_d N (x.1, x.2) with | some y3 => (k (y3 == 1)) | none => none) | false => (k false)) | none => none) | false => (k false)) | none => none)
noncomputable abbrev F54_d (N : Nat) (x : Int × Int) : Option (Bool) := (F54_s N).d x
theorem F54_parF (N : Nat) : ParF (F54_s N).t := by
  intro x α β k k' r r' h h1
  revert h
  dsimp only [F54_s]
  (repeat' (first | (with_reducible refine par_ite ?_ ?_) | (with_reducible refine par_both ?_ ?_) | split)) <;> intro h <;> first | exact h1 _ h | (cases h; done)
theorem F54_text (N : Nat) (x : (F54_s N).X) : acall (tabOf Try.prog) (F54_g N) F54_an (lam N []) Try.f54 (F54_s N).S ((F54_s N).args x) ((F54_s N).bs x) = (F54_s N).t x Ret (fun y => some ((F54_s N).ret y)) := by kernel_rfl
theorem F54_pat (N : Nat) (a : List AV) (b : List (List AV)) (x : (F54_s N).X) (h : (F54_s N).pat a b = some x) : a = (F54_s N).args x ∧ b = (F54_s N).bs x := by
  dsimp only [F54_s] at h
  split at h
  · cases h; exact ⟨rfl, rfl⟩
  · cases h
noncomputable def F54_e (N : Nat) : Ent Try.prog := entOf (tabOf_ok Try.prog) (gam_ok _) mixed 54 Try.f54 Try.func54 rfl F54_an (lam N []) (by
    have e : actOf F54_an (Try.f54.body.getD .skip) 0 = [] := by kernel_rfl
    rw [e]
    intro p hp
    cases hp) (F54_s N) (fun _ => ⟨rfl, rfl⟩) (F54_text N) (F54_pat N) (F54_parF N)
/-! ### seismonet/rate.micros (function 60) -/
def F60_an : Nat → Keep × Keep := anL []
noncomputable def F60_g (N : Nat) : GamK := gam (P := Try.prog) []
noncomputable def F60_s (N : Nat) : FSpec where
  X := Int × Int
  Y := Int
  ash := [[none, none]]
  bsh := []
  S := ⟨[[none]], [], [], [], []⟩
  bm := false
  pat := fun a b => match a, b with
    | [(AV.agg [(AV.v (.int .i64 a0)), (AV.v (.int .i64 a1))])], [] => some (a0, a1)
    | _, _ => none
  args := fun x => [(AV.agg [(AV.v (.int .i64 x.1)), (AV.v (.int .i64 x.2))])]
  bs := fun x => []
  ret := fun y => ⟨(AV.v (.int .i64 y)), [], none, [], [], []⟩
  t := fun x α k => (k (i64 (x.2 * 1000000)))
noncomputable abbrev F60_d (N : Nat) (x : Int × Int) : Option (Int) := (F60_s N).d x
theorem F60_parF (N : Nat) : ParF (F60_s N).t := by
  intro x α β k k' r r' h h1
  revert h
  dsimp only [F60_s]
  (repeat' (first | (with_reducible refine par_ite ?_ ?_) | (with_reducible refine par_both ?_ ?_) | split)) <;> intro h <;> first | exact h1 _ h | (cases h; done)
theorem F60_text (N : Nat) (x : (F60_s N).X) : acall (tabOf Try.prog) (F60_g N) F60_an (lam N []) Try.f60 (F60_s N).S ((F60_s N).args x) ((F60_s N).bs x) = (F60_s N).t x Ret (fun y => some ((F60_s N).ret y)) := by kernel_rfl
theorem F60_pat (N : Nat) (a : List AV) (b : List (List AV)) (x : (F60_s N).X) (h : (F60_s N).pat a b = some x) : a = (F60_s N).args x ∧ b = (F60_s N).bs x := by
  dsimp only [F60_s] at h
  split at h
  · cases h; exact ⟨rfl, rfl⟩
  · cases h
noncomputable def F60_e (N : Nat) : Ent Try.prog := entOf (tabOf_ok Try.prog) (gam_ok _) mixed 60 Try.f60 Try.func60 rfl F60_an (lam N []) (by
    have e : actOf F60_an (Try.f60.body.getD .skip) 0 = [] := by kernel_rfl
    rw [e]
    intro p hp
    cases hp) (F60_s N) (fun _ => ⟨rfl, rfl⟩) (F60_text N) (F60_pat N) (F60_parF N)
/-! ### seismonet/rate.after (function 56) -/
def F56_an : Nat → Keep × Keep := anL []
noncomputable def F56_g (N : Nat) : GamK := gam (P := Try.prog) [F60_e N]
noncomputable def F56_s (N : Nat) : FSpec where
  X := Int × Int × Int
  Y := Int
  ash := [[none, none], [none]]
  bsh := []
  S := ⟨[[none]], [], [], [], []⟩
  bm := false
  pat := fun a b => match a, b with
    | [(AV.agg [(AV.v (.int .i64 a0)), (AV.v (.int .i64 a1))]), (AV.v (.int .i64 a2))], [] => some (a0, a1, a2)
    | _, _ => none
  args := fun x => [(AV.agg [(AV.v (.int .i64 x.1)), (AV.v (.int .i64 x.2.1))]), (AV.v (.int .i64 x.2.2))]
  bs := fun x => []
  ret := fun y => ⟨(AV.v (.int .i64 y)), [], none, [], [], []⟩
  t := fun x α k => (match F60_d N (x.1, x.2.1) with | some y1 => (if x.1 = 0 then none else (k (i64 ((i64 (x.2.2 * y1)).tdiv x.1)))) | none => none)
noncomputable abbrev F56_d (N : Nat) (x : Int × Int × Int) : Option (Int) := (F56_s N).d x
theorem F56_parF (N : Nat) : ParF (F56_s N).t := by
  intro x α β k k' r r' h h1
  revert h
  dsimp only [F56_s]
  (repeat' (first | (with_reducible refine par_ite ?_ ?_) | (with_reducible refine par_both ?_ ?_) | split)) <;> intro h <;> first | exact h1 _ h | (cases h; done)
theorem F56_text (N : Nat) (x : (F56_s N).X) : acall (tabOf Try.prog) (F56_g N) F56_an (lam N []) Try.f56 (F56_s N).S ((F56_s N).args x) ((F56_s N).bs x) = (F56_s N).t x Ret (fun y => some ((F56_s N).ret y)) := by kernel_rfl
theorem F56_pat (N : Nat) (a : List AV) (b : List (List AV)) (x : (F56_s N).X) (h : (F56_s N).pat a b = some x) : a = (F56_s N).args x ∧ b = (F56_s N).bs x := by
  dsimp only [F56_s] at h
  split at h
  · cases h; exact ⟨rfl, rfl⟩
  · cases h
noncomputable def F56_e (N : Nat) : Ent Try.prog := entOf (tabOf_ok Try.prog) (gam_ok _) mixed 56 Try.f56 Try.func56 rfl F56_an (lam N []) (by
    have e : actOf F56_an (Try.f56.body.getD .skip) 0 = [] := by kernel_rfl
    rw [e]
    intro p hp
    cases hp) (F56_s N) (fun _ => ⟨rfl, rfl⟩) (F56_text N) (F56_pat N) (F56_parF N)
/-! ### seismonet/rate.Time (function 41) -/
def F41_an : Nat → Keep × Keep := anL []
noncomputable def F41_g (N : Nat) : GamK := gam (P := Try.prog) [F54_e N, F55_e N, F56_e N]
noncomputable def F41_s (N : Nat) : FSpec where
  X := Int × Int × Int × Int
  Y := Int × Int
  ash := [[none], [none, none], [none]]
  bsh := []
  S := ⟨[[none], [none]], [], [], [], []⟩
  bm := false
  pat := fun a b => match a, b with
    | [(AV.v (.int .i64 a0)), (AV.agg [(AV.v (.int .i64 a1)), (AV.v (.int .i64 a2))]), (AV.v (.int .i64 a3))], [] => some (a0, a1, a2, a3)
    | _, _ => none
  args := fun x => [(AV.v (.int .i64 x.1)), (AV.agg [(AV.v (.int .i64 x.2.1)), (AV.v (.int .i64 x.2.2.1))]), (AV.v (.int .i64 x.2.2.2))]
  bs := fun x => []
  ret := fun y => ⟨(AV.tup [(AV.v (.int .i64 y.1)), (AV.v (.int .i64 y.2))]), [], none, [], [], []⟩
  t := fun x α k => (match F54_d N (x.2.1, x.2.2.1) with | some y1 => (match (!y1) with | true => (k (0, 1)) | false => (match F55_d N (x.1, 0, 9007199254740992) with | some y2 => (match (!y2) with | true => (k (0, 2)) | false => (match F55_d N (x.2.2.2, 0, 16777216) with | some y3 => (match (!y3) with | true => (k (0, 2)) | false => (match F56_d N (x.2.1, x.2.2.1, x.2.2.2) with | some y4 => (k ((i64 (x.1 + y4)), 0)) | none => none)) | none => none)) | none => none)) | none => none)
noncomputable abbrev F41_d (N : Nat) (x : Int × Int × Int × Int) : Option (Int × Int) := (F41_s N).d x
theorem F41_parF (N : Nat) : ParF (F41_s N).t := by
  intro x α β k k' r r' h h1
  revert h
  dsimp only [F41_s]
  (repeat' (first | (with_reducible refine par_ite ?_ ?_) | (with_reducible refine par_both ?_ ?_) | split)) <;> intro h <;> first | exact h1 _ h | (cases h; done)
theorem F41_text (N : Nat) (x : (F41_s N).X) : acall (tabOf Try.prog) (F41_g N) F41_an (lam N []) Try.f41 (F41_s N).S ((F41_s N).args x) ((F41_s N).bs x) = (F41_s N).t x Ret (fun y => some ((F41_s N).ret y)) := by kernel_rfl
theorem F41_pat (N : Nat) (a : List AV) (b : List (List AV)) (x : (F41_s N).X) (h : (F41_s N).pat a b = some x) : a = (F41_s N).args x ∧ b = (F41_s N).bs x := by
  dsimp only [F41_s] at h
  split at h
  · cases h; exact ⟨rfl, rfl⟩
  · cases h
noncomputable def F41_e (N : Nat) : Ent Try.prog := entOf (tabOf_ok Try.prog) (gam_ok _) mixed 41 Try.f41 Try.func41 rfl F41_an (lam N []) (by
    have e : actOf F41_an (Try.f41.body.getD .skip) 0 = [] := by kernel_rfl
    rw [e]
    intro p hp
    cases hp) (F41_s N) (fun _ => ⟨rfl, rfl⟩) (F41_text N) (F41_pat N) (F41_parF N)
/-! ### slices.Clone[[]int,int] (function 42) -/
def F42_an : Nat → Keep × Keep := anL []
noncomputable def F42_g (N : Nat) : GamK := gam (P := Try.prog) []
noncomputable def F42_s (N : Nat) : FSpec where
  X := (List (List AV))
  Y := (List (List AV))
  ash := [[some 1]]
  bsh := []
  S := ⟨[[some 2000001]], [], [], [], []⟩
  bm := false
  pat := fun a b => match a, b with
    | [(AV.list 1 a0 none)], [] => some a0
    | _, _ => none
  args := fun x => [(AV.list 1 x none)]
  bs := fun x => []
  ret := fun y => ⟨(AV.list 1 y (some 2560000000)), [], none, [], [2560000000], []⟩
  t := fun x α k => (match x with | [] => (both (k ([] : List (List AV))) (if (([] : List (List AV)).length + x.length) * 8 ≤ maxBytes then (k (([] : List (List AV)) ++ x)) else none)) | _ :: _ => (if (([] : List (List AV)).length + x.length) * 8 ≤ maxBytes then (k (([] : List (List AV)) ++ x)) else none))
noncomputable abbrev F42_d (N : Nat) (x : (List (List AV))) : Option ((List (List AV))) := (F42_s N).d x
theorem F42_parF (N : Nat) : ParF (F42_s N).t := by
  intro x α β k k' r r' h h1
  revert h
  dsimp only [F42_s]
  (repeat' (first | (with_reducible refine par_ite ?_ ?_) | (with_reducible refine par_both ?_ ?_) | split)) <;> intro h <;> first | exact h1 _ h | (cases h; done)
theorem F42_text (N : Nat) (x : (F42_s N).X) : acall (tabOf Try.prog) (F42_g N) F42_an (lam N []) Try.f42 (F42_s N).S ((F42_s N).args x) ((F42_s N).bs x) = (F42_s N).t x Ret (fun y => some ((F42_s N).ret y)) := by kernel_rfl
theorem F42_pat (N : Nat) (a : List AV) (b : List (List AV)) (x : (F42_s N).X) (h : (F42_s N).pat a b = some x) : a = (F42_s N).args x ∧ b = (F42_s N).bs x := by
  dsimp only [F42_s] at h
  split at h
  · cases h; exact ⟨rfl, rfl⟩
  · cases h
noncomputable def F42_e (N : Nat) : Ent Try.prog := entOf (tabOf_ok Try.prog) (gam_ok _) mixed 42 Try.f42 Try.func42 rfl F42_an (lam N []) (by
    have e : actOf F42_an (Try.f42.body.getD .skip) 0 = [] := by kernel_rfl
    rw [e]
    intro p hp
    cases hp) (F42_s N) (fun _ => ⟨rfl, rfl⟩) (F42_text N) (F42_pat N) (F42_parF N)
/-! ### seismonet/clock.Apply (function 21) -/
def F21_an : Nat → Keep × Keep := anL []
noncomputable def F21_g (N : Nat) : GamK := gam (P := Try.prog) [F41_e N, F26_e N, F35_e N, F15_e N, F39_e N, F42_e N]
noncomputable def F21_s (N : Nat) : FSpec where
  X := (List (List AV)) × Int × ByteArray × ByteArray × ByteArray × ByteArray × Int × Int × Int × Int × Int × Int × Int × (List (List AV))
  Y := ByteArray × ByteArray × ByteArray × ByteArray × Int × Int × Int × Int × Int × Int × Int × (List (List AV)) × Int
  ash := [[some 3], [none], [none, none, none, none, none, none, none, none, none, none, none, some 1]]
  bsh := []
  S := ⟨[[none, none, none, none, none, none, none, none, none, none, none, some 1], [none]], [], [], [], []⟩
  bm := false
  pat := fun a b => match a, b with
    | [(AV.list 3 a0 none), (AV.v (.int .i64 a1)), (AV.agg [(AV.v (.string a2)), (AV.v (.string a3)), (AV.v (.string a4)), (AV.v (.string a5)), (AV.v (.int .i64 a6)), (AV.v (.int .i64 a7)), (AV.v (.int .i64 a8)), (AV.v (.int .i64 a9)), (AV.v (.int .i64 a10)), (AV.v (.int .i64 a11)), (AV.v (.int .i64 a12)), (AV.list 1 a13 none)])], [] => some (a0, a1, a2, a3, a4, a5, a6, a7, a8, a9, a10, a11, a12, a13)
    | _, _ => none
  args := fun x => [(AV.list 3 x.1 none), (AV.v (.int .i64 x.2.1)), (AV.agg [(AV.v (.string x.2.2.1)), (AV.v (.string x.2.2.2.1)), (AV.v (.string x.2.2.2.2.1)), (AV.v (.string x.2.2.2.2.2.1)), (AV.v (.int .i64 x.2.2.2.2.2.2.1)), (AV.v (.int .i64 x.2.2.2.2.2.2.2.1)), (AV.v (.int .i64 x.2.2.2.2.2.2.2.2.1)), (AV.v (.int .i64 x.2.2.2.2.2.2.2.2.2.1)), (AV.v (.int .i64 x.2.2.2.2.2.2.2.2.2.2.1)), (AV.v (.int .i64 x.2.2.2.2.2.2.2.2.2.2.2.1)), (AV.v (.int .i64 x.2.2.2.2.2.2.2.2.2.2.2.2.1)), (AV.list 1 x.2.2.2.2.2.2.2.2.2.2.2.2.2 none)])]
  bs := fun x => []
  ret := fun y => ⟨(AV.tup [(AV.agg [(AV.v (.string y.1)), (AV.v (.string y.2.1)), (AV.v (.string y.2.2.1)), (AV.v (.string y.2.2.2.1)), (AV.v (.int .i64 y.2.2.2.2.1)), (AV.v (.int .i64 y.2.2.2.2.2.1)), (AV.v (.int .i64 y.2.2.2.2.2.2.1)), (AV.v (.int .i64 y.2.2.2.2.2.2.2.1)), (AV.v (.int .i64 y.2.2.2.2.2.2.2.2.1)), (AV.v (.int .i64 y.2.2.2.2.2.2.2.2.2.1)), (AV.v (.int .i64 y.2.2.2.2.2.2.2.2.2.2.1)), (AV.list 1 y.2.2.2.2.2.2.2.2.2.2.2.1 none)]), (AV.v (.int .i64 y.2.2.2.2.2.2.2.2.2.2.2.2))]), [], none, [], [], []⟩
  t := fun x α k => (match F41_d N (x.2.2.2.2.2.2.1, x.2.2.2.2.2.2.2.2.1, x.2.2.2.2.2.2.2.2.2.1, x.2.2.2.2.2.2.2.1) with | some y1 => (match (y1.2 != 0) with | true => (k ((⟨#[]⟩ : ByteArray), (⟨#[]⟩ : ByteArray), (⟨#[]⟩ : ByteArray), (⟨#[]⟩ : ByteArray), 0, 0, 0, 0, 0, 0, 0, ([] : List (List AV)), 1)) | false => (match F26_d N (x.1, x.2.1) with | some y2 => (match (!y2) with | true => (k ((⟨#[]⟩ : ByteArray), (⟨#[]⟩ : ByteArray), (⟨#[]⟩ : ByteArray), (⟨#[]⟩ : ByteArray), 0, 0, 0, 0, 0, 0, 0, ([] : List (List AV)), 1)) | false => (match F35_d N y1.1 with | some y3 => (match (!y3) with | true => (k ((⟨#[]⟩ : ByteArray), (⟨#[]⟩ : ByteArray), (⟨#[]⟩ : ByteArray), (⟨#[]⟩ : ByteArray), 0, 0, 0, 0, 0, 0, 0, ([] : List (List AV)), 1)) | false => (match F15_d N (x.1, x.2.1, y1.1) with | some y4 => (match (y4.2.2 != 0) with | true => (k ((⟨#[]⟩ : ByteArray), (⟨#[]⟩ : ByteArray), (⟨#[]⟩ : ByteArray), (⟨#[]⟩ : ByteArray), 0, 0, 0, 0, 0, 0, 0, ([] : List (List AV)), y4.2.2)) | false => (match F39_d N (x.2.2.2.2.2.2.2.2.2.2.1, 0, 1099511627776) with | some y5 => (match (!y5) with | true => (k ((⟨#[]⟩ : ByteArray), (⟨#[]⟩ : ByteArray), (⟨#[]⟩ : ByteArray), (⟨#[]⟩ : ByteArray), 0, 0, 0, 0, 0, 0, 0, ([] : List (List AV)), 2)) | false => (match F42_d N x.2.2.2.2.2.2.2.2.2.2.2.2.2 with | some y6 => (k (x.2.2.1, x.2.2.2.1, x.2.2.2.2.1, x.2.2.2.2.2.1, y4.1, 0, x.2.2.2.2.2.2.2.2.1, x.2.2.2.2.2.2.2.2.2.1, (if 1099511627776 < (i64 (x.2.2.2.2.2.2.2.2.2.2.1 + y4.2.1)) then 1099511627776 else (i64 (x.2.2.2.2.2.2.2.2.2.2.1 + y4.2.1))), x.2.2.2.2.2.2.2.2.2.2.2.1, x.2.2.2.2.2.2.2.2.2.2.2.2.1, y6, 0)) | none => none)) | none => none)) | none => none)) | none => none)) | none => none)) | none => none)
noncomputable abbrev F21_d (N : Nat) (x : (List (List AV)) × Int × ByteArray × ByteArray × ByteArray × ByteArray × Int × Int × Int × Int × Int × Int × Int × (List (List AV))) : Option (ByteArray × ByteArray × ByteArray × ByteArray × Int × Int × Int × Int × Int × Int × Int × (List (List AV)) × Int) := (F21_s N).d x
theorem F21_parF (N : Nat) : ParF (F21_s N).t := by
  intro x α β k k' r r' h h1
  revert h
  dsimp only [F21_s]
  (repeat' (first | (with_reducible refine par_ite ?_ ?_) | (with_reducible refine par_both ?_ ?_) | split)) <;> intro h <;> first | exact h1 _ h | (cases h; done)
theorem F21_text (N : Nat) (x : (F21_s N).X) : acall (tabOf Try.prog) (F21_g N) F21_an (lam N []) Try.f21 (F21_s N).S ((F21_s N).args x) ((F21_s N).bs x) = (F21_s N).t x Ret (fun y => some ((F21_s N).ret y)) := by kernel_rfl
theorem F21_pat (N : Nat) (a : List AV) (b : List (List AV)) (x : (F21_s N).X) (h : (F21_s N).pat a b = some x) : a = (F21_s N).args x ∧ b = (F21_s N).bs x := by
  dsimp only [F21_s] at h
  split at h
  · cases h; exact ⟨rfl, rfl⟩
  · cases h
noncomputable def F21_e (N : Nat) : Ent Try.prog := entOf (tabOf_ok Try.prog) (gam_ok _) mixed 21 Try.f21 Try.func21 rfl F21_an (lam N []) (by
    have e : actOf F21_an (Try.f21.body.getD .skip) 0 = [] := by kernel_rfl
    rw [e]
    intro p hp
    cases hp) (F21_s N) (fun _ => ⟨rfl, rfl⟩) (F21_text N) (F21_pat N) (F21_parF N)
/-! ### seismonet/seismonetref02.gcd (function 53) -/
def F53_an : Nat → Keep × Keep := anL [(3, ⟨[0, 1], [], [], [], [], [], [], [], false⟩, ⟨[0], [], [], [], [], [], [], [], false⟩)]
noncomputable def F53_g (N : Nat) : GamK := gam (P := Try.prog) []
noncomputable def F53_l3 (N : Nat) : LSpec where
  X := Int × Int
  Y := (Int)
  p := fun s => match s.env.length, s.nin, s.at 0, s.at 1 with
    | 12, 0, (AV.v (.int .i64 a0)), (AV.v (.int .i64 a1)) => some (a0, a1)
    | _, _, _, _ => none
  st := fun x => mkS 12 [(0, (AV.v (.int .i64 x.1))), (1, (AV.v (.int .i64 x.2)))] [] (F53_an 3).1.toks 0
  out := fun y => (.exit 0, mkS 12 [(0, (AV.v (.int .i64 y)))] [] (F53_an 3).2.toks 0)
  sp := fun y α k => k (.exit 0, mkS 12 [(0, (AV.v (.int .i64 y)))] [] (F53_an 3).2.toks 0)
  spe := fun y α k => rfl
  b := fun x α kn ke => (match (x.2 != 0) with | true => (if x.2 = 0 then none else (kn (x.2, (x.1.tmod x.2)))) | false => (ke x.1))
noncomputable abbrev F53_d3 (N : Nat) (x : Int × Int) : Option ((Int)) := (F53_l3 N).L N x
noncomputable def F53_s (N : Nat) : FSpec where
  X := Int × Int
  Y := Int
  ash := [[none], [none]]
  bsh := []
  S := ⟨[[none]], [], [], [], []⟩
  bm := false
  pat := fun a b => match a, b with
    | [(AV.v (.int .i64 a0)), (AV.v (.int .i64 a1))], [] => some (a0, a1)
    | _, _ => none
  args := fun x => [(AV.v (.int .i64 x.1)), (AV.v (.int .i64 x.2))]
  bs := fun x => []
  ret := fun y => ⟨(AV.v (.int .i64 y)), [], none, [], [], []⟩
  t := fun x α k => (match F53_d3 N (x.1, x.2) with | some y1 => (k y1) | none => none)
noncomputable abbrev F53_d (N : Nat) (x : Int × Int) : Option (Int) := (F53_s N).d x
theorem F53_par3 (N : Nat) : Par (F53_l3 N).b := by
  intro x α β kn ke kn' ke' r r' h h1 h2
  revert h
  dsimp only [F53_l3]
  (repeat' (first | (with_reducible refine par_ite ?_ ?_) | (with_reducible refine par_both ?_ ?_) | split)) <;> intro h <;> first | exact h1 _ h | exact h2 _ h | (cases h; done)
theorem F53_body3 (N : Nat) (x : (F53_l3 N).X) (α : Type) (kn : AS → Option α) (ke : Out → Option α) : around (tabOf Try.prog) (F53_g N) F53_an (lam N [(3, F53_l3 N)]) 3 (bodyOf (nthLoop 3 (Try.f53.body.getD .skip))) ((F53_l3 N).st x) kn ke = (F53_l3 N).b x α (fun x' => kn ((F53_l3 N).st x')) (fun y => (F53_l3 N).sp y α ke) := by kernel_rfl
theorem F53_pat3 (N : Nat) (s : AS) (x : (F53_l3 N).X) (hc : s = canon (F53_an 3).1 s) (h : (F53_l3 N).p s = some x) : s = (F53_l3 N).st x := by
  dsimp only [F53_l3] at h
  split at h
  · cases h
    exact canon_mk hc ‹_› ‹_› rfl rfl rfl ⟨‹_›, ‹_›, trivial⟩ trivial
  · cases h
theorem F53_loop3 (N : Nat) : ∀ s o, s = canon (F53_an 3).1 s → (lam N [(3, F53_l3 N)]).v 3 s = some o → LoopSem Try.prog (nthLoop 3 (Try.f53.body.getD .skip)) s o :=
  loop_ok (tabOf_ok Try.prog) (gam_ok _) mixed F53_an N [(3, F53_l3 N)] 3 (bodyOf (nthLoop 3 (Try.f53.body.getD .skip))) (nthLoop 3 (Try.f53.body.getD .skip)) (by kernel_rfl) (by
    have e : actOf F53_an (bodyOf (nthLoop 3 (Try.f53.body.getD .skip))) (3 + 1) = [] := by kernel_rfl
    rw [e]
    intro p hp
    cases hp) (F53_l3 N) rfl (fun s x hc h => F53_pat3 N s x hc h) (fun x => rfl) (fun x α kn ke => (F53_body3 N x α kn ke).trans (congrArg ((F53_l3 N).b x α _) (funext fun y => (F53_l3 N).spe y α ke))) (F53_par3 N)
theorem F53_parF (N : Nat) : ParF (F53_s N).t := by
  intro x α β k k' r r' h h1
  revert h
  dsimp only [F53_s]
  (repeat' (first | (with_reducible refine par_ite ?_ ?_) | (with_reducible refine par_both ?_ ?_) | split)) <;> intro h <;> first | exact h1 _ h | (cases h; done)
theorem F53_text (N : Nat) (x : (F53_s N).X) : acall (tabOf Try.prog) (F53_g N) F53_an (lam N [(3, F53_l3 N)]) Try.f53 (F53_s N).S ((F53_s N).args x) ((F53_s N).bs x) = (F53_s N).t x Ret (fun y => some ((F53_s N).ret y)) := by kernel_rfl
theorem F53_pat (N : Nat) (a : List AV) (b : List (List AV)) (x : (F53_s N).X) (h : (F53_s N).pat a b = some x) : a = (F53_s N).args x ∧ b = (F53_s N).bs x := by
  dsimp only [F53_s] at h
  split at h
  · cases h; exact ⟨rfl, rfl⟩
  · cases h
noncomputable def F53_e (N : Nat) : Ent Try.prog := entOf (tabOf_ok Try.prog) (gam_ok _) mixed 53 Try.f53 Try.func53 rfl F53_an (lam N [(3, F53_l3 N)]) (by
    have e : actOf F53_an (Try.f53.body.getD .skip) 0 = [(3, nthLoop 3 (Try.f53.body.getD .skip))] := by kernel_rfl
    rw [e]
    intro p hp
    rcases List.mem_cons.1 hp with rfl | hp
    · exact F53_loop3 N
    cases hp) (F53_s N) (fun _ => ⟨rfl, rfl⟩) (F53_text N) (F53_pat N) (F53_parF N)
/-! ### seismonet/seismonetref02.Valid (function 57) -/
def F57_an : Nat → Keep × Keep := anL []
noncomputable def F57_g (N : Nat) : GamK := gam (P := Try.prog) [F45_e N, F53_e N]
noncomputable def F57_s (N : Nat) : FSpec where
  X := Int × Int
  Y := Bool
  ash := [[none, none]]
  bsh := []
  S := ⟨[[none]], [], [], [], []⟩
  bm := false
  pat := fun a b => match a, b with
    | [(AV.agg [(AV.v (.int .i64 a0)), (AV.v (.int .i64 a1))])], [] => some (a0, a1)
    | _, _ => none
  args := fun x => [(AV.agg [(AV.v (.int .i64 x.1)), (AV.v (.int .i64 x.2))])]
  bs := fun x => []
  ret := fun y => ⟨(AV.v (.bool y)), [], none, [], [], []⟩
  t := fun x α k => (match F45_d N (x.1, 1, 4096) with | some y1 => (match y1 with | true => (match F45_d N (x.2, 1, 4096) with | some y2 => (match y2 with | true => (match F53_d N (x.1, x.2) with | some y3 => (k (y3 == 1)) | none => none) | false => (k false)) | none => none) | false => (k false)) | none => none)
noncomputable abbrev F57_d (N : Nat) (x : Int × Int) : Option (Bool) := (F57_s N).d x
theorem F57_parF (N : Nat) : ParF (F57_s N).t := by
  intro x α β k k' r r' h h1
  revert h
  dsimp only [F57_s]
  (repeat' (first | (with_reducible refine par_ite ?_ ?_) | (with_reducible refine par_both ?_ ?_) | split)) <;> intro h <;> first | exact h1 _ h | (cases h; done)
theorem F57_text (N : Nat) (x : (F57_s N).X) : acall (tabOf Try.prog) (F57_g N) F57_an (lam N []) Try.f57 (F57_s N).S ((F57_s N).args x) ((F57_s N).bs x) = (F57_s N).t x Ret (fun y => some ((F57_s N).ret y)) := by kernel_rfl
theorem F57_pat (N : Nat) (a : List AV) (b : List (List AV)) (x : (F57_s N).X) (h : (F57_s N).pat a b = some x) : a = (F57_s N).args x ∧ b = (F57_s N).bs x := by
  dsimp only [F57_s] at h
  split at h
  · cases h; exact ⟨rfl, rfl⟩
  · cases h
noncomputable def F57_e (N : Nat) : Ent Try.prog := entOf (tabOf_ok Try.prog) (gam_ok _) mixed 57 Try.f57 Try.func57 rfl F57_an (lam N []) (by
    have e : actOf F57_an (Try.f57.body.getD .skip) 0 = [] := by kernel_rfl
    rw [e]
    intro p hp
    cases hp) (F57_s N) (fun _ => ⟨rfl, rfl⟩) (F57_text N) (F57_pat N) (F57_parF N)
/-! ### seismonet/seismonetref02.Time (function 49) -/
def F49_an : Nat → Keep × Keep := anL []
noncomputable def F49_g (N : Nat) : GamK := gam (P := Try.prog) [F57_e N, F45_e N]
noncomputable def F49_s (N : Nat) : FSpec where
  X := Int × Int × Int × Int
  Y := Int × Int
  ash := [[none], [none, none], [none]]
  bsh := []
  S := ⟨[[none], [none]], [], [], [], []⟩
  bm := false
  pat := fun a b => match a, b with
    | [(AV.v (.int .i64 a0)), (AV.agg [(AV.v (.int .i64 a1)), (AV.v (.int .i64 a2))]), (AV.v (.int .i64 a3))], [] => some (a0, a1, a2, a3)
    | _, _ => none
  args := fun x => [(AV.v (.int .i64 x.1)), (AV.agg [(AV.v (.int .i64 x.2.1)), (AV.v (.int .i64 x.2.2.1))]), (AV.v (.int .i64 x.2.2.2))]
  bs := fun x => []
  ret := fun y => ⟨(AV.tup [(AV.v (.int .i64 y.1)), (AV.v (.int .i64 y.2))]), [], none, [], [], []⟩
  t := fun x α k => (match F57_d N (x.2.1, x.2.2.1) with | some y1 => (match (!y1) with | true => (k (0, 1)) | false => (match F45_d N (x.1, 0, 9007199254740992) with | some y2 => (match (!y2) with | true => (k (0, 2)) | false => (match F45_d N (x.2.2.2, 0, 16777216) with | some y3 => (match (!y3) with | true => (k (0, 2)) | false => (if x.2.1 = 0 then none else (k ((i64 (x.1 + (i64 ((i64 ((i64 (x.2.2.2 * x.2.2.1)) * 1000000)).tdiv x.2.1)))), 0)))) | none => none)) | none => none)) | none => none)
noncomputable abbrev F49_d (N : Nat) (x : Int × Int × Int × Int) : Option (Int × Int) := (F49_s N).d x
theorem F49_parF (N : Nat) : ParF (F49_s N).t := by
  intro x α β k k' r r' h h1
  revert h
  dsimp only [F49_s]
  (repeat' (first | (with_reducible refine par_ite ?_ ?_) | (with_reducible refine par_both ?_ ?_) | split)) <;> intro h <;> first | exact h1 _ h | (cases h; done)
theorem F49_text (N : Nat) (x : (F49_s N).X) : acall (tabOf Try.prog) (F49_g N) F49_an (lam N []) Try.f49 (F49_s N).S ((F49_s N).args x) ((F49_s N).bs x) = (F49_s N).t x Ret (fun y => some ((F49_s N).ret y)) := by kernel_rfl
theorem F49_pat (N : Nat) (a : List AV) (b : List (List AV)) (x : (F49_s N).X) (h : (F49_s N).pat a b = some x) : a = (F49_s N).args x ∧ b = (F49_s N).bs x := by
  dsimp only [F49_s] at h
  split at h
  · cases h; exact ⟨rfl, rfl⟩
  · cases h
noncomputable def F49_e (N : Nat) : Ent Try.prog := entOf (tabOf_ok Try.prog) (gam_ok _) mixed 49 Try.f49 Try.func49 rfl F49_an (lam N []) (by
    have e : actOf F49_an (Try.f49.body.getD .skip) 0 = [] := by kernel_rfl
    rw [e]
    intro p hp
    cases hp) (F49_s N) (fun _ => ⟨rfl, rfl⟩) (F49_text N) (F49_pat N) (F49_parF N)
/-! ### seismonet/seismonetref13.Apply (function 33) -/
def F33_an : Nat → Keep × Keep := anL []
noncomputable def F33_g (N : Nat) : GamK := gam (P := Try.prog) [F49_e N, F27_e N, F28_e N, F45_e N]
noncomputable def F33_s (N : Nat) : FSpec where
  X := (List (List AV)) × Int × ByteArray × ByteArray × ByteArray × ByteArray × Int × Int × Int × Int × Int × Int × Int × (List (List AV))
  Y := ByteArray × ByteArray × ByteArray × ByteArray × Int × Int × Int × Int × Int × Int × Int × (List (List AV)) × Int
  ash := [[some 3], [none], [none, none, none, none, none, none, none, none, none, none, none, some 1]]
  bsh := []
  S := ⟨[[none, none, none, none, none, none, none, none, none, none, none, some 1], [none]], [], [], [], []⟩
  bm := false
  pat := fun a b => match a, b with
    | [(AV.list 3 a0 none), (AV.v (.int .i64 a1)), (AV.agg [(AV.v (.string a2)), (AV.v (.string a3)), (AV.v (.string a4)), (AV.v (.string a5)), (AV.v (.int .i64 a6)), (AV.v (.int .i64 a7)), (AV.v (.int .i64 a8)), (AV.v (.int .i64 a9)), (AV.v (.int .i64 a10)), (AV.v (.int .i64 a11)), (AV.v (.int .i64 a12)), (AV.list 1 a13 none)])], [] => some (a0, a1, a2, a3, a4, a5, a6, a7, a8, a9, a10, a11, a12, a13)
    | _, _ => none
  args := fun x => [(AV.list 3 x.1 none), (AV.v (.int .i64 x.2.1)), (AV.agg [(AV.v (.string x.2.2.1)), (AV.v (.string x.2.2.2.1)), (AV.v (.string x.2.2.2.2.1)), (AV.v (.string x.2.2.2.2.2.1)), (AV.v (.int .i64 x.2.2.2.2.2.2.1)), (AV.v (.int .i64 x.2.2.2.2.2.2.2.1)), (AV.v (.int .i64 x.2.2.2.2.2.2.2.2.1)), (AV.v (.int .i64 x.2.2.2.2.2.2.2.2.2.1)), (AV.v (.int .i64 x.2.2.2.2.2.2.2.2.2.2.1)), (AV.v (.int .i64 x.2.2.2.2.2.2.2.2.2.2.2.1)), (AV.v (.int .i64 x.2.2.2.2.2.2.2.2.2.2.2.2.1)), (AV.list 1 x.2.2.2.2.2.2.2.2.2.2.2.2.2 none)])]
  bs := fun x => []
  ret := fun y => ⟨(AV.tup [(AV.agg [(AV.v (.string y.1)), (AV.v (.string y.2.1)), (AV.v (.string y.2.2.1)), (AV.v (.string y.2.2.2.1)), (AV.v (.int .i64 y.2.2.2.2.1)), (AV.v (.int .i64 y.2.2.2.2.2.1)), (AV.v (.int .i64 y.2.2.2.2.2.2.1)), (AV.v (.int .i64 y.2.2.2.2.2.2.2.1)), (AV.v (.int .i64 y.2.2.2.2.2.2.2.2.1)), (AV.v (.int .i64 y.2.2.2.2.2.2.2.2.2.1)), (AV.v (.int .i64 y.2.2.2.2.2.2.2.2.2.2.1)), (AV.list 1 y.2.2.2.2.2.2.2.2.2.2.2.1 none)]), (AV.v (.int .i64 y.2.2.2.2.2.2.2.2.2.2.2.2))]), [], none, [], [], []⟩
  t := fun x α k => (match F49_d N (x.2.2.2.2.2.2.1, x.2.2.2.2.2.2.2.2.1, x.2.2.2.2.2.2.2.2.2.1, x.2.2.2.2.2.2.2.1) with | some y1 => (match F27_d N (x.1, x.2.1) with | some y2 => (match (!y2) with | true => (k ((⟨#[]⟩ : ByteArray), (⟨#[]⟩ : ByteArray), (⟨#[]⟩ : ByteArray), (⟨#[]⟩ : ByteArray), 0, 0, 0, 0, 0, 0, 0, ([] : List (List AV)), 1)) | false => (match (y1.2 != 0) with | true => (k ((⟨#[]⟩ : ByteArray), (⟨#[]⟩ : ByteArray), (⟨#[]⟩ : ByteArray), (⟨#[]⟩ : ByteArray), 0, 0, 0, 0, 0, 0, 0, ([] : List (List AV)), 1)) | false => (match (decide (y1.1 > 9007199254740992)) with | true => (k ((⟨#[]⟩ : ByteArray), (⟨#[]⟩ : ByteArray), (⟨#[]⟩ : ByteArray), (⟨#[]⟩ : ByteArray), 0, 0, 0, 0, 0, 0, 0, ([] : List (List AV)), 1)) | false => (match F28_d N (x.1, x.2.1, y1.1) with | some y3 => (match (y3.2.2 != 0) with | true => (k ((⟨#[]⟩ : ByteArray), (⟨#[]⟩ : ByteArray), (⟨#[]⟩ : ByteArray), (⟨#[]⟩ : ByteArray), 0, 0, 0, 0, 0, 0, 0, ([] : List (List AV)), y3.2.2)) | false => (match F45_d N (x.2.2.2.2.2.2.2.2.2.2.1, 0, 1099511627776) with | some y4 => (match (!y4) with | true => (k ((⟨#[]⟩ : ByteArray), (⟨#[]⟩ : ByteArray), (⟨#[]⟩ : ByteArray), (⟨#[]⟩ : ByteArray), 0, 0, 0, 0, 0, 0, 0, ([] : List (List AV)), 2)) | false => (if x.2.2.2.2.2.2.2.2.2.2.2.2.2.length * 8 ≤ maxBytes then (k (x.2.2.1, x.2.2.2.1, x.2.2.2.2.1, x.2.2.2.2.2.1, y3.1, 0, x.2.2.2.2.2.2.2.2.1, x.2.2.2.2.2.2.2.2.2.1, (if 1099511627776 < (i64 (x.2.2.2.2.2.2.2.2.2.2.1 + y3.2.1)) then 1099511627776 else (i64 (x.2.2.2.2.2.2.2.2.2.2.1 + y3.2.1))), x.2.2.2.2.2.2.2.2.2.2.2.1, x.2.2.2.2.2.2.2.2.2.2.2.2.1, x.2.2.2.2.2.2.2.2.2.2.2.2.2, 0)) else none)) | none => none)) | none => none)))) | none => none) | none => none)
noncomputable abbrev F33_d (N : Nat) (x : (List (List AV)) × Int × ByteArray × ByteArray × ByteArray × ByteArray × Int × Int × Int × Int × Int × Int × Int × (List (List AV))) : Option (ByteArray × ByteArray × ByteArray × ByteArray × Int × Int × Int × Int × Int × Int × Int × (List (List AV)) × Int) := (F33_s N).d x
theorem F33_parF (N : Nat) : ParF (F33_s N).t := by
  intro x α β k k' r r' h h1
  revert h
  dsimp only [F33_s]
  (repeat' (first | (with_reducible refine par_ite ?_ ?_) | (with_reducible refine par_both ?_ ?_) | split)) <;> intro h <;> first | exact h1 _ h | (cases h; done)
theorem F33_text (N : Nat) (x : (F33_s N).X) : acall (tabOf Try.prog) (F33_g N) F33_an (lam N []) Try.f33 (F33_s N).S ((F33_s N).args x) ((F33_s N).bs x) = (F33_s N).t x Ret (fun y => some ((F33_s N).ret y)) := by kernel_rfl
theorem F33_pat (N : Nat) (a : List AV) (b : List (List AV)) (x : (F33_s N).X) (h : (F33_s N).pat a b = some x) : a = (F33_s N).args x ∧ b = (F33_s N).bs x := by
  dsimp only [F33_s] at h
  split at h
  · cases h; exact ⟨rfl, rfl⟩
  · cases h
noncomputable def F33_e (N : Nat) : Ent Try.prog := entOf (tabOf_ok Try.prog) (gam_ok _) mixed 33 Try.f33 Try.func33 rfl F33_an (lam N []) (by
    have e : actOf F33_an (Try.f33.body.getD .skip) 0 = [] := by kernel_rfl
    rw [e]
    intro p hp
    cases hp) (F33_s N) (fun _ => ⟨rfl, rfl⟩) (F33_text N) (F33_pat N) (F33_parF N)
/-! ### seismonet/seismonetref05.Same (function 43) -/
def F43_an : Nat → Keep × Keep := anL [(8, ⟨[5], [], [], [(0, 1), (1, 1)], [], [], [], [], false⟩, ⟨[4], [], [], [], [], [], [], [], false⟩)]
noncomputable def F43_g (N : Nat) : GamK := gam (P := Try.prog) []
noncomputable def F43_l8 (N : Nat) : LSpec where
  X := (List (List AV)) × (List (List AV)) × Int
  Y := (Bool) ⊕ (Unit)
  p := fun s => match s.env.length, s.nin, s.at 0, s.at 1, s.at 5 with
    | 26, 0, (AV.list 1 a0 none), (AV.list 1 a1 none), (AV.v (.int .i64 a2)) => some (a0, a1, a2)
    | _, _, _, _, _ => none
  st := fun x => mkS 26 [(0, (AV.list 1 x.1 none)), (1, (AV.list 1 x.2.1 none)), (5, (AV.v (.int .i64 x.2.2)))] [] (F43_an 8).1.toks 0
  out := fun y => match y with
    | .inl y => (.ret, mkS 26 [(4, (AV.v (.bool y)))] [] (F43_an 8).2.toks 0)
    | .inr y => (.exit 0, mkS 26 [] [] (F43_an 8).2.toks 0)
  sp := fun y α k => match y with
    | .inl y => k (.ret, mkS 26 [(4, (AV.v (.bool y)))] [] (F43_an 8).2.toks 0)
    | .inr y => k (.exit 0, mkS 26 [] [] (F43_an 8).2.toks 0)
  spe := fun y α k => by rcases y with _ | _ <;> rfl
  b := fun x α kn ke => (match (decide (x.2.2 < (x.1.length : Int))) with | true => (if 0 ≤ x.2.2 then (match x.1[x.2.2.toNat]? with | some c1 => (match c1[0]? with | some x2 => (match x2 with | .v (.int q4 n3) => (if q4 = .i64 then (if 0 ≤ x.2.2 then (match x.2.1[x.2.2.toNat]? with | some c5 => (match c5[0]? with | some x6 => (match x6 with | .v (.int q8 n7) => (if q8 = .i64 then (match (n3 != n7) with | true => (ke (.inl false)) | false => (kn (x.1, x.2.1, (i64 (x.2.2 + 1))))) else none) | _ => none) | none => none) | none => none) else none) else none) | _ => none) | none => none) | none => none) else none) | false => (ke (.inr ())))
noncomputable abbrev F43_d8 (N : Nat) (x : (List (List AV)) × (List (List AV)) × Int) : Option ((Bool) ⊕ (Unit)) := (F43_l8 N).L N x
noncomputable def F43_s (N : Nat) : FSpec where
  X := (List (List AV)) × (List (List AV))
  Y := Bool
  ash := [[some 1], [some 1]]
  bsh := []
  S := ⟨[[none]], [], [], [], []⟩
  bm := false
  pat := fun a b => match a, b with
    | [(AV.list 1 a0 none), (AV.list 1 a1 none)], [] => some (a0, a1)
    | _, _ => none
  args := fun x => [(AV.list 1 x.1 none), (AV.list 1 x.2 none)]
  bs := fun x => []
  ret := fun y => ⟨(AV.v (.bool y)), [], none, [], [], []⟩
  t := fun x α k => (match ((x.1.length : Int) != (x.2.length : Int)) with | true => (k false) | false => (match F43_d8 N (x.1, x.2, 0) with | some y9 => (match y9 with | .inl z10 => (k z10) | .inr z11 => (k true)) | none => none))
noncomputable abbrev F43_d (N : Nat) (x : (List (List AV)) × (List (List AV))) : Option (Bool) := (F43_s N).d x
theorem F43_par8 (N : Nat) : Par (F43_l8 N).b := by
  intro x α β kn ke kn' ke' r r' h h1 h2
  revert h
  dsimp only [F43_l8]
  (repeat' (first | (with_reducible refine par_ite ?_ ?_) | (with_reducible refine par_both ?_ ?_) | split)) <;> intro h <;> first | exact h1 _ h | exact h2 _ h | (cases h; done)
theorem F43_body8 (N : Nat) (x : (F43_l8 N).X) (α : Type) (kn : AS → Option α) (ke : Out → Option α) : around (tabOf Try.prog) (F43_g N) F43_an (lam N [(8, F43_l8 N)]) 8 (bodyOf (nthLoop 8 (Try.f43.body.getD .skip))) ((F43_l8 N).st x) kn ke = (F43_l8 N).b x α (fun x' => kn ((F43_l8 N).st x')) (fun y => (F43_l8 N).sp y α ke) := by kernel_rfl
theorem F43_pat8 (N : Nat) (s : AS) (x : (F43_l8 N).X) (hc : s = canon (F43_an 8).1 s) (h : (F43_l8 N).p s = some x) : s = (F43_l8 N).st x := by
  dsimp only [F43_l8] at h
  split at h
  · cases h
    exact canon_mk hc ‹_› ‹_› rfl rfl rfl ⟨‹_›, ‹_›, ‹_›, trivial⟩ trivial
  · cases h
theorem F43_loop8 (N : Nat) : ∀ s o, s = canon (F43_an 8).1 s → (lam N [(8, F43_l8 N)]).v 8 s = some o → LoopSem Try.prog (nthLoop 8 (Try.f43.body.getD .skip)) s o :=
  loop_ok (tabOf_ok Try.prog) (gam_ok _) mixed F43_an N [(8, F43_l8 N)] 8 (bodyOf (nthLoop 8 (Try.f43.body.getD .skip))) (nthLoop 8 (Try.f43.body.getD .skip)) (by kernel_rfl) (by
    have e : actOf F43_an (bodyOf (nthLoop 8 (Try.f43.body.getD .skip))) (8 + 1) = [] := by kernel_rfl
    rw [e]
    intro p hp
    cases hp) (F43_l8 N) rfl (fun s x hc h => F43_pat8 N s x hc h) (fun x => rfl) (fun x α kn ke => (F43_body8 N x α kn ke).trans (congrArg ((F43_l8 N).b x α _) (funext fun y => (F43_l8 N).spe y α ke))) (F43_par8 N)
theorem F43_parF (N : Nat) : ParF (F43_s N).t := by
  intro x α β k k' r r' h h1
  revert h
  dsimp only [F43_s]
  (repeat' (first | (with_reducible refine par_ite ?_ ?_) | (with_reducible refine par_both ?_ ?_) | split)) <;> intro h <;> first | exact h1 _ h | (cases h; done)
theorem F43_text (N : Nat) (x : (F43_s N).X) : acall (tabOf Try.prog) (F43_g N) F43_an (lam N [(8, F43_l8 N)]) Try.f43 (F43_s N).S ((F43_s N).args x) ((F43_s N).bs x) = (F43_s N).t x Ret (fun y => some ((F43_s N).ret y)) := by kernel_rfl
theorem F43_pat (N : Nat) (a : List AV) (b : List (List AV)) (x : (F43_s N).X) (h : (F43_s N).pat a b = some x) : a = (F43_s N).args x ∧ b = (F43_s N).bs x := by
  dsimp only [F43_s] at h
  split at h
  · cases h; exact ⟨rfl, rfl⟩
  · cases h
noncomputable def F43_e (N : Nat) : Ent Try.prog := entOf (tabOf_ok Try.prog) (gam_ok _) mixed 43 Try.f43 Try.func43 rfl F43_an (lam N [(8, F43_l8 N)]) (by
    have e : actOf F43_an (Try.f43.body.getD .skip) 0 = [(8, nthLoop 8 (Try.f43.body.getD .skip))] := by kernel_rfl
    rw [e]
    intro p hp
    rcases List.mem_cons.1 hp with rfl | hp
    · exact F43_loop8 N
    cases hp) (F43_s N) (fun _ => ⟨rfl, rfl⟩) (F43_text N) (F43_pat N) (F43_parF N)
/-! ### seismonet/seismonetref14.Same (function 22) -/
def F22_an : Nat → Keep × Keep := anL []
noncomputable def F22_g (N : Nat) : GamK := gam (P := Try.prog) [F43_e N]
noncomputable def F22_s (N : Nat) : FSpec where
  X := ByteArray × ByteArray × ByteArray × ByteArray × Int × Int × Int × Int × Int × Int × Int × (List (List AV)) × ByteArray × ByteArray × ByteArray × ByteArray × Int × Int × Int × Int × Int × Int × Int × (List (List AV))
  Y := Bool
  ash := [[none, none, none, none, none, none, none, none, none, none, none, some 1], [none, none, none, none, none, none, none, none, none, none, none, some 1]]
  bsh := []
  S := ⟨[[none]], [], [], [], []⟩
  bm := false
  pat := fun a b => match a, b with
    | [(AV.agg [(AV.v (.string a0)), (AV.v (.string a1)), (AV.v (.string a2)), (AV.v (.string a3)), (AV.v (.int .i64 a4)), (AV.v (.int .i64 a5)), (AV.v (.int .i64 a6)), (AV.v (.int .i64 a7)), (AV.v (.int .i64 a8)), (AV.v (.int .i64 a9)), (AV.v (.int .i64 a10)), (AV.list 1 a11 none)]), (AV.agg [(AV.v (.string a12)), (AV.v (.string a13)), (AV.v (.string a14)), (AV.v (.string a15)), (AV.v (.int .i64 a16)), (AV.v (.int .i64 a17)), (AV.v (.int .i64 a18)), (AV.v (.int .i64 a19)), (AV.v (.int .i64 a20)), (AV.v (.int .i64 a21)), (AV.v (.int .i64 a22)), (AV.list 1 a23 none)])], [] => some (a0, a1, a2, a3, a4, a5, a6, a7, a8, a9, a10, a11, a12, a13, a14, a15, a16, a17, a18, a19, a20, a21, a22, a23)
    | _, _ => none
  args := fun x => [(AV.agg [(AV.v (.string x.1)), (AV.v (.string x.2.1)), (AV.v (.string x.2.2.1)), (AV.v (.string x.2.2.2.1)), (AV.v (.int .i64 x.2.2.2.2.1)), (AV.v (.int .i64 x.2.2.2.2.2.1)), (AV.v (.int .i64 x.2.2.2.2.2.2.1)), (AV.v (.int .i64 x.2.2.2.2.2.2.2.1)), (AV.v (.int .i64 x.2.2.2.2.2.2.2.2.1)), (AV.v (.int .i64 x.2.2.2.2.2.2.2.2.2.1)), (AV.v (.int .i64 x.2.2.2.2.2.2.2.2.2.2.1)), (AV.list 1 x.2.2.2.2.2.2.2.2.2.2.2.1 none)]), (AV.agg [(AV.v (.string x.2.2.2.2.2.2.2.2.2.2.2.2.1)), (AV.v (.string x.2.2.2.2.2.2.2.2.2.2.2.2.2.1)), (AV.v (.string x.2.2.2.2.2.2.2.2.2.2.2.2.2.2.1)), (AV.v (.string x.2.2.2.2.2.2.2.2.2.2.2.2.2.2.2.1)), (AV.v (.int .i64 x.2.2.2.2.2.2.2.2.2.2.2.2.2.2.2.2.1)), (AV.v (.int .i64 x.2.2.2.2.2.2.2.2.2.2.2.2.2.2.2.2.2.1)), (AV.v (.int .i64 x.2.2.2.2.2.2.2.2.2.2.2.2.2.2.2.2.2.2.1)), (AV.v (.int .i64 x.2.2.2.2.2.2.2.2.2.2.2.2.2.2.2.2.2.2.2.1)), (AV.v (.int .i64 x.2.2.2.2.2.2.2.2.2.2.2.2.2.2.2.2.2.2.2.2.1)), (AV.v (.int .i64 x.2.2.2.2.2.2.2.2.2.2.2.2.2.2.2.2.2.2.2.2.2.1)), (AV.v (.int .i64 x.2.2.2.2.2.2.2.2.2.2.2.2.2.2.2.2.2.2.2.2.2.2.1)), (AV.list 1 x.2.2.2.2.2.2.2.2.2.2.2.2.2.2.2.2.2.2.2.2.2.2.2 none)])]
  bs := fun x => []
  ret := fun y => ⟨(AV.v (.bool y)), [], none, [], [], []⟩
  t := fun x α k => (match ((x.1 == x.2.2.2.2.2.2.2.2.2.2.2.2.1) && ((x.2.1 == x.2.2.2.2.2.2.2.2.2.2.2.2.2.1) && ((x.2.2.1 == x.2.2.2.2.2.2.2.2.2.2.2.2.2.2.1) && ((x.2.2.2.1 == x.2.2.2.2.2.2.2.2.2.2.2.2.2.2.2.1) && true)))) with | true => (match (x.2.2.2.2.1 == x.2.2.2.2.2.2.2.2.2.2.2.2.2.2.2.2.1) with | true => (match (x.2.2.2.2.2.1 == x.2.2.2.2.2.2.2.2.2.2.2.2.2.2.2.2.2.1) with | true => (match ((x.2.2.2.2.2.2.1 == x.2.2.2.2.2.2.2.2.2.2.2.2.2.2.2.2.2.2.1) && ((x.2.2.2.2.2.2.2.1 == x.2.2.2.2.2.2.2.2.2.2.2.2.2.2.2.2.2.2.2.1) && true)) with | true => (match (x.2.2.2.2.2.2.2.2.1 == x.2.2.2.2.2.2.2.2.2.2.2.2.2.2.2.2.2.2.2.2.1) with | true => (match (x.2.2.2.2.2.2.2.2.2.1 == x.2.2.2.2.2.2.2.2.2.2.2.2.2.2.2.2.2.2.2.2.2.1) with | true => (match (x.2.2.2.2.2.2.2.2.2.2.1 == x.2.2.2.2.2.2.2.2.2.2.2.2.2.2.2.2.2.2.2.2.2.2.1) with | true => (match F43_d N (x.2.2.2.2.2.2.2.2.2.2.2.1, x.2.2.2.2.2.2.2.2.2.2.2.2.2.2.2.2.2.2.2.2.2.2.2) with | some y1 => (k y1) | none => none) | false => (k false)) | false => (k false)) | false => (k false)) | false => (k false)) | false => (k false)) | false => (k false)) | false => (k false))
noncomputable abbrev F22_d (N : Nat) (x : ByteArray × ByteArray × ByteArray × ByteArray × Int × Int × Int × Int × Int × Int × Int × (List (List AV)) × ByteArray × ByteArray × ByteArray × ByteArray × Int × Int × Int × Int × Int × Int × Int × (List (List AV))) : Option (Bool) := (F22_s N).d x
theorem F22_parF (N : Nat) : ParF (F22_s N).t := by
  intro x α β k k' r r' h h1
  revert h
  dsimp only [F22_s]
  (repeat' (first | (with_reducible refine par_ite ?_ ?_) | (with_reducible refine par_both ?_ ?_) | split)) <;> intro h <;> first | exact h1 _ h | (cases h; done)
theorem F22_text (N : Nat) (x : (F22_s N).X) : acall (tabOf Try.prog) (F22_g N) F22_an (lam N []) Try.f22 (F22_s N).S ((F22_s N).args x) ((F22_s N).bs x) = (F22_s N).t x Ret (fun y => some ((F22_s N).ret y)) := by kernel_rfl
theorem F22_pat (N : Nat) (a : List AV) (b : List (List AV)) (x : (F22_s N).X) (h : (F22_s N).pat a b = some x) : a = (F22_s N).args x ∧ b = (F22_s N).bs x := by
  dsimp only [F22_s] at h
  split at h
  · cases h; exact ⟨rfl, rfl⟩
  · cases h
noncomputable def F22_e (N : Nat) : Ent Try.prog := entOf (tabOf_ok Try.prog) (gam_ok _) mixed 22 Try.f22 Try.func22 rfl F22_an (lam N []) (by
    have e : actOf F22_an (Try.f22.body.getD .skip) 0 = [] := by kernel_rfl
    rw [e]
    intro p hp
    cases hp) (F22_s N) (fun _ => ⟨rfl, rfl⟩) (F22_text N) (F22_pat N) (F22_parF N)
/-! ### seismonet/clock.From (function 29) -/
def F29_an : Nat → Keep × Keep := anL []
noncomputable def F29_g (N : Nat) : GamK := gam (P := Try.prog) [F26_e N, F35_e N, F47_e N]
noncomputable def F29_s (N : Nat) : FSpec where
  X := Int × Int × Int × Int × Int
  Y := Int × Int × Int
  ash := [[none, none, none], [none], [none]]
  bsh := []
  S := ⟨[[none], [none], [none]], [], [], [], []⟩
  bm := false
  pat := fun a b => match a, b with
    | [(AV.agg [(AV.v (.int .i64 a0)), (AV.v (.int .i64 a1)), (AV.v (.int .i64 a2))]), (AV.v (.int .i64 a3)), (AV.v (.int .i64 a4))], [] => some (a0, a1, a2, a3, a4)
    | _, _ => none
  args := fun x => [(AV.agg [(AV.v (.int .i64 x.1)), (AV.v (.int .i64 x.2.1)), (AV.v (.int .i64 x.2.2.1))]), (AV.v (.int .i64 x.2.2.2.1)), (AV.v (.int .i64 x.2.2.2.2))]
  bs := fun x => []
  ret := fun y => ⟨(AV.tup [(AV.v (.int .i64 y.1)), (AV.v (.int .i64 y.2.1)), (AV.v (.int .i64 y.2.2))]), [], none, [], [], []⟩
  t := fun x α k => (match F26_d N ([[(AV.v (.int .i64 x.1)), (AV.v (.int .i64 x.2.1)), (AV.v (.int .i64 x.2.2.1))]], x.2.2.2.1) with | some y1 => (match (!y1) with | true => (k (0, 0, 1)) | false => (match F35_d N x.2.2.2.2 with | some y2 => (match (!y2) with | true => (k (0, 0, 1)) | false => (match F47_d N (x.1, x.2.1, x.2.2.1, x.2.2.2.1, x.2.2.2.2) with | some y3 => (k (y3.1, y3.2, 0)) | none => none)) | none => none)) | none => none)
noncomputable abbrev F29_d (N : Nat) (x : Int × Int × Int × Int × Int) : Option (Int × Int × Int) := (F29_s N).d x
theorem F29_parF (N : Nat) : ParF (F29_s N).t := by
  intro x α β k k' r r' h h1
  revert h
  dsimp only [F29_s]
  (repeat' (first | (with_reducible refine par_ite ?_ ?_) | (with_reducible refine par_both ?_ ?_) | split)) <;> intro h <;> first | exact h1 _ h | (cases h; done)
theorem F29_text (N : Nat) (x : (F29_s N).X) : acall (tabOf Try.prog) (F29_g N) F29_an (lam N []) Try.f29 (F29_s N).S ((F29_s N).args x) ((F29_s N).bs x) = (F29_s N).t x Ret (fun y => some ((F29_s N).ret y)) := by kernel_rfl
theorem F29_pat (N : Nat) (a : List AV) (b : List (List AV)) (x : (F29_s N).X) (h : (F29_s N).pat a b = some x) : a = (F29_s N).args x ∧ b = (F29_s N).bs x := by
  dsimp only [F29_s] at h
  split at h
  · cases h; exact ⟨rfl, rfl⟩
  · cases h
noncomputable def F29_e (N : Nat) : Ent Try.prog := entOf (tabOf_ok Try.prog) (gam_ok _) mixed 29 Try.f29 Try.func29 rfl F29_an (lam N []) (by
    have e : actOf F29_an (Try.f29.body.getD .skip) 0 = [] := by kernel_rfl
    rw [e]
    intro p hp
    cases hp) (F29_s N) (fun _ => ⟨rfl, rfl⟩) (F29_text N) (F29_pat N) (F29_parF N)
/-! ### seismonet/seismonetref13.From (function 30) -/
def F30_an : Nat → Keep × Keep := anL []
noncomputable def F30_g (N : Nat) : GamK := gam (P := Try.prog) [F44_e N, F45_e N, F48_e N]
noncomputable def F30_s (N : Nat) : FSpec where
  X := Int × Int × Int × Int × Int
  Y := Int × Int × Int
  ash := [[none, none, none], [none], [none]]
  bsh := []
  S := ⟨[[none], [none], [none]], [], [], [], []⟩
  bm := false
  pat := fun a b => match a, b with
    | [(AV.agg [(AV.v (.int .i64 a0)), (AV.v (.int .i64 a1)), (AV.v (.int .i64 a2))]), (AV.v (.int .i64 a3)), (AV.v (.int .i64 a4))], [] => some (a0, a1, a2, a3, a4)
    | _, _ => none
  args := fun x => [(AV.agg [(AV.v (.int .i64 x.1)), (AV.v (.int .i64 x.2.1)), (AV.v (.int .i64 x.2.2.1))]), (AV.v (.int .i64 x.2.2.2.1)), (AV.v (.int .i64 x.2.2.2.2))]
  bs := fun x => []
  ret := fun y => ⟨(AV.tup [(AV.v (.int .i64 y.1)), (AV.v (.int .i64 y.2.1)), (AV.v (.int .i64 y.2.2))]), [], none, [], [], []⟩
  t := fun x α k => (match F44_d N (x.1, x.2.1, x.2.2.1, x.2.2.2.1) with | some y1 => (match (!y1) with | true => (k (0, 0, 1)) | false => (match F45_d N (x.2.2.2.2, 0, 9007199254740992) with | some y2 => (match (!y2) with | true => (k (0, 0, 1)) | false => (match F48_d N (x.1, x.2.1, x.2.2.1, x.2.2.2.1, x.2.2.2.2) with | some y3 => (k (y3.1, y3.2, 0)) | none => none)) | none => none)) | none => none)
noncomputable abbrev F30_d (N : Nat) (x : Int × Int × Int × Int × Int) : Option (Int × Int × Int) := (F30_s N).d x
theorem F30_parF (N : Nat) : ParF (F30_s N).t := by
  intro x α β k k' r r' h h1
  revert h
  dsimp only [F30_s]
  (repeat' (first | (with_reducible refine par_ite ?_ ?_) | (with_reducible refine par_both ?_ ?_) | split)) <;> intro h <;> first | exact h1 _ h | (cases h; done)
theorem F30_text (N : Nat) (x : (F30_s N).X) : acall (tabOf Try.prog) (F30_g N) F30_an (lam N []) Try.f30 (F30_s N).S ((F30_s N).args x) ((F30_s N).bs x) = (F30_s N).t x Ret (fun y => some ((F30_s N).ret y)) := by kernel_rfl
theorem F30_pat (N : Nat) (a : List AV) (b : List (List AV)) (x : (F30_s N).X) (h : (F30_s N).pat a b = some x) : a = (F30_s N).args x ∧ b = (F30_s N).bs x := by
  dsimp only [F30_s] at h
  split at h
  · cases h; exact ⟨rfl, rfl⟩
  · cases h
noncomputable def F30_e (N : Nat) : Ent Try.prog := entOf (tabOf_ok Try.prog) (gam_ok _) mixed 30 Try.f30 Try.func30 rfl F30_an (lam N []) (by
    have e : actOf F30_an (Try.f30.body.getD .skip) 0 = [] := by kernel_rfl
    rw [e]
    intro p hp
    cases hp) (F30_s N) (fun _ => ⟨rfl, rfl⟩) (F30_text N) (F30_pat N) (F30_parF N)
/-! ### seismonet/clock.Agrees (function 31) -/
def F31_an : Nat → Keep × Keep := anL []
noncomputable def F31_g (N : Nat) : GamK := gam (P := Try.prog) [F26_e N, F38_e N]
noncomputable def F31_s (N : Nat) : FSpec where
  X := Int × Int × Int × Int × Int × Int × Int
  Y := Bool
  ash := [[none, none, none], [none, none, none], [none]]
  bsh := []
  S := ⟨[[none]], [], [], [], []⟩
  bm := false
  pat := fun a b => match a, b with
    | [(AV.agg [(AV.v (.int .i64 a0)), (AV.v (.int .i64 a1)), (AV.v (.int .i64 a2))]), (AV.agg [(AV.v (.int .i64 a3)), (AV.v (.int .i64 a4)), (AV.v (.int .i64 a5))]), (AV.v (.int .i64 a6))], [] => some (a0, a1, a2, a3, a4, a5, a6)
    | _, _ => none
  args := fun x => [(AV.agg [(AV.v (.int .i64 x.1)), (AV.v (.int .i64 x.2.1)), (AV.v (.int .i64 x.2.2.1))]), (AV.agg [(AV.v (.int .i64 x.2.2.2.1)), (AV.v (.int .i64 x.2.2.2.2.1)), (AV.v (.int .i64 x.2.2.2.2.2.1))]), (AV.v (.int .i64 x.2.2.2.2.2.2))]
  bs := fun x => []
  ret := fun y => ⟨(AV.v (.bool y)), [], none, [], [], []⟩
  t := fun x α k => (match F26_d N ([[(AV.v (.int .i64 x.1)), (AV.v (.int .i64 x.2.1)), (AV.v (.int .i64 x.2.2.1))], [(AV.v (.int .i64 x.2.2.2.1)), (AV.v (.int .i64 x.2.2.2.2.1)), (AV.v (.int .i64 x.2.2.2.2.2.1))]], x.2.2.2.2.2.2) with | some y1 => (match y1 with | true => (match F38_d N (x.1, x.2.1, x.2.2.1, x.2.2.2.1, x.2.2.2.2.1, x.2.2.2.2.2.1, x.2.2.2.2.2.2) with | some y2 => (k y2) | none => none) | false => (k false)) | none => none)
noncomputable abbrev F31_d (N : Nat) (x : Int × Int × Int × Int × Int × Int × Int) : Option (Bool) := (F31_s N).d x
theorem F31_parF (N : Nat) : ParF (F31_s N).t := by
  intro x α β k k' r r' h h1
  revert h
  dsimp only [F31_s]
  (repeat' (first | (with_reducible refine par_ite ?_ ?_) | (with_reducible refine par_both ?_ ?_) | split)) <;> intro h <;> first | exact h1 _ h | (cases h; done)
theorem F31_text (N : Nat) (x : (F31_s N).X) : acall (tabOf Try.prog) (F31_g N) F31_an (lam N []) Try.f31 (F31_s N).S ((F31_s N).args x) ((F31_s N).bs x) = (F31_s N).t x Ret (fun y => some ((F31_s N).ret y)) := by kernel_rfl
theorem F31_pat (N : Nat) (a : List AV) (b : List (List AV)) (x : (F31_s N).X) (h : (F31_s N).pat a b = some x) : a = (F31_s N).args x ∧ b = (F31_s N).bs x := by
  dsimp only [F31_s] at h
  split at h
  · cases h; exact ⟨rfl, rfl⟩
  · cases h
noncomputable def F31_e (N : Nat) : Ent Try.prog := entOf (tabOf_ok Try.prog) (gam_ok _) mixed 31 Try.f31 Try.func31 rfl F31_an (lam N []) (by
    have e : actOf F31_an (Try.f31.body.getD .skip) 0 = [] := by kernel_rfl
    rw [e]
    intro p hp
    cases hp) (F31_s N) (fun _ => ⟨rfl, rfl⟩) (F31_text N) (F31_pat N) (F31_parF N)
/-! ### seismonet/seismonetlaw13.ints (function 25) -/
def F25_an : Nat → Keep × Keep := anL [(8, ⟨[12, 13], [], [], [(0, 1), (1, 1)], [], [], [], [], false⟩, ⟨[4], [], [], [], [], [], [], [], false⟩)]
noncomputable def F25_g (N : Nat) : GamK := gam (P := Try.prog) []
noncomputable def F25_l8 (N : Nat) : LSpec where
  X := (List (List AV)) × (List (List AV)) × Int × Int
  Y := (Bool) ⊕ (Unit)
  p := fun s => match s.env.length, s.nin, s.at 0, s.at 1, s.at 12, s.at 13 with
    | 26, 0, (AV.list 1 a0 none), (AV.list 1 a1 none), (AV.v (.int .i64 a2)), (AV.v (.int .i64 a3)) => some (a0, a1, a2, a3)
    | _, _, _, _, _, _ => none
  st := fun x => mkS 26 [(0, (AV.list 1 x.1 none)), (1, (AV.list 1 x.2.1 none)), (12, (AV.v (.int .i64 x.2.2.1))), (13, (AV.v (.int .i64 x.2.2.2)))] [] (F25_an 8).1.toks 0
  out := fun y => match y with
    | .inl y => (.ret, mkS 26 [(4, (AV.v (.bool y)))] [] (F25_an 8).2.toks 0)
    | .inr y => (.exit 0, mkS 26 [] [] (F25_an 8).2.toks 0)
  sp := fun y α k => match y with
    | .inl y => k (.ret, mkS 26 [(4, (AV.v (.bool y)))] [] (F25_an 8).2.toks 0)
    | .inr y => k (.exit 0, mkS 26 [] [] (F25_an 8).2.toks 0)
  spe := fun y α k => by rcases y with _ | _ <;> rfl
  b := fun x α kn ke => (match (decide (x.2.2.2 < x.2.2.1)) with | true => (if 0 ≤ x.2.2.2 then (match x.1[x.2.2.2.toNat]? with | some c1 => (match c1[0]? with | some x2 => (match x2 with | .v (.int q4 n3) => (if q4 = .i64 then (if 0 ≤ x.2.2.2 then (match x.2.1[x.2.2.2.toNat]? with | some c5 => (match c5[0]? with | some x6 => (match x6 with | .v (.int q8 n7) => (if q8 = .i64 then (match (n3 != n7) with | true => (ke (.inl false)) | false => (kn (x.1, x.2.1, x.2.2.1, (i64 (x.2.2.2 + 1))))) else none) | _ => none) | none => none) | none => none) else none) else none) | _ => none) | none => none) | none => none) else none) | false => (ke (.inr ())))
noncomputable abbrev F25_d8 (N : Nat) (x : (List (List AV)) × (List (List AV)) × Int × Int) : Option ((Bool) ⊕ (Unit)) := (F25_l8 N).L N x
noncomputable def F25_s (N : Nat) : FSpec where
  X := (List (List AV)) × (List (List AV))
  Y := Bool
  ash := [[some 1], [some 1]]
  bsh := []
  S := ⟨[[none]], [], [], [], []⟩
  bm := false
  pat := fun a b => match a, b with
    | [(AV.list 1 a0 none), (AV.list 1 a1 none)], [] => some (a0, a1)
    | _, _ => none
  args := fun x => [(AV.list 1 x.1 none), (AV.list 1 x.2 none)]
  bs := fun x => []
  ret := fun y => ⟨(AV.v (.bool y)), [], none, [], [], []⟩
  t := fun x α k => (match ((x.1.length : Int) != (x.2.length : Int)) with | true => (k false) | false => (match F25_d8 N (x.1, x.2, (x.1.length : Int), 0) with | some y9 => (match y9 with | .inl z10 => (k z10) | .inr z11 => (k true)) | none => none))
noncomputable abbrev F25_d (N : Nat) (x : (List (List AV)) × (List (List AV))) : Option (Bool) := (F25_s N).d x
theorem F25_par8 (N : Nat) : Par (F25_l8 N).b := by
  intro x α β kn ke kn' ke' r r' h h1 h2
  revert h
  dsimp only [F25_l8]
  (repeat' (first | (with_reducible refine par_ite ?_ ?_) | (with_reducible refine par_both ?_ ?_) | split)) <;> intro h <;> first | exact h1 _ h | exact h2 _ h | (cases h; done)
theorem F25_body8 (N : Nat) (x : (F25_l8 N).X) (α : Type) (kn : AS → Option α) (ke : Out → Option α) : around (tabOf Try.prog) (F25_g N) F25_an (lam N [(8, F25_l8 N)]) 8 (bodyOf (nthLoop 8 (Try.f25.body.getD .skip))) ((F25_l8 N).st x) kn ke = (F25_l8 N).b x α (fun x' => kn ((F25_l8 N).st x')) (fun y => (F25_l8 N).sp y α ke) := by kernel_rfl
theorem F25_pat8 (N : Nat) (s : AS) (x : (F25_l8 N).X) (hc : s = canon (F25_an 8).1 s) (h : (F25_l8 N).p s = some x) : s = (F25_l8 N).st x := by
  dsimp only [F25_l8] at h
  split at h
  · cases h
    exact canon_mk hc ‹_› ‹_› rfl rfl rfl ⟨‹_›, ‹_›, ‹_›, ‹_›, trivial⟩ trivial
  · cases h
theorem F25_loop8 (N : Nat) : ∀ s o, s = canon (F25_an 8).1 s → (lam N [(8, F25_l8 N)]).v 8 s = some o → LoopSem Try.prog (nthLoop 8 (Try.f25.body.getD .skip)) s o :=
  loop_ok (tabOf_ok Try.prog) (gam_ok _) mixed F25_an N [(8, F25_l8 N)] 8 (bodyOf (nthLoop 8 (Try.f25.body.getD .skip))) (nthLoop 8 (Try.f25.body.getD .skip)) (by kernel_rfl) (by
    have e : actOf F25_an (bodyOf (nthLoop 8 (Try.f25.body.getD .skip))) (8 + 1) = [] := by kernel_rfl
    rw [e]
    intro p hp
    cases hp) (F25_l8 N) rfl (fun s x hc h => F25_pat8 N s x hc h) (fun x => rfl) (fun x α kn ke => (F25_body8 N x α kn ke).trans (congrArg ((F25_l8 N).b x α _) (funext fun y => (F25_l8 N).spe y α ke))) (F25_par8 N)
theorem F25_parF (N : Nat) : ParF (F25_s N).t := by
  intro x α β k k' r r' h h1
  revert h
  dsimp only [F25_s]
  (repeat' (first | (with_reducible refine par_ite ?_ ?_) | (with_reducible refine par_both ?_ ?_) | split)) <;> intro h <;> first | exact h1 _ h | (cases h; done)
theorem F25_text (N : Nat) (x : (F25_s N).X) : acall (tabOf Try.prog) (F25_g N) F25_an (lam N [(8, F25_l8 N)]) Try.f25 (F25_s N).S ((F25_s N).args x) ((F25_s N).bs x) = (F25_s N).t x Ret (fun y => some ((F25_s N).ret y)) := by kernel_rfl
theorem F25_pat (N : Nat) (a : List AV) (b : List (List AV)) (x : (F25_s N).X) (h : (F25_s N).pat a b = some x) : a = (F25_s N).args x ∧ b = (F25_s N).bs x := by
  dsimp only [F25_s] at h
  split at h
  · cases h; exact ⟨rfl, rfl⟩
  · cases h
noncomputable def F25_e (N : Nat) : Ent Try.prog := entOf (tabOf_ok Try.prog) (gam_ok _) mixed 25 Try.f25 Try.func25 rfl F25_an (lam N [(8, F25_l8 N)]) (by
    have e : actOf F25_an (Try.f25.body.getD .skip) 0 = [(8, nthLoop 8 (Try.f25.body.getD .skip))] := by kernel_rfl
    rw [e]
    intro p hp
    rcases List.mem_cons.1 hp with rfl | hp
    · exact F25_loop8 N
    cases hp) (F25_s N) (fun _ => ⟨rfl, rfl⟩) (F25_text N) (F25_pat N) (F25_parF N)
end Go.Proofs.Ytecoemdhnphmdaa
