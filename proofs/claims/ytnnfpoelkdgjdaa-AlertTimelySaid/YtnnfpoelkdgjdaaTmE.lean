/- Several texts as one (written by pack.py). -/
import Derived.Test.YtnnfpoelkdgjdaaTmD
section
namespace Go.Proofs.Ytnnfpoelkdgjdaa
open Go.RowKit
set_option linter.unusedVariables false
set_option linter.unusedSimpArgs false
set_option linter.unnecessarySimpa false
set_option maxRecDepth 4000
def F7_an : Nat → Keep × Keep := anL []
noncomputable def F7_g (N : Nat) : GamK := gam (P := Try.prog) []
noncomputable def F7_s (N : Nat) : FSpec where
  X := (List (List AV))
  Y := (List (List AV)) × Int
  ash := [[some 1]]
  bsh := []
  S := ⟨[[none]], [], [some 1, none], [], []⟩
  bm := false
  pat := fun a b => pCons a fun v1 c2 => pLst 1 v1 fun a0 => pEnd c2 <| pEnd b <| some a0
  args := fun x => [(AV.list 1 x none)]
  bs := fun x => []
  ret := fun y => ⟨(AV.ptr 0 0), [], some [(AV.list 1 y.1 none), (AV.v (.int .i64 y.2))], [], [], []⟩
  t := fun x α k => (if 0 ≤ (if 2000 < (x.length : Int) then 2000 else (x.length : Int)) ∧ (if 2000 < (x.length : Int) then 2000 else (x.length : Int)) ≤ x.length then (k ((x.take (if 2000 < (x.length : Int) then 2000 else (x.length : Int)).toNat), 0)) else none)
noncomputable abbrev F7_d (N : Nat) (x : (List (List AV))) : Option ((List (List AV)) × Int) := (F7_s N).d x
theorem F7_parF (N : Nat) : ParF (F7_s N).t := by
  intro x α β k k' r r' h h1
  revert h
  dsimp only [F7_s]
  (repeat' (first | (with_reducible refine par_ite ?_ ?_) | (with_reducible refine par_both ?_ ?_) | split)) <;> intro h <;> first | exact h1 _ h | (cases h; done)
theorem F7_text (N : Nat) (x : (F7_s N).X) : acall (tabOf Try.prog) (F7_g N) F7_an (lam N []) Try.f7 (F7_s N).S ((F7_s N).args x) ((F7_s N).bs x) = (F7_s N).t x Ret (fun y => some ((F7_s N).ret y)) := by kernel_rfl
theorem F7_pat (N : Nat) (a : List AV) (b : List (List AV)) (x : (F7_s N).X) (h : (F7_s N).pat a b = some x) : a = (F7_s N).args x ∧ b = (F7_s N).bs x := by
  obtain ⟨v1, c2, rfl, g0⟩ := pCons_ok (show pCons _ _ = some x from h)
  obtain ⟨a0, rfl, g1⟩ := pLst_ok g0; clear g0
  obtain ⟨rfl, g2⟩ := pEnd_ok g1; clear g1
  obtain ⟨rfl, g3⟩ := pEnd_ok g2; clear g2
  clear h
  cases g3
  exact ⟨rfl, rfl⟩
noncomputable def F7_e (N : Nat) : Ent Try.prog := entOf (tabOf_ok Try.prog) (gam_ok _) mixed 7 Try.f7 Try.func7 rfl F7_an (lam N []) (by
    have e : actOf F7_an (Try.f7.body.getD .skip) 0 = [] := by kernel_rfl
    rw [e]
    intro p hp
    cases hp) (F7_s N) (fun _ => ⟨rfl, rfl⟩) (F7_text N) (F7_pat N) (F7_parF N)
def F25_an : Nat → Keep × Keep := anL []
noncomputable def F25_g (N : Nat) : GamK := gam (P := Try.prog) []
noncomputable def F25_s (N : Nat) : FSpec where
  X := (List (List AV)) × Int
  Y := Int × (List (List AV)) × Int
  ash := [[none]]
  bsh := [[some 1, none]]
  S := ⟨[[none]], [[some 1, none]], [], [], []⟩
  bm := false
  pat := fun a b => pCons a fun v1 c2 => pPtr 0 0 v1 <| pEnd c2 <| pCons b fun v3 c4 => pCons v3 fun c5 c6 => pLst 1 c5 fun a0 => pCons c6 fun c7 c8 => pInt .i64 c7 fun a1 => pEnd c8 <| pEnd c4 <| some (a0, a1)
  args := fun x => [(AV.ptr 0 0)]
  bs := fun x => [[(AV.list 1 x.1 none), (AV.v (.int .i64 x.2))]]
  ret := fun y => ⟨(AV.v (.int .i64 y.1)), [[(AV.list 1 y.2.1 none), (AV.v (.int .i64 y.2.2))]], none, [], [], []⟩
  t := fun x α k => (match (decide (x.2 ≥ (x.1.length : Int))) with | true => (k (0, x)) | false => (if 0 ≤ (i64 ((i64 (x.2 + 1)) - 1)) then (match x.1[(i64 ((i64 (x.2 + 1)) - 1)).toNat]? with | some c1 => (match c1[0]? with | some x2 => (match x2 with | .v (.int q4 n3) => (if q4 = .i64 then (k (n3, x.1, (i64 (x.2 + 1)))) else none) | _ => none) | none => none) | none => none) else none))
noncomputable abbrev F25_d (N : Nat) (x : (List (List AV)) × Int) : Option (Int × (List (List AV)) × Int) := (F25_s N).d x
theorem F25_parF (N : Nat) : ParF (F25_s N).t := by
  intro x α β k k' r r' h h1
  revert h
  dsimp only [F25_s]
  (repeat' (first | (with_reducible refine par_ite ?_ ?_) | (with_reducible refine par_both ?_ ?_) | split)) <;> intro h <;> first | exact h1 _ h | (cases h; done)
theorem F25_text (N : Nat) (x : (F25_s N).X) : acall (tabOf Try.prog) (F25_g N) F25_an (lam N []) Try.f25 (F25_s N).S ((F25_s N).args x) ((F25_s N).bs x) = (F25_s N).t x Ret (fun y => some ((F25_s N).ret y)) := by kernel_rfl
theorem F25_pat (N : Nat) (a : List AV) (b : List (List AV)) (x : (F25_s N).X) (h : (F25_s N).pat a b = some x) : a = (F25_s N).args x ∧ b = (F25_s N).bs x := by
  obtain ⟨v1, c2, rfl, g0⟩ := pCons_ok (show pCons _ _ = some x from h)
  obtain ⟨rfl, g1⟩ := pPtr_ok g0; clear g0
  obtain ⟨rfl, g2⟩ := pEnd_ok g1; clear g1
  obtain ⟨v3, c4, rfl, g3⟩ := pCons_ok g2; clear g2
  obtain ⟨c5, c6, rfl, g4⟩ := pCons_ok g3; clear g3
  obtain ⟨a0, rfl, g5⟩ := pLst_ok g4; clear g4
  obtain ⟨c7, c8, rfl, g6⟩ := pCons_ok g5; clear g5
  obtain ⟨a1, rfl, g7⟩ := pInt_ok g6; clear g6
  obtain ⟨rfl, g8⟩ := pEnd_ok g7; clear g7
  obtain ⟨rfl, g9⟩ := pEnd_ok g8; clear g8
  clear h
  cases g9
  exact ⟨rfl, rfl⟩
noncomputable def F25_e (N : Nat) : Ent Try.prog := entOf (tabOf_ok Try.prog) (gam_ok _) mixed 25 Try.f25 Try.func25 rfl F25_an (lam N []) (by
    have e : actOf F25_an (Try.f25.body.getD .skip) 0 = [] := by kernel_rfl
    rw [e]
    intro p hp
    cases hp) (F25_s N) (fun _ => ⟨rfl, rfl⟩) (F25_text N) (F25_pat N) (F25_parF N)
def F24_an : Nat → Keep × Keep := anL []
noncomputable def F24_g (N : Nat) : GamK := gam (P := Try.prog) []
noncomputable def F24_s (N : Nat) : FSpec where
  X := Int × Int
  Y := Int
  ash := [[none], [none]]
  bsh := []
  S := ⟨[[none]], [], [], [], []⟩
  bm := false
  pat := fun a b => pCons a fun v1 c2 => pInt .i64 v1 fun a0 => pCons c2 fun v3 c4 => pInt .i64 v3 fun a1 => pEnd c4 <| pEnd b <| some (a0, a1)
  args := fun x => [(AV.v (.int .i64 x.1)), (AV.v (.int .i64 x.2))]
  bs := fun x => []
  ret := fun y => ⟨(AV.v (.int .i64 y)), [], none, [], [], []⟩
  t := fun x α k => (match (decide (x.2 < 1)) with | true => (k 0) | false => (if x.2 = 0 then none else (match (decide ((x.1.tmod x.2) < 0)) with | true => (k (i64 ((x.1.tmod x.2) + x.2))) | false => (k (x.1.tmod x.2)))))
noncomputable abbrev F24_d (N : Nat) (x : Int × Int) : Option (Int) := (F24_s N).d x
theorem F24_parF (N : Nat) : ParF (F24_s N).t := by
  intro x α β k k' r r' h h1
  revert h
  dsimp only [F24_s]
  (repeat' (first | (with_reducible refine par_ite ?_ ?_) | (with_reducible refine par_both ?_ ?_) | split)) <;> intro h <;> first | exact h1 _ h | (cases h; done)
theorem F24_text (N : Nat) (x : (F24_s N).X) : acall (tabOf Try.prog) (F24_g N) F24_an (lam N []) Try.f24 (F24_s N).S ((F24_s N).args x) ((F24_s N).bs x) = (F24_s N).t x Ret (fun y => some ((F24_s N).ret y)) := by kernel_rfl
theorem F24_pat (N : Nat) (a : List AV) (b : List (List AV)) (x : (F24_s N).X) (h : (F24_s N).pat a b = some x) : a = (F24_s N).args x ∧ b = (F24_s N).bs x := by
  obtain ⟨v1, c2, rfl, g0⟩ := pCons_ok (show pCons _ _ = some x from h)
  obtain ⟨a0, rfl, g1⟩ := pInt_ok g0; clear g0
  obtain ⟨v3, c4, rfl, g2⟩ := pCons_ok g1; clear g1
  obtain ⟨a1, rfl, g3⟩ := pInt_ok g2; clear g2
  obtain ⟨rfl, g4⟩ := pEnd_ok g3; clear g3
  obtain ⟨rfl, g5⟩ := pEnd_ok g4; clear g4
  clear h
  cases g5
  exact ⟨rfl, rfl⟩
noncomputable def F24_e (N : Nat) : Ent Try.prog := entOf (tabOf_ok Try.prog) (gam_ok _) mixed 24 Try.f24 Try.func24 rfl F24_an (lam N []) (by
    have e : actOf F24_an (Try.f24.body.getD .skip) 0 = [] := by kernel_rfl
    rw [e]
    intro p hp
    cases hp) (F24_s N) (fun _ => ⟨rfl, rfl⟩) (F24_text N) (F24_pat N) (F24_parF N)
def F9_an : Nat → Keep × Keep := anL []
noncomputable def F9_g (N : Nat) : GamK := gam (P := Try.prog) [F25_e N, F24_e N]
noncomputable def F9_s (N : Nat) : FSpec where
  X := Int × (List (List AV)) × Int
  Y := Int × (List (List AV)) × Int
  ash := [[none], [none]]
  bsh := [[some 1, none]]
  S := ⟨[[none]], [[some 1, none]], [], [], []⟩
  bm := false
  pat := fun a b => pCons a fun v1 c2 => pPtr 0 0 v1 <| pCons c2 fun v3 c4 => pInt .i64 v3 fun a0 => pEnd c4 <| pCons b fun v5 c6 => pCons v5 fun c7 c8 => pLst 1 c7 fun a1 => pCons c8 fun c9 c10 => pInt .i64 c9 fun a2 => pEnd c10 <| pEnd c6 <| some (a0, a1, a2)
  args := fun x => [(AV.ptr 0 0), (AV.v (.int .i64 x.1))]
  bs := fun x => [[(AV.list 1 x.2.1 none), (AV.v (.int .i64 x.2.2))]]
  ret := fun y => ⟨(AV.v (.int .i64 y.1)), [[(AV.list 1 y.2.1 none), (AV.v (.int .i64 y.2.2))]], none, [], [], []⟩
  t := fun x α k => (match F25_d N x.2 with | some y1 => (match F24_d N (y1.1, x.1) with | some y2 => (k (y2, y1.2)) | none => none) | none => none)
noncomputable abbrev F9_d (N : Nat) (x : Int × (List (List AV)) × Int) : Option (Int × (List (List AV)) × Int) := (F9_s N).d x
theorem F9_parF (N : Nat) : ParF (F9_s N).t := by
  intro x α β k k' r r' h h1
  revert h
  dsimp only [F9_s]
  (repeat' (first | (with_reducible refine par_ite ?_ ?_) | (with_reducible refine par_both ?_ ?_) | split)) <;> intro h <;> first | exact h1 _ h | (cases h; done)
theorem F9_text (N : Nat) (x : (F9_s N).X) : acall (tabOf Try.prog) (F9_g N) F9_an (lam N []) Try.f9 (F9_s N).S ((F9_s N).args x) ((F9_s N).bs x) = (F9_s N).t x Ret (fun y => some ((F9_s N).ret y)) := by kernel_rfl
theorem F9_pat (N : Nat) (a : List AV) (b : List (List AV)) (x : (F9_s N).X) (h : (F9_s N).pat a b = some x) : a = (F9_s N).args x ∧ b = (F9_s N).bs x := by
  obtain ⟨v1, c2, rfl, g0⟩ := pCons_ok (show pCons _ _ = some x from h)
  obtain ⟨rfl, g1⟩ := pPtr_ok g0; clear g0
  obtain ⟨v3, c4, rfl, g2⟩ := pCons_ok g1; clear g1
  obtain ⟨a0, rfl, g3⟩ := pInt_ok g2; clear g2
  obtain ⟨rfl, g4⟩ := pEnd_ok g3; clear g3
  obtain ⟨v5, c6, rfl, g5⟩ := pCons_ok g4; clear g4
  obtain ⟨c7, c8, rfl, g6⟩ := pCons_ok g5; clear g5
  obtain ⟨a1, rfl, g7⟩ := pLst_ok g6; clear g6
  obtain ⟨c9, c10, rfl, g8⟩ := pCons_ok g7; clear g7
  obtain ⟨a2, rfl, g9⟩ := pInt_ok g8; clear g8
  obtain ⟨rfl, g10⟩ := pEnd_ok g9; clear g9
  obtain ⟨rfl, g11⟩ := pEnd_ok g10; clear g10
  clear h
  cases g11
  exact ⟨rfl, rfl⟩
noncomputable def F9_e (N : Nat) : Ent Try.prog := entOf (tabOf_ok Try.prog) (gam_ok _) mixed 9 Try.f9 Try.func9 rfl F9_an (lam N []) (by
    have e : actOf F9_an (Try.f9.body.getD .skip) 0 = [] := by kernel_rfl
    rw [e]
    intro p hp
    cases hp) (F9_s N) (fun _ => ⟨rfl, rfl⟩) (F9_text N) (F9_pat N) (F9_parF N)
def F23_an : Nat → Keep × Keep := anL []
noncomputable def F23_g (N : Nat) : GamK := gam (P := Try.prog) [F9_e N]
noncomputable def F23_s (N : Nat) : FSpec where
  X := (List (List AV)) × (List (List AV)) × Int
  Y := Int × (List (List AV)) × Int
  ash := [[none], [some 1]]
  bsh := [[some 1, none]]
  S := ⟨[[none]], [[some 1, none]], [], [], []⟩
  bm := false
  pat := fun a b => pCons a fun v1 c2 => pPtr 0 0 v1 <| pCons c2 fun v3 c4 => pLst 1 v3 fun a0 => pEnd c4 <| pCons b fun v5 c6 => pCons v5 fun c7 c8 => pLst 1 c7 fun a1 => pCons c8 fun c9 c10 => pInt .i64 c9 fun a2 => pEnd c10 <| pEnd c6 <| some (a0, a1, a2)
  args := fun x => [(AV.ptr 0 0), (AV.list 1 x.1 none)]
  bs := fun x => [[(AV.list 1 x.2.1 none), (AV.v (.int .i64 x.2.2))]]
  ret := fun y => ⟨(AV.v (.int .i64 y.1)), [[(AV.list 1 y.2.1 none), (AV.v (.int .i64 y.2.2))]], none, [], [], []⟩
  t := fun x α k => (match F9_d N ((x.1.length : Int), x.2) with | some y1 => (if 0 ≤ y1.1 then (match x.1[y1.1.toNat]? with | some c2 => (match c2[0]? with | some x3 => (match x3 with | .v (.int q5 n4) => (if q5 = .i64 then (k (n4, y1.2)) else none) | _ => none) | none => none) | none => none) else none) | none => none)
noncomputable abbrev F23_d (N : Nat) (x : (List (List AV)) × (List (List AV)) × Int) : Option (Int × (List (List AV)) × Int) := (F23_s N).d x
theorem F23_parF (N : Nat) : ParF (F23_s N).t := by
  intro x α β k k' r r' h h1
  revert h
  dsimp only [F23_s]
  (repeat' (first | (with_reducible refine par_ite ?_ ?_) | (with_reducible refine par_both ?_ ?_) | split)) <;> intro h <;> first | exact h1 _ h | (cases h; done)
theorem F23_text (N : Nat) (x : (F23_s N).X) : acall (tabOf Try.prog) (F23_g N) F23_an (lam N []) Try.f23 (F23_s N).S ((F23_s N).args x) ((F23_s N).bs x) = (F23_s N).t x Ret (fun y => some ((F23_s N).ret y)) := by kernel_rfl
theorem F23_pat (N : Nat) (a : List AV) (b : List (List AV)) (x : (F23_s N).X) (h : (F23_s N).pat a b = some x) : a = (F23_s N).args x ∧ b = (F23_s N).bs x := by
  obtain ⟨v1, c2, rfl, g0⟩ := pCons_ok (show pCons _ _ = some x from h)
  obtain ⟨rfl, g1⟩ := pPtr_ok g0; clear g0
  obtain ⟨v3, c4, rfl, g2⟩ := pCons_ok g1; clear g1
  obtain ⟨a0, rfl, g3⟩ := pLst_ok g2; clear g2
  obtain ⟨rfl, g4⟩ := pEnd_ok g3; clear g3
  obtain ⟨v5, c6, rfl, g5⟩ := pCons_ok g4; clear g4
  obtain ⟨c7, c8, rfl, g6⟩ := pCons_ok g5; clear g5
  obtain ⟨a1, rfl, g7⟩ := pLst_ok g6; clear g6
  obtain ⟨c9, c10, rfl, g8⟩ := pCons_ok g7; clear g7
  obtain ⟨a2, rfl, g9⟩ := pInt_ok g8; clear g8
  obtain ⟨rfl, g10⟩ := pEnd_ok g9; clear g9
  obtain ⟨rfl, g11⟩ := pEnd_ok g10; clear g10
  clear h
  cases g11
  exact ⟨rfl, rfl⟩
noncomputable def F23_e (N : Nat) : Ent Try.prog := entOf (tabOf_ok Try.prog) (gam_ok _) mixed 23 Try.f23 Try.func23 rfl F23_an (lam N []) (by
    have e : actOf F23_an (Try.f23.body.getD .skip) 0 = [] := by kernel_rfl
    rw [e]
    intro p hp
    cases hp) (F23_s N) (fun _ => ⟨rfl, rfl⟩) (F23_text N) (F23_pat N) (F23_parF N)
def F8_an : Nat → Keep × Keep := anL [(5, ⟨[0, 2, 3, 4], [], [0, 2, 3], [], [((2, 0), 4), ((3, 0), 4)], [], [], [], false⟩, ⟨[2, 3], [], [0, 2, 3], [], [((2, 0), 4), ((3, 0), 4)], [], [], [], false⟩)]
noncomputable def F8_g (N : Nat) : GamK := gam (P := Try.prog) [F23_e N, F9_e N]
noncomputable def F8_l5 (N : Nat) : LSpec where
  X := Int × (List (List AV)) × Int × (List (List AV)) × Int × Int × (List (List AV)) × Int × Int
  Y := ((List (List AV)) × Int × (List (List AV)) × Int × Int × (List (List AV)) × Int × Int)
  p := fun s => pNat s.env.length 38 <| pNat s.nin 1 <| pPtr 0 0 (s.at 0) <| pPtr 2 0 (s.at 2) <| pPtr 3 0 (s.at 3) <| pInt .i64 (s.at 4) fun a0 => pSome (s.bx 0) fun c7 => pCons c7 fun c9 c10 => pLst 1 c9 fun a1 => pCons c10 fun c11 c12 => pInt .i64 c11 fun a2 => pEnd c12 <| pSome (s.bx 2) fun c13 => pCons c13 fun c15 c16 => pTok 4 6400524288 c15 fun a3 => pCons c16 fun c17 c18 => pInt .i64 c17 fun a4 => pCons c18 fun c19 c20 => pInt .i64 c19 fun a5 => pEnd c20 <| pSome (s.bx 3) fun c21 => pCons c21 fun c23 c24 => pTok 4 6400786432 c23 fun a6 => pCons c24 fun c25 c26 => pInt .i64 c25 fun a7 => pCons c26 fun c27 c28 => pInt .i64 c27 fun a8 => pEnd c28 <| some (a0, a1, a2, a3, a4, a5, a6, a7, a8)
  st := fun u5 => mkS 38 [(0, (AV.ptr 0 0)), (2, (AV.ptr 2 0)), (3, (AV.ptr 3 0)), (4, (AV.v (.int .i64 u5.1)))] [(0, [(AV.list 1 u5.2.1 none), (AV.v (.int .i64 u5.2.2.1))]), (2, [(AV.list 4 u5.2.2.2.1 (some 6400524288)), (AV.v (.int .i64 u5.2.2.2.2.1)), (AV.v (.int .i64 u5.2.2.2.2.2.1))]), (3, [(AV.list 4 u5.2.2.2.2.2.2.1 (some 6400786432)), (AV.v (.int .i64 u5.2.2.2.2.2.2.2.1)), (AV.v (.int .i64 u5.2.2.2.2.2.2.2.2))])] (F8_an 5).1.toks 1
  out := fun y => (.exit 0, mkS 38 [(2, (AV.ptr 2 0)), (3, (AV.ptr 3 0))] [(0, [(AV.list 1 y.1 none), (AV.v (.int .i64 y.2.1))]), (2, [(AV.list 4 y.2.2.1 (some 6400524288)), (AV.v (.int .i64 y.2.2.2.1)), (AV.v (.int .i64 y.2.2.2.2.1))]), (3, [(AV.list 4 y.2.2.2.2.2.1 (some 6400786432)), (AV.v (.int .i64 y.2.2.2.2.2.2.1)), (AV.v (.int .i64 y.2.2.2.2.2.2.2))])] (F8_an 5).2.toks 1)
  sp := fun y α k => k (.exit 0, mkS 38 [(2, (AV.ptr 2 0)), (3, (AV.ptr 3 0))] [(0, [(AV.list 1 y.1 none), (AV.v (.int .i64 y.2.1))]), (2, [(AV.list 4 y.2.2.1 (some 6400524288)), (AV.v (.int .i64 y.2.2.2.1)), (AV.v (.int .i64 y.2.2.2.2.1))]), (3, [(AV.list 4 y.2.2.2.2.2.1 (some 6400786432)), (AV.v (.int .i64 y.2.2.2.2.2.2.1)), (AV.v (.int .i64 y.2.2.2.2.2.2.2))])] (F8_an 5).2.toks 1)
  spe := fun y α k => rfl
  b := fun u5 α kn ke => (match (decide (u5.1 > 0)) with | true => (match F9_d N (400, u5.2.1, u5.2.2.1) with | some y8 => (match F9_d N (4, y8.2) with | some y9 => (match F23_d N ([[(AV.v (.int .i64 0))], [(AV.v (.int .i64 10))], [(AV.v (.int .i64 100))], [(AV.v (.int .i64 10000))]], y9.2) with | some y10 => (match F23_d N ([[(AV.v (.int .i64 0))], [(AV.v (.int .i64 500))], [(AV.v (.int .i64 2000))], [(AV.v (.int .i64 100000))]], y10.2) with | some y11 => (if (u5.2.2.2.2.2.2.1.length + [(Ren4 ((i64 (y8.1 - 100)), (i64 (1 + y9.1)), y10.1, y11.1, ()))].length) * 32 ≤ maxBytes then (kn ((i64 (u5.1 - 1)), y11.2.1, y11.2.2, u5.2.2.2.1, u5.2.2.2.2.1, u5.2.2.2.2.2.1, (u5.2.2.2.2.2.2.1 ++ [(Ren4 ((i64 (y8.1 - 100)), (i64 (1 + y9.1)), y10.1, y11.1, ()))]), u5.2.2.2.2.2.2.2)) else none) | none => none) | none => none) | none => none) | none => none) | false => (ke u5.2))
noncomputable abbrev F8_d5 (N : Nat) (x : Int × (List (List AV)) × Int × (List (List AV)) × Int × Int × (List (List AV)) × Int × Int) : Option (((List (List AV)) × Int × (List (List AV)) × Int × Int × (List (List AV)) × Int × Int)) := (F8_l5 N).L N x
noncomputable def F8_s (N : Nat) : FSpec where
  X := (List (List AV)) × Int
  Y := (List (List AV)) × Int × Int × (List (List AV)) × Int
  ash := [[none]]
  bsh := [[some 1, none]]
  S := ⟨[[some 4, none, none]], [[some 1, none]], [], [], []⟩
  bm := false
  pat := fun a b => pCons a fun v1 c2 => pPtr 0 0 v1 <| pEnd c2 <| pCons b fun v3 c4 => pCons v3 fun c5 c6 => pLst 1 c5 fun a0 => pCons c6 fun c7 c8 => pInt .i64 c7 fun a1 => pEnd c8 <| pEnd c4 <| some (a0, a1)
  args := fun x => [(AV.ptr 0 0)]
  bs := fun x => [[(AV.list 1 x.1 none), (AV.v (.int .i64 x.2))]]
  ret := fun y => ⟨(AV.agg [(AV.list 4 y.1 none), (AV.v (.int .i64 y.2.1)), (AV.v (.int .i64 y.2.2.1))]), [[(AV.list 1 y.2.2.2.1 none), (AV.v (.int .i64 y.2.2.2.2))]], none, [], [], []⟩
  t := fun x α k => (match F23_d N ([[(AV.v (.int .i64 0))], [(AV.v (.int .i64 2))], [(AV.v (.int .i64 10))], [(AV.v (.int .i64 1000))]], x) with | some y1 => (match F23_d N ([[(AV.v (.int .i64 0))], [(AV.v (.int .i64 0))], [(AV.v (.int .i64 50))], [(AV.v (.int .i64 500))]], y1.2) with | some y2 => (match F9_d N (3, y2.2) with | some y3 => (match F8_d5 N ((i64 (1 + y3.1)), y3.2.1, y3.2.2, ([] : List (List AV)), 0, 0, ([] : List (List AV)), y1.1, y2.1) with | some y12 => (k (y12.2.2.2.2.2.1, y12.2.2.2.2.2.2.1, y12.2.2.2.2.2.2.2, y12.1, y12.2.1)) | none => none) | none => none) | none => none) | none => none)
noncomputable abbrev F8_d (N : Nat) (x : (List (List AV)) × Int) : Option ((List (List AV)) × Int × Int × (List (List AV)) × Int) := (F8_s N).d x
theorem F8_par5 (N : Nat) : Par (F8_l5 N).b := by
  intro x α β kn ke kn' ke' r r' h h1 h2
  revert h
  dsimp only [F8_l5]
  (repeat' (first | (with_reducible refine par_ite ?_ ?_) | (with_reducible refine par_both ?_ ?_) | split)) <;> intro h <;> first | exact h1 _ h | exact h2 _ h | (cases h; done)
theorem F8_body5 (N : Nat) (x : (F8_l5 N).X) (α : Type) (kn : AS → Option α) (ke : Out → Option α) : around (tabOf Try.prog) (F8_g N) F8_an (lam N [(5, F8_l5 N)]) 5 (bodyOf (nthLoop 5 (Try.f8.body.getD .skip))) ((F8_l5 N).st x) kn ke = (F8_l5 N).b x α (fun x' => kn ((F8_l5 N).st x')) (fun y => (F8_l5 N).sp y α ke) := by kernel_rfl
theorem F8_pat5 (N : Nat) (s : AS) (x : (F8_l5 N).X) (hc : s = canon (F8_an 5).1 s) (h : (F8_l5 N).p s = some x) : s = (F8_l5 N).st x := by
  replace h : pNat _ _ _ = some x := h
  obtain ⟨h1, g0⟩ := pNat_ok h
  obtain ⟨h2, g1⟩ := pNat_ok g0; clear g0
  obtain ⟨h3, g2⟩ := pPtr_ok g1; clear g1
  obtain ⟨h4, g3⟩ := pPtr_ok g2; clear g2
  obtain ⟨h5, g4⟩ := pPtr_ok g3; clear g3
  obtain ⟨a0, h6, g5⟩ := pInt_ok g4; clear g4
  obtain ⟨c7, h8, g6⟩ := pSome_ok g5; clear g5
  obtain ⟨c9, c10, rfl, g7⟩ := pCons_ok g6; clear g6
  obtain ⟨a1, rfl, g8⟩ := pLst_ok g7; clear g7
  obtain ⟨c11, c12, rfl, g9⟩ := pCons_ok g8; clear g8
  obtain ⟨a2, rfl, g10⟩ := pInt_ok g9; clear g9
  obtain ⟨rfl, g11⟩ := pEnd_ok g10; clear g10
  obtain ⟨c13, h14, g12⟩ := pSome_ok g11; clear g11
  obtain ⟨c15, c16, rfl, g13⟩ := pCons_ok g12; clear g12
  obtain ⟨a3, rfl, g14⟩ := pTok_ok g13; clear g13
  obtain ⟨c17, c18, rfl, g15⟩ := pCons_ok g14; clear g14
  obtain ⟨a4, rfl, g16⟩ := pInt_ok g15; clear g15
  obtain ⟨c19, c20, rfl, g17⟩ := pCons_ok g16; clear g16
  obtain ⟨a5, rfl, g18⟩ := pInt_ok g17; clear g17
  obtain ⟨rfl, g19⟩ := pEnd_ok g18; clear g18
  obtain ⟨c21, h22, g20⟩ := pSome_ok g19; clear g19
  obtain ⟨c23, c24, rfl, g21⟩ := pCons_ok g20; clear g20
  obtain ⟨a6, rfl, g22⟩ := pTok_ok g21; clear g21
  obtain ⟨c25, c26, rfl, g23⟩ := pCons_ok g22; clear g22
  obtain ⟨a7, rfl, g24⟩ := pInt_ok g23; clear g23
  obtain ⟨c27, c28, rfl, g25⟩ := pCons_ok g24; clear g24
  obtain ⟨a8, rfl, g26⟩ := pInt_ok g25; clear g25
  obtain ⟨rfl, g27⟩ := pEnd_ok g26; clear g26
  clear h
  cases g27
  exact canon_mk hc h1 h2 rfl rfl rfl ⟨h3, h4, h5, h6, trivial⟩ ⟨h8, h14, h22, trivial⟩
theorem F8_loop5 (N : Nat) : ∀ s o, s = canon (F8_an 5).1 s → (lam N [(5, F8_l5 N)]).v 5 s = some o → LoopSem Try.prog (nthLoop 5 (Try.f8.body.getD .skip)) s o :=
  loop_ok (tabOf_ok Try.prog) (gam_ok _) mixed F8_an N [(5, F8_l5 N)] 5 (bodyOf (nthLoop 5 (Try.f8.body.getD .skip))) (nthLoop 5 (Try.f8.body.getD .skip)) (by kernel_rfl) (by
    have e : actOf F8_an (bodyOf (nthLoop 5 (Try.f8.body.getD .skip))) (5 + 1) = [] := by kernel_rfl
    rw [e]
    intro p hp
    cases hp) (F8_l5 N) rfl (fun s x hc h => F8_pat5 N s x hc h) (fun x => rfl) (fun x α kn ke => (F8_body5 N x α kn ke).trans (congrArg ((F8_l5 N).b x α _) (funext fun y => (F8_l5 N).spe y α ke))) (F8_par5 N)
theorem F8_parF (N : Nat) : ParF (F8_s N).t := by
  intro x α β k k' r r' h h1
  revert h
  dsimp only [F8_s]
  (repeat' (first | (with_reducible refine par_ite ?_ ?_) | (with_reducible refine par_both ?_ ?_) | split)) <;> intro h <;> first | exact h1 _ h | (cases h; done)
theorem F8_text (N : Nat) (x : (F8_s N).X) : acall (tabOf Try.prog) (F8_g N) F8_an (lam N [(5, F8_l5 N)]) Try.f8 (F8_s N).S ((F8_s N).args x) ((F8_s N).bs x) = (F8_s N).t x Ret (fun y => some ((F8_s N).ret y)) := by kernel_rfl
theorem F8_pat (N : Nat) (a : List AV) (b : List (List AV)) (x : (F8_s N).X) (h : (F8_s N).pat a b = some x) : a = (F8_s N).args x ∧ b = (F8_s N).bs x := by
  obtain ⟨v1, c2, rfl, g0⟩ := pCons_ok (show pCons _ _ = some x from h)
  obtain ⟨rfl, g1⟩ := pPtr_ok g0; clear g0
  obtain ⟨rfl, g2⟩ := pEnd_ok g1; clear g1
  obtain ⟨v3, c4, rfl, g3⟩ := pCons_ok g2; clear g2
  obtain ⟨c5, c6, rfl, g4⟩ := pCons_ok g3; clear g3
  obtain ⟨a0, rfl, g5⟩ := pLst_ok g4; clear g4
  obtain ⟨c7, c8, rfl, g6⟩ := pCons_ok g5; clear g5
  obtain ⟨a1, rfl, g7⟩ := pInt_ok g6; clear g6
  obtain ⟨rfl, g8⟩ := pEnd_ok g7; clear g7
  obtain ⟨rfl, g9⟩ := pEnd_ok g8; clear g8
  clear h
  cases g9
  exact ⟨rfl, rfl⟩
noncomputable def F8_e (N : Nat) : Ent Try.prog := entOf (tabOf_ok Try.prog) (gam_ok _) mixed 8 Try.f8 Try.func8 rfl F8_an (lam N [(5, F8_l5 N)]) (by
    have e : actOf F8_an (Try.f8.body.getD .skip) 0 = [(5, nthLoop 5 (Try.f8.body.getD .skip))] := by kernel_rfl
    rw [e]
    intro p hp
    rcases List.mem_cons.1 hp with rfl | hp
    · exact F8_loop5 N
    cases hp) (F8_s N) (fun _ => ⟨rfl, rfl⟩) (F8_text N) (F8_pat N) (F8_parF N)
abbrev RK8 : List Ck := [.str, .str, .str, .str, .int .i64, .int .i64, .int .i64, .int .i64, .int .i64, .tk 9 6401049152, .int .i64, .int .i64, .int .i64, .int .i64, .int .i64, .int .i64, .int .i64, .int .i64, .int .i64, .int .i64, .int .i64, .int .i64, .int .i64, .int .i64, .int .i64]
abbrev RT8 : Type := ByteArray × ByteArray × ByteArray × ByteArray × Int × Int × Int × Int × Int × (List (List AV)) × Int × Int × Int × Int × Int × Int × Int × Int × Int × Int × Int × Int × Int × Int × Int × Unit
def Ren8 (e : RT8) : List AV := enc RK8 e
def F35_an : Nat → Keep × Keep := anL []
noncomputable def F35_g (N : Nat) : GamK := gam (P := Try.prog) [F24_e N]
noncomputable def F35_s (N : Nat) : FSpec where
  X := Int
  Y := RT2
  ash := [[none]]
  bsh := []
  S := ⟨[[none, none, none, none]], [], [], [], []⟩
  bm := false
  pat := fun a b => pCons a fun v1 c2 => pInt .i64 v1 fun a0 => pEnd c2 <| pEnd b <| some a0
  args := fun x => [(AV.v (.int .i64 x))]
  bs := fun x => []
  ret := fun y => ⟨(AV.agg (Ren2 y)), [], none, [], [], []⟩
  t := fun x α k => (match F24_d N (x, 6) with | some y1 => (if 0 ≤ y1 then (match [[(AV.v (.string (⟨#[83, 49]⟩ : ByteArray)))], [(AV.v (.string (⟨#[83, 50]⟩ : ByteArray)))], [(AV.v (.string (⟨#[83, 51]⟩ : ByteArray)))], [(AV.v (.string (⟨#[83, 52]⟩ : ByteArray)))], [(AV.v (.string (⟨#[83, 53]⟩ : ByteArray)))], [(AV.v (.string (⟨#[83, 54]⟩ : ByteArray)))]][y1.toNat]? with | some c2 => (match c2[0]? with | some x3 => (match x3 with | .v (.string s4) => (k ((⟨#[65, 66]⟩ : ByteArray), s4, (⟨#[48, 48]⟩ : ByteArray), (⟨#[66, 72, 90]⟩ : ByteArray), ())) | _ => none) | none => none) | none => none) else none) | none => none)
noncomputable abbrev F35_d (N : Nat) (x : Int) : Option (RT2) := (F35_s N).d x
theorem F35_parF (N : Nat) : ParF (F35_s N).t := by
  intro x α β k k' r r' h h1
  revert h
  dsimp only [F35_s]
  (repeat' (first | (with_reducible refine par_ite ?_ ?_) | (with_reducible refine par_both ?_ ?_) | split)) <;> intro h <;> first | exact h1 _ h | (cases h; done)
theorem F35_text (N : Nat) (x : (F35_s N).X) : acall (tabOf Try.prog) (F35_g N) F35_an (lam N []) Try.f35 (F35_s N).S ((F35_s N).args x) ((F35_s N).bs x) = (F35_s N).t x Ret (fun y => some ((F35_s N).ret y)) := by kernel_rfl
theorem F35_pat (N : Nat) (a : List AV) (b : List (List AV)) (x : (F35_s N).X) (h : (F35_s N).pat a b = some x) : a = (F35_s N).args x ∧ b = (F35_s N).bs x := by
  obtain ⟨v1, c2, rfl, g0⟩ := pCons_ok (show pCons _ _ = some x from h)
  obtain ⟨a0, rfl, g1⟩ := pInt_ok g0; clear g0
  obtain ⟨rfl, g2⟩ := pEnd_ok g1; clear g1
  obtain ⟨rfl, g3⟩ := pEnd_ok g2; clear g2
  clear h
  cases g3
  exact ⟨rfl, rfl⟩
noncomputable def F35_e (N : Nat) : Ent Try.prog := entOf (tabOf_ok Try.prog) (gam_ok _) mixed 35 Try.f35 Try.func35 rfl F35_an (lam N []) (by
    have e : actOf F35_an (Try.f35.body.getD .skip) 0 = [] := by kernel_rfl
    rw [e]
    intro p hp
    cases hp) (F35_s N) (fun _ => ⟨rfl, rfl⟩) (F35_text N) (F35_pat N) (F35_parF N)
def F42_an : Nat → Keep × Keep := anL []
noncomputable def F42_g (N : Nat) : GamK := gam (P := Try.prog) [F9_e N]
noncomputable def F42_s (N : Nat) : FSpec where
  X := Int × (List (List AV)) × Int
  Y := Int × Int × Int × (List (List AV)) × Int
  ash := [[none], [none]]
  bsh := [[some 1, none]]
  S := ⟨[[none, none, none]], [[some 1, none]], [], [], []⟩
  bm := false
  pat := fun a b => pCons a fun v1 c2 => pPtr 0 0 v1 <| pCons c2 fun v3 c4 => pInt .i64 v3 fun a0 => pEnd c4 <| pCons b fun v5 c6 => pCons v5 fun c7 c8 => pLst 1 c7 fun a1 => pCons c8 fun c9 c10 => pInt .i64 c9 fun a2 => pEnd c10 <| pEnd c6 <| some (a0, a1, a2)
  args := fun x => [(AV.ptr 0 0), (AV.v (.int .i64 x.1))]
  bs := fun x => [[(AV.list 1 x.2.1 none), (AV.v (.int .i64 x.2.2))]]
  ret := fun y => ⟨(AV.agg [(AV.v (.int .i64 y.1)), (AV.v (.int .i64 y.2.1)), (AV.v (.int .i64 y.2.2.1))]), [[(AV.list 1 y.2.2.2.1 none), (AV.v (.int .i64 y.2.2.2.2))]], none, [], [], []⟩
  t := fun x α k => (match F9_d N ((i64 ((i64 (2 * x.1)) + 1)), x.2) with | some y1 => (match F9_d N ((i64 ((i64 (2 * x.1)) + 1)), y1.2) with | some y2 => (match F9_d N ((i64 (x.1 + 1)), y2.2) with | some y3 => (k ((i64 (y1.1 - x.1)), (i64 (y2.1 - x.1)), y3)) | none => none) | none => none) | none => none)
noncomputable abbrev F42_d (N : Nat) (x : Int × (List (List AV)) × Int) : Option (Int × Int × Int × (List (List AV)) × Int) := (F42_s N).d x
theorem F42_parF (N : Nat) : ParF (F42_s N).t := by
  intro x α β k k' r r' h h1
  revert h
  dsimp only [F42_s]
  (repeat' (first | (with_reducible refine par_ite ?_ ?_) | (with_reducible refine par_both ?_ ?_) | split)) <;> intro h <;> first | exact h1 _ h | (cases h; done)
theorem F42_text (N : Nat) (x : (F42_s N).X) : acall (tabOf Try.prog) (F42_g N) F42_an (lam N []) Try.f42 (F42_s N).S ((F42_s N).args x) ((F42_s N).bs x) = (F42_s N).t x Ret (fun y => some ((F42_s N).ret y)) := by kernel_rfl
theorem F42_pat (N : Nat) (a : List AV) (b : List (List AV)) (x : (F42_s N).X) (h : (F42_s N).pat a b = some x) : a = (F42_s N).args x ∧ b = (F42_s N).bs x := by
  obtain ⟨v1, c2, rfl, g0⟩ := pCons_ok (show pCons _ _ = some x from h)
  obtain ⟨rfl, g1⟩ := pPtr_ok g0; clear g0
  obtain ⟨v3, c4, rfl, g2⟩ := pCons_ok g1; clear g1
  obtain ⟨a0, rfl, g3⟩ := pInt_ok g2; clear g2
  obtain ⟨rfl, g4⟩ := pEnd_ok g3; clear g3
  obtain ⟨v5, c6, rfl, g5⟩ := pCons_ok g4; clear g4
  obtain ⟨c7, c8, rfl, g6⟩ := pCons_ok g5; clear g5
  obtain ⟨a1, rfl, g7⟩ := pLst_ok g6; clear g6
  obtain ⟨c9, c10, rfl, g8⟩ := pCons_ok g7; clear g7
  obtain ⟨a2, rfl, g9⟩ := pInt_ok g8; clear g8
  obtain ⟨rfl, g10⟩ := pEnd_ok g9; clear g9
  obtain ⟨rfl, g11⟩ := pEnd_ok g10; clear g10
  clear h
  cases g11
  exact ⟨rfl, rfl⟩
noncomputable def F42_e (N : Nat) : Ent Try.prog := entOf (tabOf_ok Try.prog) (gam_ok _) mixed 42 Try.f42 Try.func42 rfl F42_an (lam N []) (by
    have e : actOf F42_an (Try.f42.body.getD .skip) 0 = [] := by kernel_rfl
    rw [e]
    intro p hp
    cases hp) (F42_s N) (fun _ => ⟨rfl, rfl⟩) (F42_text N) (F42_pat N) (F42_parF N)
abbrev RK10 : List Ck := [.str, .str, .str, .str, .int .i64, .int .i64, .int .i64, .int .i64, .int .i64, .vs 2020489 9, .int .i64, .int .i64, .int .i64, .int .i64, .int .i64, .int .i64, .int .i64, .int .i64, .int .i64, .int .i64, .int .i64, .int .i64, .int .i64, .int .i64, .int .i64]
abbrev RT10 : Type := ByteArray × ByteArray × ByteArray × ByteArray × Int × Int × Int × Int × Int × Nat × Int × Int × Int × Int × Int × Int × Int × Int × Int × Int × Int × Int × Int × Int × Int × Unit
def Ren10 (e : RT10) : List AV := enc RK10 e
abbrev RK11 : List Ck := [.str, .str, .str, .str, .int .i64, .int .i64, .int .i64, .int .i64, .int .i64, .vs 1 9, .int .i64, .int .i64, .int .i64, .int .i64, .int .i64, .int .i64, .int .i64, .int .i64, .int .i64, .int .i64, .int .i64, .int .i64, .int .i64, .int .i64, .int .i64]
abbrev RT11 : Type := ByteArray × ByteArray × ByteArray × ByteArray × Int × Int × Int × Int × Int × Nat × Int × Int × Int × Int × Int × Int × Int × Int × Int × Int × Int × Int × Int × Int × Int × Unit
def Ren11 (e : RT11) : List AV := enc RK11 e
def F26a_an : Nat → Keep × Keep := anL [(6, ⟨[0, 1, 4, 5, 6, 7], [], [0, 4, 5], [], [((4, 9), 9)], [], [((5, 9), 9)], [], false⟩, ⟨[0, 4, 5, 6], [], [0, 4, 5], [], [((4, 9), 9)], [], [((5, 9), 9)], [], false⟩)]
noncomputable def F26a_g (N : Nat) : GamK := gam (P := Try.prog) [F9_e N, F35_e N, F42_e N, F23_e N]
noncomputable def F26a_l6 (N : Nat) : LSpec where
  X := Int × Int × Int × (List (List AV)) × Int × RT8 × RT10 × (List AV)
  Y := (Int × (List (List AV)) × Int × RT8 × RT10 × (List AV))
  p := fun s => pNat s.env.length 98 <| pNat s.nin 1 <| pPtr 0 0 (s.at 0) <| pInt .i64 (s.at 1) fun a0 => pPtr 4 0 (s.at 4) <| pPtr 5 0 (s.at 5) <| pInt .i64 (s.at 6) fun a1 => pInt .i64 (s.at 7) fun a2 => pSome (s.bx 0) fun c9 => pCons c9 fun c11 c12 => pLst 1 c11 fun a3 => pCons c12 fun c13 c14 => pInt .i64 c13 fun a4 => pEnd c14 <| pSome (s.bx 4) fun c15 => pRow RK8 c15 fun a5 => pSome (s.bx 5) fun c17 => pRow RK10 c17 fun a6 => pSome (s.bx 2020489) fun a7 => some (a0, a1, a2, a3, a4, a5, a6, a7)
  st := fun u6 => mkS 98 [(0, (AV.ptr 0 0)), (1, (AV.v (.int .i64 u6.1))), (4, (AV.ptr 4 0)), (5, (AV.ptr 5 0)), (6, (AV.v (.int .i64 u6.2.1))), (7, (AV.v (.int .i64 u6.2.2.1)))] [(0, [(AV.list 1 u6.2.2.2.1 none), (AV.v (.int .i64 u6.2.2.2.2.1))]), (4, (Ren8 u6.2.2.2.2.2.1)), (5, (Ren10 u6.2.2.2.2.2.2.1)), (2020489, u6.2.2.2.2.2.2.2)] (F26a_an 6).1.toks 1
  out := fun y => (.exit 0, mkS 98 [(0, (AV.ptr 0 0)), (4, (AV.ptr 4 0)), (5, (AV.ptr 5 0)), (6, (AV.v (.int .i64 y.1)))] [(0, [(AV.list 1 y.2.1 none), (AV.v (.int .i64 y.2.2.1))]), (4, (Ren8 y.2.2.2.1)), (5, (Ren10 y.2.2.2.2.1)), (2020489, y.2.2.2.2.2)] (F26a_an 6).2.toks 1)
  sp := fun y α k => k (.exit 0, mkS 98 [(0, (AV.ptr 0 0)), (4, (AV.ptr 4 0)), (5, (AV.ptr 5 0)), (6, (AV.v (.int .i64 y.1)))] [(0, [(AV.list 1 y.2.1 none), (AV.v (.int .i64 y.2.2.1))]), (4, (Ren8 y.2.2.2.1)), (5, (Ren10 y.2.2.2.2.1)), (2020489, y.2.2.2.2.2)] (F26a_an 6).2.toks 1)
  spe := fun y α k => rfl
  b := fun u6 α kn ke => (match F9_d N (4, u6.2.2.2.1, u6.2.2.2.2.1) with | some y5 => (match (decide (u6.2.2.1 < (i64 (1 + y5.1)))) with | true => (match F35_d N u6.2.2.1 with | some y6 => (match F9_d N (3, y5.2) with | some y7 => (if u6.2.2.2.2.2.2.1.2.2.2.2.2.2.2.2.2.1 * 9 ≤ u6.2.2.2.2.2.2.2.length ∧ (u6.2.2.2.2.2.2.1.2.2.2.2.2.2.2.2.2.1 + [(Ren1 (y6.1, y6.2.1, y6.2.2.1, y6.2.2.2.1, (i64 (u6.2.1 + (i64 (10 * u6.1)))), (i64 (u6.2.1 + (i64 (10 * u6.1)))), (i64 ((i64 (u6.2.1 + (i64 (10 * u6.1)))) + y7.1)), u6.1, 0, ()))].length) * 104 ≤ maxBytes then (kn (u6.1, u6.2.1, (i64 (u6.2.2.1 + 1)), y7.2.1, y7.2.2, u6.2.2.2.2.2.1, (u6.2.2.2.2.2.2.1.1, u6.2.2.2.2.2.2.1.2.1, u6.2.2.2.2.2.2.1.2.2.1, u6.2.2.2.2.2.2.1.2.2.2.1, u6.2.2.2.2.2.2.1.2.2.2.2.1, u6.2.2.2.2.2.2.1.2.2.2.2.2.1, u6.2.2.2.2.2.2.1.2.2.2.2.2.2.1, u6.2.2.2.2.2.2.1.2.2.2.2.2.2.2.1, u6.2.2.2.2.2.2.1.2.2.2.2.2.2.2.2.1, (u6.2.2.2.2.2.2.1.2.2.2.2.2.2.2.2.2.1 + [(Ren1 (y6.1, y6.2.1, y6.2.2.1, y6.2.2.2.1, (i64 (u6.2.1 + (i64 (10 * u6.1)))), (i64 (u6.2.1 + (i64 (10 * u6.1)))), (i64 ((i64 (u6.2.1 + (i64 (10 * u6.1)))) + y7.1)), u6.1, 0, ()))].length), u6.2.2.2.2.2.2.1.2.2.2.2.2.2.2.2.2.2), ((u6.2.2.2.2.2.2.2.take (u6.2.2.2.2.2.2.1.2.2.2.2.2.2.2.2.2.1 * 9) ++ [(Ren1 (y6.1, y6.2.1, y6.2.2.1, y6.2.2.2.1, (i64 (u6.2.1 + (i64 (10 * u6.1)))), (i64 (u6.2.1 + (i64 (10 * u6.1)))), (i64 ((i64 (u6.2.1 + (i64 (10 * u6.1)))) + y7.1)), u6.1, 0, ()))].flatten).map dat0))) else none) | none => none) | none => none) | false => (ke (u6.2.1, y5.2.1, y5.2.2, u6.2.2.2.2.2.1, u6.2.2.2.2.2.2.1, (u6.2.2.2.2.2.2.2.map dat0)))) | none => none)
noncomputable abbrev F26a_d6 (N : Nat) (x : Int × Int × Int × (List (List AV)) × Int × RT8 × RT10 × (List AV)) : Option ((Int × (List (List AV)) × Int × RT8 × RT10 × (List AV))) := (F26a_l6 N).L N x
noncomputable def F26a_s (N : Nat) : FSpec where
  X := Int × (List (List AV)) × Int
  Y := RT11 × (List (List AV)) × Int × (List AV)
  ash := [[none], [none]]
  bsh := [[some 1, none]]
  S := ⟨[[none, none, none, none, none, none, none, none, none, some 9, none, none, none, none, none, none, none, none, none, none, none, none, none, none, none]], [[some 1, none]], [], [], []⟩
  bm := true
  pat := fun a b => pCons a fun v1 c2 => pPtr 0 0 v1 <| pCons c2 fun v3 c4 => pInt .i64 v3 fun a0 => pEnd c4 <| pCons b fun v5 c6 => pCons v5 fun c7 c8 => pLst 1 c7 fun a1 => pCons c8 fun c9 c10 => pInt .i64 c9 fun a2 => pEnd c10 <| pEnd c6 <| some (a0, a1, a2)
  args := fun x => [(AV.ptr 0 0), (AV.v (.int .i64 x.1))]
  bs := fun x => [[(AV.list 1 x.2.1 none), (AV.v (.int .i64 x.2.2))]]
  ret := fun y => ⟨(AV.agg (Ren11 y.1)), [[(AV.list 1 y.2.1 none), (AV.v (.int .i64 y.2.2.1))]], some y.2.2.2, [], [], []⟩
  t := fun x α k => (match F9_d N (300, x.2) with | some y1 => (match F26a_d6 N (x.1, (i64 (1000 + y1.1)), 0, y1.2.1, y1.2.2, ((⟨#[]⟩ : ByteArray), (⟨#[]⟩ : ByteArray), (⟨#[]⟩ : ByteArray), (⟨#[]⟩ : ByteArray), 0, 0, 0, 0, 0, ([] : List (List AV)), 0, 0, 0, 0, 0, 0, 0, 0, 0, 0, 0, 0, 0, 0, 0, ()), ((⟨#[]⟩ : ByteArray), (⟨#[]⟩ : ByteArray), (⟨#[]⟩ : ByteArray), (⟨#[]⟩ : ByteArray), 0, 0, 0, 0, 0, 0, 0, 0, 0, 0, 0, 0, 0, 0, 0, 0, 0, 0, 0, 0, 0, ()), ([] : List AV)) with | some y8 => (if 0 ≤ (0 : Int) ∧ (0 : Int) < (y8.2.2.2.2.1.2.2.2.2.2.2.2.2.2.1 : Int) then (match Rrd1 (y8.2.2.2.2.2.drop ((0 + (0 : Int).toNat) * 9)) with | some e9 => (match F42_d N (20, y8.2.1, y8.2.2.1) with | some y10 => (match F9_d N (40, y10.2.2.2) with | some y11 => (match F23_d N ([[(AV.v (.int .i64 0))], [(AV.v (.int .i64 0))], [(AV.v (.int .i64 5))], [(AV.v (.int .i64 500))]], y11.2) with | some y12 => (match F9_d N (3, y12.2) with | some y13 => (match (decide (y13.1 > 0)) with | true => (match F9_d N (400, y13.2) with | some y14 => (match F9_d N (60, y14.2) with | some y15 => (k ((e9.1, e9.2.1, e9.2.2.1, e9.2.2.2.1, e9.2.2.2.2.1, e9.2.2.2.2.2.1, e9.2.2.2.2.2.2.1, e9.2.2.2.2.2.2.2.1, e9.2.2.2.2.2.2.2.2.1, y8.2.2.2.2.1.2.2.2.2.2.2.2.2.2.1, y10.1, y10.2.1, y10.2.2.1, (i64 (y8.1 - y11.1)), y12.1, 0, y10.1, y10.2.1, y10.2.2.1, y10.1, y10.2.1, y10.2.2.1, y14.1, (i64 (y14.1 + y15.1)), y13.1, ()), y15.2.1, y15.2.2, (y8.2.2.2.2.2.map dat0))) | none => none) | none => none) | false => (k ((e9.1, e9.2.1, e9.2.2.1, e9.2.2.2.1, e9.2.2.2.2.1, e9.2.2.2.2.2.1, e9.2.2.2.2.2.2.1, e9.2.2.2.2.2.2.2.1, e9.2.2.2.2.2.2.2.2.1, y8.2.2.2.2.1.2.2.2.2.2.2.2.2.2.1, y10.1, y10.2.1, y10.2.2.1, (i64 (y8.1 - y11.1)), y12.1, 0, y10.1, y10.2.1, y10.2.2.1, y10.1, y10.2.1, y10.2.2.1, y8.2.2.2.2.1.2.2.2.2.2.2.2.2.2.2.2.2.2.2.2.2.2.2.2.2.2.2.1, y8.2.2.2.2.1.2.2.2.2.2.2.2.2.2.2.2.2.2.2.2.2.2.2.2.2.2.2.2.1, y13.1, ()), y13.2.1, y13.2.2, (y8.2.2.2.2.2.map dat0)))) | none => none) | none => none) | none => none) | none => none) | none => none) else none) | none => none) | none => none)
noncomputable abbrev F26a_d (N : Nat) (x : Int × (List (List AV)) × Int) : Option (RT11 × (List (List AV)) × Int × (List AV)) := (F26a_s N).d x
theorem F26a_par6 (N : Nat) : Par (F26a_l6 N).b := by
  intro x α β kn ke kn' ke' r r' h h1 h2
  revert h
  dsimp only [F26a_l6]
  (repeat' (first | (with_reducible refine par_ite ?_ ?_) | (with_reducible refine par_both ?_ ?_) | split)) <;> intro h <;> first | exact h1 _ h | exact h2 _ h | (cases h; done)
theorem F26a_body6 (N : Nat) (x : (F26a_l6 N).X) (α : Type) (kn : AS → Option α) (ke : Out → Option α) : around (tabB Try.prog [41]) (F26a_g N) F26a_an (lam N [(6, F26a_l6 N)]) 6 (bodyOf (nthLoop 6 (Try.f26.body.getD .skip))) ((F26a_l6 N).st x) kn ke = (F26a_l6 N).b x α (fun x' => kn ((F26a_l6 N).st x')) (fun y => (F26a_l6 N).sp y α ke) := by kernel_rfl
theorem F26a_pat6 (N : Nat) (s : AS) (x : (F26a_l6 N).X) (hc : s = canon (F26a_an 6).1 s) (h : (F26a_l6 N).p s = some x) : s = (F26a_l6 N).st x := by
  replace h : pNat _ _ _ = some x := h
  obtain ⟨h1, g0⟩ := pNat_ok h
  obtain ⟨h2, g1⟩ := pNat_ok g0; clear g0
  obtain ⟨h3, g2⟩ := pPtr_ok g1; clear g1
  obtain ⟨a0, h4, g3⟩ := pInt_ok g2; clear g2
  obtain ⟨h5, g4⟩ := pPtr_ok g3; clear g3
  obtain ⟨h6, g5⟩ := pPtr_ok g4; clear g4
  obtain ⟨a1, h7, g6⟩ := pInt_ok g5; clear g5
  obtain ⟨a2, h8, g7⟩ := pInt_ok g6; clear g6
  obtain ⟨c9, h10, g8⟩ := pSome_ok g7; clear g7
  obtain ⟨c11, c12, rfl, g9⟩ := pCons_ok g8; clear g8
  obtain ⟨a3, rfl, g10⟩ := pLst_ok g9; clear g9
  obtain ⟨c13, c14, rfl, g11⟩ := pCons_ok g10; clear g10
  obtain ⟨a4, rfl, g12⟩ := pInt_ok g11; clear g11
  obtain ⟨rfl, g13⟩ := pEnd_ok g12; clear g12
  obtain ⟨c15, h16, g14⟩ := pSome_ok g13; clear g13
  obtain ⟨a5, rfl, g15⟩ := pRow_ok g14; clear g14
  obtain ⟨c17, h18, g16⟩ := pSome_ok g15; clear g15
  obtain ⟨a6, rfl, g17⟩ := pRow_ok g16; clear g16
  obtain ⟨a7, h19, g18⟩ := pSome_ok g17; clear g17
  clear h
  cases g18
  exact canon_mk hc h1 h2 rfl rfl rfl ⟨h3, h4, h5, h6, h7, h8, trivial⟩ ⟨h10, h16, h18, h19, trivial⟩
theorem F26a_loop6 (N : Nat) : ∀ s o, s = canon (F26a_an 6).1 s → (lam N [(6, F26a_l6 N)]).v 6 s = some o → LoopSem Try.prog (nthLoop 6 (Try.f26.body.getD .skip)) s o :=
  loop_ok (tabB_ok Try.prog [41]) (gam_ok _) mixed F26a_an N [(6, F26a_l6 N)] 6 (bodyOf (nthLoop 6 (Try.f26.body.getD .skip))) (nthLoop 6 (Try.f26.body.getD .skip)) (by kernel_rfl) (by
    have e : actOf F26a_an (bodyOf (nthLoop 6 (Try.f26.body.getD .skip))) (6 + 1) = [] := by kernel_rfl
    rw [e]
    intro p hp
    cases hp) (F26a_l6 N) rfl (fun s x hc h => F26a_pat6 N s x hc h) (fun x => rfl) (fun x α kn ke => (F26a_body6 N x α kn ke).trans (congrArg ((F26a_l6 N).b x α _) (funext fun y => (F26a_l6 N).spe y α ke))) (F26a_par6 N)
theorem F26a_parF (N : Nat) : ParF (F26a_s N).t := by
  intro x α β k k' r r' h h1
  revert h
  dsimp only [F26a_s]
  (repeat' (first | (with_reducible refine par_ite ?_ ?_) | (with_reducible refine par_both ?_ ?_) | split)) <;> intro h <;> first | exact h1 _ h | (cases h; done)
theorem F26a_text (N : Nat) (x : (F26a_s N).X) : acall (tabB Try.prog [41]) (F26a_g N) F26a_an (lam N [(6, F26a_l6 N)]) Try.f26 (F26a_s N).S ((F26a_s N).args x) ((F26a_s N).bs x) = (F26a_s N).t x Ret (fun y => some ((F26a_s N).ret y)) := by kernel_rfl
theorem F26a_pat (N : Nat) (a : List AV) (b : List (List AV)) (x : (F26a_s N).X) (h : (F26a_s N).pat a b = some x) : a = (F26a_s N).args x ∧ b = (F26a_s N).bs x := by
  obtain ⟨v1, c2, rfl, g0⟩ := pCons_ok (show pCons _ _ = some x from h)
  obtain ⟨rfl, g1⟩ := pPtr_ok g0; clear g0
  obtain ⟨v3, c4, rfl, g2⟩ := pCons_ok g1; clear g1
  obtain ⟨a0, rfl, g3⟩ := pInt_ok g2; clear g2
  obtain ⟨rfl, g4⟩ := pEnd_ok g3; clear g3
  obtain ⟨v5, c6, rfl, g5⟩ := pCons_ok g4; clear g4
  obtain ⟨c7, c8, rfl, g6⟩ := pCons_ok g5; clear g5
  obtain ⟨a1, rfl, g7⟩ := pLst_ok g6; clear g6
  obtain ⟨c9, c10, rfl, g8⟩ := pCons_ok g7; clear g7
  obtain ⟨a2, rfl, g9⟩ := pInt_ok g8; clear g8
  obtain ⟨rfl, g10⟩ := pEnd_ok g9; clear g9
  obtain ⟨rfl, g11⟩ := pEnd_ok g10; clear g10
  clear h
  cases g11
  exact ⟨rfl, rfl⟩
noncomputable def F26a_e (N : Nat) : Ent Try.prog := entOf (tabB_ok Try.prog [41]) (gam_ok _) mixed 26 Try.f26 Try.func26 rfl F26a_an (lam N [(6, F26a_l6 N)]) (by
    have e : actOf F26a_an (Try.f26.body.getD .skip) 0 = [(6, nthLoop 6 (Try.f26.body.getD .skip))] := by kernel_rfl
    rw [e]
    intro p hp
    rcases List.mem_cons.1 hp with rfl | hp
    · exact F26a_loop6 N
    cases hp) (F26a_s N) (fun _ => ⟨rfl, rfl⟩) (F26a_text N) (F26a_pat N) (F26a_parF N)
abbrev RK12 : List Ck := [.str, .str, .str, .str, .int .i64, .int .i64, .int .i64, .int .i64, .int .i64, .vs 19 9, .int .i64, .int .i64, .int .i64, .int .i64, .int .i64, .int .i64, .int .i64, .int .i64, .int .i64, .int .i64, .int .i64, .int .i64, .int .i64, .int .i64, .int .i64]
abbrev RT12 : Type := ByteArray × ByteArray × ByteArray × ByteArray × Int × Int × Int × Int × Int × Nat × Int × Int × Int × Int × Int × Int × Int × Int × Int × Int × Int × Int × Int × Int × Int × Unit
def Ren12 (e : RT12) : List AV := enc RK12 e
def F10_an : Nat → Keep × Keep := anF [(5, ⟨[0, 1, 6], [], [0], [], [], [(5, 25)], [], [], false⟩, ⟨[], [], [0], [], [], [(5, 25)], [], [], false⟩), (18, ⟨[0, 1, 5, 6, 7, 23, 24], [], [0, 7, 19, 1000005], [], [], [], [], [19, 1000005], false⟩, ⟨[0, 1, 5, 6, 7], [], [0, 7, 19, 1000005], [], [], [], [], [19, 1000005], false⟩)] [(100015, ([], [((7, 9), 9)])), (100016, ([5], []))]
noncomputable def F10_g (N : Nat) : GamK := gam (P := Try.prog) [F9_e N, F26a_e N]
noncomputable def F10_l18 (N : Nat) : LSpec where
  X := Int × Nat × Int × Int × Int × (List (List AV)) × Int × RT12 × (List AV) × (List AV)
  Y := (Int × Nat × Int × (List (List AV)) × Int × RT12 × (List AV) × (List AV))
  p := fun s => pNat s.env.length 86 <| pNat s.nin 1 <| pPtr 0 0 (s.at 0) <| pInt .i64 (s.at 1) fun a0 => pVs0 1000005 25 (s.at 5) fun a1 => pInt .i64 (s.at 6) fun a2 => pPtr 7 0 (s.at 7) <| pInt .i64 (s.at 23) fun a3 => pInt .i64 (s.at 24) fun a4 => pSome (s.bx 0) fun c10 => pCons c10 fun c12 c13 => pLst 1 c12 fun a5 => pCons c13 fun c14 c15 => pInt .i64 c14 fun a6 => pEnd c15 <| pSome (s.bx 7) fun c16 => pRow RK12 c16 fun a7 => pSome (s.bx 19) fun a8 => pSome (s.bx 1000005) fun a9 => some (a0, a1, a2, a3, a4, a5, a6, a7, a8, a9)
  st := fun u18 => mkS 86 [(0, (AV.ptr 0 0)), (1, (AV.v (.int .i64 u18.1))), (5, (AV.vs 1000005 0 u18.2.1 25)), (6, (AV.v (.int .i64 u18.2.2.1))), (7, (AV.ptr 7 0)), (23, (AV.v (.int .i64 u18.2.2.2.1))), (24, (AV.v (.int .i64 u18.2.2.2.2.1)))] [(0, [(AV.list 1 u18.2.2.2.2.2.1 none), (AV.v (.int .i64 u18.2.2.2.2.2.2.1))]), (7, (Ren12 u18.2.2.2.2.2.2.2.1)), (19, u18.2.2.2.2.2.2.2.2.1), (1000005, u18.2.2.2.2.2.2.2.2.2)] (F10_an 18).1.toks 1
  out := fun y => (.exit 2, mkS 86 [(0, (AV.ptr 0 0)), (1, (AV.v (.int .i64 y.1))), (5, (AV.vs 1000005 0 y.2.1 25)), (6, (AV.v (.int .i64 y.2.2.1))), (7, (AV.ptr 7 0))] [(0, [(AV.list 1 y.2.2.2.1 none), (AV.v (.int .i64 y.2.2.2.2.1))]), (7, (Ren12 y.2.2.2.2.2.1)), (19, y.2.2.2.2.2.2.1), (1000005, y.2.2.2.2.2.2.2)] (F10_an 18).2.toks 1)
  sp := fun y α k => k (.exit 2, mkS 86 [(0, (AV.ptr 0 0)), (1, (AV.v (.int .i64 y.1))), (5, (AV.vs 1000005 0 y.2.1 25)), (6, (AV.v (.int .i64 y.2.2.1))), (7, (AV.ptr 7 0))] [(0, [(AV.list 1 y.2.2.2.1 none), (AV.v (.int .i64 y.2.2.2.2.1))]), (7, (Ren12 y.2.2.2.2.2.1)), (19, y.2.2.2.2.2.2.1), (1000005, y.2.2.2.2.2.2.2)] (F10_an 18).2.toks 1)
  spe := fun y α k => rfl
  b := fun u18 α kn ke => (match (decide (u18.2.2.2.2.1 < u18.2.2.2.1)) with | true => (if 0 ≤ u18.2.2.2.2.1 ∧ u18.2.2.2.2.1 < (u18.2.2.2.2.2.2.2.1.2.2.2.2.2.2.2.2.2.1 : Int) then (if (((0 + u18.2.2.2.2.1.toNat) * 9) + 4) + 1 ≤ u18.2.2.2.2.2.2.2.2.1.length then (if (((0 + u18.2.2.2.2.1.toNat) * 9) + 5) + 1 ≤ (splice u18.2.2.2.2.2.2.2.2.1 (((0 + u18.2.2.2.2.1.toNat) * 9) + 4) [(AV.v (.int .i64 (i64 ((i64 (1000 + (i64 (400 * u18.2.2.1)))) + u18.2.2.2.2.1))))]).length then (if (((0 + u18.2.2.2.2.1.toNat) * 9) + 6) + 1 ≤ (splice (splice u18.2.2.2.2.2.2.2.2.1 (((0 + u18.2.2.2.2.1.toNat) * 9) + 4) [(AV.v (.int .i64 (i64 ((i64 (1000 + (i64 (400 * u18.2.2.1)))) + u18.2.2.2.2.1))))]) (((0 + u18.2.2.2.2.1.toNat) * 9) + 5) [(AV.v (.int .i64 (i64 ((i64 (1000 + (i64 (400 * u18.2.2.1)))) + u18.2.2.2.2.1))))]).length then (if (((0 + u18.2.2.2.2.1.toNat) * 9) + 7) + 1 ≤ (splice (splice (splice u18.2.2.2.2.2.2.2.2.1 (((0 + u18.2.2.2.2.1.toNat) * 9) + 4) [(AV.v (.int .i64 (i64 ((i64 (1000 + (i64 (400 * u18.2.2.1)))) + u18.2.2.2.2.1))))]) (((0 + u18.2.2.2.2.1.toNat) * 9) + 5) [(AV.v (.int .i64 (i64 ((i64 (1000 + (i64 (400 * u18.2.2.1)))) + u18.2.2.2.2.1))))]) (((0 + u18.2.2.2.2.1.toNat) * 9) + 6) [(AV.v (.int .i64 (i64 ((i64 ((i64 (1000 + (i64 (400 * u18.2.2.1)))) + u18.2.2.2.2.1)) + 2))))]).length then (kn (u18.1, u18.2.1, u18.2.2.1, u18.2.2.2.1, (i64 (u18.2.2.2.2.1 + 1)), u18.2.2.2.2.2.1, u18.2.2.2.2.2.2.1, u18.2.2.2.2.2.2.2.1, ((splice (splice (splice (splice u18.2.2.2.2.2.2.2.2.1 (((0 + u18.2.2.2.2.1.toNat) * 9) + 4) [(AV.v (.int .i64 (i64 ((i64 (1000 + (i64 (400 * u18.2.2.1)))) + u18.2.2.2.2.1))))]) (((0 + u18.2.2.2.2.1.toNat) * 9) + 5) [(AV.v (.int .i64 (i64 ((i64 (1000 + (i64 (400 * u18.2.2.1)))) + u18.2.2.2.2.1))))]) (((0 + u18.2.2.2.2.1.toNat) * 9) + 6) [(AV.v (.int .i64 (i64 ((i64 ((i64 (1000 + (i64 (400 * u18.2.2.1)))) + u18.2.2.2.2.1)) + 2))))]) (((0 + u18.2.2.2.2.1.toNat) * 9) + 7) [(AV.v (.int .i64 7))]).map dat0), (u18.2.2.2.2.2.2.2.2.2.map dat0))) else none) else none) else none) else none) else none) | false => (ke (u18.1, u18.2.1, u18.2.2.1, u18.2.2.2.2.2.1, u18.2.2.2.2.2.2.1, u18.2.2.2.2.2.2.2.1, (u18.2.2.2.2.2.2.2.2.1.map dat0), (u18.2.2.2.2.2.2.2.2.2.map dat0))))
noncomputable abbrev F10_d18 (N : Nat) (x : Int × Nat × Int × Int × Int × (List (List AV)) × Int × RT12 × (List AV) × (List AV)) : Option ((Int × Nat × Int × (List (List AV)) × Int × RT12 × (List AV) × (List AV))) := (F10_l18 N).L N x
noncomputable def F10_l5 (N : Nat) : LSpec where
  X := Nat × Int × Int × (List (List AV)) × Int × (List AV)
  Y := (Nat × (List (List AV)) × Int × (List AV))
  p := fun s => pNat s.env.length 86 <| pNat s.nin 1 <| pVs0 1000005 25 (s.at 5) fun a0 => pPtr 0 0 (s.at 0) <| pInt .i64 (s.at 1) fun a1 => pInt .i64 (s.at 6) fun a2 => pSome (s.bx 0) fun c7 => pCons c7 fun c9 c10 => pLst 1 c9 fun a3 => pCons c10 fun c11 c12 => pInt .i64 c11 fun a4 => pEnd c12 <| pSome (s.bx 1000005) fun a5 => some (a0, a1, a2, a3, a4, a5)
  st := fun u5 => mkS 86 [(5, (AV.vs 1000005 0 u5.1 25)), (0, (AV.ptr 0 0)), (1, (AV.v (.int .i64 u5.2.1))), (6, (AV.v (.int .i64 u5.2.2.1)))] [(0, [(AV.list 1 u5.2.2.2.1 none), (AV.v (.int .i64 u5.2.2.2.2.1))]), (1000005, u5.2.2.2.2.2)] (F10_an 5).1.toks 1
  out := fun y => (.exit 0, mkS 86 [(5, (AV.vs 1000005 0 y.1 25))] [(0, [(AV.list 1 y.2.1 none), (AV.v (.int .i64 y.2.2.1))]), (1000005, y.2.2.2)] (F10_an 5).2.toks 1)
  sp := fun y α k => k (.exit 0, mkS 86 [(5, (AV.vs 1000005 0 y.1 25))] [(0, [(AV.list 1 y.2.1 none), (AV.v (.int .i64 y.2.2.1))]), (1000005, y.2.2.2)] (F10_an 5).2.toks 1)
  spe := fun y α k => rfl
  b := fun u5 α kn ke => (match (decide (u5.2.2.1 < u5.2.1)) with | true => (match F9_d N (3, u5.2.2.2.1, u5.2.2.2.2.1) with | some y6 => (match (y6.1 == 0) with | true => (kn (u5.1, u5.2.1, (i64 (u5.2.2.1 + 1)), y6.2.1, y6.2.2, (u5.2.2.2.2.2.map dat0))) | false => (match F26a_d N (1, y6.2) with | some y7 => (match F10_d18 N (u5.2.1, u5.1, u5.2.2.1, ((y7.1.2.2.2.2.2.2.2.2.2.1 : Nat) : Int), 0, y7.2.1, y7.2.2.1, y7.1, ((y7.2.2.2.map dat0).map dat0), (u5.2.2.2.2.2.map dat0)) with | some y8 => (match F9_d N (2, y8.2.2.2.1, y8.2.2.2.2.1) with | some y9 => (if 0 ≤ (if (i64 (((y8.2.2.2.2.2.1.2.2.2.2.2.2.2.2.2.1 : Nat) : Int) - 1)) < y9.1 then (i64 (((y8.2.2.2.2.2.1.2.2.2.2.2.2.2.2.2.1 : Nat) : Int) - 1)) else y9.1) ∧ (if (i64 (((y8.2.2.2.2.2.1.2.2.2.2.2.2.2.2.2.1 : Nat) : Int) - 1)) < y9.1 then (i64 (((y8.2.2.2.2.2.1.2.2.2.2.2.2.2.2.2.1 : Nat) : Int) - 1)) else y9.1) ≤ (y8.2.2.2.2.2.1.2.2.2.2.2.2.2.2.2.1 : Int) then (if 0 ≤ (0 : Int) ∧ (0 : Int) < (((y8.2.2.2.2.2.1.2.2.2.2.2.2.2.2.2.1 - (if (i64 (((y8.2.2.2.2.2.1.2.2.2.2.2.2.2.2.2.1 : Nat) : Int) - 1)) < y9.1 then (i64 (((y8.2.2.2.2.2.1.2.2.2.2.2.2.2.2.2.1 : Nat) : Int) - 1)) else y9.1).toNat) : Nat) : Int) then (match Rrd1 (y8.2.2.2.2.2.2.1.drop (((0 + (if (i64 (((y8.2.2.2.2.2.1.2.2.2.2.2.2.2.2.2.1 : Nat) : Int) - 1)) < y9.1 then (i64 (((y8.2.2.2.2.2.1.2.2.2.2.2.2.2.2.2.1 : Nat) : Int) - 1)) else y9.1).toNat) + (0 : Int).toNat) * 9)) with | some e10 => (if (y8.2.2.2.2.2.1.2.2.2.2.2.2.2.2.2.1 - (if (i64 (((y8.2.2.2.2.2.1.2.2.2.2.2.2.2.2.2.1 : Nat) : Int) - 1)) < y9.1 then (i64 (((y8.2.2.2.2.2.1.2.2.2.2.2.2.2.2.2.1 : Nat) : Int) - 1)) else y9.1).toNat) * 9 ≤ (dropV (0 + (if (i64 (((y8.2.2.2.2.2.1.2.2.2.2.2.2.2.2.2.1 : Nat) : Int) - 1)) < y9.1 then (i64 (((y8.2.2.2.2.2.1.2.2.2.2.2.2.2.2.2.1 : Nat) : Int) - 1)) else y9.1).toNat) 9 y8.2.2.2.2.2.2.1).length then (if y8.2.1 * 25 ≤ y8.2.2.2.2.2.2.2.length ∧ (y8.2.1 + [(Ren0 (e10.1, e10.2.1, e10.2.2.1, e10.2.2.2.1, e10.2.2.2.2.1, e10.2.2.2.2.2.1, e10.2.2.2.2.2.2.1, e10.2.2.2.2.2.2.2.1, e10.2.2.2.2.2.2.2.2.1, (chunks ((dropV (0 + (if (i64 (((y8.2.2.2.2.2.1.2.2.2.2.2.2.2.2.2.1 : Nat) : Int) - 1)) < y9.1 then (i64 (((y8.2.2.2.2.2.1.2.2.2.2.2.2.2.2.2.1 : Nat) : Int) - 1)) else y9.1).toNat) 9 y8.2.2.2.2.2.2.1).take ((y8.2.2.2.2.2.1.2.2.2.2.2.2.2.2.2.1 - (if (i64 (((y8.2.2.2.2.2.1.2.2.2.2.2.2.2.2.2.1 : Nat) : Int) - 1)) < y9.1 then (i64 (((y8.2.2.2.2.2.1.2.2.2.2.2.2.2.2.2.1 : Nat) : Int) - 1)) else y9.1).toNat) * 9)) 9 (y8.2.2.2.2.2.1.2.2.2.2.2.2.2.2.2.1 - (if (i64 (((y8.2.2.2.2.2.1.2.2.2.2.2.2.2.2.2.1 : Nat) : Int) - 1)) < y9.1 then (i64 (((y8.2.2.2.2.2.1.2.2.2.2.2.2.2.2.2.1 : Nat) : Int) - 1)) else y9.1).toNat)), y8.2.2.2.2.2.1.2.2.2.2.2.2.2.2.2.2))].length) * 248 ≤ maxBytes then (kn ((y8.2.1 + [(Ren0 (e10.1, e10.2.1, e10.2.2.1, e10.2.2.2.1, e10.2.2.2.2.1, e10.2.2.2.2.2.1, e10.2.2.2.2.2.2.1, e10.2.2.2.2.2.2.2.1, e10.2.2.2.2.2.2.2.2.1, (chunks ((dropV (0 + (if (i64 (((y8.2.2.2.2.2.1.2.2.2.2.2.2.2.2.2.1 : Nat) : Int) - 1)) < y9.1 then (i64 (((y8.2.2.2.2.2.1.2.2.2.2.2.2.2.2.2.1 : Nat) : Int) - 1)) else y9.1).toNat) 9 y8.2.2.2.2.2.2.1).take ((y8.2.2.2.2.2.1.2.2.2.2.2.2.2.2.2.1 - (if (i64 (((y8.2.2.2.2.2.1.2.2.2.2.2.2.2.2.2.1 : Nat) : Int) - 1)) < y9.1 then (i64 (((y8.2.2.2.2.2.1.2.2.2.2.2.2.2.2.2.1 : Nat) : Int) - 1)) else y9.1).toNat) * 9)) 9 (y8.2.2.2.2.2.1.2.2.2.2.2.2.2.2.2.1 - (if (i64 (((y8.2.2.2.2.2.1.2.2.2.2.2.2.2.2.2.1 : Nat) : Int) - 1)) < y9.1 then (i64 (((y8.2.2.2.2.2.1.2.2.2.2.2.2.2.2.2.1 : Nat) : Int) - 1)) else y9.1).toNat)), y8.2.2.2.2.2.1.2.2.2.2.2.2.2.2.2.2))].length), y8.1, (i64 (y8.2.2.1 + 1)), y9.2.1, y9.2.2, ((y8.2.2.2.2.2.2.2.take (y8.2.1 * 25) ++ [(Ren0 (e10.1, e10.2.1, e10.2.2.1, e10.2.2.2.1, e10.2.2.2.2.1, e10.2.2.2.2.2.1, e10.2.2.2.2.2.2.1, e10.2.2.2.2.2.2.2.1, e10.2.2.2.2.2.2.2.2.1, (chunks ((dropV (0 + (if (i64 (((y8.2.2.2.2.2.1.2.2.2.2.2.2.2.2.2.1 : Nat) : Int) - 1)) < y9.1 then (i64 (((y8.2.2.2.2.2.1.2.2.2.2.2.2.2.2.2.1 : Nat) : Int) - 1)) else y9.1).toNat) 9 y8.2.2.2.2.2.2.1).take ((y8.2.2.2.2.2.1.2.2.2.2.2.2.2.2.2.1 - (if (i64 (((y8.2.2.2.2.2.1.2.2.2.2.2.2.2.2.2.1 : Nat) : Int) - 1)) < y9.1 then (i64 (((y8.2.2.2.2.2.1.2.2.2.2.2.2.2.2.2.1 : Nat) : Int) - 1)) else y9.1).toNat) * 9)) 9 (y8.2.2.2.2.2.1.2.2.2.2.2.2.2.2.2.1 - (if (i64 (((y8.2.2.2.2.2.1.2.2.2.2.2.2.2.2.2.1 : Nat) : Int) - 1)) < y9.1 then (i64 (((y8.2.2.2.2.2.1.2.2.2.2.2.2.2.2.2.1 : Nat) : Int) - 1)) else y9.1).toNat)), y8.2.2.2.2.2.1.2.2.2.2.2.2.2.2.2.2))].flatten).map dat0))) else none) else none) | none => none) else none) else none) | none => none) | none => none) | none => none)) | none => none) | false => (ke (u5.1, u5.2.2.2.1, u5.2.2.2.2.1, (u5.2.2.2.2.2.map dat0))))
noncomputable abbrev F10_d5 (N : Nat) (x : Nat × Int × Int × (List (List AV)) × Int × (List AV)) : Option ((Nat × (List (List AV)) × Int × (List AV))) := (F10_l5 N).L N x
noncomputable def F10_s (N : Nat) : FSpec where
  X := Int × (List (List AV)) × Int
  Y := (List (List AV)) × (List (List AV)) × Int
  ash := [[none], [none]]
  bsh := [[some 1, none]]
  S := ⟨[[some 2000025]], [[some 1, none]], [], [], []⟩
  bm := false
  pat := fun a b => pCons a fun v1 c2 => pPtr 0 0 v1 <| pCons c2 fun v3 c4 => pInt .i64 v3 fun a0 => pEnd c4 <| pCons b fun v5 c6 => pCons v5 fun c7 c8 => pLst 1 c7 fun a1 => pCons c8 fun c9 c10 => pInt .i64 c9 fun a2 => pEnd c10 <| pEnd c6 <| some (a0, a1, a2)
  args := fun x => [(AV.ptr 0 0), (AV.v (.int .i64 x.1))]
  bs := fun x => [[(AV.list 1 x.2.1 none), (AV.v (.int .i64 x.2.2))]]
  ret := fun y => ⟨(AV.list 25 y.1 (some 2560000000)), [[(AV.list 1 y.2.1 none), (AV.v (.int .i64 y.2.2))]], none, [], [2560000000], []⟩
  t := fun x α k => (match F10_d5 N (0, x.1, 0, x.2.1, x.2.2, ([] : List AV)) with | some y11 => (if y11.1 * 25 ≤ y11.2.2.2.length then (k ((chunks (y11.2.2.2.take (y11.1 * 25)) 25 y11.1), y11.2.1, y11.2.2.1)) else none) | none => none)
noncomputable abbrev F10_d (N : Nat) (x : Int × (List (List AV)) × Int) : Option ((List (List AV)) × (List (List AV)) × Int) := (F10_s N).d x
theorem F10_par18 (N : Nat) : Par (F10_l18 N).b := by
  intro x α β kn ke kn' ke' r r' h h1 h2
  revert h
  dsimp only [F10_l18]
  (repeat' (first | (with_reducible refine par_ite ?_ ?_) | (with_reducible refine par_both ?_ ?_) | split)) <;> intro h <;> first | exact h1 _ h | exact h2 _ h | (cases h; done)
theorem F10_body18 (N : Nat) (x : (F10_l18 N).X) (α : Type) (kn : AS → Option α) (ke : Out → Option α) : around (tabB Try.prog [19, 84]) (F10_g N) F10_an (lam N [(5, F10_l5 N), (18, F10_l18 N)]) 18 (bodyOf (nthLoop 18 (Try.f10.body.getD .skip))) ((F10_l18 N).st x) kn ke = (F10_l18 N).b x α (fun x' => kn ((F10_l18 N).st x')) (fun y => (F10_l18 N).sp y α ke) := by kernel_rfl
theorem F10_pat18 (N : Nat) (s : AS) (x : (F10_l18 N).X) (hc : s = canon (F10_an 18).1 s) (h : (F10_l18 N).p s = some x) : s = (F10_l18 N).st x := by
  replace h : pNat _ _ _ = some x := h
  obtain ⟨h1, g0⟩ := pNat_ok h
  obtain ⟨h2, g1⟩ := pNat_ok g0; clear g0
  obtain ⟨h3, g2⟩ := pPtr_ok g1; clear g1
  obtain ⟨a0, h4, g3⟩ := pInt_ok g2; clear g2
  obtain ⟨a1, h5, g4⟩ := pVs0_ok g3; clear g3
  obtain ⟨a2, h6, g5⟩ := pInt_ok g4; clear g4
  obtain ⟨h7, g6⟩ := pPtr_ok g5; clear g5
  obtain ⟨a3, h8, g7⟩ := pInt_ok g6; clear g6
  obtain ⟨a4, h9, g8⟩ := pInt_ok g7; clear g7
  obtain ⟨c10, h11, g9⟩ := pSome_ok g8; clear g8
  obtain ⟨c12, c13, rfl, g10⟩ := pCons_ok g9; clear g9
  obtain ⟨a5, rfl, g11⟩ := pLst_ok g10; clear g10
  obtain ⟨c14, c15, rfl, g12⟩ := pCons_ok g11; clear g11
  obtain ⟨a6, rfl, g13⟩ := pInt_ok g12; clear g12
  obtain ⟨rfl, g14⟩ := pEnd_ok g13; clear g13
  obtain ⟨c16, h17, g15⟩ := pSome_ok g14; clear g14
  obtain ⟨a7, rfl, g16⟩ := pRow_ok g15; clear g15
  obtain ⟨a8, h18, g17⟩ := pSome_ok g16; clear g16
  obtain ⟨a9, h19, g18⟩ := pSome_ok g17; clear g17
  clear h
  cases g18
  exact canon_mk hc h1 h2 rfl rfl rfl ⟨h3, h4, h5, h6, h7, h8, h9, trivial⟩ ⟨h11, h17, h18, h19, trivial⟩
theorem F10_loop18 (N : Nat) : ∀ s o, s = canon (F10_an 18).1 s → (lam N [(5, F10_l5 N), (18, F10_l18 N)]).v 18 s = some o → LoopSem Try.prog (nthLoop 18 (Try.f10.body.getD .skip)) s o :=
  loop_ok (tabB_ok Try.prog [19, 84]) (gam_ok _) mixed F10_an N [(5, F10_l5 N), (18, F10_l18 N)] 18 (bodyOf (nthLoop 18 (Try.f10.body.getD .skip))) (nthLoop 18 (Try.f10.body.getD .skip)) (by kernel_rfl) (by
    have e : actOf F10_an (bodyOf (nthLoop 18 (Try.f10.body.getD .skip))) (18 + 1) = [] := by kernel_rfl
    rw [e]
    intro p hp
    cases hp) (F10_l18 N) rfl (fun s x hc h => F10_pat18 N s x hc h) (fun x => rfl) (fun x α kn ke => (F10_body18 N x α kn ke).trans (congrArg ((F10_l18 N).b x α _) (funext fun y => (F10_l18 N).spe y α ke))) (F10_par18 N)
theorem F10_par5 (N : Nat) : Par (F10_l5 N).b := by
  intro x α β kn ke kn' ke' r r' h h1 h2
  revert h
  dsimp only [F10_l5]
  (repeat' (first | (with_reducible refine par_ite ?_ ?_) | (with_reducible refine par_both ?_ ?_) | split)) <;> intro h <;> first | exact h1 _ h | exact h2 _ h | (cases h; done)
theorem F10_body5 (N : Nat) (x : (F10_l5 N).X) (α : Type) (kn : AS → Option α) (ke : Out → Option α) : around (tabB Try.prog [19, 84]) (F10_g N) F10_an (lam N [(5, F10_l5 N), (18, F10_l18 N)]) 5 (bodyOf (nthLoop 5 (Try.f10.body.getD .skip))) ((F10_l5 N).st x) kn ke = (F10_l5 N).b x α (fun x' => kn ((F10_l5 N).st x')) (fun y => (F10_l5 N).sp y α ke) := by kernel_rfl
theorem F10_pat5 (N : Nat) (s : AS) (x : (F10_l5 N).X) (hc : s = canon (F10_an 5).1 s) (h : (F10_l5 N).p s = some x) : s = (F10_l5 N).st x := by
  replace h : pNat _ _ _ = some x := h
  obtain ⟨h1, g0⟩ := pNat_ok h
  obtain ⟨h2, g1⟩ := pNat_ok g0; clear g0
  obtain ⟨a0, h3, g2⟩ := pVs0_ok g1; clear g1
  obtain ⟨h4, g3⟩ := pPtr_ok g2; clear g2
  obtain ⟨a1, h5, g4⟩ := pInt_ok g3; clear g3
  obtain ⟨a2, h6, g5⟩ := pInt_ok g4; clear g4
  obtain ⟨c7, h8, g6⟩ := pSome_ok g5; clear g5
  obtain ⟨c9, c10, rfl, g7⟩ := pCons_ok g6; clear g6
  obtain ⟨a3, rfl, g8⟩ := pLst_ok g7; clear g7
  obtain ⟨c11, c12, rfl, g9⟩ := pCons_ok g8; clear g8
  obtain ⟨a4, rfl, g10⟩ := pInt_ok g9; clear g9
  obtain ⟨rfl, g11⟩ := pEnd_ok g10; clear g10
  obtain ⟨a5, h13, g12⟩ := pSome_ok g11; clear g11
  clear h
  cases g12
  exact canon_mk hc h1 h2 rfl rfl rfl ⟨h3, h4, h5, h6, trivial⟩ ⟨h8, h13, trivial⟩
theorem F10_loop5 (N : Nat) : ∀ s o, s = canon (F10_an 5).1 s → (lam N [(5, F10_l5 N), (18, F10_l18 N)]).v 5 s = some o → LoopSem Try.prog (nthLoop 5 (Try.f10.body.getD .skip)) s o :=
  loop_ok (tabB_ok Try.prog [19, 84]) (gam_ok _) mixed F10_an N [(5, F10_l5 N), (18, F10_l18 N)] 5 (bodyOf (nthLoop 5 (Try.f10.body.getD .skip))) (nthLoop 5 (Try.f10.body.getD .skip)) (by kernel_rfl) (by
    have e : actOf F10_an (bodyOf (nthLoop 5 (Try.f10.body.getD .skip))) (5 + 1) = [(18, nthLoop 18 (Try.f10.body.getD .skip))] := by kernel_rfl
    rw [e]
    intro p hp
    rcases List.mem_cons.1 hp with rfl | hp
    · exact F10_loop18 N
    cases hp) (F10_l5 N) rfl (fun s x hc h => F10_pat5 N s x hc h) (fun x => rfl) (fun x α kn ke => (F10_body5 N x α kn ke).trans (congrArg ((F10_l5 N).b x α _) (funext fun y => (F10_l5 N).spe y α ke))) (F10_par5 N)
theorem F10_parF (N : Nat) : ParF (F10_s N).t := by
  intro x α β k k' r r' h h1
  revert h
  dsimp only [F10_s]
  (repeat' (first | (with_reducible refine par_ite ?_ ?_) | (with_reducible refine par_both ?_ ?_) | split)) <;> intro h <;> first | exact h1 _ h | (cases h; done)
theorem F10_text (N : Nat) (x : (F10_s N).X) : acall (tabB Try.prog [19, 84]) (F10_g N) F10_an (lam N [(5, F10_l5 N), (18, F10_l18 N)]) Try.f10 (F10_s N).S ((F10_s N).args x) ((F10_s N).bs x) = (F10_s N).t x Ret (fun y => some ((F10_s N).ret y)) := by kernel_rfl
theorem F10_pat (N : Nat) (a : List AV) (b : List (List AV)) (x : (F10_s N).X) (h : (F10_s N).pat a b = some x) : a = (F10_s N).args x ∧ b = (F10_s N).bs x := by
  obtain ⟨v1, c2, rfl, g0⟩ := pCons_ok (show pCons _ _ = some x from h)
  obtain ⟨rfl, g1⟩ := pPtr_ok g0; clear g0
  obtain ⟨v3, c4, rfl, g2⟩ := pCons_ok g1; clear g1
  obtain ⟨a0, rfl, g3⟩ := pInt_ok g2; clear g2
  obtain ⟨rfl, g4⟩ := pEnd_ok g3; clear g3
  obtain ⟨v5, c6, rfl, g5⟩ := pCons_ok g4; clear g4
  obtain ⟨c7, c8, rfl, g6⟩ := pCons_ok g5; clear g5
  obtain ⟨a1, rfl, g7⟩ := pLst_ok g6; clear g6
  obtain ⟨c9, c10, rfl, g8⟩ := pCons_ok g7; clear g7
  obtain ⟨a2, rfl, g9⟩ := pInt_ok g8; clear g8
  obtain ⟨rfl, g10⟩ := pEnd_ok g9; clear g9
  obtain ⟨rfl, g11⟩ := pEnd_ok g10; clear g10
  clear h
  cases g11
  exact ⟨rfl, rfl⟩
noncomputable def F10_e (N : Nat) : Ent Try.prog := entOf (tabB_ok Try.prog [19, 84]) (gam_ok _) mixed 10 Try.f10 Try.func10 rfl F10_an (lam N [(5, F10_l5 N), (18, F10_l18 N)]) (by
    have e : actOf F10_an (Try.f10.body.getD .skip) 0 = [(5, nthLoop 5 (Try.f10.body.getD .skip)), (18, nthLoop 18 (Try.f10.body.getD .skip))] := by kernel_rfl
    rw [e]
    intro p hp
    rcases List.mem_cons.1 hp with rfl | hp
    · exact F10_loop5 N
    rcases List.mem_cons.1 hp with rfl | hp
    · exact F10_loop18 N
    cases hp) (F10_s N) (fun _ => ⟨rfl, rfl⟩) (F10_text N) (F10_pat N) (F10_parF N)
def F36_an : Nat → Keep × Keep := anL []
noncomputable def F36_g (N : Nat) : GamK := gam (P := Try.prog) []
noncomputable def F36_s (N : Nat) : FSpec where
  X := Unit
  Y := (List (List AV)) × Int × Int
  ash := []
  bsh := []
  S := ⟨[[some 4, none, none]], [], [], [], []⟩
  bm := false
  pat := fun a b => pEnd a <| pEnd b <| some ()
  args := fun x => []
  bs := fun x => []
  ret := fun y => ⟨(AV.agg [(AV.list 4 y.1 none), (AV.v (.int .i64 y.2.1)), (AV.v (.int .i64 y.2.2))]), [], none, [], [], []⟩
  t := fun x α k => (k ([(Ren4 ((-1000), 1, 10000, 100000, ()))], 0, 0))
noncomputable abbrev F36_d (N : Nat) (x : Unit) : Option ((List (List AV)) × Int × Int) := (F36_s N).d x
theorem F36_parF (N : Nat) : ParF (F36_s N).t := by
  intro x α β k k' r r' h h1
  revert h
  dsimp only [F36_s]
  (repeat' (first | (with_reducible refine par_ite ?_ ?_) | (with_reducible refine par_both ?_ ?_) | split)) <;> intro h <;> first | exact h1 _ h | (cases h; done)
theorem F36_text (N : Nat) (x : (F36_s N).X) : acall (tabOf Try.prog) (F36_g N) F36_an (lam N []) Try.f36 (F36_s N).S ((F36_s N).args x) ((F36_s N).bs x) = (F36_s N).t x Ret (fun y => some ((F36_s N).ret y)) := by kernel_rfl
theorem F36_pat (N : Nat) (a : List AV) (b : List (List AV)) (x : (F36_s N).X) (h : (F36_s N).pat a b = some x) : a = (F36_s N).args x ∧ b = (F36_s N).bs x := by
  obtain ⟨rfl, g0⟩ := pEnd_ok (show pEnd _ _ = some x from h)
  obtain ⟨rfl, g1⟩ := pEnd_ok g0; clear g0
  clear h
  cases g1
  exact ⟨rfl, rfl⟩
noncomputable def F36_e (N : Nat) : Ent Try.prog := entOf (tabOf_ok Try.prog) (gam_ok _) mixed 36 Try.f36 Try.func36 rfl F36_an (lam N []) (by
    have e : actOf F36_an (Try.f36.body.getD .skip) 0 = [] := by kernel_rfl
    rw [e]
    intro p hp
    cases hp) (F36_s N) (fun _ => ⟨rfl, rfl⟩) (F36_text N) (F36_pat N) (F36_parF N)
def F15_an : Nat → Keep × Keep := anL []
noncomputable def F15_g (N : Nat) : GamK := gam (P := Try.prog) [F35_e N, F36_e N, F11_e N]
noncomputable def F15_s (N : Nat) : FSpec where
  X := Unit
  Y := Bool
  ash := []
  bsh := []
  S := ⟨[[none]], [], [], [], []⟩
  bm := false
  pat := fun a b => pEnd a <| pEnd b <| some ()
  args := fun x => []
  bs := fun x => []
  ret := fun y => ⟨(AV.v (.bool y)), [], none, [], [], []⟩
  t := fun x α k => (match F35_d N 0 with | some y1 => (match F36_d N () with | some y2 => (match F11_d N (y2.1, y2.2.1, y2.2.2, ([] : List (List AV)), 4, [(Ren0 (y1.1, y1.2.1, y1.2.2.1, y1.2.2.2.1, 1000, 0, 0, 0, 0, [(Ren1 (y1.1, y1.2.1, y1.2.2.1, y1.2.2.2.1, 1000, 0, 0, 0, 0, ()))], 0, 0, 0, 900, 0, 0, 0, 0, 0, 0, 0, 0, 0, 0, 1, ()))], 1200) with | some y3 => (match F36_d N () with | some y4 => (match F11_d N (y4.1, y4.2.1, y4.2.2, y3.1, 5, ([] : List (List AV)), 1300) with | some y5 => (match (y3.2.2 == 0) with | true => (match ((y3.1.length : Int) == 1) with | true => (match ((y3.2.1.length : Int) == 1) with | true => (if 0 ≤ (0 : Int) then (match y3.2.1[(0 : Int).toNat]? with | some c6 => (match (c6.drop 1)[0]? with | some x7 => (match x7 with | .v (.int q9 n8) => (if q9 = .i64 then (match (n8 == 1) with | true => (if 0 ≤ (0 : Int) then (match y3.2.1[(0 : Int).toNat]? with | some c10 => (match (c10.drop 2)[0]? with | some x11 => (match x11 with | .v (.int q13 n12) => (if q13 = .i64 then (match (n12 == 4) with | true => (match (y5.2.2 == 0) with | true => (match ((y5.1.length : Int) == 1) with | true => (if 0 ≤ (0 : Int) then (match y5.1[(0 : Int).toNat]? with | some c14 => (match (c14.drop 1)[0]? with | some x15 => (match x15 with | .v (.bool b16) => (match b16 with | true => (match ((y5.2.1.length : Int) == 1) with | true => (if 0 ≤ (0 : Int) then (match y5.2.1[(0 : Int).toNat]? with | some c17 => (match (c17.drop 1)[0]? with | some x18 => (match x18 with | .v (.int q20 n19) => (if q20 = .i64 then (match (n19 == 3) with | true => (if 0 ≤ (0 : Int) then (match y5.2.1[(0 : Int).toNat]? with | some c21 => (match (c21.drop 0)[0]? with | some x22 => (match x22 with | .v (.int q24 n23) => (if q24 = .i64 then (match (n23 == 5) with | true => (if 0 ≤ (0 : Int) then (match y5.2.1[(0 : Int).toNat]? with | some c25 => (match (c25.drop 2)[0]? with | some x26 => (match x26 with | .v (.int q28 n27) => (if q28 = .i64 then (k (n27 == 4)) else none) | _ => none) | none => none) | none => none) else none) | false => (k false)) else none) | _ => none) | none => none) | none => none) else none) | false => (k false)) else none) | _ => none) | none => none) | none => none) else none) | false => (k false)) | false => (k false)) | _ => none) | none => none) | none => none) else none) | false => (k false)) | false => (k false)) | false => (k false)) else none) | _ => none) | none => none) | none => none) else none) | false => (k false)) else none) | _ => none) | none => none) | none => none) else none) | false => (k false)) | false => (k false)) | false => (k false)) | none => none) | none => none) | none => none) | none => none) | none => none)
noncomputable abbrev F15_d (N : Nat) (x : Unit) : Option (Bool) := (F15_s N).d x
theorem F15_parF (N : Nat) : ParF (F15_s N).t := by
  intro x α β k k' r r' h h1
  revert h
  dsimp only [F15_s]
  (repeat' (first | (with_reducible refine par_ite ?_ ?_) | (with_reducible refine par_both ?_ ?_) | split)) <;> intro h <;> first | exact h1 _ h | (cases h; done)
theorem F15_text (N : Nat) (x : (F15_s N).X) : acall (tabOf Try.prog) (F15_g N) F15_an (lam N []) Try.f15 (F15_s N).S ((F15_s N).args x) ((F15_s N).bs x) = (F15_s N).t x Ret (fun y => some ((F15_s N).ret y)) := by kernel_rfl
theorem F15_pat (N : Nat) (a : List AV) (b : List (List AV)) (x : (F15_s N).X) (h : (F15_s N).pat a b = some x) : a = (F15_s N).args x ∧ b = (F15_s N).bs x := by
  obtain ⟨rfl, g0⟩ := pEnd_ok (show pEnd _ _ = some x from h)
  obtain ⟨rfl, g1⟩ := pEnd_ok g0; clear g0
  clear h
  cases g1
  exact ⟨rfl, rfl⟩
noncomputable def F15_e (N : Nat) : Ent Try.prog := entOf (tabOf_ok Try.prog) (gam_ok _) mixed 15 Try.f15 Try.func15 rfl F15_an (lam N []) (by
    have e : actOf F15_an (Try.f15.body.getD .skip) 0 = [] := by kernel_rfl
    rw [e]
    intro p hp
    cases hp) (F15_s N) (fun _ => ⟨rfl, rfl⟩) (F15_text N) (F15_pat N) (F15_parF N)
@[reducible] def Rs6_5_25 (e : RT6) : RT0 := (e.2.2.2.2.2.1, e.2.2.2.2.2.2.1, e.2.2.2.2.2.2.2.1, e.2.2.2.2.2.2.2.2.1, e.2.2.2.2.2.2.2.2.2.1, e.2.2.2.2.2.2.2.2.2.2.1, e.2.2.2.2.2.2.2.2.2.2.2.1, e.2.2.2.2.2.2.2.2.2.2.2.2.1, e.2.2.2.2.2.2.2.2.2.2.2.2.2.1, e.2.2.2.2.2.2.2.2.2.2.2.2.2.2.1, e.2.2.2.2.2.2.2.2.2.2.2.2.2.2.2.1, e.2.2.2.2.2.2.2.2.2.2.2.2.2.2.2.2.1, e.2.2.2.2.2.2.2.2.2.2.2.2.2.2.2.2.2.1, e.2.2.2.2.2.2.2.2.2.2.2.2.2.2.2.2.2.2.1, e.2.2.2.2.2.2.2.2.2.2.2.2.2.2.2.2.2.2.2.1, e.2.2.2.2.2.2.2.2.2.2.2.2.2.2.2.2.2.2.2.2.1, e.2.2.2.2.2.2.2.2.2.2.2.2.2.2.2.2.2.2.2.2.2.1, e.2.2.2.2.2.2.2.2.2.2.2.2.2.2.2.2.2.2.2.2.2.2.1, e.2.2.2.2.2.2.2.2.2.2.2.2.2.2.2.2.2.2.2.2.2.2.2.1, e.2.2.2.2.2.2.2.2.2.2.2.2.2.2.2.2.2.2.2.2.2.2.2.2.1, e.2.2.2.2.2.2.2.2.2.2.2.2.2.2.2.2.2.2.2.2.2.2.2.2.2.1, e.2.2.2.2.2.2.2.2.2.2.2.2.2.2.2.2.2.2.2.2.2.2.2.2.2.2.1, e.2.2.2.2.2.2.2.2.2.2.2.2.2.2.2.2.2.2.2.2.2.2.2.2.2.2.2.1, e.2.2.2.2.2.2.2.2.2.2.2.2.2.2.2.2.2.2.2.2.2.2.2.2.2.2.2.2.1, e.2.2.2.2.2.2.2.2.2.2.2.2.2.2.2.2.2.2.2.2.2.2.2.2.2.2.2.2.2.1, ())
end Go.Proofs.Ytnnfpoelkdgjdaa
end
section
namespace Go.Proofs.Ytnnfpoelkdgjdaa
open Go.RowKit
set_option linter.unusedVariables false
set_option linter.unusedSimpArgs false
set_option linter.unnecessarySimpa false
set_option maxRecDepth 4000
@[reducible] def Rs6_5_9 (e : RT6) : RT1 := (e.2.2.2.2.2.1, e.2.2.2.2.2.2.1, e.2.2.2.2.2.2.2.1, e.2.2.2.2.2.2.2.2.1, e.2.2.2.2.2.2.2.2.2.1, e.2.2.2.2.2.2.2.2.2.2.1, e.2.2.2.2.2.2.2.2.2.2.2.1, e.2.2.2.2.2.2.2.2.2.2.2.2.1, e.2.2.2.2.2.2.2.2.2.2.2.2.2.1, ())
def F3_an : Nat → Keep × Keep := anL [(9, ⟨[3, 4, 6, 7, 8, 9], [], [4, 21, 1500024], [(5, 38)], [], [], [], [], false⟩, ⟨[2], [], [], [], [], [], [], [], false⟩), (25, ⟨[3, 4, 6, 7, 8, 9, 48, 49], [], [4, 21, 1500024], [(10, 25), (11, 38), (12, 30), (47, 30)], [], [], [], [], false⟩, ⟨[2, 3, 4, 6, 7, 8, 9], [], [4, 21, 1500024], [(11, 38), (12, 30)], [], [], [], [], false⟩)]
noncomputable def F3_g (N : Nat) : GamK := gam (P := Try.prog) [F7_e N, F8_e N, F9_e N, F10_e N, F11_e N, F12_e N, F13_e N, F14_e N, F15_e N]
noncomputable def F3_l25 (N : Nat) : LSpec where
  X := (List (List AV)) × (List (List AV)) × (List (List AV)) × (List (List AV)) × Int × Int × Int × Int × Int × (List (List AV)) × Int × Int × (List (List AV)) × Int × (List (List AV))
  Y := ((List (List AV)) × (List (List AV)) × Bool × Int × Int × Int × (List (List AV)) × Int × Int × (List (List AV)) × Int × (List (List AV))) ⊕ ((List (List AV)) × (List (List AV)) × Int × Int × Int × (List (List AV)) × Int × Int × (List (List AV)) × Int × (List (List AV)))
  p := fun s => pNat s.env.length 141 <| pNat s.nin 0 <| pLst 25 (s.at 10) fun a0 => pLst 38 (s.at 11) fun a1 => pLst 30 (s.at 12) fun a2 => pLst 30 (s.at 47) fun a3 => pPtr 21 0 (s.at 3) <| pPtr 4 0 (s.at 4) <| pInt .i64 (s.at 6) fun a4 => pInt .i64 (s.at 7) fun a5 => pMref 1500024 (s.at 8) <| pInt .i64 (s.at 9) fun a6 => pInt .i64 (s.at 48) fun a7 => pInt .i64 (s.at 49) fun a8 => pSome (s.bx 4) fun c15 => pCons c15 fun c17 c18 => pLst 4 c17 fun a9 => pCons c18 fun c19 c20 => pInt .i64 c19 fun a10 => pCons c20 fun c21 c22 => pInt .i64 c21 fun a11 => pEnd c22 <| pSome (s.bx 21) fun c23 => pCons c23 fun c25 c26 => pLst 1 c25 fun a12 => pCons c26 fun c27 c28 => pInt .i64 c27 fun a13 => pEnd c28 <| pSome (s.bx 1500024) fun c29 => pMp (MK.mk false false [.int .i64] [.int .i64]) c29 fun a14 => some (a0, a1, a2, a3, a4, a5, a6, a7, a8, a9, a10, a11, a12, a13, a14)
  st := fun u25 => mkS 141 [(10, (AV.list 25 u25.1 none)), (11, (AV.list 38 u25.2.1 none)), (12, (AV.list 30 u25.2.2.1 none)), (47, (AV.list 30 u25.2.2.2.1 none)), (3, (AV.ptr 21 0)), (4, (AV.ptr 4 0)), (6, (AV.v (.int .i64 u25.2.2.2.2.1))), (7, (AV.v (.int .i64 u25.2.2.2.2.2.1))), (8, (AV.mref 1500024)), (9, (AV.v (.int .i64 u25.2.2.2.2.2.2.1))), (48, (AV.v (.int .i64 u25.2.2.2.2.2.2.2.1))), (49, (AV.v (.int .i64 u25.2.2.2.2.2.2.2.2.1)))] [(4, [(AV.list 4 u25.2.2.2.2.2.2.2.2.2.1 none), (AV.v (.int .i64 u25.2.2.2.2.2.2.2.2.2.2.1)), (AV.v (.int .i64 u25.2.2.2.2.2.2.2.2.2.2.2.1))]), (21, [(AV.list 1 u25.2.2.2.2.2.2.2.2.2.2.2.2.1 none), (AV.v (.int .i64 u25.2.2.2.2.2.2.2.2.2.2.2.2.2.1))]), (1500024, [(AV.mp (MK.mk false false [.int .i64] [.int .i64]) u25.2.2.2.2.2.2.2.2.2.2.2.2.2.2)])] (F3_an 25).1.toks 0
  out := fun y => match y with
    | .inl y => (.ret, mkS 141 [(11, (AV.list 38 y.1 none)), (12, (AV.list 30 y.2.1 none)), (2, (AV.v (.bool y.2.2.1))), (3, (AV.ptr 21 0)), (4, (AV.ptr 4 0)), (6, (AV.v (.int .i64 y.2.2.2.1))), (7, (AV.v (.int .i64 y.2.2.2.2.1))), (8, (AV.mref 1500024)), (9, (AV.v (.int .i64 y.2.2.2.2.2.1)))] [(4, [(AV.list 4 y.2.2.2.2.2.2.1 none), (AV.v (.int .i64 y.2.2.2.2.2.2.2.1)), (AV.v (.int .i64 y.2.2.2.2.2.2.2.2.1))]), (21, [(AV.list 1 y.2.2.2.2.2.2.2.2.2.1 none), (AV.v (.int .i64 y.2.2.2.2.2.2.2.2.2.2.1))]), (1500024, [(AV.mp (MK.mk false false [.int .i64] [.int .i64]) y.2.2.2.2.2.2.2.2.2.2.2)])] (F3_an 25).2.toks 0)
    | .inr y => (.exit 2, mkS 141 [(11, (AV.list 38 y.1 none)), (12, (AV.list 30 y.2.1 none)), (3, (AV.ptr 21 0)), (4, (AV.ptr 4 0)), (6, (AV.v (.int .i64 y.2.2.1))), (7, (AV.v (.int .i64 y.2.2.2.1))), (8, (AV.mref 1500024)), (9, (AV.v (.int .i64 y.2.2.2.2.1)))] [(4, [(AV.list 4 y.2.2.2.2.2.1 none), (AV.v (.int .i64 y.2.2.2.2.2.2.1)), (AV.v (.int .i64 y.2.2.2.2.2.2.2.1))]), (21, [(AV.list 1 y.2.2.2.2.2.2.2.2.1 none), (AV.v (.int .i64 y.2.2.2.2.2.2.2.2.2.1))]), (1500024, [(AV.mp (MK.mk false false [.int .i64] [.int .i64]) y.2.2.2.2.2.2.2.2.2.2)])] (F3_an 25).2.toks 0)
  sp := fun y α k => match y with
    | .inl y => k (.ret, mkS 141 [(11, (AV.list 38 y.1 none)), (12, (AV.list 30 y.2.1 none)), (2, (AV.v (.bool y.2.2.1))), (3, (AV.ptr 21 0)), (4, (AV.ptr 4 0)), (6, (AV.v (.int .i64 y.2.2.2.1))), (7, (AV.v (.int .i64 y.2.2.2.2.1))), (8, (AV.mref 1500024)), (9, (AV.v (.int .i64 y.2.2.2.2.2.1)))] [(4, [(AV.list 4 y.2.2.2.2.2.2.1 none), (AV.v (.int .i64 y.2.2.2.2.2.2.2.1)), (AV.v (.int .i64 y.2.2.2.2.2.2.2.2.1))]), (21, [(AV.list 1 y.2.2.2.2.2.2.2.2.2.1 none), (AV.v (.int .i64 y.2.2.2.2.2.2.2.2.2.2.1))]), (1500024, [(AV.mp (MK.mk false false [.int .i64] [.int .i64]) y.2.2.2.2.2.2.2.2.2.2.2)])] (F3_an 25).2.toks 0)
    | .inr y => k (.exit 2, mkS 141 [(11, (AV.list 38 y.1 none)), (12, (AV.list 30 y.2.1 none)), (3, (AV.ptr 21 0)), (4, (AV.ptr 4 0)), (6, (AV.v (.int .i64 y.2.2.1))), (7, (AV.v (.int .i64 y.2.2.2.1))), (8, (AV.mref 1500024)), (9, (AV.v (.int .i64 y.2.2.2.2.1)))] [(4, [(AV.list 4 y.2.2.2.2.2.1 none), (AV.v (.int .i64 y.2.2.2.2.2.2.1)), (AV.v (.int .i64 y.2.2.2.2.2.2.2.1))]), (21, [(AV.list 1 y.2.2.2.2.2.2.2.2.1 none), (AV.v (.int .i64 y.2.2.2.2.2.2.2.2.2.1))]), (1500024, [(AV.mp (MK.mk false false [.int .i64] [.int .i64]) y.2.2.2.2.2.2.2.2.2.2)])] (F3_an 25).2.toks 0)
  spe := fun y α k => by rcases y with _ | _ <;> rfl
  b := fun u25 α kn ke => (match (decide (u25.2.2.2.2.2.2.2.2.1 < u25.2.2.2.2.2.2.2.1)) with | true => (if 0 ≤ u25.2.2.2.2.2.2.2.2.1 then (match u25.2.2.2.1[u25.2.2.2.2.2.2.2.2.1.toNat]? with | some c11 => (match Rrd6 c11 with | some e12 => (match (e12.1 != (i64 (u25.2.2.2.2.1 + u25.2.2.2.2.2.2.2.2.1))) with | true => (ke (.inl (u25.2.1, u25.2.2.1, false, u25.2.2.2.2.1, u25.2.2.2.2.2.1, u25.2.2.2.2.2.2.1, u25.2.2.2.2.2.2.2.2.2))) | false => (match (e12.2.2.2.1 != u25.2.2.2.2.2.1) with | true => (ke (.inl (u25.2.1, u25.2.2.1, false, u25.2.2.2.2.1, u25.2.2.2.2.2.1, u25.2.2.2.2.2.2.1, u25.2.2.2.2.2.2.2.2.2))) | false => (match (e12.2.1 == 1) with | true => (match (e12.2.2.1 != e12.1) with | true => (ke (.inl (u25.2.1, u25.2.2.1, false, u25.2.2.2.2.1, u25.2.2.2.2.2.1, u25.2.2.2.2.2.2.1, u25.2.2.2.2.2.2.2.2.2))) | false => (match F12_d N (u25.2.2.2.2.2.2.2.2.2.1, u25.2.2.2.2.2.2.2.2.2.2.1, u25.2.2.2.2.2.2.2.2.2.2.2.1, (Rs6_5_25 e12), u25.2.2.2.2.2.1) with | some y13 => (match (!y13) with | true => (ke (.inl (u25.2.1, u25.2.2.1, false, u25.2.2.2.2.1, u25.2.2.2.2.2.1, u25.2.2.2.2.2.2.1, u25.2.2.2.2.2.2.2.2.2))) | false => (match F13_d N (u25.1, (Rs6_5_9 e12)) with | some y14 => (match (decide (y14 < 0)) with | true => (ke (.inl (u25.2.1, u25.2.2.1, false, u25.2.2.2.2.1, u25.2.2.2.2.2.1, u25.2.2.2.2.2.2.1, u25.2.2.2.2.2.2.2.2.2))) | false => (kn (u25.1, u25.2.1, u25.2.2.1, u25.2.2.2.1, u25.2.2.2.2.1, u25.2.2.2.2.2.1, u25.2.2.2.2.2.2.1, u25.2.2.2.2.2.2.2.1, (i64 (u25.2.2.2.2.2.2.2.2.1 + 1)), u25.2.2.2.2.2.2.2.2.2.1, u25.2.2.2.2.2.2.2.2.2.2.1, u25.2.2.2.2.2.2.2.2.2.2.2.1, u25.2.2.2.2.2.2.2.2.2.2.2.2.1, u25.2.2.2.2.2.2.2.2.2.2.2.2.2.1, (mpPut [(AV.v (.int .i64 e12.2.2.1))] [(AV.v (.int .i64 e12.2.2.1)), (AV.v (.int .i64 u25.2.2.2.2.2.1))] u25.2.2.2.2.2.2.2.2.2.2.2.2.2.2)))) | none => none)) | none => none)) | false => (match (e12.2.1 == 2) with | true => (match (!((mpInt [(AV.v (.int .i64 e12.2.2.1))] u25.2.2.2.2.2.2.2.2.2.2.2.2.2.2).isSome)) with | true => (ke (.inl (u25.2.1, u25.2.2.1, false, u25.2.2.2.2.1, u25.2.2.2.2.2.1, u25.2.2.2.2.2.2.1, u25.2.2.2.2.2.2.2.2.2))) | false => (match (decide ((i64 (u25.2.2.2.2.2.1 - ((mpInt [(AV.v (.int .i64 e12.2.2.1))] u25.2.2.2.2.2.2.2.2.2.2.2.2.2.2).getD 0))) < u25.2.2.2.2.2.2.2.2.2.2.2.1)) with | true => (ke (.inl (u25.2.1, u25.2.2.1, false, u25.2.2.2.2.1, u25.2.2.2.2.2.1, u25.2.2.2.2.2.2.1, u25.2.2.2.2.2.2.2.2.2))) | false => (match F14_d N (u25.2.2.2.2.2.2.2.2.2.1, u25.2.2.2.2.2.2.2.2.2.2.1, u25.2.2.2.2.2.2.2.2.2.2.2.1, (Rs6_5_25 e12)) with | some y15 => (match (e12.2.2.2.2.1 != y15) with | true => (ke (.inl (u25.2.1, u25.2.2.1, false, u25.2.2.2.2.1, u25.2.2.2.2.2.1, u25.2.2.2.2.2.2.1, u25.2.2.2.2.2.2.2.2.2))) | false => (kn (u25.1, u25.2.1, u25.2.2.1, u25.2.2.2.1, u25.2.2.2.2.1, u25.2.2.2.2.2.1, u25.2.2.2.2.2.2.1, u25.2.2.2.2.2.2.2.1, (i64 (u25.2.2.2.2.2.2.2.2.1 + 1)), u25.2.2.2.2.2.2.2.2.2.1, u25.2.2.2.2.2.2.2.2.2.2.1, u25.2.2.2.2.2.2.2.2.2.2.2.1, u25.2.2.2.2.2.2.2.2.2.2.2.2.1, u25.2.2.2.2.2.2.2.2.2.2.2.2.2.1, (mpPut [(AV.v (.int .i64 e12.2.2.1))] [(AV.v (.int .i64 e12.2.2.1)), (AV.v (.int .i64 u25.2.2.2.2.2.1))] u25.2.2.2.2.2.2.2.2.2.2.2.2.2.2)))) | none => none))) | false => (match (e12.2.1 == 3) with | true => (match (!((mpInt [(AV.v (.int .i64 e12.2.2.1))] u25.2.2.2.2.2.2.2.2.2.2.2.2.2.2).isSome)) with | true => (ke (.inl (u25.2.1, u25.2.2.1, false, u25.2.2.2.2.1, u25.2.2.2.2.2.1, u25.2.2.2.2.2.2.1, u25.2.2.2.2.2.2.2.2.2))) | false => (kn (u25.1, u25.2.1, u25.2.2.1, u25.2.2.2.1, u25.2.2.2.2.1, u25.2.2.2.2.2.1, u25.2.2.2.2.2.2.1, u25.2.2.2.2.2.2.2.1, (i64 (u25.2.2.2.2.2.2.2.2.1 + 1)), u25.2.2.2.2.2.2.2.2.2.1, u25.2.2.2.2.2.2.2.2.2.2.1, u25.2.2.2.2.2.2.2.2.2.2.2.1, u25.2.2.2.2.2.2.2.2.2.2.2.2.1, u25.2.2.2.2.2.2.2.2.2.2.2.2.2.1, (mpPut [(AV.v (.int .i64 e12.2.2.1))] [(AV.v (.int .i64 e12.2.2.1)), (AV.v (.int .i64 u25.2.2.2.2.2.1))] u25.2.2.2.2.2.2.2.2.2.2.2.2.2.2)))) | false => (ke (.inl (u25.2.1, u25.2.2.1, false, u25.2.2.2.2.1, u25.2.2.2.2.2.1, u25.2.2.2.2.2.2.1, u25.2.2.2.2.2.2.2.2.2)))))))) | none => none) | none => none) else none) | false => (ke (.inr (u25.2.1, u25.2.2.1, u25.2.2.2.2.1, u25.2.2.2.2.2.1, u25.2.2.2.2.2.2.1, u25.2.2.2.2.2.2.2.2.2))))
noncomputable abbrev F3_d25 (N : Nat) (x : (List (List AV)) × (List (List AV)) × (List (List AV)) × (List (List AV)) × Int × Int × Int × Int × Int × (List (List AV)) × Int × Int × (List (List AV)) × Int × (List (List AV))) : Option (((List (List AV)) × (List (List AV)) × Bool × Int × Int × Int × (List (List AV)) × Int × Int × (List (List AV)) × Int × (List (List AV))) ⊕ ((List (List AV)) × (List (List AV)) × Int × Int × Int × (List (List AV)) × Int × Int × (List (List AV)) × Int × (List (List AV)))) := (F3_l25 N).L N x
noncomputable def F3_l9 (N : Nat) : LSpec where
  X := (List (List AV)) × Int × Int × Int × (List (List AV)) × Int × Int × (List (List AV)) × Int × (List (List AV))
  Y := (Bool) ⊕ (Unit)
  p := fun s => pNat s.env.length 141 <| pNat s.nin 0 <| pLst 38 (s.at 5) fun a0 => pPtr 21 0 (s.at 3) <| pPtr 4 0 (s.at 4) <| pInt .i64 (s.at 6) fun a1 => pInt .i64 (s.at 7) fun a2 => pMref 1500024 (s.at 8) <| pInt .i64 (s.at 9) fun a3 => pSome (s.bx 4) fun c10 => pCons c10 fun c12 c13 => pLst 4 c12 fun a4 => pCons c13 fun c14 c15 => pInt .i64 c14 fun a5 => pCons c15 fun c16 c17 => pInt .i64 c16 fun a6 => pEnd c17 <| pSome (s.bx 21) fun c18 => pCons c18 fun c20 c21 => pLst 1 c20 fun a7 => pCons c21 fun c22 c23 => pInt .i64 c22 fun a8 => pEnd c23 <| pSome (s.bx 1500024) fun c24 => pMp (MK.mk false false [.int .i64] [.int .i64]) c24 fun a9 => some (a0, a1, a2, a3, a4, a5, a6, a7, a8, a9)
  st := fun u9 => mkS 141 [(5, (AV.list 38 u9.1 none)), (3, (AV.ptr 21 0)), (4, (AV.ptr 4 0)), (6, (AV.v (.int .i64 u9.2.1))), (7, (AV.v (.int .i64 u9.2.2.1))), (8, (AV.mref 1500024)), (9, (AV.v (.int .i64 u9.2.2.2.1)))] [(4, [(AV.list 4 u9.2.2.2.2.1 none), (AV.v (.int .i64 u9.2.2.2.2.2.1)), (AV.v (.int .i64 u9.2.2.2.2.2.2.1))]), (21, [(AV.list 1 u9.2.2.2.2.2.2.2.1 none), (AV.v (.int .i64 u9.2.2.2.2.2.2.2.2.1))]), (1500024, [(AV.mp (MK.mk false false [.int .i64] [.int .i64]) u9.2.2.2.2.2.2.2.2.2)])] (F3_an 9).1.toks 0
  out := fun y => match y with
    | .inl y => (.ret, mkS 141 [(2, (AV.v (.bool y)))] [] (F3_an 9).2.toks 0)
    | .inr y => (.exit 0, mkS 141 [] [] (F3_an 9).2.toks 0)
  sp := fun y α k => match y with
    | .inl y => k (.ret, mkS 141 [(2, (AV.v (.bool y)))] [] (F3_an 9).2.toks 0)
    | .inr y => k (.exit 0, mkS 141 [] [] (F3_an 9).2.toks 0)
  spe := fun y α k => by rcases y with _ | _ <;> rfl
  b := fun u9 α kn ke => (match (decide (u9.2.2.2.1 < 8)) with | true => (match F9_d N (300, u9.2.2.2.2.2.2.2.1, u9.2.2.2.2.2.2.2.2.1) with | some y3 => (match F10_d N (4, y3.2) with | some y4 => (match F11_d N (u9.2.2.2.2.1, u9.2.2.2.2.2.1, u9.2.2.2.2.2.2.1, u9.1, u9.2.1, y4.1, (i64 (u9.2.2.1 + y3.1))) with | some y5 => (match (y5.2.2 != 0) with | true => (ke (.inl false)) | false => (match F3_d25 N (y4.1, y5.1, y5.2.1, y5.2.1, u9.2.1, (i64 (u9.2.2.1 + y3.1)), u9.2.2.2.1, (y5.2.1.length : Int), 0, u9.2.2.2.2.1, u9.2.2.2.2.2.1, u9.2.2.2.2.2.2.1, y4.2.1, y4.2.2, u9.2.2.2.2.2.2.2.2.2) with | some y16 => (match y16 with | .inl z17 => (ke (.inl z17.2.2.1)) | .inr z18 => (kn (z18.1, (i64 (z18.2.2.1 + (z18.2.1.length : Int))), z18.2.2.2.1, (i64 (z18.2.2.2.2.1 + 1)), z18.2.2.2.2.2))) | none => none)) | none => none) | none => none) | none => none) | false => (ke (.inr ())))
noncomputable abbrev F3_d9 (N : Nat) (x : (List (List AV)) × Int × Int × Int × (List (List AV)) × Int × Int × (List (List AV)) × Int × (List (List AV))) : Option ((Bool) ⊕ (Unit)) := (F3_l9 N).L N x
noncomputable def F3_s (N : Nat) : FSpec where
  X := (List (List AV))
  Y := Bool
  ash := [[some 1]]
  bsh := []
  S := ⟨[[none]], [], [], [], []⟩
  bm := false
  pat := fun a b => pCons a fun v1 c2 => pLst 1 v1 fun a0 => pEnd c2 <| pEnd b <| some a0
  args := fun x => [(AV.list 1 x none)]
  bs := fun x => []
  ret := fun y => ⟨(AV.v (.bool y)), [], none, [], [], []⟩
  t := fun x α k => (match F7_d N x with | some y1 => (match F8_d N y1 with | some y2 => (match F3_d9 N (([] : List (List AV)), 0, 1000, 0, y2.1, y2.2.1, y2.2.2.1, y2.2.2.2.1, y2.2.2.2.2, ([] : List (List AV))) with | some y19 => (match y19 with | .inl z20 => (k z20) | .inr z21 => (match F15_d N () with | some y22 => (k y22) | none => none)) | none => none) | none => none) | none => none)
noncomputable abbrev F3_d (N : Nat) (x : (List (List AV))) : Option (Bool) := (F3_s N).d x
theorem F3_par25 (N : Nat) : Par (F3_l25 N).b := by
  intro x α β kn ke kn' ke' r r' h h1 h2
  revert h
  dsimp only [F3_l25]
  (repeat' (first | (with_reducible refine par_ite ?_ ?_) | (with_reducible refine par_both ?_ ?_) | split)) <;> intro h <;> first | exact h1 _ h | exact h2 _ h | (cases h; done)
theorem F3_body25 (N : Nat) (x : (F3_l25 N).X) (α : Type) (kn : AS → Option α) (ke : Out → Option α) : around (tabOf Try.prog) (F3_g N) F3_an (lam N [(9, F3_l9 N), (25, F3_l25 N)]) 25 (bodyOf (nthLoop 25 (Try.f3.body.getD .skip))) ((F3_l25 N).st x) kn ke = (F3_l25 N).b x α (fun x' => kn ((F3_l25 N).st x')) (fun y => (F3_l25 N).sp y α ke) := by kernel_rfl
theorem F3_pat25 (N : Nat) (s : AS) (x : (F3_l25 N).X) (hc : s = canon (F3_an 25).1 s) (h : (F3_l25 N).p s = some x) : s = (F3_l25 N).st x := by
  replace h : pNat _ _ _ = some x := h
  obtain ⟨h1, g0⟩ := pNat_ok h
  obtain ⟨h2, g1⟩ := pNat_ok g0; clear g0
  obtain ⟨a0, h3, g2⟩ := pLst_ok g1; clear g1
  obtain ⟨a1, h4, g3⟩ := pLst_ok g2; clear g2
  obtain ⟨a2, h5, g4⟩ := pLst_ok g3; clear g3
  obtain ⟨a3, h6, g5⟩ := pLst_ok g4; clear g4
  obtain ⟨h7, g6⟩ := pPtr_ok g5; clear g5
  obtain ⟨h8, g7⟩ := pPtr_ok g6; clear g6
  obtain ⟨a4, h9, g8⟩ := pInt_ok g7; clear g7
  obtain ⟨a5, h10, g9⟩ := pInt_ok g8; clear g8
  obtain ⟨h11, g10⟩ := pMref_ok g9; clear g9
  obtain ⟨a6, h12, g11⟩ := pInt_ok g10; clear g10
  obtain ⟨a7, h13, g12⟩ := pInt_ok g11; clear g11
  obtain ⟨a8, h14, g13⟩ := pInt_ok g12; clear g12
  obtain ⟨c15, h16, g14⟩ := pSome_ok g13; clear g13
  obtain ⟨c17, c18, rfl, g15⟩ := pCons_ok g14; clear g14
  obtain ⟨a9, rfl, g16⟩ := pLst_ok g15; clear g15
  obtain ⟨c19, c20, rfl, g17⟩ := pCons_ok g16; clear g16
  obtain ⟨a10, rfl, g18⟩ := pInt_ok g17; clear g17
  obtain ⟨c21, c22, rfl, g19⟩ := pCons_ok g18; clear g18
  obtain ⟨a11, rfl, g20⟩ := pInt_ok g19; clear g19
  obtain ⟨rfl, g21⟩ := pEnd_ok g20; clear g20
  obtain ⟨c23, h24, g22⟩ := pSome_ok g21; clear g21
  obtain ⟨c25, c26, rfl, g23⟩ := pCons_ok g22; clear g22
  obtain ⟨a12, rfl, g24⟩ := pLst_ok g23; clear g23
  obtain ⟨c27, c28, rfl, g25⟩ := pCons_ok g24; clear g24
  obtain ⟨a13, rfl, g26⟩ := pInt_ok g25; clear g25
  obtain ⟨rfl, g27⟩ := pEnd_ok g26; clear g26
  obtain ⟨c29, h30, g28⟩ := pSome_ok g27; clear g27
  obtain ⟨a14, rfl, g29⟩ := pMp_ok g28; clear g28
  clear h
  cases g29
  exact canon_mk hc h1 h2 rfl rfl rfl ⟨h3, h4, h5, h6, h7, h8, h9, h10, h11, h12, h13, h14, trivial⟩ ⟨h16, h24, h30, trivial⟩
theorem F3_loop25 (N : Nat) : ∀ s o, s = canon (F3_an 25).1 s → (lam N [(9, F3_l9 N), (25, F3_l25 N)]).v 25 s = some o → LoopSem Try.prog (nthLoop 25 (Try.f3.body.getD .skip)) s o :=
  loop_ok (tabOf_ok Try.prog) (gam_ok _) mixed F3_an N [(9, F3_l9 N), (25, F3_l25 N)] 25 (bodyOf (nthLoop 25 (Try.f3.body.getD .skip))) (nthLoop 25 (Try.f3.body.getD .skip)) (by kernel_rfl) (by
    have e : actOf F3_an (bodyOf (nthLoop 25 (Try.f3.body.getD .skip))) (25 + 1) = [] := by kernel_rfl
    rw [e]
    intro p hp
    cases hp) (F3_l25 N) rfl (fun s x hc h => F3_pat25 N s x hc h) (fun x => rfl) (fun x α kn ke => (F3_body25 N x α kn ke).trans (congrArg ((F3_l25 N).b x α _) (funext fun y => (F3_l25 N).spe y α ke))) (F3_par25 N)
theorem F3_par9 (N : Nat) : Par (F3_l9 N).b := by
  intro x α β kn ke kn' ke' r r' h h1 h2
  revert h
  dsimp only [F3_l9]
  (repeat' (first | (with_reducible refine par_ite ?_ ?_) | (with_reducible refine par_both ?_ ?_) | split)) <;> intro h <;> first | exact h1 _ h | exact h2 _ h | (cases h; done)
theorem F3_body9 (N : Nat) (x : (F3_l9 N).X) (α : Type) (kn : AS → Option α) (ke : Out → Option α) : around (tabOf Try.prog) (F3_g N) F3_an (lam N [(9, F3_l9 N), (25, F3_l25 N)]) 9 (bodyOf (nthLoop 9 (Try.f3.body.getD .skip))) ((F3_l9 N).st x) kn ke = (F3_l9 N).b x α (fun x' => kn ((F3_l9 N).st x')) (fun y => (F3_l9 N).sp y α ke) := by kernel_rfl
theorem F3_pat9 (N : Nat) (s : AS) (x : (F3_l9 N).X) (hc : s = canon (F3_an 9).1 s) (h : (F3_l9 N).p s = some x) : s = (F3_l9 N).st x := by
  replace h : pNat _ _ _ = some x := h
  obtain ⟨h1, g0⟩ := pNat_ok h
  obtain ⟨h2, g1⟩ := pNat_ok g0; clear g0
  obtain ⟨a0, h3, g2⟩ := pLst_ok g1; clear g1
  obtain ⟨h4, g3⟩ := pPtr_ok g2; clear g2
  obtain ⟨h5, g4⟩ := pPtr_ok g3; clear g3
  obtain ⟨a1, h6, g5⟩ := pInt_ok g4; clear g4
  obtain ⟨a2, h7, g6⟩ := pInt_ok g5; clear g5
  obtain ⟨h8, g7⟩ := pMref_ok g6; clear g6
  obtain ⟨a3, h9, g8⟩ := pInt_ok g7; clear g7
  obtain ⟨c10, h11, g9⟩ := pSome_ok g8; clear g8
  obtain ⟨c12, c13, rfl, g10⟩ := pCons_ok g9; clear g9
  obtain ⟨a4, rfl, g11⟩ := pLst_ok g10; clear g10
  obtain ⟨c14, c15, rfl, g12⟩ := pCons_ok g11; clear g11
  obtain ⟨a5, rfl, g13⟩ := pInt_ok g12; clear g12
  obtain ⟨c16, c17, rfl, g14⟩ := pCons_ok g13; clear g13
  obtain ⟨a6, rfl, g15⟩ := pInt_ok g14; clear g14
  obtain ⟨rfl, g16⟩ := pEnd_ok g15; clear g15
  obtain ⟨c18, h19, g17⟩ := pSome_ok g16; clear g16
  obtain ⟨c20, c21, rfl, g18⟩ := pCons_ok g17; clear g17
  obtain ⟨a7, rfl, g19⟩ := pLst_ok g18; clear g18
  obtain ⟨c22, c23, rfl, g20⟩ := pCons_ok g19; clear g19
  obtain ⟨a8, rfl, g21⟩ := pInt_ok g20; clear g20
  obtain ⟨rfl, g22⟩ := pEnd_ok g21; clear g21
  obtain ⟨c24, h25, g23⟩ := pSome_ok g22; clear g22
  obtain ⟨a9, rfl, g24⟩ := pMp_ok g23; clear g23
  clear h
  cases g24
  exact canon_mk hc h1 h2 rfl rfl rfl ⟨h3, h4, h5, h6, h7, h8, h9, trivial⟩ ⟨h11, h19, h25, trivial⟩
theorem F3_loop9 (N : Nat) : ∀ s o, s = canon (F3_an 9).1 s → (lam N [(9, F3_l9 N), (25, F3_l25 N)]).v 9 s = some o → LoopSem Try.prog (nthLoop 9 (Try.f3.body.getD .skip)) s o :=
  loop_ok (tabOf_ok Try.prog) (gam_ok _) mixed F3_an N [(9, F3_l9 N), (25, F3_l25 N)] 9 (bodyOf (nthLoop 9 (Try.f3.body.getD .skip))) (nthLoop 9 (Try.f3.body.getD .skip)) (by kernel_rfl) (by
    have e : actOf F3_an (bodyOf (nthLoop 9 (Try.f3.body.getD .skip))) (9 + 1) = [(25, nthLoop 25 (Try.f3.body.getD .skip))] := by kernel_rfl
    rw [e]
    intro p hp
    rcases List.mem_cons.1 hp with rfl | hp
    · exact F3_loop25 N
    cases hp) (F3_l9 N) rfl (fun s x hc h => F3_pat9 N s x hc h) (fun x => rfl) (fun x α kn ke => (F3_body9 N x α kn ke).trans (congrArg ((F3_l9 N).b x α _) (funext fun y => (F3_l9 N).spe y α ke))) (F3_par9 N)
theorem F3_parF (N : Nat) : ParF (F3_s N).t := by
  intro x α β k k' r r' h h1
  revert h
  dsimp only [F3_s]
  (repeat' (first | (with_reducible refine par_ite ?_ ?_) | (with_reducible refine par_both ?_ ?_) | split)) <;> intro h <;> first | exact h1 _ h | (cases h; done)
theorem F3_text (N : Nat) (x : (F3_s N).X) : acall (tabOf Try.prog) (F3_g N) F3_an (lam N [(9, F3_l9 N), (25, F3_l25 N)]) Try.f3 (F3_s N).S ((F3_s N).args x) ((F3_s N).bs x) = (F3_s N).t x Ret (fun y => some ((F3_s N).ret y)) := by kernel_rfl
theorem F3_pat (N : Nat) (a : List AV) (b : List (List AV)) (x : (F3_s N).X) (h : (F3_s N).pat a b = some x) : a = (F3_s N).args x ∧ b = (F3_s N).bs x := by
  obtain ⟨v1, c2, rfl, g0⟩ := pCons_ok (show pCons _ _ = some x from h)
  obtain ⟨a0, rfl, g1⟩ := pLst_ok g0; clear g0
  obtain ⟨rfl, g2⟩ := pEnd_ok g1; clear g1
  obtain ⟨rfl, g3⟩ := pEnd_ok g2; clear g2
  clear h
  cases g3
  exact ⟨rfl, rfl⟩
noncomputable def F3_e (N : Nat) : Ent Try.prog := entOf (tabOf_ok Try.prog) (gam_ok _) mixed 3 Try.f3 Try.func3 rfl F3_an (lam N [(9, F3_l9 N), (25, F3_l25 N)]) (by
    have e : actOf F3_an (Try.f3.body.getD .skip) 0 = [(9, nthLoop 9 (Try.f3.body.getD .skip)), (25, nthLoop 25 (Try.f3.body.getD .skip))] := by kernel_rfl
    rw [e]
    intro p hp
    rcases List.mem_cons.1 hp with rfl | hp
    · exact F3_loop9 N
    rcases List.mem_cons.1 hp with rfl | hp
    · exact F3_loop25 N
    cases hp) (F3_s N) (fun _ => ⟨rfl, rfl⟩) (F3_text N) (F3_pat N) (F3_parF N)
end Go.Proofs.Ytnnfpoelkdgjdaa
end
section
namespace Go.Proofs.Ytnnfpoelkdgjdaa
set_option linter.unusedVariables false
set_option linter.unusedSimpArgs false
set_option linter.unnecessarySimpa false
def rowsI (xs : List Int) : List (List AV) := xs.map fun x => [I x]
theorem i64_id {x : Int} (h : -9223372036854775808 ≤ x ∧ x ≤ 9223372036854775807) : i64 x = x := IntWalk.i64_in _ (by omega)
theorem rowsI_len (xs : List Int) : (rowsI xs).length = xs.length := by simp [rowsI]
theorem rowsI_get (xs : List Int) (k : Nat) (h : k < xs.length) : (rowsI xs)[k]? = some [I xs[k]] := by simp [rowsI, h]
structure Sc (xs : List Int) (p : Int) : Prop where
  l : xs.length ≤ 2000
  p0 : 0 ≤ p
  p1 : p ≤ xs.length
theorem raw_ok (N : Nat) {xs : List Int} {p : Int} (D : Sc xs p) : ∃ v p', F25_d N (rowsI xs, p) = some (v, rowsI xs, p') ∧ Sc xs p' := by
  obtain ⟨l, p0, p1⟩ := D
  simp only [F25_d, FSpec.d, F25_s]
  by_cases h : p ≥ ((rowsI xs).length : Int)
  · simp only [h, decide_true]
    exact ⟨0, p, rfl, ⟨l, p0, p1⟩⟩
  · have h0 := h
    rw [rowsI_len] at h0
    have h2 : p.toNat < xs.length := by omega
    have hp : i64 (p + 1) = p + 1 := i64_id (by omega)
    have hq : i64 (p + 1 - 1) = p := by rw [i64_id (by omega)]; omega
    simp only [h, decide_false, hp, hq, p0, if_true, rowsI_get xs _ h2, List.getElem?_cons_zero]
    exact ⟨_, _, rfl, ⟨l, by omega, by omega⟩⟩
theorem mod_ok (N : Nat) (v : Int) {n : Int} (hn : 1 ≤ n ∧ n ≤ 1000000) : ∃ r, F24_d N (v, n) = some r ∧ 0 ≤ r ∧ r < n := by
  simp only [F24_d, FSpec.d, F24_s]
  have h1 : ¬ n < 1 := by omega
  have h3 : ¬ n = 0 := by omega
  simp only [h1, decide_false, h3, if_false]
  by_cases hneg : v.tmod n < 0
  · simp only [hneg, decide_true]
    have t1 : -n < v.tmod n := by
      have := Int.tmod_lt_of_pos (-v) (show 0 < n by omega)
      rw [Int.neg_tmod] at this
      omega
    rw [i64_id (by omega)]
    exact ⟨_, rfl, by omega, by omega⟩
  · simp only [hneg, decide_false]
    have t1 := Int.tmod_lt_of_pos v (show 0 < n by omega)
    exact ⟨_, rfl, by omega, by omega⟩
theorem n_ok (N : Nat) {n : Int} {xs : List Int} {p : Int} (hn : 1 ≤ n ∧ n ≤ 1000000) (D : Sc xs p) : ∃ v p', F9_d N (n, rowsI xs, p) = some (v, rowsI xs, p') ∧ (0 ≤ v ∧ v < n) ∧ Sc xs p' := by
  obtain ⟨v, p', h1, h2⟩ := raw_ok N D
  obtain ⟨r, h3, h4⟩ := mod_ok N v hn
  refine ⟨r, p', ?_, h4, h2⟩
  simp only [F9_d, FSpec.d, F9_s]
  simp only [h1, h3]
theorem pick_ok (N : Nat) (O : List Int) {xs : List Int} {p : Int} (hO : 1 ≤ O.length ∧ O.length ≤ 1000) (D : Sc xs p) : ∃ v p', F23_d N (rowsI O, rowsI xs, p) = some (v, rowsI xs, p') ∧ v ∈ O ∧ Sc xs p' := by
  simp only [F23_d, FSpec.d, F23_s]
  obtain ⟨v, p', h1, h2, h3⟩ := n_ok N (n := (O.length : Int)) (by omega) D
  rw [rowsI_len, h1]
  have h4 : v.toNat < O.length := by omega
  simp only [h2.1, if_true, rowsI_get O _ h4, List.getElem?_cons_zero]
  exact ⟨_, _, rfl, List.getElem_mem h4, h3⟩
theorem new_ok (N : Nat) (xs : List Int) : F7_d N (rowsI xs) = some (rowsI (xs.take 2000), 0) ∧ Sc (xs.take 2000) 0 := by
  refine ⟨?_, ⟨by simp; omega, by omega, by omega⟩⟩
  simp only [F7_d, FSpec.d, F7_s, rowsI_len]
  by_cases h : 2000 < (xs.length : Int)
  · have h2 : (0 ≤ (2000 : Int) ∧ (2000 : Int) ≤ xs.length) := by omega
    simp only [h, if_true, h2, and_self]
    simp [rowsI]
  · have h2 : (0 ≤ (xs.length : Int) ∧ (xs.length : Int) ≤ xs.length) := by omega
    simp only [h, if_false, h2, and_self, if_true]
    rw [List.take_of_length_le (by rw [rowsI_len]; omega), List.take_of_length_le (by omega)]
section
variable {T : Type} (en : T → List AV) (n : Nat) (hl : ∀ e, (en e).length = n)
def fl (L : List T) : List AV := (L.map en).flatten
include hl
theorem fl_len (L : List T) : (fl en L).length = L.length * n := by
  induction L with
  | nil => simp [fl]
  | cons a L ih =>
    show ((en a) ++ fl en L).length = _
    rw [List.length_append, ih, hl, List.length_cons, Nat.succ_mul, Nat.add_comm]
theorem fl_drop : ∀ (L : List T) (i j : Nat) (h : i < L.length), j ≤ n → (fl en L).drop (i * n + j) = (en L[i]).drop j ++ fl en (L.drop (i + 1))
  | a :: L, 0, j, h, hj => by
    show ((en a) ++ fl en L).drop (0 * n + j) = _
    rw [Nat.zero_mul, Nat.zero_add, List.drop_append_of_le_length (by rw [hl]; exact hj)]
    rfl
  | a :: L, i + 1, j, h, hj => by
    show ((en a) ++ fl en L).drop ((i + 1) * n + j) = _
    have e : (i + 1) * n + j = (en a).length + (i * n + j) := by rw [hl, Nat.succ_mul]; omega
    rw [e, List.drop_append, List.drop_eq_nil_of_le (by omega), Nat.add_sub_cancel_left, List.nil_append, fl_drop L i j (by simpa using h) hj]
    rfl
theorem fl_get (L : List T) (i j : Nat) (h : i < L.length) (hj : j < n) : (fl en L)[i * n + j]? = (en L[i])[j]? := by
  have := congrArg (fun l : List AV => l[0]?) (fl_drop en n hl L i j h (Nat.le_of_lt hj))
  simp only [List.getElem?_drop, Nat.add_zero] at this
  rw [this, List.getElem?_append_left (by rw [List.length_drop, hl]; omega)]
  simp
omit hl in
theorem fl_app (L : List T) (a : T) : fl en L ++ en a = fl en (L ++ [a]) := by
  unfold fl
  rw [List.map_append, List.flatten_append]
  simp
theorem fl_take (L : List T) (k : Nat) (hk : k = L.length) : (fl en L).take (k * n) = fl en L := by
  rw [List.take_of_length_le]
  rw [fl_len en n hl, hk]
  exact Nat.le_refl _
omit hl in
theorem fl_dat (hd : ∀ e, (en e).map dat0 = en e) (L : List T) : (fl en L).map dat0 = fl en L := by
  induction L with
  | nil => rfl
  | cons a L ih =>
    show ((en a) ++ fl en L).map dat0 = (en a) ++ fl en L
    rw [List.map_append, ih, hd]
theorem fl_chunks0 (hd : ∀ e, (en e).map dat0 = en e) : ∀ L : List T, chunks (fl en L) n L.length = L.map en
  | [] => rfl
  | a :: L => by
    show ((((en a) ++ fl en L).take n).map dat0) :: chunks (((en a) ++ fl en L).drop n) n L.length = en a :: L.map en
    have e1 : ((en a) ++ fl en L).take n = en a := by rw [← hl a, List.take_left]
    have e2 : ((en a) ++ fl en L).drop n = fl en L := by rw [← hl a, List.drop_left]
    rw [e1, e2, hd, fl_chunks0 hd L]
theorem fl_chunks (hd : ∀ e, (en e).map dat0 = en e) (L : List T) (k : Nat) (hk : k = L.length) : chunks ((fl en L).take (k * n)) n k = L.map en := by
  rw [fl_take en n hl L k hk, hk, fl_chunks0 en n hl hd L]
theorem fl_splice (L : List T) (i j : Nat) (h : i < L.length) (new : List AV) (b : T) (hb : splice (en L[i]) j new = en b) (hj : j + new.length ≤ n) : splice (fl en L) (i * n + j) new = fl en (L.set i b) := by
  have hlen : i * n + j + new.length ≤ (fl en L).length := by
    rw [fl_len en n hl]
    have : (i + 1) * n ≤ L.length * n := Nat.mul_le_mul_right n h
    rw [Nat.succ_mul] at this
    omega
  refine List.ext_getElem? fun k => ?_
  rw [splice_get new _ _ hlen]
  by_cases hn : n = 0
  · have e1 : ∀ L' : List T, fl en L' = [] := fun L' => List.eq_nil_of_length_eq_zero (by rw [fl_len en n hl, hn, Nat.mul_zero])
    rw [e1, e1]
    have : ¬ (i * n + j ≤ k ∧ k < i * n + j + new.length) := by omega
    rw [if_neg this]
  have hpos : 0 < n := Nat.pos_of_ne_zero hn
  by_cases hk : k < L.length * n
  · obtain ⟨q, r, hq, hr, rfl⟩ : ∃ q r, q < L.length ∧ r < n ∧ k = q * n + r := ⟨k / n, k % n, (Nat.div_lt_iff_lt_mul hpos).2 hk, Nat.mod_lt _ hpos, by rw [Nat.mul_comm]; exact (Nat.div_add_mod k n).symm⟩
    rw [fl_get en n hl L q r hq hr, fl_get en n hl (L.set i b) q r (by simpa using hq) hr, List.getElem_set]
    by_cases e : i = q
    · subst e
      simp only [if_true]
      rw [← hb, splice_get new _ _ (by rw [hl]; exact hj)]
      have c : (i * n + j ≤ i * n + r ∧ i * n + r < i * n + j + new.length) ↔ (j ≤ r ∧ r < j + new.length) := by omega
      by_cases c2 : j ≤ r ∧ r < j + new.length
      · rw [if_pos (c.2 c2), if_pos c2]
        congr 1
        omega
      · rw [if_neg (fun x => c2 (c.1 x)), if_neg c2]
    · rw [if_neg e, if_neg]
      rintro ⟨c1, c2⟩
      rcases Nat.lt_or_gt_of_ne e with h1 | h1
      · have : (i + 1) * n ≤ q * n := Nat.mul_le_mul_right n h1
        rw [Nat.succ_mul] at this
        omega
      · have : (q + 1) * n ≤ i * n := Nat.mul_le_mul_right n h1
        rw [Nat.succ_mul] at this
        omega
  · have e1 : (fl en L)[k]? = none := List.getElem?_eq_none (by rw [fl_len en n hl]; omega)
    have e2 : (fl en (L.set i b))[k]? = none := List.getElem?_eq_none (by rw [fl_len en n hl, List.length_set]; omega)
    have : ¬ (i * n + j ≤ k ∧ k < i * n + j + new.length) := by
      rw [fl_len en n hl] at hlen
      omega
    rw [if_neg this, e1, e2]
end
end Go.Proofs.Ytnnfpoelkdgjdaa
end
section
namespace Go.Proofs.Ytnnfpoelkdgjdaa
set_option linter.unusedVariables false
set_option linter.unusedSimpArgs false
set_option linter.unnecessarySimpa false
@[reducible] def nmE (e : RT0) : RT1 := (e.1, e.2.1, e.2.2.1, e.2.2.2.1, e.2.2.2.2.1, e.2.2.2.2.2.1, e.2.2.2.2.2.2.1, e.2.2.2.2.2.2.2.1, e.2.2.2.2.2.2.2.2.1, ())
@[reducible] def pkE (e : RT0) : List (List AV) := e.2.2.2.2.2.2.2.2.2.1
@[reducible] def loE (e : RT0) : Int := e.2.2.2.2.2.2.2.2.2.2.2.2.2.2.2.2.2.2.2.2.2.2.1
@[reducible] def hiE (e : RT0) : Int := e.2.2.2.2.2.2.2.2.2.2.2.2.2.2.2.2.2.2.2.2.2.2.2.1
@[reducible] def idA (a : RT3) : Int := a.1
@[reducible] def wdA (a : RT3) : Bool := a.2.1
@[reducible] def nmA (a : RT3) : RT1 := (a.2.2.1, a.2.2.2.1, a.2.2.2.2.1, a.2.2.2.2.2.1, a.2.2.2.2.2.2.1, a.2.2.2.2.2.2.2.1, a.2.2.2.2.2.2.2.2.1, a.2.2.2.2.2.2.2.2.2.1, a.2.2.2.2.2.2.2.2.2.2.1, ())
@[reducible] def lvA (a : RT3) : Int := a.2.2.2.2.2.2.2.2.2.2.2.1
@[reducible] def evA (a : RT3) : RT0 := (a.2.2.2.2.2.2.2.2.2.2.2.2.1, a.2.2.2.2.2.2.2.2.2.2.2.2.2.1, a.2.2.2.2.2.2.2.2.2.2.2.2.2.2.1, a.2.2.2.2.2.2.2.2.2.2.2.2.2.2.2.1, a.2.2.2.2.2.2.2.2.2.2.2.2.2.2.2.2.1, a.2.2.2.2.2.2.2.2.2.2.2.2.2.2.2.2.2.1, a.2.2.2.2.2.2.2.2.2.2.2.2.2.2.2.2.2.2.1, a.2.2.2.2.2.2.2.2.2.2.2.2.2.2.2.2.2.2.2.1, a.2.2.2.2.2.2.2.2.2.2.2.2.2.2.2.2.2.2.2.2.1, a.2.2.2.2.2.2.2.2.2.2.2.2.2.2.2.2.2.2.2.2.2.1, a.2.2.2.2.2.2.2.2.2.2.2.2.2.2.2.2.2.2.2.2.2.2.1, a.2.2.2.2.2.2.2.2.2.2.2.2.2.2.2.2.2.2.2.2.2.2.2.1, a.2.2.2.2.2.2.2.2.2.2.2.2.2.2.2.2.2.2.2.2.2.2.2.2.1, a.2.2.2.2.2.2.2.2.2.2.2.2.2.2.2.2.2.2.2.2.2.2.2.2.2.1, a.2.2.2.2.2.2.2.2.2.2.2.2.2.2.2.2.2.2.2.2.2.2.2.2.2.2.1, a.2.2.2.2.2.2.2.2.2.2.2.2.2.2.2.2.2.2.2.2.2.2.2.2.2.2.2.1, a.2.2.2.2.2.2.2.2.2.2.2.2.2.2.2.2.2.2.2.2.2.2.2.2.2.2.2.2.1, a.2.2.2.2.2.2.2.2.2.2.2.2.2.2.2.2.2.2.2.2.2.2.2.2.2.2.2.2.2.1, a.2.2.2.2.2.2.2.2.2.2.2.2.2.2.2.2.2.2.2.2.2.2.2.2.2.2.2.2.2.2.1, a.2.2.2.2.2.2.2.2.2.2.2.2.2.2.2.2.2.2.2.2.2.2.2.2.2.2.2.2.2.2.2.1, a.2.2.2.2.2.2.2.2.2.2.2.2.2.2.2.2.2.2.2.2.2.2.2.2.2.2.2.2.2.2.2.2.1, a.2.2.2.2.2.2.2.2.2.2.2.2.2.2.2.2.2.2.2.2.2.2.2.2.2.2.2.2.2.2.2.2.2.1, a.2.2.2.2.2.2.2.2.2.2.2.2.2.2.2.2.2.2.2.2.2.2.2.2.2.2.2.2.2.2.2.2.2.2.1, a.2.2.2.2.2.2.2.2.2.2.2.2.2.2.2.2.2.2.2.2.2.2.2.2.2.2.2.2.2.2.2.2.2.2.2.1, a.2.2.2.2.2.2.2.2.2.2.2.2.2.2.2.2.2.2.2.2.2.2.2.2.2.2.2.2.2.2.2.2.2.2.2.2.1, ())
@[reducible] def atA (a : RT3) : Int := a.2.2.2.2.2.2.2.2.2.2.2.2.2.2.2.2.2.2.2.2.2.2.2.2.2.2.2.2.2.2.2.2.2.2.2.2.2.1
def mkA (id : Int) (wd : Bool) (nm : RT1) (lv : Int) (ev : RT0) (at_ : Int) : RT3 := (id, wd, nm.1, nm.2.1, nm.2.2.1, nm.2.2.2.1, nm.2.2.2.2.1, nm.2.2.2.2.2.1, nm.2.2.2.2.2.2.1, nm.2.2.2.2.2.2.2.1, nm.2.2.2.2.2.2.2.2.1, lv, ev.1, ev.2.1, ev.2.2.1, ev.2.2.2.1, ev.2.2.2.2.1, ev.2.2.2.2.2.1, ev.2.2.2.2.2.2.1, ev.2.2.2.2.2.2.2.1, ev.2.2.2.2.2.2.2.2.1, ev.2.2.2.2.2.2.2.2.2.1, ev.2.2.2.2.2.2.2.2.2.2.1, ev.2.2.2.2.2.2.2.2.2.2.2.1, ev.2.2.2.2.2.2.2.2.2.2.2.2.1, ev.2.2.2.2.2.2.2.2.2.2.2.2.2.1, ev.2.2.2.2.2.2.2.2.2.2.2.2.2.2.1, ev.2.2.2.2.2.2.2.2.2.2.2.2.2.2.2.1, ev.2.2.2.2.2.2.2.2.2.2.2.2.2.2.2.2.1, ev.2.2.2.2.2.2.2.2.2.2.2.2.2.2.2.2.2.1, ev.2.2.2.2.2.2.2.2.2.2.2.2.2.2.2.2.2.2.1, ev.2.2.2.2.2.2.2.2.2.2.2.2.2.2.2.2.2.2.2.1, ev.2.2.2.2.2.2.2.2.2.2.2.2.2.2.2.2.2.2.2.2.1, ev.2.2.2.2.2.2.2.2.2.2.2.2.2.2.2.2.2.2.2.2.2.1, ev.2.2.2.2.2.2.2.2.2.2.2.2.2.2.2.2.2.2.2.2.2.2.1, ev.2.2.2.2.2.2.2.2.2.2.2.2.2.2.2.2.2.2.2.2.2.2.2.1, ev.2.2.2.2.2.2.2.2.2.2.2.2.2.2.2.2.2.2.2.2.2.2.2.2.1, at_, ())
@[reducible] def nuB (a : RT6) : Int := a.1
@[reducible] def kiB (a : RT6) : Int := a.2.1
@[reducible] def idB (a : RT6) : Int := a.2.2.1
@[reducible] def atB (a : RT6) : Int := a.2.2.2.1
@[reducible] def lvB (a : RT6) : Int := a.2.2.2.2.1
@[reducible] def evB (a : RT6) : RT0 := (a.2.2.2.2.2.1, a.2.2.2.2.2.2.1, a.2.2.2.2.2.2.2.1, a.2.2.2.2.2.2.2.2.1, a.2.2.2.2.2.2.2.2.2.1, a.2.2.2.2.2.2.2.2.2.2.1, a.2.2.2.2.2.2.2.2.2.2.2.1, a.2.2.2.2.2.2.2.2.2.2.2.2.1, a.2.2.2.2.2.2.2.2.2.2.2.2.2.1, a.2.2.2.2.2.2.2.2.2.2.2.2.2.2.1, a.2.2.2.2.2.2.2.2.2.2.2.2.2.2.2.1, a.2.2.2.2.2.2.2.2.2.2.2.2.2.2.2.2.1, a.2.2.2.2.2.2.2.2.2.2.2.2.2.2.2.2.2.1, a.2.2.2.2.2.2.2.2.2.2.2.2.2.2.2.2.2.2.1, a.2.2.2.2.2.2.2.2.2.2.2.2.2.2.2.2.2.2.2.1, a.2.2.2.2.2.2.2.2.2.2.2.2.2.2.2.2.2.2.2.2.1, a.2.2.2.2.2.2.2.2.2.2.2.2.2.2.2.2.2.2.2.2.2.1, a.2.2.2.2.2.2.2.2.2.2.2.2.2.2.2.2.2.2.2.2.2.2.1, a.2.2.2.2.2.2.2.2.2.2.2.2.2.2.2.2.2.2.2.2.2.2.2.1, a.2.2.2.2.2.2.2.2.2.2.2.2.2.2.2.2.2.2.2.2.2.2.2.2.1, a.2.2.2.2.2.2.2.2.2.2.2.2.2.2.2.2.2.2.2.2.2.2.2.2.2.1, a.2.2.2.2.2.2.2.2.2.2.2.2.2.2.2.2.2.2.2.2.2.2.2.2.2.2.1, a.2.2.2.2.2.2.2.2.2.2.2.2.2.2.2.2.2.2.2.2.2.2.2.2.2.2.2.1, a.2.2.2.2.2.2.2.2.2.2.2.2.2.2.2.2.2.2.2.2.2.2.2.2.2.2.2.2.1, a.2.2.2.2.2.2.2.2.2.2.2.2.2.2.2.2.2.2.2.2.2.2.2.2.2.2.2.2.2.1, ())
def mkB (nu ki id at_ lv : Int) (ev : RT0) : RT6 := (nu, ki, id, at_, lv, ev.1, ev.2.1, ev.2.2.1, ev.2.2.2.1, ev.2.2.2.2.1, ev.2.2.2.2.2.1, ev.2.2.2.2.2.2.1, ev.2.2.2.2.2.2.2.1, ev.2.2.2.2.2.2.2.2.1, ev.2.2.2.2.2.2.2.2.2.1, ev.2.2.2.2.2.2.2.2.2.2.1, ev.2.2.2.2.2.2.2.2.2.2.2.1, ev.2.2.2.2.2.2.2.2.2.2.2.2.1, ev.2.2.2.2.2.2.2.2.2.2.2.2.2.1, ev.2.2.2.2.2.2.2.2.2.2.2.2.2.2.1, ev.2.2.2.2.2.2.2.2.2.2.2.2.2.2.2.1, ev.2.2.2.2.2.2.2.2.2.2.2.2.2.2.2.2.1, ev.2.2.2.2.2.2.2.2.2.2.2.2.2.2.2.2.2.1, ev.2.2.2.2.2.2.2.2.2.2.2.2.2.2.2.2.2.2.1, ev.2.2.2.2.2.2.2.2.2.2.2.2.2.2.2.2.2.2.2.1, ev.2.2.2.2.2.2.2.2.2.2.2.2.2.2.2.2.2.2.2.2.1, ev.2.2.2.2.2.2.2.2.2.2.2.2.2.2.2.2.2.2.2.2.2.1, ev.2.2.2.2.2.2.2.2.2.2.2.2.2.2.2.2.2.2.2.2.2.2.1, ev.2.2.2.2.2.2.2.2.2.2.2.2.2.2.2.2.2.2.2.2.2.2.2.1, ev.2.2.2.2.2.2.2.2.2.2.2.2.2.2.2.2.2.2.2.2.2.2.2.2.1, ())
theorem idA_mk (i : Int) (w : Bool) (n : RT1) (l : Int) (e : RT0) (t : Int) : idA (mkA i w n l e t) = i := rfl
theorem nmA_mk (i : Int) (w : Bool) (n : RT1) (l : Int) (e : RT0) (t : Int) : nmA (mkA i w n l e t) = n := rfl
theorem evA_mk (i : Int) (w : Bool) (n : RT1) (l : Int) (e : RT0) (t : Int) : evA (mkA i w n l e t) = e := rfl
def z10 (c : Nat) : RT10 := ((⟨#[]⟩ : ByteArray), (⟨#[]⟩ : ByteArray), (⟨#[]⟩ : ByteArray), (⟨#[]⟩ : ByteArray), 0, 0, 0, 0, 0, c, 0, 0, 0, 0, 0, 0, 0, 0, 0, 0, 0, 0, 0, 0, 0, ())
def z8 : RT8 := ((⟨#[]⟩ : ByteArray), (⟨#[]⟩ : ByteArray), (⟨#[]⟩ : ByteArray), (⟨#[]⟩ : ByteArray), 0, 0, 0, 0, 0, ([] : List (List AV)), 0, 0, 0, 0, 0, 0, 0, 0, 0, 0, 0, 0, 0, 0, 0, ())
def AB : ByteArray := ⟨#[65, 66]⟩
def LC : ByteArray := ⟨#[48, 48]⟩
def CH : ByteArray := ⟨#[66, 72, 90]⟩
def st : Nat → ByteArray
  | 0 => ⟨#[83, 49]⟩
  | 1 => ⟨#[83, 50]⟩
  | 2 => ⟨#[83, 51]⟩
  | _ => ⟨#[83, 52]⟩
theorem src_ok (k : Nat) (h : k < 4) : F35_d 600 (k : Int) = some (AB, st k, LC, CH, ()) := by
  rcases (show k = 0 ∨ k = 1 ∨ k = 2 ∨ k = 3 by omega) with rfl | rfl | rfl | rfl <;> kernel_rfl
theorem place_ok {xs : List Int} {p : Int} (D : Sc xs p) : ∃ x y z p', F42_d 600 (20, rowsI xs, p) = some (x, y, z, rowsI xs, p') ∧ Sc xs p' := by
  obtain ⟨v1, p1, h1, m1, D1⟩ := n_ok 600 (n := 41) (by omega) D
  obtain ⟨v2, p2, h2, m2, D2⟩ := n_ok 600 (n := 41) (by omega) D1
  obtain ⟨v3, p3, h3, m3, D3⟩ := n_ok 600 (n := 21) (by omega) D2
  simp only [F42_d, FSpec.d, F42_s]
  have e1 : i64 (i64 (2 * 20) + 1) = 41 := by decide
  have e2 : i64 (20 + 1) = 21 := by decide
  simp only [e1, e2, h1, h2, h3]
  exact ⟨_, _, _, _, rfl, D3⟩
def OldPk (k : Nat) (p : RT1) : Prop := p.1 = AB ∧ p.2.1 = st k ∧ p.2.2.1 = LC ∧ p.2.2.2.1 = CH ∧ p.2.2.2.2.2.2.2.2.1 = 0
theorem fl1 (L : List RT1) : (fl Ren1 L).map dat0 = fl Ren1 L := fl_dat Ren1 (fun _ => rfl) L
theorem fl0 (L : List RT0) : (fl Ren0 L).map dat0 = fl Ren0 L := fl_dat Ren0 (fun _ => rfl) L
theorem len1 (L : List RT1) : (fl Ren1 L).length = L.length * 9 := fl_len Ren1 9 Ren1_len L
theorem len0 (L : List RT0) : (fl Ren0 L).length = L.length * 25 := fl_len Ren0 25 Ren0_len L
theorem app1 (L : List RT1) (a : RT1) (k : Nat) (hk : k = L.length) : (fl Ren1 L).take (k * 9) ++ [Ren1 a].flatten = fl Ren1 (L ++ [a]) := by
  rw [fl_take Ren1 9 Ren1_len L k hk, ← fl_app]; simp
theorem app0 (L : List RT0) (a : RT0) (k : Nat) (hk : k = L.length) : (fl Ren0 L).take (k * 25) ++ [Ren0 a].flatten = fl Ren0 (L ++ [a]) := by
  rw [fl_take Ren0 25 Ren0_len L k hk, ← fl_app]; simp
theorem ev_loop (t : Int) {xs : List Int} (ht : 0 ≤ t ∧ t ≤ 100000) : ∀ (m k f : Nat) (p : Int) (L : List RT1), k + m = 4 → m < f → Sc xs p → L.length = k → (∀ i (h : i < L.length), OldPk i L[i]) →
    ∃ (L' : List RT1) (p' : Int), (F26a_l6 600).L f (1, t, (k : Int), rowsI xs, p, z8, z10 k, fl Ren1 L) = some (t, rowsI xs, p', z8, z10 L'.length, fl Ren1 L') ∧ (1 ≤ L'.length ∧ L'.length ≤ 4) ∧ (∀ i (h : i < L'.length), OldPk i L'[i]) ∧ Sc xs p' := by
  intro m
  induction m with
  | zero =>
    intro k f p L hk hf D hl hL
    obtain ⟨f, rfl⟩ : ∃ f', f = f' + 1 := ⟨f - 1, by omega⟩
    obtain ⟨v, p1, h1, m1, D1⟩ := n_ok 600 (n := 4) (by omega) D
    refine ⟨L, p1, ?_, by omega, hL, D1⟩
    show (F26a_l6 600).b _ _ ((F26a_l6 600).L f) some = _
    simp only [F26a_l6]
    have e1 : i64 (1 + v) = 1 + v := i64_id (by omega)
    have e2 : decide ((k : Int) < 1 + v) = false := by rw [decide_eq_false_iff_not]; omega
    simp only [h1, e1, e2, fl1, hl]
  | succ m ih =>
    intro k f p L hk hf D hl hL
    obtain ⟨f, rfl⟩ : ∃ f', f = f' + 1 := ⟨f - 1, by omega⟩
    obtain ⟨v, p1, h1, m1, D1⟩ := n_ok 600 (n := 4) (by omega) D
    have e1 : i64 (1 + v) = 1 + v := i64_id (by omega)
    by_cases hc : (k : Int) < 1 + v
    · obtain ⟨u, p2, h2, m2, D2⟩ := n_ok 600 (n := 3) (by omega) D1
      have hs := src_ok k (by omega)
      obtain ⟨q, hq⟩ : ∃ q : RT1, q = (AB, st k, LC, CH, t + 10, t + 10, t + 10 + u, 1, 0, ()) := ⟨_, rfl⟩
      have hfin : ∀ i (h : i < (L ++ [q]).length), OldPk i (L ++ [q])[i] := fun i h => by
        rw [List.getElem_append]
        split
        · exact hL i _
        · simp at h
          obtain rfl : i = k := by omega
          simp [hl, hq, OldPk]
      obtain ⟨L', p', r1, r2, r3, r4⟩ := ih (k + 1) f p2 (L ++ [q]) (by omega) (by omega) D2 (by simp [hl]) hfin
      refine ⟨L', p', ?_, r2, r3, r4⟩
      show (F26a_l6 600).b _ _ ((F26a_l6 600).L f) some = _
      obtain ⟨Lf, hLf⟩ : ∃ Lf, Lf = (F26a_l6 600).L f := ⟨_, rfl⟩
      rw [← hLf] at r1 ⊢
      simp only [F26a_l6]
      have e2 : decide ((k : Int) < 1 + v) = true := by rw [decide_eq_true_iff]; omega
      have e3 : i64 (10 * 1) = 10 := by decide
      have e4 : i64 (t + 10) = t + 10 := i64_id (by omega)
      have e5 : i64 (t + 10 + u) = t + 10 + u := i64_id (by omega)
      have e6 : i64 ((k : Int) + 1) = ((k + 1 : Nat) : Int) := by rw [i64_id (by omega)]; omega
      have hb : ((z10 k).2.2.2.2.2.2.2.2.2.1 * 9 ≤ (fl Ren1 L).length ∧ ((z10 k).2.2.2.2.2.2.2.2.2.1 + [Ren1 q].length) * 104 ≤ maxBytes) := by
        rw [len1]; unfold maxBytes z10; simp; omega
      simp only [h1, e1, e2, hs, h2, e3, e4, e5, e6, ← hq, hb, if_true, and_self]
      rw [app1 L q _ (show (z10 k).2.2.2.2.2.2.2.2.2.1 = _ from hl.symm), fl1]
      exact r1
    · refine ⟨L, p1, ?_, by omega, hL, D1⟩
      show (F26a_l6 600).b _ _ ((F26a_l6 600).L f) some = _
      simp only [F26a_l6]
      have e2 : decide ((k : Int) < 1 + v) = false := by rw [decide_eq_false_iff_not]; omega
      simp only [h1, e1, e2, fl1, hl]
theorem ev_ok {xs : List Int} {p : Int} (D : Sc xs p) : ∃ (e : RT11) (L : List RT1) (p' : Int), F26a_d 600 (1, rowsI xs, p) = some (e, rowsI xs, p', fl Ren1 L) ∧ e.2.2.2.2.2.2.2.2.2.1 = L.length ∧ (1 ≤ L.length ∧ L.length ≤ 4) ∧ (∀ i (h : i < L.length), OldPk i L[i]) ∧ e.2.2.2.2.2.2.2.2.2.2.2.2.2.2.2.2.2.2.2.2.2.2.1 ≤ e.2.2.2.2.2.2.2.2.2.2.2.2.2.2.2.2.2.2.2.2.2.2.2.1 ∧ Sc xs p' := by
  obtain ⟨v, p1, h1, m1, D1⟩ := n_ok 600 (n := 300) (by omega) D
  have e1 : i64 (1000 + v) = 1000 + v := i64_id (by omega)
  obtain ⟨L, p2, h2, hl, hL, D2⟩ := ev_loop (1000 + v) (by omega) 4 0 600 p1 [] rfl (by omega) D1 rfl (fun i h => by cases h)
  obtain ⟨x, y, z, p3, h3, D3⟩ := place_ok D2
  obtain ⟨u4, p4, h4, m4, D4⟩ := n_ok 600 (n := 40) (by omega) D3
  obtain ⟨u5, p5, h5, m5, D5⟩ := pick_ok 600 [0, 0, 5, 500] (by simp) D4
  replace h5 : F23_d 600 ([[AV.v (.int .i64 0)], [AV.v (.int .i64 0)], [AV.v (.int .i64 5)], [AV.v (.int .i64 500)]], rowsI xs, p4) = some (u5, rowsI xs, p5) := h5
  obtain ⟨u6, p6, h6, m6, D6⟩ := n_ok 600 (n := 3) (by omega) D5
  replace h2 : (F26a_l6 600).L 600 (1, 1000 + v, 0, rowsI xs, p1, z8, z10 0, []) = some (1000 + v, rowsI xs, p2, z8, z10 L.length, fl Ren1 L) := h2
  unfold z8 z10 at h2
  simp only [F26a_d, FSpec.d, F26a_s]
  have hd : (fl Ren1 L).drop ((0 + Int.toNat 0) * 9) = Ren1 L[0] ++ fl Ren1 (L.drop 1) := fl_drop Ren1 9 Ren1_len L 0 0 (by omega) (by omega)
  have hz : (0 ≤ (0 : Int) ∧ (0 : Int) < (L.length : Int)) := by omega
  simp only [h1, e1, F26a_d6, h2, hz, and_self, if_true, hd, Rrd1_app, h3, h4, h5, h6]
  by_cases hc : u6 > 0
  · obtain ⟨u7, p7, h7, m7, D7⟩ := n_ok 600 (n := 400) (by omega) D6
    obtain ⟨u8, p8, h8, m8, D8⟩ := n_ok 600 (n := 60) (by omega) D7
    simp only [hc, decide_true, h7, h8, fl1]
    have e9 : i64 (u7 + u8) = u7 + u8 := i64_id (by omega)
    simp only [e9]
    exact ⟨_, _, _, rfl, rfl, hl, hL, by dsimp only; omega, D8⟩
  · simp only [hc, decide_false, fl1]
    exact ⟨_, _, _, rfl, rfl, hl, hL, Int.le_refl 0, D6⟩
def pick (n i : Nat) : RT1 := (AB, st i, LC, CH, 1000 + 400 * n + i, 1000 + 400 * n + i, 1000 + 400 * n + i + 2, 7, 0, ())
def pks (n f c : Nat) : List RT1 := (List.range' f (c - f)).map (pick n)
theorem pks_len (n f c : Nat) : (pks n f c).length = c - f := by simp [pks]
theorem old_pick (n i : Nat) : OldPk i (pick n i) := ⟨rfl, rfl, rfl, rfl, rfl⟩
theorem splice1 (L : List RT1) (k j : Nat) (hk : k < L.length) (hj : j < 9) (a : AV) (b : RT1) (hb : splice (Ren1 L[k]) j [a] = Ren1 b) : splice (fl Ren1 L) ((0 + ((k : Int)).toNat) * 9 + j) [a] = fl Ren1 (L.set k b) := by
  rw [Nat.zero_add, Int.toNat_natCast]
  exact fl_splice Ren1 9 Ren1_len L k j hk [a] b hb (by simp; omega)
theorem upd_loop (m : Int) (cnt n : Nat) (e : RT11) (ob : List AV) (hob : ob.map dat0 = ob) {xs : List Int} (hn : n ≤ 100) : ∀ (d k f : Nat) (p : Int) (L : List RT1), k + d = L.length → d < f → L.length ≤ 4 → e.2.2.2.2.2.2.2.2.2.1 = L.length → (∀ i (h : i < L.length), OldPk i L[i]) → (∀ i (h : i < L.length), i < k → L[i] = pick n i) →
    (F10_l18 600).L f (m, cnt, (n : Int), (L.length : Int), (k : Int), rowsI xs, p, e, fl Ren1 L, ob) = some (m, cnt, (n : Int), rowsI xs, p, e, fl Ren1 (pks n 0 L.length), ob) := by
  intro d
  induction d with
  | zero =>
    intro k f p L hk hf hL he hO hP
    obtain ⟨f, rfl⟩ : ∃ f', f = f' + 1 := ⟨f - 1, by omega⟩
    show (F10_l18 600).b _ _ ((F10_l18 600).L f) some = _
    simp only [F10_l18]
    have e2 : decide ((k : Int) < L.length) = false := by rw [decide_eq_false_iff_not]; omega
    have e3 : L = pks n 0 L.length := by
      refine List.ext_getElem (by simp [pks]) fun i h1 h2 => ?_
      rw [hP i h1 (by omega)]
      simp [pks]
    simp only [e2, fl1, hob]
    rw [← e3]
  | succ d ih =>
    intro k f p L hk hf hL he hO hP
    obtain ⟨f, rfl⟩ : ∃ f', f = f' + 1 := ⟨f - 1, by omega⟩
    have hkl : k < L.length := by omega
    obtain ⟨o1, o2, o3, o4, o5⟩ := hO k hkl
    obtain ⟨q, hq⟩ : ∃ q, L[k] = q := ⟨_, rfl⟩
    rw [hq] at o1 o2 o3 o4 o5
    obtain ⟨q1, q2, q3, q4, q5, q6, q7, q8, q9, _⟩ := q
    subst o1 o2 o3 o4 o5
    have ih' := ih (k + 1) f p (L.set k (pick n k)) (by simp; omega) (by omega) (by simpa using hL) (by simpa using he) (fun i h => by
      rw [List.getElem_set]
      split
      · rename_i e; subst e; exact old_pick n _
      · exact hO i (by simpa using h)) (fun i h hi => by
      rw [List.getElem_set]
      split
      · rename_i e; subst e; rfl
      · exact hP i (by simpa using h) (by omega))
    rw [List.length_set] at ih'
    show (F10_l18 600).b _ _ ((F10_l18 600).L f) some = _
    obtain ⟨Lf, hLf⟩ : ∃ Lf, Lf = (F10_l18 600).L f := ⟨_, rfl⟩
    rw [← hLf] at ih' ⊢
    simp only [F10_l18]
    have e2 : decide ((k : Int) < L.length) = true := by rw [decide_eq_true_iff]; omega
    have e3 : i64 (400 * (n : Int)) = 400 * n := i64_id (by omega)
    have e4 : i64 (1000 + 400 * (n : Int)) = 1000 + 400 * n := i64_id (by omega)
    have e5 : i64 (1000 + 400 * (n : Int) + k) = 1000 + 400 * n + k := i64_id (by omega)
    have e6 : i64 (1000 + 400 * (n : Int) + k + 2) = 1000 + 400 * n + k + 2 := i64_id (by omega)
    have e7 : i64 ((k : Int) + 1) = ((k + 1 : Nat) : Int) := by rw [i64_id (by omega)]; omega
    have hz : (0 ≤ (k : Int) ∧ (k : Int) < (L.length : Int)) := by omega
    have s1 := splice1 L k 4 hkl (by omega) (AV.v (.int .i64 (1000 + 400 * n + k))) (AB, st k, LC, CH, 1000 + 400 * n + k, q6, q7, q8, 0, ()) (by rw [hq]; rfl)
    have s2 := splice1 (L.set k (AB, st k, LC, CH, 1000 + 400 * n + k, q6, q7, q8, 0, ())) k 5 (by simpa using hkl) (by omega) (AV.v (.int .i64 (1000 + 400 * n + k))) (AB, st k, LC, CH, 1000 + 400 * n + k, 1000 + 400 * n + k, q7, q8, 0, ()) (by rw [List.getElem_set_self]; rfl)
    have s3 := splice1 (L.set k (AB, st k, LC, CH, 1000 + 400 * n + k, 1000 + 400 * n + k, q7, q8, 0, ())) k 6 (by simpa using hkl) (by omega) (AV.v (.int .i64 (1000 + 400 * n + k + 2))) (AB, st k, LC, CH, 1000 + 400 * n + k, 1000 + 400 * n + k, 1000 + 400 * n + k + 2, q8, 0, ()) (by rw [List.getElem_set_self]; rfl)
    have s4 := splice1 (L.set k (AB, st k, LC, CH, 1000 + 400 * n + k, 1000 + 400 * n + k, 1000 + 400 * n + k + 2, q8, 0, ())) k 7 (by simpa using hkl) (by omega) (AV.v (.int .i64 7)) (pick n k) (by rw [List.getElem_set_self]; rfl)
    rw [List.set_set] at s2 s3 s4
    have g : ∀ (L' : List RT1) (j : Nat), L'.length = L.length → j < 9 → (0 + ((k : Int)).toNat) * 9 + j + 1 ≤ (fl Ren1 L').length := fun L' j h1 h2 => by
      rw [len1, h1, Nat.zero_add, Int.toNat_natCast]; omega
    simp only [e2, e3, e4, e5, e6, e7, he, hz, and_self, if_true, s1, s2, s3, s4, g L 4 rfl (by omega), g _ 5 (List.length_set) (by omega), g _ 6 (List.length_set) (by omega), g _ 7 (List.length_set) (by omega), fl1, hob]
    exact ih'
def EvAt (n : Nat) (e : RT0) : Prop := ∃ f c, f < c ∧ c ≤ 4 ∧ f ≤ 1 ∧ nmE e = pick n f ∧ pkE e = (pks n f c).map Ren1 ∧ loE e ≤ hiE e
def Evs (lo hi : Nat) : List RT0 → Prop
  | [] => lo ≤ hi
  | e :: r => ∃ n, lo ≤ n ∧ EvAt n e ∧ Evs (n + 1) hi r
theorem Evs.mono : ∀ {L : List RT0} {lo hi hi' : Nat}, Evs lo hi L → hi ≤ hi' → Evs lo hi' L
  | [], lo, hi, hi', h, hh => Nat.le_trans h hh
  | e :: r, lo, hi, hi', h, hh => by
    obtain ⟨n, h1, h2, h3⟩ := h
    exact ⟨n, h1, h2, h3.mono hh⟩
theorem Evs.snoc : ∀ {L : List RT0} {lo n : Nat} {e : RT0}, Evs lo n L → EvAt n e → Evs lo (n + 1) (L ++ [e])
  | [], lo, n, e, h, he => ⟨n, h, he, Nat.le_refl _⟩
  | a :: r, lo, n, e, h, he => by
    obtain ⟨m, h1, h2, h3⟩ := h
    exact ⟨m, h1, h2, h3.snoc he⟩
theorem drop_pks (n r c : Nat) (h : r ≤ c) : (fl Ren1 (pks n 0 c)).drop (r * 9) = fl Ren1 (pks n r c) := by
  have e : pks n 0 c = pks n 0 r ++ pks n r c := by
    unfold pks
    rw [← List.map_append, Nat.sub_zero, Nat.sub_zero]
    congr 1
    rw [show c = r + (c - r) by omega, ← List.range'_append_1]
    simp
  rw [e]
  unfold fl
  rw [List.map_append, List.flatten_append]
  have := len1 (pks n 0 r)
  unfold fl at this
  rw [pks_len, Nat.sub_zero] at this
  rw [← this, List.drop_left]
theorem evs_loop (m : Nat) {xs : List Int} (hm : m ≤ 20) : ∀ (d n f : Nat) (p : Int) (A : List RT0), n + d = m → d < f → Sc xs p → A.length ≤ n → Evs 0 n A →
    ∃ (A' : List RT0) (p' : Int), (F10_l5 600).L f (A.length, (m : Int), (n : Int), rowsI xs, p, fl Ren0 A) = some (A'.length, rowsI xs, p', fl Ren0 A') ∧ A'.length ≤ m ∧ Evs 0 m A' ∧ Sc xs p' := by
  intro d
  induction d with
  | zero =>
    intro n f p A hk hf D hA hE
    obtain ⟨f, rfl⟩ : ∃ f', f = f' + 1 := ⟨f - 1, by omega⟩
    refine ⟨A, p, ?_, by omega, by rw [← hk]; exact hE, D⟩
    show (F10_l5 600).b _ _ ((F10_l5 600).L f) some = _
    simp only [F10_l5]
    have e2 : decide ((n : Int) < (m : Int)) = false := by rw [decide_eq_false_iff_not]; omega
    simp only [e2, fl0]
  | succ d ih =>
    intro n f p A hk hf D hA hE
    obtain ⟨f, rfl⟩ : ∃ f', f = f' + 1 := ⟨f - 1, by omega⟩
    have e2 : decide ((n : Int) < (m : Int)) = true := by rw [decide_eq_true_iff]; omega
    have e7 : i64 ((n : Int) + 1) = ((n + 1 : Nat) : Int) := by rw [i64_id (by omega)]; omega
    obtain ⟨v, p1, h1, m1, D1⟩ := n_ok 600 (n := 3) (by omega) D
    by_cases hv : v = 0
    · obtain ⟨A', p', r1, r2, r3, r4⟩ := ih (n + 1) f p1 A (by omega) (by omega) D1 (by omega) (hE.mono (by omega))
      refine ⟨A', p', ?_, r2, r3, r4⟩
      show (F10_l5 600).b _ _ ((F10_l5 600).L f) some = _
      obtain ⟨Lf, hLf⟩ : ∃ Lf, Lf = (F10_l5 600).L f := ⟨_, rfl⟩
      rw [← hLf] at r1 ⊢
      simp only [F10_l5]
      have e3 : (v == 0) = true := by simp [hv]
      simp only [e2, h1, e3, e7, fl0]
      exact r1
    · have e3 : (v == 0) = false := by simp [hv]
      obtain ⟨e, L, p2, h2, hl, hl2, hL, hlo, D2⟩ := ev_ok D1
      have h3 := upd_loop (m : Int) A.length n e (fl Ren0 A) (fl0 A) (xs := xs) (by omega) L.length 0 600 p2 L (by omega) (by omega) (by omega) hl hL (fun i h hi => by omega)
      replace h3 : (F10_l18 600).L 600 ((m : Int), A.length, (n : Int), (L.length : Int), 0, rowsI xs, p2, e, fl Ren1 L, fl Ren0 A) = some ((m : Int), A.length, (n : Int), rowsI xs, p2, e, fl Ren1 (pks n 0 L.length), fl Ren0 A) := h3
      obtain ⟨w, p3, h4, m4, D3⟩ := n_ok 600 (n := 2) (by omega) D2
      have e4 : i64 (((L.length : Nat) : Int) - 1) = ((L.length - 1 : Nat) : Int) := by rw [i64_id (by omega)]; omega
      obtain ⟨r, hr⟩ : ∃ r : Nat, (if ((L.length - 1 : Nat) : Int) < w then ((L.length - 1 : Nat) : Int) else w) = (r : Int) ∧ r ≤ 1 ∧ r < L.length := by
        by_cases hc : ((L.length - 1 : Nat) : Int) < w
        · exact ⟨L.length - 1, by rw [if_pos hc], by omega, by omega⟩
        · exact ⟨w.toNat, by rw [if_neg hc]; omega, by omega, by omega⟩
      obtain ⟨hr, hr1, hr2⟩ := hr
      obtain ⟨q, hq⟩ : ∃ q : RT0, q = ((pick n r).1, (pick n r).2.1, (pick n r).2.2.1, (pick n r).2.2.2.1, (pick n r).2.2.2.2.1, (pick n r).2.2.2.2.2.1, (pick n r).2.2.2.2.2.2.1, (pick n r).2.2.2.2.2.2.2.1, (pick n r).2.2.2.2.2.2.2.2.1, (pks n r L.length).map Ren1, e.2.2.2.2.2.2.2.2.2.2) := ⟨_, rfl⟩
      have hqe : EvAt n q := ⟨r, L.length, hr2, hl2.2, hr1, by rw [hq], by rw [hq], by rw [hq]; exact hlo⟩
      obtain ⟨A', p', r1, r2, r3, r4⟩ := ih (n + 1) f p3 (A ++ [q]) (by omega) (by omega) D3 (by simp; omega) (hE.snoc hqe)
      refine ⟨A', p', ?_, r2, r3, r4⟩
      show (F10_l5 600).b _ _ ((F10_l5 600).L f) some = _
      obtain ⟨Lf, hLf⟩ : ∃ Lf, Lf = (F10_l5 600).L f := ⟨_, rfl⟩
      rw [← hLf] at r1 ⊢
      rw [List.length_append] at r1
      simp only [F10_l5]
      have hz1 : (0 ≤ (r : Int) ∧ (r : Int) ≤ (L.length : Int)) := by omega
      have hz2 : (0 ≤ (0 : Int) ∧ (0 : Int) < ((L.length - r : Nat) : Int)) := by omega
      have hd1 : (fl Ren1 (pks n 0 L.length)).drop ((0 + r + Int.toNat 0) * 9) = Ren1 (pick n r) ++ fl Ren1 (pks n (r + 1) L.length) := by
        rw [show (0 + r + Int.toNat 0) * 9 = r * 9 by simp, drop_pks n r _ (by omega)]
        have : pks n r L.length = pick n r :: pks n (r + 1) L.length := by
          unfold pks
          rw [show L.length - r = (L.length - (r + 1)) + 1 by omega, List.range'_succ]
          rfl
        rw [this]
        rfl
      have hd2 : dropV (0 + r) 9 (fl Ren1 (pks n 0 L.length)) = fl Ren1 (pks n r L.length) := by
        rw [dropV_eq, Nat.zero_add, drop_pks n r _ (by omega)]
      have hg1 : (L.length - r) * 9 ≤ (fl Ren1 (pks n r L.length)).length := by rw [len1, pks_len]; omega
      have hch : chunks ((fl Ren1 (pks n r L.length)).take ((L.length - r) * 9)) 9 (L.length - r) = (pks n r L.length).map Ren1 := fl_chunks Ren1 9 Ren1_len (fun _ => rfl) _ _ (by rw [pks_len])
      have hg2 : (A.length * 25 ≤ (fl Ren0 A).length ∧ (A.length + [Ren0 q].length) * 248 ≤ maxBytes) := by
        rw [len0]; unfold maxBytes; simp; omega
      simp only [e2, h1, e3, h2, hl, fl1, fl0, h3, h4, e4, hr, hz1, Int.toNat_natCast, hz2, and_self, if_true, hd1, Rrd1_app, hd2, hg1, hch]
      simp only [← hq, hg2, and_self, if_true, e7]
      rw [app0 A q _ rfl, fl0]
      exact r1
theorem evs_ok (m : Nat) (hm : m ≤ 20) {xs : List Int} {p : Int} (D : Sc xs p) : ∃ (A : List RT0) (p' : Int), F10_d 600 ((m : Int), rowsI xs, p) = some (A.map Ren0, rowsI xs, p') ∧ A.length ≤ m ∧ Evs 0 m A ∧ Sc xs p' := by
  obtain ⟨A, p', h1, h2, h3, h4⟩ := evs_loop m hm m 0 600 p [] (by omega) (by omega) D (by simp) (Nat.le_refl 0)
  refine ⟨A, p', ?_, h2, h3, h4⟩
  replace h1 : (F10_l5 600).L 600 (0, (m : Int), 0, rowsI xs, p, []) = some (A.length, rowsI xs, p', fl Ren0 A) := h1
  simp only [F10_d, FSpec.d, F10_s, F10_d5, h1]
  have hg : A.length * 25 ≤ (fl Ren0 A).length := by rw [len0]; exact Nat.le_refl _
  simp only [hg, if_true, fl_chunks Ren0 25 Ren0_len (fun _ => rfl) A _ rfl]
end Go.Proofs.Ytnnfpoelkdgjdaa
end
section
namespace Go.Proofs.Ytnnfpoelkdgjdaa
set_option linter.unusedVariables false
set_option linter.unusedSimpArgs false
set_option linter.unnecessarySimpa false
@[reducible] def eqP (a b : RT1) : Bool := (((a.1 == b.1) && ((a.2.1 == b.2.1) && ((a.2.2.1 == b.2.2.1) && ((a.2.2.2.1 == b.2.2.2.1) && true)))) && ((a.2.2.2.2.1 == b.2.2.2.2.1) && ((a.2.2.2.2.2.1 == b.2.2.2.2.2.1) && ((a.2.2.2.2.2.2.1 == b.2.2.2.2.2.2.1) && ((a.2.2.2.2.2.2.2.1 == b.2.2.2.2.2.2.2.1) && ((a.2.2.2.2.2.2.2.2.1 == b.2.2.2.2.2.2.2.2.1) && true))))))
theorem ba_iff {a b : ByteArray} : (a == b) = true ↔ a = b := by
  constructor
  · intro h
    obtain ⟨x⟩ := a
    obtain ⟨y⟩ := b
    have : (x == y) = true := h
    rw [eq_of_beq this]
  · rintro rfl
    obtain ⟨x⟩ := a
    exact beq_self_eq_true x
theorem eqP_tt (a : RT1) : eqP a a = true := by
  simp only [eqP, Bool.and_eq_true, beq_self_eq_true, ba_iff, and_self]
theorem eqP_eq {a b : RT1} (h : eqP a b = true) : a = b := by
  obtain ⟨a1, a2, a3, a4, a5, a6, a7, a8, a9, a10⟩ := a
  obtain ⟨b1, b2, b3, b4, b5, b6, b7, b8, b9, b10⟩ := b
  simp only [eqP, Bool.and_eq_true, beq_iff_eq, ba_iff] at h
  obtain ⟨⟨h1, h2, h3, h4, -⟩, h5, h6, h7, h8, h9, -⟩ := h
  subst h1 h2 h3 h4 h5 h6 h7 h8 h9
  rfl
theorem eqP_ff {a b : RT1} (h : a ≠ b) : eqP a b = false := by
  cases e : eqP a b with
  | false => rfl
  | true => exact absurd (eqP_eq e) h
theorem get1 (P : List RT1) (k : Nat) (h : k < P.length) : (P.map Ren1)[k]? = some (Ren1 P[k]) := by simp [h]
theorem get0 (P : List RT0) (k : Nat) (h : k < P.length) : (P.map Ren0)[k]? = some (Ren0 P[k]) := by simp [h]
theorem get3 (P : List RT3) (k : Nat) (h : k < P.length) : (P.map Ren3)[k]? = some (Ren3 P[k]) := by simp [h]
theorem mem_drop_cons {α : Type} {P : List α} {k : Nat} (h : k < P.length) (p : α) : p ∈ P.drop k ↔ p = P[k] ∨ p ∈ P.drop (k + 1) := by
  rw [List.drop_eq_getElem_cons h, List.mem_cons]
theorem nat_succ {k : Nat} (h : k < 1000000) : i64 ((k : Int) + 1) = ((k + 1 : Nat) : Int) := by rw [i64_id (by omega)]; omega
theorem index_loop (P : List RT1) (p : RT1) (hP : P.length ≤ 500) : ∀ (d k f : Nat), k + d = P.length → d < f → ∃ y, (F78_l4 600).L f (P.map Ren1, (P.length : Int), (k : Int), p) = some y ∧ ((p ∈ P.drop k ∧ ∃ j : Nat, y = .inl (j : Int)) ∨ (p ∉ P.drop k ∧ y = .inr ())) := by
  intro d
  induction d with
  | zero =>
    intro k f hk hf
    obtain ⟨f, rfl⟩ : ∃ f', f = f' + 1 := ⟨f - 1, by omega⟩
    refine ⟨.inr (), ?_, .inr ⟨by rw [List.drop_eq_nil_of_le (by omega)]; simp, rfl⟩⟩
    show (F78_l4 600).b _ _ ((F78_l4 600).L f) some = _
    simp only [F78_l4]
    have e2 : decide ((k : Int) < (P.length : Int)) = false := by rw [decide_eq_false_iff_not]; omega
    simp only [e2]
  | succ d ih =>
    intro k f hk hf
    obtain ⟨f, rfl⟩ : ∃ f', f = f' + 1 := ⟨f - 1, by omega⟩
    have hkl : k < P.length := by omega
    have e2 : decide ((k : Int) < (P.length : Int)) = true := by rw [decide_eq_true_iff]; omega
    have e3 : (0 : Int) ≤ (k : Int) := by omega
    by_cases hc : p = P[k]
    · refine ⟨.inl (k : Int), ?_, .inl ⟨(mem_drop_cons hkl p).2 (.inl hc), k, rfl⟩⟩
      show (F78_l4 600).b _ _ ((F78_l4 600).L f) some = _
      simp only [F78_l4]
      have e4 : eqP p P[k] = true := by rw [← hc]; exact eqP_tt p
      simp only [e2, e3, if_true, Int.toNat_natCast, get1 P k hkl, Rrd1_en, e4]
    · obtain ⟨y, r1, r2⟩ := ih (k + 1) f (by omega) (by omega)
      refine ⟨y, ?_, ?_⟩
      · show (F78_l4 600).b _ _ ((F78_l4 600).L f) some = _
        obtain ⟨Lf, hLf⟩ : ∃ Lf, Lf = (F78_l4 600).L f := ⟨_, rfl⟩
        rw [← hLf] at r1 ⊢
        simp only [F78_l4]
        have e4 : eqP p P[k] = false := eqP_ff hc
        simp only [e2, e3, if_true, Int.toNat_natCast, get1 P k hkl, Rrd1_en, e4, nat_succ (show k < 1000000 by omega)]
        exact r1
      · rcases r2 with ⟨h1, h2⟩ | ⟨h1, h2⟩
        · exact .inl ⟨(mem_drop_cons hkl p).2 (.inr h1), h2⟩
        · exact .inr ⟨fun h => ((mem_drop_cons hkl p).1 h).elim hc h1, h2⟩
theorem contains_ok (P : List RT1) (p : RT1) (hP : P.length ≤ 500) : ∃ b, F62_d 600 (P.map Ren1, p) = some b ∧ (b = true ↔ p ∈ P) := by
  obtain ⟨y, h1, h2⟩ := index_loop P p hP P.length 0 600 (by omega) (by omega)
  replace h1 : (F78_l4 600).L 600 (P.map Ren1, (P.length : Int), 0, p) = some y := h1
  rw [List.drop_zero] at h2
  simp only [F62_d, FSpec.d, F62_s, F78_d, F78_s, F78_d4, List.length_map, h1]
  rcases h2 with ⟨h2, j, rfl⟩ | ⟨h2, rfl⟩
  · exact ⟨_, rfl, by simp [h2]⟩
  · exact ⟨_, rfl, by simp [h2]⟩
def Com (P Q : List RT1) : Prop := ∃ p ∈ P, p ∈ Q
theorem shared_loop (P Q : List RT1) (e : RT0) (he : pkE e = Q.map Ren1) (hP : P.length ≤ 500) (hQ : Q.length ≤ 500) : ∀ (d k f : Nat), k + d = P.length → d < f → ∃ y, (F77_l4 600).L f (P.map Ren1, (P.length : Int), (k : Int), e) = some y ∧ ((Com (P.drop k) Q ∧ ∃ j : Nat, y = .inl ((j : Int), e)) ∨ (¬ Com (P.drop k) Q ∧ y = .inr e)) := by
  intro d
  induction d with
  | zero =>
    intro k f hk hf
    obtain ⟨f, rfl⟩ : ∃ f', f = f' + 1 := ⟨f - 1, by omega⟩
    refine ⟨.inr e, ?_, .inr ⟨by (rw [List.drop_eq_nil_of_le (by omega)]; rintro ⟨p, h, -⟩; cases h), rfl⟩⟩
    show (F77_l4 600).b _ _ ((F77_l4 600).L f) some = _
    simp only [F77_l4]
    have e2 : decide ((k : Int) < (P.length : Int)) = false := by rw [decide_eq_false_iff_not]; omega
    simp only [e2]
  | succ d ih =>
    intro k f hk hf
    obtain ⟨f, rfl⟩ : ∃ f', f = f' + 1 := ⟨f - 1, by omega⟩
    have hkl : k < P.length := by omega
    have e2 : decide ((k : Int) < (P.length : Int)) = true := by rw [decide_eq_true_iff]; omega
    have e3 : (0 : Int) ≤ (k : Int) := by omega
    obtain ⟨b, hb, hb2⟩ := contains_ok Q P[k] hQ
    rw [← he] at hb
    have hs : F61_d 600 (P[k], e) = some (b, e) := by
      simp only [F61_d, FSpec.d, F61_s]
      simp only [hb]
    cases b with
    | true =>
      refine ⟨.inl ((k : Int), e), ?_, .inl ⟨⟨P[k], (mem_drop_cons hkl _).2 (.inl rfl), hb2.1 rfl⟩, k, rfl⟩⟩
      show (F77_l4 600).b _ _ ((F77_l4 600).L f) some = _
      simp only [F77_l4]
      simp only [e2, e3, if_true, Int.toNat_natCast, get1 P k hkl, Rrd1_en, hs]
    | false =>
      obtain ⟨y, r1, r2⟩ := ih (k + 1) f (by omega) (by omega)
      refine ⟨y, ?_, ?_⟩
      · show (F77_l4 600).b _ _ ((F77_l4 600).L f) some = _
        obtain ⟨Lf, hLf⟩ : ∃ Lf, Lf = (F77_l4 600).L f := ⟨_, rfl⟩
        rw [← hLf] at r1 ⊢
        simp only [F77_l4]
        simp only [e2, e3, if_true, Int.toNat_natCast, get1 P k hkl, Rrd1_en, hs, nat_succ (show k < 1000000 by omega)]
        exact r1
      · rcases r2 with ⟨⟨p, q1, q2⟩, h2⟩ | ⟨h1, h2⟩
        · exact .inl ⟨⟨p, (mem_drop_cons hkl p).2 (.inr q1), q2⟩, h2⟩
        · refine .inr ⟨fun ⟨p, q1, q2⟩ => ?_, h2⟩
          rcases (mem_drop_cons hkl p).1 q1 with e | e
          · subst e; exact absurd (hb2.2 q2) (by simp)
          · exact h1 ⟨p, e, q2⟩
theorem shared_ok (P Q : List RT1) (a e : RT0) (ha : pkE a = P.map Ren1) (he : pkE e = Q.map Ren1) (hP : P.length ≤ 500) (hQ : Q.length ≤ 500) : ∃ b, F38_d 600 (a, e) = some b ∧ (b = true ↔ Com P Q) := by
  obtain ⟨y, h1, h2⟩ := shared_loop P Q e he hP hQ P.length 0 600 (by omega) (by omega)
  replace h1 : (F77_l4 600).L 600 (P.map Ren1, (P.length : Int), 0, e) = some y := h1
  rw [List.drop_zero] at h2
  have ha' : a.2.2.2.2.2.2.2.2.2.1 = P.map Ren1 := ha
  simp only [F38_d, FSpec.d, F38_s, F60_d, F60_s, F77_d, F77_s, F77_d4, ha', List.length_map, h1]
  rcases h2 with ⟨h2, j, rfl⟩ | ⟨h2, rfl⟩
  · exact ⟨_, rfl, by simp [h2]⟩
  · exact ⟨_, rfl, by simp [h2]⟩
end Go.Proofs.Ytnnfpoelkdgjdaa
end
section
namespace Go.Proofs.Ytnnfpoelkdgjdaa
set_option linter.unusedVariables false
set_option linter.unusedSimpArgs false
set_option linter.unnecessarySimpa false
theorem nm0 (e : RT0) : Rrd1 ((Ren0 e).drop 0) = some (nmE e) := rfl
theorem sorted_ok (n f c : Nat) (hn : n < 5) (h1 : f < c) (h2 : c ≤ 4) (h3 : f ≤ 1) : F66_d 600 ((pks n f c).map Ren1) = some true := by
  rcases (show n = 0 ∨ n = 1 ∨ n = 2 ∨ n = 3 ∨ n = 4 by omega) with rfl | rfl | rfl | rfl | rfl <;> rcases (show (f = 0 ∧ c = 1) ∨ (f = 0 ∧ c = 2) ∨ (f = 0 ∧ c = 3) ∨ (f = 0 ∧ c = 4) ∨ (f = 1 ∧ c = 2) ∨ (f = 1 ∧ c = 3) ∨ (f = 1 ∧ c = 4) by omega) with ⟨rfl, rfl⟩ | ⟨rfl, rfl⟩ | ⟨rfl, rfl⟩ | ⟨rfl, rfl⟩ | ⟨rfl, rfl⟩ | ⟨rfl, rfl⟩ | ⟨rfl, rfl⟩ <;> kernel_rfl
theorem name_ok (n f c : Nat) (hn : n < 5) (h1 : f < c) (h2 : c ≤ 4) (h3 : f ≤ 1) : F67_d 600 ((pks n f c).map Ren1) = some (pick n f) := by
  rcases (show n = 0 ∨ n = 1 ∨ n = 2 ∨ n = 3 ∨ n = 4 by omega) with rfl | rfl | rfl | rfl | rfl <;> rcases (show (f = 0 ∧ c = 1) ∨ (f = 0 ∧ c = 2) ∨ (f = 0 ∧ c = 3) ∨ (f = 0 ∧ c = 4) ∨ (f = 1 ∧ c = 2) ∨ (f = 1 ∧ c = 3) ∨ (f = 1 ∧ c = 4) by omega) with ⟨rfl, rfl⟩ | ⟨rfl, rfl⟩ | ⟨rfl, rfl⟩ | ⟨rfl, rfl⟩ | ⟨rfl, rfl⟩ | ⟨rfl, rfl⟩ | ⟨rfl, rfl⟩ <;> kernel_rfl
theorem less_ok (n m f g : Nat) (hn : n < m) (hm : m < 5) (hf : f ≤ 1) (hg : g ≤ 1) : F68_d 600 (pick n f, pick m g) = some (-1) ∧ F85_d 600 (pick n f, pick m g) = some (-1) := by
  rcases (show (n = 0 ∧ m = 1) ∨ (n = 0 ∧ m = 2) ∨ (n = 0 ∧ m = 3) ∨ (n = 0 ∧ m = 4) ∨ (n = 1 ∧ m = 2) ∨ (n = 1 ∧ m = 3) ∨ (n = 1 ∧ m = 4) ∨ (n = 2 ∧ m = 3) ∨ (n = 2 ∧ m = 4) ∨ (n = 3 ∧ m = 4) by omega) with ⟨rfl, rfl⟩ | ⟨rfl, rfl⟩ | ⟨rfl, rfl⟩ | ⟨rfl, rfl⟩ | ⟨rfl, rfl⟩ | ⟨rfl, rfl⟩ | ⟨rfl, rfl⟩ | ⟨rfl, rfl⟩ | ⟨rfl, rfl⟩ | ⟨rfl, rfl⟩ <;> rcases (show f = 0 ∨ f = 1 by omega) with rfl | rfl <;> rcases (show g = 0 ∨ g = 1 by omega) with rfl | rfl <;> exact ⟨by kernel_rfl, by kernel_rfl⟩
@[reducible] def tmP (p : RT1) : Int := p.2.2.2.2.1
theorem pks_tm {n f c : Nat} (hc : c ≤ 4) : ∀ p ∈ pks n f c, 1000 + 400 * (n : Int) ≤ tmP p ∧ tmP p < 1000 + 400 * (n + 1 : Nat) := fun p hp => by
  obtain ⟨i, hi, rfl⟩ := List.mem_map.1 hp
  rw [List.mem_range'] at hi
  obtain ⟨j, hj, rfl⟩ := hi
  simp only [tmP, pick]
  omega
theorem pick_inj {n i m j : Nat} (hi : i < 4) (hj : j < 4) (h : pick n i = pick m j) : n = m ∧ i = j := by
  have := congrArg tmP h
  simp only [tmP, pick] at this
  omega
theorem pks_nodup (n f c : Nat) (hc : c ≤ 4) : (pks n f c).Pairwise fun a b => a ≠ b := by
  unfold pks
  rw [List.pairwise_map]
  refine (List.pairwise_lt_range' (s := f) (n := c - f)).imp_of_mem fun {a b} ha hb hab h => ?_
  rw [List.mem_range'] at ha hb
  obtain ⟨i, hi, rfl⟩ := ha
  obtain ⟨j, hj, rfl⟩ := hb
  have := pick_inj (by omega) (by omega) h
  omega
theorem eqCs1 (a b : RT1) : eqCs (Ren1 a) (Ren1 b) = eqP a b := by
  show (a.1 == b.1 && (a.2.1 == b.2.1 && (a.2.2.1 == b.2.2.1 && (a.2.2.2.1 == b.2.2.2.1 && (a.2.2.2.2.1 == b.2.2.2.2.1 && (a.2.2.2.2.2.1 == b.2.2.2.2.2.1 && (a.2.2.2.2.2.2.1 == b.2.2.2.2.2.2.1 && (a.2.2.2.2.2.2.2.1 == b.2.2.2.2.2.2.2.1 && (a.2.2.2.2.2.2.2.2.1 == b.2.2.2.2.2.2.2.2.1 && true))))))))) = _
  simp only [eqP, Bool.and_true, Bool.and_assoc]
theorem has_no : ∀ (M : List RT1) (p : RT1), p ∉ M → mpHas (Ren1 p) (M.map Ren1) = false ∧ mpPut (Ren1 p) (Ren1 p) (M.map Ren1) = (M ++ [p]).map Ren1
  | [], p, h => ⟨rfl, rfl⟩
  | q :: M, p, h => by
    have h1 : p ≠ q := fun e => h (by rw [e]; exact List.mem_cons_self)
    obtain ⟨i1, i2⟩ := has_no M p (fun e => h (List.mem_cons_of_mem _ e))
    have e : eqCs (Ren1 p) (Ren1 q) = false := by rw [eqCs1]; exact eqP_ff h1
    refine ⟨?_, ?_⟩
    · unfold mpHas at i1 ⊢
      simp only [List.map_cons, mpFind, e]
      exact i1
    · simp only [List.map_cons, mpPut, e, i2, List.cons_append]
theorem seen_loop (A B : List (List AV)) (la i : Int) (P : List RT1) (hP : P.length ≤ 500) (hd : P.Pairwise fun a b => a ≠ b) : ∀ (d k f : Nat) (M : List RT1), k + d = P.length → d < f → (∀ p ∈ P.drop k, p ∉ M) → (F44_l19 600).L f (A, B, P.map Ren1, la, i, (P.length : Int), (k : Int), M.map Ren1) = some (.inr (A, B, la, i, (M ++ P.drop k).map Ren1)) := by
  intro d
  induction d with
  | zero =>
    intro k f M hk hf hM
    obtain ⟨f, rfl⟩ : ∃ f', f = f' + 1 := ⟨f - 1, by omega⟩
    show (F44_l19 600).b _ _ ((F44_l19 600).L f) some = _
    simp only [F44_l19]
    have e2 : decide ((k : Int) < (P.length : Int)) = false := by rw [decide_eq_false_iff_not]; omega
    simp only [e2]
    rw [List.drop_eq_nil_of_le (by omega), List.append_nil]
  | succ d ih =>
    intro k f M hk hf hM
    obtain ⟨f, rfl⟩ : ∃ f', f = f' + 1 := ⟨f - 1, by omega⟩
    have hkl : k < P.length := by omega
    have e2 : decide ((k : Int) < (P.length : Int)) = true := by rw [decide_eq_true_iff]; omega
    have e3 : (0 : Int) ≤ (k : Int) := by omega
    obtain ⟨m1, m2⟩ := has_no M P[k] (hM _ ((mem_drop_cons hkl _).2 (.inl rfl)))
    have r1 := ih (k + 1) f (M ++ [P[k]]) (by omega) (by omega) (fun p hp hm => by
      rcases List.mem_append.1 hm with h | h
      · exact hM p ((mem_drop_cons hkl p).2 (.inr hp)) h
      · have h := List.mem_singleton.1 h
        obtain ⟨j, hj, e⟩ := List.getElem_of_mem hp
        rw [List.getElem_drop] at e
        rw [List.length_drop] at hj
        exact List.pairwise_iff_getElem.1 hd k (k + 1 + j) hkl (by omega) (by omega) (by rw [e, h]))
    show (F44_l19 600).b _ _ ((F44_l19 600).L f) some = _
    obtain ⟨Lf, hLf⟩ : ∃ Lf, Lf = (F44_l19 600).L f := ⟨_, rfl⟩
    rw [← hLf] at r1 ⊢
    simp only [F44_l19]
    simp only [e2, e3, if_true, Int.toNat_natCast, get1 P k hkl, Rrd1_en, m1, m2, nat_succ (show k < 1000000 by omega)]
    rw [r1, List.append_assoc]
    congr 4
    rw [List.drop_eq_getElem_cons hkl]
    rfl
theorem valid_loop (A : List RT0) (hA : A.length ≤ 5) : ∀ (R : List RT0) (k lo f : Nat) (M : List RT1), A.drop k = R → R.length < f → k + R.length = A.length → Evs lo 5 R → (∀ q ∈ M, tmP q < 1000 + 400 * (lo : Int)) → (∀ (h : 0 < k) (h' : k - 1 < A.length), ∃ n g, n < lo ∧ g ≤ 1 ∧ nmE A[k - 1] = pick n g) →
    (F44_l5 600).L f (A.map Ren0, A.map Ren0, (A.length : Int), (k : Int), M.map Ren1) = some (.inr ())
  | [], k, lo, f, M, hR, hf, hk, hE, hM, hN => by
    obtain ⟨f, rfl⟩ : ∃ f', f = f' + 1 := ⟨f - 1, by omega⟩
    show (F44_l5 600).b _ _ ((F44_l5 600).L f) some = _
    simp only [F44_l5]
    have e2 : decide ((k : Int) < (A.length : Int)) = false := by rw [decide_eq_false_iff_not]; simp at hk; omega
    simp only [e2]
  | e :: R, k, lo, f, M, hR, hf, hk, hE, hM, hN => by
    obtain ⟨f, rfl⟩ : ∃ f', f = f' + 1 := ⟨f - 1, by omega⟩
    rw [List.length_cons] at hf hk
    have hkl : k < A.length := by omega
    have hek : A[k] = e := by
      have := List.drop_eq_getElem_cons hkl
      rw [hR] at this
      exact (List.cons.inj this).1.symm
    obtain ⟨n, hn, ⟨g, c, c1, c2, c3, c4, c5, c6⟩, hE'⟩ := hE
    have hn5 : n + 1 ≤ 5 := by
      have : ∀ (L : List RT0) (lo hi : Nat), Evs lo hi L → lo ≤ hi := fun L => by
        induction L with
        | nil => exact fun lo hi h => h
        | cons a L ih => exact fun lo hi ⟨n, h1, _, h3⟩ => by have := ih _ _ h3; omega
      exact this _ _ _ hE'
    have e2 : decide ((k : Int) < (A.length : Int)) = true := by rw [decide_eq_true_iff]; omega
    have e3 : (0 : Int) ≤ (k : Int) := by omega
    have r1 := valid_loop A hA R (k + 1) (n + 1) f (M ++ pks n g c) (by rw [← List.tail_drop, hR]; rfl) (by omega) (by omega) hE' (fun q hq => by
      rcases List.mem_append.1 hq with h | h
      · have := hM q h; omega
      · exact (pks_tm c2 q h).2) (fun _ h' => ⟨n, g, by omega, c3, by simp only [Nat.add_sub_cancel]; rw [hek]; exact c4⟩)
    have s1 := sorted_ok n g c (by omega) c1 c2 c3
    have s2 := name_ok n g c (by omega) c1 c2 c3
    have sl := seen_loop (A.map Ren0) (A.map Ren0) (A.length : Int) (k : Int) (pks n g c) (by rw [pks_len]; omega) (pks_nodup n g c c2) (pks n g c).length 0 600 M (by omega) (by rw [pks_len]; omega) (fun p hp hm => by
      have h1 := (pks_tm c2 p hp).1
      have h2 := hM p hm
      omega)
    rw [List.drop_zero] at sl
    replace sl : (F44_l19 600).L 600 (A.map Ren0, A.map Ren0, (pks n g c).map Ren1, (A.length : Int), (k : Int), ((pks n g c).length : Int), 0, M.map Ren1) = some (.inr (A.map Ren0, A.map Ren0, (A.length : Int), (k : Int), (M ++ pks n g c).map Ren1)) := sl
    have c5' : e.2.2.2.2.2.2.2.2.2.1 = (pks n g c).map Ren1 := c5
    have e4 : (((pks n g c).length : Int) == 0) = false := by rw [pks_len]; simp; omega
    have e5 : eqP (nmE e) (pick n g) = true := by rw [c4]; exact eqP_tt _
    show (F44_l5 600).b _ _ ((F44_l5 600).L f) some = _
    obtain ⟨Lf, hLf⟩ : ∃ Lf, Lf = (F44_l5 600).L f := ⟨_, rfl⟩
    rw [← hLf] at r1 ⊢
    simp only [F44_l5]
    simp only [e2, e3, if_true, Int.toNat_natCast, get0 A k hkl, hek, Rrd0_en, c5', List.length_map, e4, s1, s2, e5, Bool.not_true]
    by_cases hk0 : (k : Int) > 0
    · have hk1 : i64 ((k : Int) - 1) = ((k - 1 : Nat) : Int) := by rw [i64_id (by omega)]; omega
      obtain ⟨n', g', z1, z2, z3⟩ := hN (by omega) (by omega)
      have hl := (less_ok n' n g' g (by omega) (by omega) z2 c3).1
      rw [← c4] at hl
      rw [← z3] at hl
      have e6 : decide ((-1 : Int) ≥ 0) = false := by decide
      have e7 : (0 : Int) ≤ ((k - 1 : Nat) : Int) := by omega
      simp only [hk0, decide_true, hk1, e7, if_true, Int.toNat_natCast, get0 A (k - 1) (by omega), nm0, hl, e6, sl, nat_succ (show k < 1000000 by omega)]
      exact r1
    · simp only [hk0, decide_false, sl, nat_succ (show k < 1000000 by omega)]
      exact r1
theorem evs_lo {L : List RT0} {lo hi : Nat} : Evs lo hi L → L.length + lo ≤ hi := by
  induction L generalizing lo with
  | nil => intro h; have h' : lo ≤ hi := h; rw [List.length_nil]; omega
  | cons a L ih => exact fun ⟨n, h1, _, h3⟩ => by have := ih h3; rw [List.length_cons]; omega
theorem event_valid {A : List RT0} {m : Nat} (hm : m ≤ 5) (h : Evs 0 m A) : F44_d 600 (A.map Ren0) = some true := by
  have hl := evs_lo h
  have := valid_loop A (by omega) A 0 0 600 [] rfl (by omega) (by omega) (h.mono hm) (fun q hq => by cases hq) (fun h => by omega)
  replace this : (F44_l5 600).L 600 (A.map Ren0, A.map Ren0, (A.length : Int), 0, []) = some (.inr ()) := this
  simp only [F44_d, FSpec.d, F44_s, F44_d5, List.length_map, this]
def PkOk (e : RT0) : Prop := ∃ P : List RT1, P.length ≤ 4 ∧ pkE e = P.map Ren1
theorem EvAt.pk {n : Nat} {e : RT0} (h : EvAt n e) : PkOk e := by
  obtain ⟨f, c, h1, h2, h3, h4, h5, h6⟩ := h
  exact ⟨pks n f c, by rw [pks_len]; omega, h5⟩
theorem Evs.all : ∀ {E : List RT0} {lo hi : Nat}, Evs lo hi E → ∀ e ∈ E, ∃ n, lo ≤ n ∧ n < hi ∧ EvAt n e
  | [], lo, hi, h, e, he => by cases he
  | a :: E, lo, hi, h, e, he => by
    obtain ⟨n, h1, h2, h3⟩ := h
    have := evs_lo h3
    rcases List.mem_cons.1 he with h | h
    · subst h; exact ⟨n, h1, by omega, h2⟩
    · obtain ⟨m, q1, q2, q3⟩ := h3.all e h
      exact ⟨m, by omega, q2, q3⟩
theorem Evs.names : ∀ {E : List RT0} {lo hi : Nat}, Evs lo hi E → E.Pairwise fun a b => nmE a ≠ nmE b
  | [], lo, hi, h => .nil
  | a :: E, lo, hi, h => by
    obtain ⟨n, h1, ⟨f, c, c1, c2, c3, c4, c5, c6⟩, h3⟩ := h
    refine .cons (fun b hb e => ?_) h3.names
    obtain ⟨m, q1, q2, f', c', z1, z2, z3, z4, z5, z6⟩ := h3.all b hb
    rw [c4, z4] at e
    have := pick_inj (by omega) (by omega) e
    omega
theorem Evs.pk {E : List RT0} {lo hi : Nat} (h : Evs lo hi E) : ∀ e ∈ E, PkOk e := fun e he => by
  obtain ⟨n, _, _, q⟩ := h.all e he
  exact q.pk
structure EvOk (E : List RT0) : Prop where
  v : F44_d 600 (E.map Ren0) = some true
  l : E.length ≤ 5
  names : E.Pairwise fun a b => nmE a ≠ nmE b
  pk : ∀ e ∈ E, PkOk e
theorem Evs.ok {E : List RT0} {m : Nat} (hm : m ≤ 5) (h : Evs 0 m E) : EvOk E := ⟨event_valid hm h, by have := evs_lo h; omega, h.names, h.pk⟩
end Go.Proofs.Ytnnfpoelkdgjdaa
end
section
namespace Go.Proofs.Ytnnfpoelkdgjdaa
set_option linter.unusedVariables false
set_option linter.unusedSimpArgs false
set_option linter.unnecessarySimpa false
structure RlOkk (r : RT4) : Prop where
  m : -1000 ≤ r.1 ∧ r.1 ≤ 1000
  p : 1 ≤ r.2.1 ∧ r.2.1 ≤ 4
  f : 0 ≤ r.2.2.1 ∧ r.2.2.1 ≤ 100000
  d : 0 ≤ r.2.2.2.1 ∧ r.2.2.2.1 ≤ 100000
structure Pol (L : List RT4) (di ev : Int) : Prop where
  l : 1 ≤ L.length ∧ L.length ≤ 3
  r : ∀ r ∈ L, RlOkk r
  di : 0 ≤ di ∧ di ≤ 1000
  ev : 0 ≤ ev ∧ ev ≤ 500
theorem get4 (P : List RT4) (k : Nat) (h : k < P.length) : (P.map Ren4)[k]? = some (Ren4 P[k]) := by simp [h]
theorem pol_loop (xs0 : List Int) (b1 b2 : Int) : ∀ (d f : Nat) (p : Int) (L : List RT4), d < f → L.length + d ≤ 100 → Sc xs0 p → (∀ r ∈ L, RlOkk r) →
    ∃ (L' : List RT4) (p' : Int), (F8_l5 600).L f ((d : Int), rowsI xs0, p, [], 0, 0, L.map Ren4, b1, b2) = some (rowsI xs0, p', [], 0, 0, L'.map Ren4, b1, b2) ∧ L'.length = L.length + d ∧ (∀ r ∈ L', RlOkk r) ∧ Sc xs0 p' := by
  intro d
  induction d with
  | zero =>
    intro f p L hf hd D hL
    obtain ⟨f, rfl⟩ : ∃ f', f = f' + 1 := ⟨f - 1, by omega⟩
    refine ⟨L, p, ?_, by omega, hL, D⟩
    show (F8_l5 600).b _ _ ((F8_l5 600).L f) some = _
    simp only [F8_l5]
    rfl
  | succ d ih =>
    intro f p L hf hd D hL
    obtain ⟨f, rfl⟩ : ∃ f', f = f' + 1 := ⟨f - 1, by omega⟩
    obtain ⟨v1, p1, h1, m1, D1⟩ := n_ok 600 (n := 400) (by omega) D
    obtain ⟨v2, p2, h2, m2, D2⟩ := n_ok 600 (n := 4) (by omega) D1
    obtain ⟨v3, p3, h3, m3, D3⟩ := pick_ok 600 [0, 10, 100, 10000] (by simp) D2
    replace h3 : F23_d 600 ([[AV.v (.int .i64 0)], [AV.v (.int .i64 10)], [AV.v (.int .i64 100)], [AV.v (.int .i64 10000)]], rowsI xs0, p2) = some (v3, rowsI xs0, p3) := h3
    obtain ⟨v4, p4, h4, m4, D4⟩ := pick_ok 600 [0, 500, 2000, 100000] (by simp) D3
    replace h4 : F23_d 600 ([[AV.v (.int .i64 0)], [AV.v (.int .i64 500)], [AV.v (.int .i64 2000)], [AV.v (.int .i64 100000)]], rowsI xs0, p3) = some (v4, rowsI xs0, p4) := h4
    obtain ⟨L', p', r1, r2, r3, r4⟩ := ih f p4 (L ++ [(v1 - 100, 1 + v2, v3, v4, ())]) (by omega) (by simp; omega) D4 (fun r hr => by
      rcases List.mem_append.1 hr with h | h
      · exact hL r h
      · have h := List.mem_singleton.1 h
        subst h
        simp at m3 m4
        exact ⟨by dsimp only; omega, by dsimp only; omega, by dsimp only; omega, by dsimp only; omega⟩)
    refine ⟨L', p', ?_, by rw [r2]; simp; omega, r3, r4⟩
    show (F8_l5 600).b _ _ ((F8_l5 600).L f) some = _
    obtain ⟨Lf, hLf⟩ : ∃ Lf, Lf = (F8_l5 600).L f := ⟨_, rfl⟩
    rw [← hLf] at r1 ⊢
    simp only [F8_l5]
    have hk : decide (((d + 1 : Nat) : Int) > 0) = true := by simp
    have hi : i64 (((d + 1 : Nat) : Int) - 1) = (d : Int) := by rw [i64_id (by omega)]; omega
    have e1 : i64 (v1 - 100) = v1 - 100 := i64_id (by omega)
    have e2 : i64 (1 + v2) = 1 + v2 := i64_id (by omega)
    have hb : ∀ r : List AV, ((L.map Ren4).length + [r].length) * 32 ≤ maxBytes := fun r => by
      rw [List.length_map]; unfold maxBytes; simp; omega
    simp only [hk, hi, h1, h2, h3, h4, e1, e2, hb, if_true]
    rw [List.map_append] at r1
    exact r1
theorem policy_ok {xs : List Int} {p : Int} (D : Sc xs p) : ∃ (L : List RT4) (di ev p' : Int), F8_d 600 (rowsI xs, p) = some (L.map Ren4, di, ev, rowsI xs, p') ∧ Pol L di ev ∧ Sc xs p' := by
  obtain ⟨v1, p1, h1, m1, D1⟩ := pick_ok 600 [0, 2, 10, 1000] (by simp) D
  replace h1 : F23_d 600 ([[AV.v (.int .i64 0)], [AV.v (.int .i64 2)], [AV.v (.int .i64 10)], [AV.v (.int .i64 1000)]], rowsI xs, p) = some (v1, rowsI xs, p1) := h1
  obtain ⟨v2, p2, h2, m2, D2⟩ := pick_ok 600 [0, 0, 50, 500] (by simp) D1
  replace h2 : F23_d 600 ([[AV.v (.int .i64 0)], [AV.v (.int .i64 0)], [AV.v (.int .i64 50)], [AV.v (.int .i64 500)]], rowsI xs, p1) = some (v2, rowsI xs, p2) := h2
  obtain ⟨v3, p3, h3, m3, D3⟩ := n_ok 600 (n := 3) (by omega) D2
  obtain ⟨L, p4, h4, hl, hL, D4⟩ := pol_loop xs v1 v2 (1 + v3).toNat 600 p3 [] (by omega) (by simp; omega) D3 (fun r h => by cases h)
  rw [show (((1 + v3).toNat : Nat) : Int) = 1 + v3 by omega] at h4
  replace h4 : (F8_l5 600).L 600 (1 + v3, rowsI xs, p3, [], 0, 0, [], v1, v2) = some (rowsI xs, p4, [], 0, 0, L.map Ren4, v1, v2) := h4
  have e1 : i64 (1 + v3) = 1 + v3 := i64_id (by omega)
  simp at m1 m2
  refine ⟨L, v1, v2, p4, ?_, ⟨by simp at hl; omega, hL, by omega, by omega⟩, D4⟩
  simp only [F8_d, FSpec.d, F8_s]
  simp only [h1, h2, h3, e1, F8_d5, h4]
def toRl (r : RT4) : Rl := ⟨r.1, r.2.1, r.2.2.1, r.2.2.2.1⟩
theorem rls_map : ∀ L : List RT4, rlsOf (L.map Ren4) = some (L.map toRl)
  | [] => rfl
  | r :: L => by
    show (match rlOf (Ren4 r), rlsOf (L.map Ren4) with | some x, some l => some (x :: l) | _, _ => none) = _
    rw [rls_map L]
    rfl
def lev (L : List RT4) (di ev : Int) (e : RT0) : Nat := levF (L.map toRl) di ev (lvEv (L.map Ren4, di, ev, e))
theorem level_is {L : List RT4} (di ev : Int) (e : RT0) (h : L.length ≤ 1000) : F31_d 600 (L.map Ren4, di, ev, e) = some (lev L di ev e : Int) := by
  simp only [F31_d, FSpec.d, F31_s, rls_map]
  have : (L.map toRl).length ≤ 1000000 := by rw [List.length_map]; omega
  simp only [this, if_true]
  rfl
theorem lev_le (L : List RT4) (di ev : Int) (e : RT0) : lev L di ev e ≤ L.length := by
  unfold lev levF
  split
  · exact Nat.le_trans (levN_le _ _ _) (by rw [List.length_map]; exact Nat.le_refl _)
  · exact Nat.zero_le _
theorem valid_rl (N : Nat) {r : RT4} (h : RlOkk r) : F65_d N r = some true := by
  obtain ⟨⟨m1, m2⟩, ⟨p1, p2⟩, ⟨f1, f2⟩, ⟨d1, d2⟩⟩ := h
  simp only [F65_d, FSpec.d, F65_s]
  have e1 : decide (r.1 ≥ -1000) = true := by rw [decide_eq_true_iff]; omega
  have e2 : decide (r.1 ≤ 2000) = true := by rw [decide_eq_true_iff]; omega
  have e3 : decide (r.2.1 ≥ 1) = true := by rw [decide_eq_true_iff]; omega
  have e4 : decide (r.2.1 ≤ 64) = true := by rw [decide_eq_true_iff]; omega
  have e5 : decide ((if r.2.2.2.1 < r.2.2.1 then r.2.2.2.1 else r.2.2.1) ≥ 0) = true := by rw [decide_eq_true_iff]; split <;> omega
  have e6 : decide ((if r.2.2.2.1 > r.2.2.1 then r.2.2.2.1 else r.2.2.1) ≤ 9007199254740992) = true := by rw [decide_eq_true_iff]; split <;> omega
  simp only [e1, e2, e3, e4, e5, e6]
theorem validate_loop {L : List RT4} (hL : ∀ r ∈ L, RlOkk r) (hl : L.length ≤ 500) : ∀ (d k f : Nat), k + d = L.length → d < f → (F43_l8 600).L f (L.map Ren4, (L.length : Int), (k : Int)) = some (.inr ()) := by
  intro d
  induction d with
  | zero =>
    intro k f hk hf
    obtain ⟨f, rfl⟩ : ∃ f', f = f' + 1 := ⟨f - 1, by omega⟩
    show (F43_l8 600).b _ _ ((F43_l8 600).L f) some = _
    simp only [F43_l8]
    have e2 : decide ((k : Int) < (L.length : Int)) = false := by rw [decide_eq_false_iff_not]; omega
    simp only [e2]
  | succ d ih =>
    intro k f hk hf
    obtain ⟨f, rfl⟩ : ∃ f', f = f' + 1 := ⟨f - 1, by omega⟩
    have hkl : k < L.length := by omega
    have e2 : decide ((k : Int) < (L.length : Int)) = true := by rw [decide_eq_true_iff]; omega
    have e3 : (0 : Int) ≤ (k : Int) := by omega
    have r1 := ih (k + 1) f (by omega) (by omega)
    show (F43_l8 600).b _ _ ((F43_l8 600).L f) some = _
    obtain ⟨Lf, hLf⟩ : ∃ Lf, Lf = (F43_l8 600).L f := ⟨_, rfl⟩
    rw [← hLf] at r1 ⊢
    simp only [F43_l8]
    simp only [e2, e3, if_true, Int.toNat_natCast, get4 L k hkl, Rrd4_en, valid_rl 600 (hL _ (List.getElem_mem hkl)), Bool.not_true, nat_succ (show k < 1000000 by omega)]
    exact r1
theorem validate_ok {L : List RT4} {di ev : Int} (P : Pol L di ev) : F43_d 600 (L.map Ren4, di, ev) = some 0 := by
  obtain ⟨⟨l1, l2⟩, hL, ⟨d1, d2⟩, ⟨v1, v2⟩⟩ := P
  have h := validate_loop hL (by omega) L.length 0 600 (by omega) (by omega)
  replace h : (F43_l8 600).L 600 (L.map Ren4, (L.length : Int), 0) = some (.inr ()) := h
  simp only [F43_d, FSpec.d, F43_s, List.length_map]
  have e1 : decide ((L.length : Int) < 1) = false := by rw [decide_eq_false_iff_not]; omega
  have e2 : decide ((L.length : Int) > 8) = false := by rw [decide_eq_false_iff_not]; omega
  have e3 : decide ((if ev < di then ev else di) < 0) = false := by rw [decide_eq_false_iff_not]; split <;> omega
  have e4 : decide ((if ev > di then ev else di) > 9007199254740992) = false := by rw [decide_eq_false_iff_not]; split <;> omega
  simp only [e1, e2, e3, e4, F43_d8, h]
theorem within_ok (N : Nat) {x : Int} (h : 0 ≤ x ∧ x ≤ 100000) : F54_d N x = some true := by
  simp only [F54_d, FSpec.d, F54_s]
  have e1 : decide (x ≥ 0) = true := by rw [decide_eq_true_iff]; omega
  have e2 : decide (x ≤ 9007199254740992) = true := by rw [decide_eq_true_iff]; omega
  simp only [e1, e2]
theorem rvalidate_loop {L : List RT4} (di ev : Int) (hL : ∀ r ∈ L, RlOkk r) (hl : L.length ≤ 500) : ∀ (d k f : Nat), k + d = L.length → d < f → (F33_l8 600).L f ((k : Int), L.map Ren4, di, ev) = some (.inr ()) := by
  intro d
  induction d with
  | zero =>
    intro k f hk hf
    obtain ⟨f, rfl⟩ : ∃ f', f = f' + 1 := ⟨f - 1, by omega⟩
    show (F33_l8 600).b _ _ ((F33_l8 600).L f) some = _
    simp only [F33_l8]
    have e2 : decide ((k : Int) < (L.length : Int)) = false := by rw [decide_eq_false_iff_not]; omega
    simp only [List.length_map, e2]
  | succ d ih =>
    intro k f hk hf
    obtain ⟨f, rfl⟩ : ∃ f', f = f' + 1 := ⟨f - 1, by omega⟩
    have hkl : k < L.length := by omega
    have e2 : decide ((k : Int) < (L.length : Int)) = true := by rw [decide_eq_true_iff]; omega
    have e3 : (0 : Int) ≤ (k : Int) := by omega
    have r1 := ih (k + 1) f (by omega) (by omega)
    obtain ⟨⟨m1, m2⟩, ⟨p1, p2⟩, hf', hd'⟩ := hL _ (List.getElem_mem hkl)
    have a1 : decide (L[k].1 < -1000) = false := by rw [decide_eq_false_iff_not]; omega
    have a2 : decide (L[k].1 > 2000) = false := by rw [decide_eq_false_iff_not]; omega
    have a3 : decide (L[k].2.1 < 1) = false := by rw [decide_eq_false_iff_not]; omega
    have a4 : decide (L[k].2.1 > 64) = false := by rw [decide_eq_false_iff_not]; omega
    show (F33_l8 600).b _ _ ((F33_l8 600).L f) some = _
    obtain ⟨Lf, hLf⟩ : ∃ Lf, Lf = (F33_l8 600).L f := ⟨_, rfl⟩
    rw [← hLf] at r1 ⊢
    simp only [F33_l8]
    simp only [List.length_map, e2, e3, if_true, Int.toNat_natCast, get4 L k hkl, Rrd4_en, a1, a2, a3, a4, within_ok 600 hf', within_ok 600 hd', Bool.not_true, nat_succ (show k < 1000000 by omega)]
    exact r1
theorem rvalidate_ok {L : List RT4} {di ev : Int} (P : Pol L di ev) : F33_d 600 (L.map Ren4, di, ev) = some 0 := by
  obtain ⟨⟨l1, l2⟩, hL, ⟨d1, d2⟩, ⟨v1, v2⟩⟩ := P
  have h := rvalidate_loop di ev hL (by omega) L.length 0 600 (by omega) (by omega)
  replace h : (F33_l8 600).L 600 (0, L.map Ren4, di, ev) = some (.inr ()) := h
  simp only [F33_d, FSpec.d, F33_s, List.length_map]
  have e1 : decide ((L.length : Int) < 1) = false := by rw [decide_eq_false_iff_not]; omega
  have e2 : decide ((L.length : Int) > 8) = false := by rw [decide_eq_false_iff_not]; omega
  simp only [e1, e2, within_ok 600 (show 0 ≤ di ∧ di ≤ 100000 by omega), within_ok 600 (show 0 ≤ ev ∧ ev ≤ 100000 by omega), Bool.not_true, F33_d8, h]
end Go.Proofs.Ytnnfpoelkdgjdaa
end
section
namespace Go.Proofs.Ytnnfpoelkdgjdaa
set_option linter.unusedVariables false
set_option linter.unusedSimpArgs false
set_option linter.unnecessarySimpa false
@[reducible] def tmE (e : RT0) : Int := e.2.2.2.2.2.2.2.2.2.2.2.2.2.1
theorem dr3 (r : RT4) : ((Ren4 r).drop 3)[0]? = some (AV.v (.int .i64 r.2.2.2.1)) := rfl
theorem timely_ok {L : List RT4} {di ev : Int} (P : Pol L di ev) (e : RT0) (now : Int) : ∃ b, F12_d 600 (L.map Ren4, di, ev, e, now) = some b ∧ (lev L di ev e = 0 → b = false) := by
  have hl := P.l
  simp only [F12_d, FSpec.d, F12_s]
  rw [level_is di ev e (by omega)]
  have h2 := lev_le L di ev e
  by_cases h0 : lev L di ev e = 0
  · simp only [h0]
    exact ⟨false, rfl, fun _ => rfl⟩
  · have e1 : ((lev L di ev e : Int) == 0) = false := by simp; omega
    have e2 : i64 ((lev L di ev e : Int) - 1) = ((lev L di ev e - 1 : Nat) : Int) := by rw [i64_id (by omega)]; omega
    have e3 : (0 : Int) ≤ ((lev L di ev e - 1 : Nat) : Int) := by omega
    simp only [e1, e2]
    cases hd : decide (i64 (now - tmE e) ≥ 0) with
    | true =>
      simp only [e3, if_true, Int.toNat_natCast, get4 L _ (show lev L di ev e - 1 < L.length by omega), dr3]
      exact ⟨_, rfl, fun h => absurd h h0⟩
    | false => exact ⟨false, rfl, fun _ => rfl⟩
theorem gvalid_loop (x y z : Int) : ∀ (d k f : Nat), k + d = 3 → d < f → ∃ q, (F70_l5 600).L f (x, y, z, (k : Int), -1048576, -1048576, -16384) = some q := by
  intro d
  induction d with
  | zero =>
    intro k f hk hf
    obtain ⟨f, rfl⟩ : ∃ f', f = f' + 1 := ⟨f - 1, by omega⟩
    refine ⟨.inr (), ?_⟩
    show (F70_l5 600).b _ _ ((F70_l5 600).L f) some = _
    simp only [F70_l5]
    have e2 : decide ((k : Int) < 3) = false := by rw [decide_eq_false_iff_not]; omega
    simp only [e2]
  | succ d ih =>
    intro k f hk hf
    obtain ⟨f, rfl⟩ : ∃ f', f = f' + 1 := ⟨f - 1, by omega⟩
    obtain ⟨q, r1⟩ := ih (k + 1) f (by omega) (by omega)
    show ∃ q, (F70_l5 600).b _ _ ((F70_l5 600).L f) some = some q
    obtain ⟨Lf, hLf⟩ : ∃ Lf, Lf = (F70_l5 600).L f := ⟨_, rfl⟩
    rw [← hLf] at r1 ⊢
    simp only [F70_l5]
    have e2 : decide ((k : Int) < 3) = true := by rw [decide_eq_true_iff]; omega
    have hz : (0 : Int) ≤ (k : Int) ∧ (k : Int) < 3 := by omega
    obtain ⟨a, ha⟩ : ∃ a, [AV.v (.int .i64 x), AV.v (.int .i64 y), AV.v (.int .i64 z)][k * 1]? = some (AV.v (.int .i64 a)) := by
      rcases (show k = 0 ∨ k = 1 ∨ k = 2 by omega) with rfl | rfl | rfl <;> exact ⟨_, rfl⟩
    obtain ⟨b, hb⟩ : ∃ b, [AV.v (.int .i64 (-1048576)), AV.v (.int .i64 (-1048576)), AV.v (.int .i64 (-16384))][0 + k * 1]? = some (AV.v (.int .i64 b)) := by
      rcases (show k = 0 ∨ k = 1 ∨ k = 2 by omega) with rfl | rfl | rfl <;> exact ⟨_, rfl⟩
    simp only [e2, hz, and_self, if_true, Int.toNat_natCast, ha, hb, nat_succ (show k < 1000000 by omega)]
    cases decide (a < b) with
    | true => exact ⟨_, rfl⟩
    | false =>
      cases decide (a > 1048576) with
      | true => exact ⟨_, rfl⟩
      | false => exact ⟨q, r1⟩
theorem gvalid_ok (x y z : Int) : ∃ b, F70_d 600 (x, y, z) = some b := by
  obtain ⟨q, h⟩ := gvalid_loop x y z 3 0 600 rfl (by omega)
  replace h : (F70_l5 600).L 600 (x, y, z, 0, -1048576, -1048576, -16384) = some q := h
  have hf : F71_d 600 (x, y, z) = some (x, y, z) := rfl
  simp only [F70_d, FSpec.d, F70_s, hf, F70_d5, h]
  rcases q with q | q
  · exact ⟨_, rfl⟩
  · exact ⟨_, rfl⟩
theorem square_loop (x y z u v w : Int) : ∀ (d k f : Nat) (s : Int), k + d = 3 → d < f → ∃ q : Int, (F51_l9 600).L f (s, u, v, w, (k : Int), x, y, z) = some q ∧ (u = x → v = y → w = z → s = 0 → q = 0) := by
  intro d
  induction d with
  | zero =>
    intro k f s hk hf
    obtain ⟨f, rfl⟩ : ∃ f', f = f' + 1 := ⟨f - 1, by omega⟩
    refine ⟨s, ?_, fun _ _ _ h => h⟩
    show (F51_l9 600).b _ _ ((F51_l9 600).L f) some = _
    simp only [F51_l9]
    have e2 : decide ((k : Int) < 3) = false := by rw [decide_eq_false_iff_not]; omega
    simp only [e2]
  | succ d ih =>
    intro k f s hk hf
    obtain ⟨f, rfl⟩ : ∃ f', f = f' + 1 := ⟨f - 1, by omega⟩
    have e2 : decide ((k : Int) < 3) = true := by rw [decide_eq_true_iff]; omega
    have hz : (0 : Int) ≤ (k : Int) ∧ (k : Int) < 3 := by omega
    obtain ⟨a, ha, ha2⟩ : ∃ a, [AV.v (.int .i64 u), AV.v (.int .i64 v), AV.v (.int .i64 w)][k * 1]? = some (AV.v (.int .i64 a)) ∧ (k = 0 ∧ a = u ∨ k = 1 ∧ a = v ∨ k = 2 ∧ a = w) := by
      rcases (show k = 0 ∨ k = 1 ∨ k = 2 by omega) with rfl | rfl | rfl <;> exact ⟨_, rfl, by simp⟩
    obtain ⟨b, hb, hb2⟩ : ∃ b, [AV.v (.int .i64 x), AV.v (.int .i64 y), AV.v (.int .i64 z)][0 + k * 1]? = some (AV.v (.int .i64 b)) ∧ (k = 0 ∧ b = x ∨ k = 1 ∧ b = y ∨ k = 2 ∧ b = z) := by
      rcases (show k = 0 ∨ k = 1 ∨ k = 2 by omega) with rfl | rfl | rfl <;> exact ⟨_, rfl, by simp⟩
    obtain ⟨q, r1, r2⟩ := ih (k + 1) f (i64 (s + i64 (i64 (a - b) * i64 (a - b)))) (by omega) (by omega)
    refine ⟨q, ?_, fun e1 e2 e3 e4 => r2 e1 e2 e3 ?_⟩
    · show (F51_l9 600).b _ _ ((F51_l9 600).L f) some = _
      obtain ⟨Lf, hLf⟩ : ∃ Lf, Lf = (F51_l9 600).L f := ⟨_, rfl⟩
      rw [← hLf] at r1 ⊢
      simp only [F51_l9]
      simp only [e2, hz, and_self, if_true, Int.toNat_natCast, ha, hb, nat_succ (show k < 1000000 by omega)]
      exact r1
    · have : a = b := by
        rcases ha2 with ⟨h1, h2⟩ | ⟨h1, h2⟩ | ⟨h1, h2⟩ <;> rcases hb2 with ⟨h3, h4⟩ | ⟨h3, h4⟩ | ⟨h3, h4⟩ <;> first | omega | (subst h2 h4; assumption)
      subst this e4
      rw [show a - a = 0 by omega]
      decide
theorem square_ok (x y z u v w : Int) : ∃ q, F51_d 600 (x, y, z, u, v, w) = some q ∧ (x = u → y = v → z = w → q = 0) := by
  obtain ⟨b1, h1⟩ := gvalid_ok x y z
  obtain ⟨b2, h2⟩ := gvalid_ok u v w
  have f1 : F71_d 600 (x, y, z) = some (x, y, z) := rfl
  have f2 : F71_d 600 (u, v, w) = some (u, v, w) := rfl
  obtain ⟨q, h3, h4⟩ := square_loop u v w x y z 3 0 600 0 rfl (by omega)
  replace h3 : (F51_l9 600).L 600 (0, x, y, z, 0, u, v, w) = some q := h3
  simp only [F51_d, FSpec.d, F51_s, h1, h2, f1, f2, F51_d9, h3]
  cases b1 with
  | false => exact ⟨0, rfl, fun _ _ _ => rfl⟩
  | true =>
    cases b2 with
    | false => exact ⟨0, rfl, fun _ _ _ => rfl⟩
    | true => exact ⟨q, rfl, fun e1 e2 e3 => h4 e1 e2 e3 rfl⟩
theorem moved_ok {L : List RT4} {di ev : Int} (P : Pol L di ev) (a e : RT0) : ∃ b, F32_d 600 (L.map Ren4, di, ev, a, e) = some b ∧ (a = e → loE a ≤ hiE a → b = false) := by
  have hl := P.l
  have hdi := P.di
  obtain ⟨q, hq, hq0⟩ := square_ok a.2.2.2.2.2.2.2.2.2.2.1 a.2.2.2.2.2.2.2.2.2.2.2.1 a.2.2.2.2.2.2.2.2.2.2.2.2.1 e.2.2.2.2.2.2.2.2.2.2.1 e.2.2.2.2.2.2.2.2.2.2.2.1 e.2.2.2.2.2.2.2.2.2.2.2.2.1
  simp only [F32_d, FSpec.d, F32_s, validate_ok P, level_is di ev _ (show L.length ≤ 1000 by omega), hq]
  have e1 : ((0 : Int) != 0) = false := by decide
  have e2 : decide (di ≤ 4194304) = true := by rw [decide_eq_true_iff]; omega
  simp only [e1, e2]
  cases hlv : ((lev L di ev a : Int) != (lev L di ev e : Int)) with
  | true => exact ⟨_, rfl, fun h => by subst h; simp at hlv⟩
  | false =>
    cases hs : decide (q > i64 (di * di)) with
    | true =>
      refine ⟨_, rfl, fun h _ => ?_⟩
      subst h
      rw [hq0 rfl rfl rfl, decide_eq_true_iff] at hs
      have : 0 ≤ di * di := Int.mul_nonneg hdi.1 hdi.1
      have h2 : di * di ≤ 1000 * 1000 := Int.mul_le_mul hdi.2 hdi.2 hdi.1 (by omega)
      rw [i64_id (by omega)] at hs
      omega
    | false =>
      obtain ⟨ap, hap, hap0⟩ : ∃ ap, F52_d 600 (tmE a, tmE e) = some ap ∧ (a = e → ap = 0) := by
        simp only [F52_d, FSpec.d, F52_s]
        cases decide (tmE a < tmE e) with
        | true => exact ⟨_, rfl, fun h => by subst h; rw [Int.sub_self]; decide⟩
        | false => exact ⟨_, rfl, fun h => by subst h; rw [Int.sub_self]; decide⟩
      obtain ⟨ag, hag, hag0⟩ : ∃ ag, F53_d 600 (loE a, hiE a, loE e, hiE e) = some ag ∧ (a = e → loE a ≤ hiE a → ag = true) := by
        simp only [F53_d, FSpec.d, F53_s]
        exact ⟨_, rfl, fun h h2 => by subst h; rw [decide_eq_true_iff]; split <;> split <;> omega⟩
      simp only [hap, hag]
      cases hx : decide (ap > IntKind.u64.wrap di) with
      | true =>
        refine ⟨_, rfl, fun h _ => ?_⟩
        rw [hap0 h, decide_eq_true_iff] at hx
        have : (0 : Int) ≤ IntKind.u64.wrap di := by
          rw [show IntKind.u64.wrap di = di from IntWalk.u64_in _ (by omega)]
          omega
        omega
      | false => exact ⟨_, rfl, fun h h2 => by rw [hag0 h h2]; rfl⟩
end Go.Proofs.Ytnnfpoelkdgjdaa
end
section
namespace Go.Proofs.Ytnnfpoelkdgjdaa
set_option linter.unusedVariables false
set_option linter.unusedSimpArgs false
set_option linter.unnecessarySimpa false
theorem meets_ok (r : RT4) (e : RT0) (X : LvX) (hX : X.2.2.2 = e) : F34_d 600 (r, e) = some (meetsB (toRl r) (lvEv X)) := by
  subst hX
  simp only [F34_d, FSpec.d, F34_s]
  have : meetsB (toRl r) (lvEv X) = (decide ((lvEv X).ct ≥ 1) && (decide ((lvEv X).lo ≥ r.1) && (decide (((lvEv X).n : Int) ≥ r.2.1) && decide ((lvEv X).mf ≤ r.2.2.1)))) := by
    unfold meetsB
    rw [Bool.eq_iff_iff]
    simp [toRl]
    exact decide_eq_true_iff
  rw [this]
  show (match decide ((lvEv X).ct ≥ 1) with | true => _ | false => _) = _
  cases decide ((lvEv X).ct ≥ 1) with
  | false => rfl
  | true =>
    show (match decide ((lvEv X).lo ≥ r.1) with | true => _ | false => _) = _
    cases decide ((lvEv X).lo ≥ r.1) with
    | false => rfl
    | true =>
      show (match decide (((lvEv X).n : Int) ≥ r.2.1) with | true => _ | false => _) = _
      cases decide (((lvEv X).n : Int) ≥ r.2.1) with
      | false => rfl
      | true => rfl
theorem rlevel_loop {L : List RT4} {di ev : Int} (P : Pol L di ev) (e : RT0) : ∀ (d k f : Nat), k + d = L.length → d < f → (F14_l5 600).L f ((levN (L.map toRl) (lvEv (L.map Ren4, di, ev, e)) k : Int), (k : Int), L.map Ren4, di, ev, e) = some ((levN (L.map toRl) (lvEv (L.map Ren4, di, ev, e)) L.length : Nat) : Int) := by
  have hl := P.l
  intro d
  induction d with
  | zero =>
    intro k f hk hf
    obtain ⟨f, rfl⟩ : ∃ f', f = f' + 1 := ⟨f - 1, by omega⟩
    show (F14_l5 600).b _ _ ((F14_l5 600).L f) some = _
    simp only [F14_l5]
    have e2 : decide ((k : Int) < (L.length : Int)) = false := by rw [decide_eq_false_iff_not]; omega
    simp only [List.length_map, e2]
    rw [show k = L.length by omega]
  | succ d ih =>
    intro k f hk hf
    obtain ⟨f, rfl⟩ : ∃ f', f = f' + 1 := ⟨f - 1, by omega⟩
    have hkl : k < L.length := by omega
    have e2 : decide ((k : Int) < (L.length : Int)) = true := by rw [decide_eq_true_iff]; omega
    have e3 : (0 : Int) ≤ (k : Int) := by omega
    have e4 : ((0 : Int) == 0) = true := by decide
    have r1 := ih (k + 1) f (by omega) (by omega)
    have hm := meets_ok L[k] e (L.map Ren4, di, ev, e) rfl
    have hstep : levN (L.map toRl) (lvEv (L.map Ren4, di, ev, e)) (k + 1) = if meetsB (toRl L[k]) (lvEv (L.map Ren4, di, ev, e)) = true then k + 1 else levN (L.map toRl) (lvEv (L.map Ren4, di, ev, e)) k := by
      have : ((L.map toRl)[k]?.getD rl0) = toRl L[k] := by simp [hkl]
      rw [levN, this]
    show (F14_l5 600).b _ _ ((F14_l5 600).L f) some = _
    obtain ⟨Lf, hLf⟩ : ∃ Lf, Lf = (F14_l5 600).L f := ⟨_, rfl⟩
    rw [← hLf] at r1 ⊢
    rw [hstep] at r1
    simp only [F14_l5]
    simp only [List.length_map, e2, rvalidate_ok P, e4, e3, if_true, Int.toNat_natCast, get4 L k hkl, Rrd4_en, hm, nat_succ (show k < 1000000 by omega)]
    cases hb : meetsB (toRl L[k]) (lvEv (L.map Ren4, di, ev, e)) with
    | true => rw [hb] at r1; exact r1
    | false => rw [hb] at r1; exact r1
theorem vE_zero {L : List RT4} {di ev : Int} (P : Pol L di ev) : vE (L.map toRl) di ev = 0 := by
  obtain ⟨⟨l1, l2⟩, hL, ⟨d1, d2⟩, ⟨v1, v2⟩⟩ := P
  unfold vE
  rw [if_pos]
  refine ⟨by rw [List.length_map]; omega, by omega, by omega, fun r hr => ?_⟩
  obtain ⟨q, hq, rfl⟩ := List.mem_map.1 hr
  obtain ⟨⟨m1, m2⟩, ⟨p1, p2⟩, ⟨f1, f2⟩, ⟨d1, d2⟩⟩ := hL q hq
  unfold validB toRl
  rw [decide_eq_true_iff]
  dsimp only
  omega
theorem lev_eq {L : List RT4} {di ev : Int} (P : Pol L di ev) (e : RT0) : lev L di ev e = levN (L.map toRl) (lvEv (L.map Ren4, di, ev, e)) L.length := by
  unfold lev levF
  rw [if_pos (vE_zero P), List.length_map]
theorem rlevel_ok {L : List RT4} {di ev : Int} (P : Pol L di ev) (e : RT0) : F14_d 600 (L.map Ren4, di, ev, e) = some (lev L di ev e : Int) := by
  have hl := P.l
  have h := rlevel_loop P e L.length 0 600 (by omega) (by omega)
  replace h : (F14_l5 600).L 600 (0, 0, L.map Ren4, di, ev, e) = some ((levN (L.map toRl) (lvEv (L.map Ren4, di, ev, e)) L.length : Nat) : Int) := h
  simp only [F14_d, FSpec.d, F14_s, F14_d5, h]
  rw [lev_eq P]
end Go.Proofs.Ytnnfpoelkdgjdaa
end
section
namespace Go.Proofs.Ytnnfpoelkdgjdaa
set_option linter.unusedVariables false
set_option linter.unusedSimpArgs false
set_option linter.unnecessarySimpa false
theorem id3 (a : RT3) : ((Ren3 a).drop 0)[0]? = some (AV.v (.int .i64 (idA a))) := rfl
structure Ok (al : List RT3) (number now : Int) : Prop where
  len : al.length ≤ 100
  asc : al.Pairwise fun a b => idA a < idA b
  rng : ∀ a ∈ al, 0 ≤ idA a ∧ idA a < number ∧ 0 ≤ atA a ∧ atA a ≤ now
  nm : al.Pairwise fun a b => wdA a = false → wdA b = false → nmA a ≠ nmA b
  pk : ∀ a ∈ al, ∃ P : List RT1, P.length ≤ 4 ∧ pkE (evA a) = P.map Ren1
  num : 0 ≤ number ∧ number ≤ 800
  now : 0 ≤ now ∧ now ≤ 1000000
theorem drop_eq {α : Type} {A : List α} {k : Nat} {e : α} {R : List α} (hR : A.drop k = e :: R) : ∃ h : k < A.length, A[k] = e ∧ A.drop (k + 1) = R := by
  have hkl : k < A.length := by
    rcases Nat.lt_or_ge k A.length with h | h
    · exact h
    · rw [List.drop_eq_nil_of_le h] at hR; cases hR
  have := List.drop_eq_getElem_cons hkl
  rw [hR] at this
  exact ⟨hkl, (List.cons.inj this).1.symm, (List.cons.inj this).2.symm⟩
theorem avalid_loop (A : List RT3) (hA : A.length ≤ 500) : ∀ (R : List RT3) (k f : Nat) (last : Int) (M : List RT1), A.drop k = R → R.length < f → k + R.length = A.length →
    R.Pairwise (fun a b => idA a < idA b) → (∀ a ∈ R, last < idA a) → (∀ a ∈ R, idA a < 1000 ∧ 0 ≤ atA a ∧ atA a ≤ 1000000) → R.Pairwise (fun a b => wdA a = false → wdA b = false → nmA a ≠ nmA b) → (∀ a ∈ R, wdA a = false → nmA a ∉ M) →
    (F18_l10 600).L f (A.map Ren3, last, (A.length : Int), (k : Int), M.map Ren1) = some (.inr ())
  | [], k, f, last, M, hR, hf, hk, h1, h2, h3, h4, h5 => by
    obtain ⟨f, rfl⟩ : ∃ f', f = f' + 1 := ⟨f - 1, by omega⟩
    show (F18_l10 600).b _ _ ((F18_l10 600).L f) some = _
    simp only [F18_l10]
    have e2 : decide ((k : Int) < (A.length : Int)) = false := by rw [decide_eq_false_iff_not]; simp at hk; omega
    simp only [e2]
  | e :: R, k, f, last, M, hR, hf, hk, h1, h2, h3, h4, h5 => by
    obtain ⟨f, rfl⟩ : ∃ f', f = f' + 1 := ⟨f - 1, by omega⟩
    rw [List.length_cons] at hf hk
    obtain ⟨hkl, hek, hR'⟩ := drop_eq hR
    rw [List.pairwise_cons] at h1 h4
    have he := h3 e List.mem_cons_self
    have e2 : decide ((k : Int) < (A.length : Int)) = true := by rw [decide_eq_true_iff]; omega
    have e3 : (0 : Int) ≤ (k : Int) := by omega
    have a1 : decide (idA e ≤ last) = false := by rw [decide_eq_false_iff_not]; have := h2 e List.mem_cons_self; omega
    have a2 : decide (idA e ≥ 1000) = false := by rw [decide_eq_false_iff_not]; omega
    have a3 : decide (atA e < 0) = false := by rw [decide_eq_false_iff_not]; omega
    have a4 : decide (atA e > 18014398509481984) = false := by rw [decide_eq_false_iff_not]; omega
    show (F18_l10 600).b _ _ ((F18_l10 600).L f) some = _
    obtain ⟨Lf, hLf⟩ : ∃ Lf, Lf = (F18_l10 600).L f := ⟨_, rfl⟩
    cases hw : wdA e with
    | true =>
      have r1 := avalid_loop A hA R (k + 1) f (idA e) M hR' (by omega) (by omega) h1.2 h1.1 (fun a ha => h3 a (List.mem_cons_of_mem _ ha)) h4.2 (fun a ha => h5 a (List.mem_cons_of_mem _ ha))
      rw [← hLf] at r1 ⊢
      simp only [F18_l10]
      simp only [e2, e3, if_true, Int.toNat_natCast, get3 A k hkl, hek, Rrd3_en, a1, a2, a3, a4, hw, nat_succ (show k < 1000000 by omega)]
      exact r1
    | false =>
      obtain ⟨m1, m2⟩ := has_no M (nmA e) (h5 e List.mem_cons_self hw)
      have r1 := avalid_loop A hA R (k + 1) f (idA e) (M ++ [nmA e]) hR' (by omega) (by omega) h1.2 h1.1 (fun a ha => h3 a (List.mem_cons_of_mem _ ha)) h4.2 (fun a ha hwa hm => by
        rcases List.mem_append.1 hm with h | h
        · exact h5 a (List.mem_cons_of_mem _ ha) hwa h
        · exact h4.1 a ha hw hwa (List.mem_singleton.1 h).symm)
      rw [← hLf] at r1 ⊢
      simp only [F18_l10]
      simp only [e2, e3, if_true, Int.toNat_natCast, get3 A k hkl, hek, Rrd3_en, a1, a2, a3, a4, hw, m1, m2, nat_succ (show k < 1000000 by omega)]
      exact r1
theorem alert_valid {A : List RT3} {number now : Int} (O : Ok A number now) : F18_d 600 (A.map Ren3) = some true := by
  have hl := O.len
  have h := avalid_loop A (by omega) A 0 600 (-1) [] rfl (by omega) (by omega) O.asc (fun a ha => by have := O.rng a ha; omega) (fun a ha => by have := O.rng a ha; have := O.num; have := O.now; omega) O.nm (fun a _ _ h => by cases h)
  replace h : (F18_l10 600).L 600 (A.map Ren3, -1, (A.length : Int), 0, []) = some (.inr ()) := h
  have e1 : decide ((A.length : Int) > 200) = false := by rw [decide_eq_false_iff_not]; omega
  simp only [F18_d, FSpec.d, F18_s, List.length_map, e1, F18_d10, h]
theorem late_loop (A : List RT3) (now : Int) (hA : A.length ≤ 500) (h : ∀ a ∈ A, atA a ≤ now) : ∀ (d k f : Nat), k + d = A.length → d < f → (F63_l4 600).L f (A.map Ren3, (A.length : Int), (k : Int), now) = some (.inr now) := by
  intro d
  induction d with
  | zero =>
    intro k f hk hf
    obtain ⟨f, rfl⟩ : ∃ f', f = f' + 1 := ⟨f - 1, by omega⟩
    show (F63_l4 600).b _ _ ((F63_l4 600).L f) some = _
    simp only [F63_l4]
    have e2 : decide ((k : Int) < (A.length : Int)) = false := by rw [decide_eq_false_iff_not]; omega
    simp only [e2]
  | succ d ih =>
    intro k f hk hf
    obtain ⟨f, rfl⟩ : ∃ f', f = f' + 1 := ⟨f - 1, by omega⟩
    have hkl : k < A.length := by omega
    have e2 : decide ((k : Int) < (A.length : Int)) = true := by rw [decide_eq_true_iff]; omega
    have e3 : (0 : Int) ≤ (k : Int) := by omega
    have r1 := ih (k + 1) f (by omega) (by omega)
    have hq : F46_d 600 (A[k], now) = some (false, now) := by
      simp only [F46_d, FSpec.d, F46_s]
      have : decide (now < atA A[k]) = false := by
        rw [decide_eq_false_iff_not]
        have := h _ (List.getElem_mem hkl)
        omega
      rw [this]
    show (F63_l4 600).b _ _ ((F63_l4 600).L f) some = _
    obtain ⟨Lf, hLf⟩ : ∃ Lf, Lf = (F63_l4 600).L f := ⟨_, rfl⟩
    rw [← hLf] at r1 ⊢
    simp only [F63_l4]
    simp only [e2, e3, if_true, Int.toNat_natCast, get3 A k hkl, Rrd3_en, hq, nat_succ (show k < 1000000 by omega)]
    exact r1
theorem late_ok (A : List RT3) (now : Int) (hA : A.length ≤ 500) (h : ∀ a ∈ A, atA a ≤ now) : F45_d 600 (A.map Ren3, now) = some (false, now) := by
  have h := late_loop A now hA h A.length 0 600 (by omega) (by omega)
  replace h : (F63_l4 600).L 600 (A.map Ren3, (A.length : Int), 0, now) = some (.inr now) := h
  simp only [F45_d, FSpec.d, F45_s, F63_d, F63_s, F63_d4, List.length_map, h]
  rfl
theorem last_get {A : List RT3} (h : 0 < A.length) : (A.map Ren3)[A.length - 1]? = some (Ren3 A[A.length - 1]) := get3 A _ (by omega)
theorem refused_ok {L : List RT4} {di ev number now now' : Int} {A : List RT3} {E : List RT0} (P : Pol L di ev) (O : Ok A number now) (hE : EvOk E) (hn : now ≤ now' ∧ now' ≤ 1000000) : F27_d 600 (L.map Ren4, di, ev, A.map Ren3, number, E.map Ren0, now') = some 0 := by
  have hl := O.len
  have hnum := O.num
  have hnow := O.now
  have a1 : ((0 : Int) != 0) = false := by decide
  have a2 : decide (number < 0) = false := by rw [decide_eq_false_iff_not]; omega
  have a3 : decide (now' < 0) = false := by rw [decide_eq_false_iff_not]; omega
  have a4 : decide (now' > 18014398509481984) = false := by rw [decide_eq_false_iff_not]; omega
  have a5 := late_ok A now' (by omega) (fun a ha => by have := O.rng a ha; omega)
  simp only [F27_d, FSpec.d, F27_s, validate_ok P, alert_valid O, hE.v, a1, a2, a3, a4, a5, Bool.not_true, List.length_map]
  by_cases h0 : (A.length : Int) > 0
  · have hk1 : i64 ((A.length : Int) - 1) = ((A.length - 1 : Nat) : Int) := by rw [i64_id (by omega)]; omega
    have e7 : (0 : Int) ≤ ((A.length - 1 : Nat) : Int) := by omega
    have a6 : decide (number ≤ idA A[A.length - 1]) = false := by
      rw [decide_eq_false_iff_not]
      have := O.rng _ (List.getElem_mem (show A.length - 1 < A.length by omega))
      omega
    simp only [h0, decide_true, hk1, e7, if_true, Int.toNat_natCast, last_get (show 0 < A.length by omega), id3, a6]
  · simp only [h0, decide_false]
end Go.Proofs.Ytnnfpoelkdgjdaa
end
section
namespace Go.Proofs.Ytnnfpoelkdgjdaa
set_option linter.unusedVariables false
set_option linter.unusedSimpArgs false
set_option linter.unnecessarySimpa false
theorem clone_ok (x : List (List AV)) (h : x.length ≤ 100000) : F47_d 600 x = some x := by
  simp only [F47_d, FSpec.d, F47_s]
  have hb : (([] : List (List AV)).length + x.length) * 104 ≤ maxBytes := by unfold maxBytes; simp; omega
  cases x with
  | nil => simp only [hb, if_true]; exact both_self _
  | cons a r => simp only [hb, if_true, List.nil_append]
theorem copied_ok (e : RT0) (h : (pkE e).length ≤ 100000) : F29_d 600 e = some e := by
  simp only [F29_d, FSpec.d, F29_s, clone_ok (pkE e) h]
theorem fl3 (L : List RT3) : (fl Ren3 L).map dat0 = fl Ren3 L := fl_dat Ren3 (fun _ => rfl) L
theorem len3 (L : List RT3) : (fl Ren3 L).length = L.length * 38 := fl_len Ren3 38 Ren3_len L
theorem app3 (L : List RT3) (a : RT3) (k : Nat) (hk : k = L.length) : (fl Ren3 L).take (k * 38) ++ [Ren3 a].flatten = fl Ren3 (L ++ [a]) := by
  rw [fl_take Ren3 38 Ren3_len L k hk, ← fl_app]; simp
theorem flat3 (L : List RT3) : (L.map Ren3).flatten = fl Ren3 L := rfl
theorem cloneA_ok (A : List RT3) (h : A.length ≤ 100000) : F48a_d 600 (A.map Ren3) = some (A.length, fl Ren3 A) := by
  simp only [F48a_d, FSpec.d, F48a_s]
  have hb : 0 * 38 ≤ ([] : List AV).length ∧ (0 + (A.map Ren3).length) * 384 ≤ maxBytes := by unfold maxBytes; simp; omega
  cases A with
  | nil => 
    simp only [hb, and_self, if_true]
    exact both_self _
  | cons a r =>
    simp only [hb, and_self, if_true]
    rw [Nat.zero_add, List.length_map, Nat.zero_mul, List.take_nil, List.nil_append, flat3, fl3]
    rfl
theorem splice3 (L : List RT3) (k j : Nat) (hk : k < L.length) (new : List AV) (b : RT3) (hj : j + new.length ≤ 38) (hb : splice (Ren3 L[k]) j new = Ren3 b) : splice (fl Ren3 L) ((0 + ((k : Int)).toNat) * 38 + j) new = fl Ren3 (L.set k b) := by
  rw [Nat.zero_add, Int.toNat_natCast]
  exact fl_splice Ren3 38 Ren3_len L k j hk new b hb hj
theorem drop_ev (L : List RT3) (k : Nat) (hk : k < L.length) : Rrd0 ((fl Ren3 L).drop ((0 + ((k : Int)).toNat) * 38 + 12)) = some (evA L[k]) := by
  rw [Nat.zero_add, Int.toNat_natCast, fl_drop Ren3 38 Ren3_len L k 12 hk (by omega)]
  have : (Ren3 L[k]).drop 12 = Ren0 (evA L[k]) ++ [AV.v (.int .i64 (atA L[k]))] := rfl
  rw [this, List.append_assoc, Rrd0_app]
theorem sp_ev (a : RT3) (e : RT0) : splice (Ren3 a) 12 (Ren0 e) = Ren3 (mkA (idA a) (wdA a) (nmA a) (lvA a) e (atA a)) := by kernel_rfl
theorem sp_wd (a : RT3) (b : Bool) : splice (Ren3 a) 1 [AV.v (.bool b)] = Ren3 (mkA (idA a) b (nmA a) (lvA a) (evA a) (atA a)) := by kernel_rfl
theorem sp_nm (a : RT3) (p : RT1) : splice (Ren3 a) 2 (Ren1 p) = Ren3 (mkA (idA a) (wdA a) p (lvA a) (evA a) (atA a)) := by kernel_rfl
theorem sp_lv (a : RT3) (x : Int) : splice (Ren3 a) 11 [AV.v (.int .i64 x)] = Ren3 (mkA (idA a) (wdA a) (nmA a) x (evA a) (atA a)) := by kernel_rfl
theorem sp_at (a : RT3) (x : Int) : splice (Ren3 a) 37 [AV.v (.int .i64 x)] = Ren3 (mkA (idA a) (wdA a) (nmA a) (lvA a) (evA a) x) := by kernel_rfl
theorem set_same {α : Type} (L : List α) (k : Nat) (hk : k < L.length) : L.set k L[k] = L := by simp
theorem all_loop (A : List RT3) (hA : A.length ≤ 500) (hp : ∀ a ∈ A, (pkE (evA a)).length ≤ 100000) : ∀ (d k f : Nat), k + d = A.length → d < f → (F30a_l5 600).L f (A.length, (A.length : Int), (k : Int), fl Ren3 A) = some (A.length, fl Ren3 A) := by
  intro d
  induction d with
  | zero =>
    intro k f hk hf
    obtain ⟨f, rfl⟩ : ∃ f', f = f' + 1 := ⟨f - 1, by omega⟩
    show (F30a_l5 600).b _ _ ((F30a_l5 600).L f) some = _
    simp only [F30a_l5]
    have e2 : decide ((k : Int) < (A.length : Int)) = false := by rw [decide_eq_false_iff_not]; omega
    simp only [e2, fl3]
  | succ d ih =>
    intro k f hk hf
    obtain ⟨f, rfl⟩ : ∃ f', f = f' + 1 := ⟨f - 1, by omega⟩
    have hkl : k < A.length := by omega
    have e2 : decide ((k : Int) < (A.length : Int)) = true := by rw [decide_eq_true_iff]; omega
    have hz : (0 : Int) ≤ (k : Int) ∧ (k : Int) < (A.length : Int) := by omega
    have r1 := ih (k + 1) f (by omega) (by omega)
    have hc := copied_ok (evA A[k]) (hp _ (List.getElem_mem hkl))
    have hs := splice3 A k 12 hkl (Ren0 (evA A[k])) A[k] (by rw [Ren0_len]; omega) (sp_ev A[k] (evA A[k]))
    rw [set_same A k hkl] at hs
    have hg : (0 + ((k : Int)).toNat) * 38 + 12 + 25 ≤ (fl Ren3 A).length := by rw [len3, Nat.zero_add, Int.toNat_natCast]; omega
    show (F30a_l5 600).b _ _ ((F30a_l5 600).L f) some = _
    obtain ⟨Lf, hLf⟩ : ∃ Lf, Lf = (F30a_l5 600).L f := ⟨_, rfl⟩
    rw [← hLf] at r1 ⊢
    simp only [F30a_l5]
    simp only [e2, hz, and_self, if_true, drop_ev A k hkl, hc, hg, hs, fl3, nat_succ (show k < 1000000 by omega)]
    exact r1
theorem all_ok (A : List RT3) (hA : A.length ≤ 500) (hp : ∀ a ∈ A, (pkE (evA a)).length ≤ 100000) : F30a_d 600 (A.map Ren3) = some (A.length, fl Ren3 A) := by
  have h := all_loop A hA hp A.length 0 600 (by omega) (by omega)
  replace h : (F30a_l5 600).L 600 (A.length, (A.length : Int), 0, fl Ren3 A) = some (A.length, fl Ren3 A) := h
  simp only [F30a_d, FSpec.d, F30a_s, cloneA_ok A (by omega), fl3, F30a_d5, h]
theorem publish_ok (kind : Int) (a : RT3) (full : Bool) (number now : Int) (B : List RT6) (hn : 0 ≤ number ∧ number ≤ 999) (hB : B.length ≤ 100000) (hp : (pkE (evA a)).length ≤ 100000) (hf : full = false) : F28_d 600 (kind, a, full, number, B.map Ren6, now) = some (false, number + 1, (B ++ [mkB number kind (idA a) now (lvA a) (evA a)]).map Ren6, now) := by
  subst hf
  have hb : ∀ r : List AV, ((B.map Ren6).length + [r].length) * 288 ≤ maxBytes := fun r => by
    rw [List.length_map]; unfold maxBytes; simp; omega
  have e1 : decide (number ≥ 1000) = false := by rw [decide_eq_false_iff_not]; omega
  have e2 : i64 (number + 1) = number + 1 := i64_id (by omega)
  simp only [F28_d, FSpec.d, F28_s, copied_ok (evA a) hp, hb, if_true, e1, e2]
  rw [List.map_append]
  rfl
def cI (o : List Int) : List AV := o.map fun x => AV.v (.int .i64 x)
def cB (o : List Bool) : List AV := o.map fun x => AV.v (.bool x)
theorem cI_len (o : List Int) : (cI o).length = o.length := by simp [cI]
theorem cB_len (o : List Bool) : (cB o).length = o.length := by simp [cB]
theorem cI_dat (o : List Int) : (cI o).map dat0 = cI o := by
  unfold cI; rw [List.map_map]; rfl
theorem cB_dat (o : List Bool) : (cB o).map dat0 = cB o := by
  unfold cB; rw [List.map_map]; rfl
theorem cI_get (o : List Int) (k : Nat) (h : k < o.length) : (cI o)[(0 + ((k : Int)).toNat) * 1]? = some (AV.v (.int .i64 o[k])) := by
  rw [Nat.zero_add, Int.toNat_natCast, Nat.mul_one]; simp [cI, h]
theorem cB_get (o : List Bool) (k : Nat) (h : k < o.length) : (cB o)[(0 + ((k : Int)).toNat) * 1]? = some (AV.v (.bool o[k])) := by
  rw [Nat.zero_add, Int.toNat_natCast, Nat.mul_one]; simp [cB, h]
theorem cI_set (o : List Int) (k : Nat) (v : Int) : splice (cI o) ((0 + ((k : Int)).toNat) * 1) [AV.v (.int .i64 v)] = cI (o.set k v) := by
  rw [Nat.zero_add, Int.toNat_natCast, Nat.mul_one]
  show (cI o).set k _ = _
  simp [cI, List.map_set]
theorem cB_set (o : List Bool) (k : Nat) (v : Bool) : splice (cB o) ((0 + ((k : Int)).toNat) * 1) [AV.v (.bool v)] = cB (o.set k v) := by
  rw [Nat.zero_add, Int.toNat_natCast, Nat.mul_one]
  show (cB o).set k _ = _
  simp [cB, List.map_set]
theorem cI_room (o : List Int) (k : Nat) (h : k < o.length) : (0 + ((k : Int)).toNat) * 1 + 1 ≤ (cI o).length := by rw [cI_len, Nat.zero_add, Int.toNat_natCast]; omega
theorem cB_room (o : List Bool) (k : Nat) (h : k < o.length) : (0 + ((k : Int)).toNat) * 1 + 1 ≤ (cB o).length := by rw [cB_len, Nat.zero_add, Int.toNat_natCast]; omega
theorem cI_rep (n : Nat) (v : Int) : List.replicate n (AV.v (.int .i64 v)) = cI (List.replicate n v) := by simp [cI]
theorem cB_rep (n : Nat) (v : Bool) : List.replicate n (AV.v (.bool v)) = cB (List.replicate n v) := by simp [cB]
theorem cI_chunks0 : ∀ o : List Int, chunks (cI o) 1 o.length = rowsI o
  | [] => rfl
  | a :: r => by
    show ((((AV.v (.int .i64 a)) :: cI r).take 1).map dat0) :: chunks (((AV.v (.int .i64 a)) :: cI r).drop 1) 1 r.length = _
    rw [List.drop_one, List.tail_cons, cI_chunks0 r]
    rfl
theorem cI_chunks (o : List Int) (n : Nat) (h : n = o.length) : chunks ((cI o).take (n * 1)) 1 n = rowsI o := by
  subst h
  rw [Nat.mul_one, List.take_of_length_le (by rw [cI_len]; exact Nat.le_refl _), cI_chunks0]
end Go.Proofs.Ytnnfpoelkdgjdaa
end
section
namespace Go.Proofs.Ytnnfpoelkdgjdaa
set_option linter.unusedVariables false
set_option linter.unusedSimpArgs false
set_option linter.unnecessarySimpa false
@[reducible] def mk5 (p : RT1) (i : Int) : RT5 := (p.1, p.2.1, p.2.2.1, p.2.2.2.1, p.2.2.2.2.1, p.2.2.2.2.2.1, p.2.2.2.2.2.2.1, p.2.2.2.2.2.2.2.1, p.2.2.2.2.2.2.2.2.1, i, ())
def row5 (q : RT1 × Int) : List AV := Ren5 (mk5 q.1 q.2)
theorem eqCs5 (a : RT1) (q : RT1 × Int) : eqCs (Ren1 a) (row5 q) = eqP a q.1 := by
  show (a.1 == q.1.1 && (a.2.1 == q.1.2.1 && (a.2.2.1 == q.1.2.2.1 && (a.2.2.2.1 == q.1.2.2.2.1 && (a.2.2.2.2.1 == q.1.2.2.2.2.1 && (a.2.2.2.2.2.1 == q.1.2.2.2.2.2.1 && (a.2.2.2.2.2.2.1 == q.1.2.2.2.2.2.2.1 && (a.2.2.2.2.2.2.2.1 == q.1.2.2.2.2.2.2.2.1 && (a.2.2.2.2.2.2.2.2.1 == q.1.2.2.2.2.2.2.2.2.1 && true))))))))) = _
  simp only [eqP, Bool.and_true, Bool.and_assoc]
theorem int_no : ∀ (M : List (RT1 × Int)) (p : RT1) (i : Int), (∀ q ∈ M, p ≠ q.1) → mpInt (Ren1 p) (M.map row5) = none ∧ mpPut (Ren1 p) (row5 (p, i)) (M.map row5) = (M ++ [(p, i)]).map row5
  | [], p, i, h => ⟨rfl, rfl⟩
  | q :: M, p, i, h => by
    obtain ⟨i1, i2⟩ := int_no M p i (fun q hq => h q (List.mem_cons_of_mem _ hq))
    have e : eqCs (Ren1 p) (row5 q) = false := by rw [eqCs5]; exact eqP_ff (h q List.mem_cons_self)
    refine ⟨?_, ?_⟩
    · unfold mpInt at i1 ⊢
      simp only [List.map_cons, mpFind, e]
      exact i1
    · simp only [List.map_cons, mpPut, e, i2, List.cons_append]
theorem int_yes : ∀ (M : List (RT1 × Int)) (p : RT1) (i : Int), (p, i) ∈ M → (M.Pairwise fun a b => a.1 ≠ b.1) → mpInt (Ren1 p) (M.map row5) = some i
  | q :: M, p, i, h, hd => by
    rw [List.pairwise_cons] at hd
    rcases List.mem_cons.1 h with e | e
    · subst e
      have e : eqCs (Ren1 p) (row5 (p, i)) = true := by rw [eqCs5]; exact eqP_tt p
      unfold mpInt
      simp only [List.map_cons, mpFind, e]
      rfl
    · have e2 : eqCs (Ren1 p) (row5 q) = false := by rw [eqCs5]; exact eqP_ff (fun x => hd.1 _ e x.symm)
      have := int_yes M p i e hd.2
      unfold mpInt at this ⊢
      simp only [List.map_cons, mpFind, e2]
      exact this
def nmI : List RT0 → Nat → List (RT1 × Int)
  | [], _ => []
  | e :: r, i => (nmE e, (i : Int)) :: nmI r (i + 1)
theorem nmI_mem : ∀ (R : List RT0) (i : Nat) (q : RT1 × Int), q ∈ nmI R i ↔ ∃ j, ∃ h : j < R.length, q = (nmE R[j], ((i + j : Nat) : Int))
  | [], i, q => ⟨fun h => (by cases h), fun ⟨j, h, _⟩ => (by cases h)⟩
  | e :: R, i, q => by
    unfold nmI
    rw [List.mem_cons, nmI_mem R (i + 1) q]
    constructor
    · rintro (h | ⟨j, h, e2⟩)
      · exact ⟨0, by simp, h⟩
      · exact ⟨j + 1, by simpa using h, by rw [e2, show i + (j + 1) = i + 1 + j by omega]; rfl⟩
    · rintro ⟨j, h, e2⟩
      cases j with
      | zero => exact .inl e2
      | succ j => exact .inr ⟨j, by simpa using h, by rw [e2, show i + (j + 1) = i + 1 + j by omega]; rfl⟩
theorem nmI_pair : ∀ (R : List RT0) (i : Nat), (R.Pairwise fun a b => nmE a ≠ nmE b) → (nmI R i).Pairwise fun a b => a.1 ≠ b.1
  | [], i, h => .nil
  | e :: R, i, h => by
    rw [List.pairwise_cons] at h
    refine .cons (fun q hq => ?_) (nmI_pair R (i + 1) h.2)
    obtain ⟨j, hj, rfl⟩ := (nmI_mem R (i + 1) q).1 hq
    exact h.1 _ (List.getElem_mem hj)
theorem names_loop (A : List (List AV)) (E : List RT0) (hE : E.length ≤ 500) : ∀ (R : List RT0) (k f : Nat) (M : List (RT1 × Int)), E.drop k = R → R.length < f → k + R.length = E.length → (R.Pairwise fun a b => nmE a ≠ nmE b) → (∀ e ∈ R, ∀ q ∈ M, nmE e ≠ q.1) →
    (F19_l5 600).L f (A, E.map Ren0, E.map Ren0, (E.length : Int), (k : Int), M.map row5) = some (A, E.map Ren0, (M ++ nmI R k).map row5)
  | [], k, f, M, hR, hf, hk, h1, h2 => by
    obtain ⟨f, rfl⟩ : ∃ f', f = f' + 1 := ⟨f - 1, by omega⟩
    show (F19_l5 600).b _ _ ((F19_l5 600).L f) some = _
    simp only [F19_l5]
    have e2 : decide ((k : Int) < (E.length : Int)) = false := by rw [decide_eq_false_iff_not]; simp at hk; omega
    simp only [e2]
    unfold nmI
    rw [List.append_nil]
  | e :: R, k, f, M, hR, hf, hk, h1, h2 => by
    obtain ⟨f, rfl⟩ : ∃ f', f = f' + 1 := ⟨f - 1, by omega⟩
    rw [List.length_cons] at hf hk
    obtain ⟨hkl, hek, hR'⟩ := drop_eq hR
    rw [List.pairwise_cons] at h1
    have e2 : decide ((k : Int) < (E.length : Int)) = true := by rw [decide_eq_true_iff]; omega
    have e3 : (0 : Int) ≤ (k : Int) := by omega
    obtain ⟨m1, m2⟩ := int_no M (nmE e) (k : Int) (h2 e List.mem_cons_self)
    have r1 := names_loop A E hE R (k + 1) f (M ++ [(nmE e, (k : Int))]) hR' (by omega) (by omega) h1.2 (fun a ha q hq => by
      rcases List.mem_append.1 hq with h | h
      · exact h2 a (List.mem_cons_of_mem _ ha) q h
      · have h := List.mem_singleton.1 h
        subst h
        exact (h1.1 a ha).symm)
    show (F19_l5 600).b _ _ ((F19_l5 600).L f) some = _
    obtain ⟨Lf, hLf⟩ : ∃ Lf, Lf = (F19_l5 600).L f := ⟨_, rfl⟩
    rw [← hLf] at r1 ⊢
    simp only [F19_l5]
    have m2' : mpPut (Ren1 (nmE e)) (Ren5 (mk5 (nmE e) (k : Int))) (M.map row5) = (M ++ [(nmE e, (k : Int))]).map row5 := m2
    simp only [e2, e3, if_true, Int.toNat_natCast, get0 E k hkl, hek, Rrd0_en, m1, m2', Option.isSome_none, Bool.not_false, nat_succ (show k < 1000000 by omega)]
    rw [r1, List.append_assoc]
    rfl
structure Fo (A : List RT3) (E : List RT0) (o : List Int) (t : List Bool) : Prop where
  lo : o.length = A.length
  lt : t.length = E.length
  v : ∀ k (h : k < o.length), o[k] = -1 ∨ ∃ i : Nat, i < E.length ∧ o[k] = (i : Int)
  w : ∀ k (h : k < o.length) (h' : k < A.length), wdA A[k] = true → o[k] = -1
  inj : ∀ j k (hj : j < o.length) (hk : k < o.length), o[j] = o[k] → 0 ≤ o[j] → j = k
  tk : ∀ i (h : i < t.length), t[i] = true ↔ ∃ k, ∃ h : k < o.length, o[k] = (i : Int)
  nm : ∀ k (h : k < o.length) (h' : k < A.length), wdA A[k] = false → ∀ i (hi : i < E.length), nmE E[i] = nmA A[k] → o[k] = (i : Int)
theorem Fo.set {A : List RT3} {E : List RT0} {o : List Int} {t : List Bool} (F : Fo A E o t) {k i : Nat} (hk : k < o.length) (hk' : k < A.length) (hi : i < E.length) (hi' : i < t.length) (hw : wdA A[k] = false) (ho : o[k] < 0) (ht : t[i] = false) : Fo A E (o.set k (i : Int)) (t.set i true) := by
  have hno : ∀ j (h : j < o.length), o[j] ≠ (i : Int) := fun j h e => by
    have := (F.tk i hi').2 ⟨j, h, e⟩
    rw [ht] at this; cases this
  refine ⟨by simpa using F.lo, by simpa using F.lt, fun j h => ?_, fun j h h' hwj => ?_, fun j l hj hl e h0 => ?_, fun m h => ?_, fun j h h' hwj m hm e => ?_⟩
  · rw [List.getElem_set]
    split
    · exact .inr ⟨i, hi, rfl⟩
    · exact F.v j (by simpa using h)
  · rw [List.getElem_set]
    split
    · rename_i e; subst e; rw [hw] at hwj; cases hwj
    · exact F.w j (by simpa using h) h' hwj
  · rw [List.getElem_set] at e h0
    rw [List.getElem_set] at e
    split at e
    · rename_i e1
      split at e
      · rename_i e2; omega
      · exact absurd e.symm (hno l (by simpa using hl))
    · rename_i e1
      rw [if_neg e1] at h0
      split at e
      · exact absurd e (hno j (by simpa using hj))
      · exact F.inj j l (by simpa using hj) (by simpa using hl) e h0
  · rw [List.getElem_set]
    split
    · rename_i e; subst e
      exact ⟨fun _ => ⟨k, by simpa using hk, by simp⟩, fun _ => rfl⟩
    · rename_i e
      rw [F.tk m (by simpa using h)]
      constructor
      · rintro ⟨j, hj, e2⟩
        refine ⟨j, by simpa using hj, ?_⟩
        rw [List.getElem_set]
        split
        · rename_i e3; subst e3; rw [e2] at ho; omega
        · exact e2
      · rintro ⟨j, hj, e2⟩
        rw [List.getElem_set] at e2
        split at e2
        · omega
        · exact ⟨j, by simpa using hj, e2⟩
  · rw [List.getElem_set]
    split
    · rename_i e1; subst e1
      have := F.nm k hk hk' hw m hm e
      omega
    · exact F.nm j (by simpa using h) h' hwj m hm e
theorem Fo.snoc_no {A : List RT3} {E : List RT0} {o : List Int} {t : List Bool} (F : Fo A E o t) (a : RT3) (h : wdA a = false → ∀ i (hi : i < E.length), nmE E[i] ≠ nmA a) : Fo (A ++ [a]) E (o ++ [-1]) t := by
  have hlo := F.lo
  refine ⟨by simp [hlo], F.lt, fun j hj => ?_, fun j hj h' hw => ?_, fun j l hj hl e h0 => ?_, fun m hm => ?_, fun j hj h' hw m hm e => ?_⟩
  · rw [List.getElem_append]
    split
    · exact F.v j _
    · simp
  · rw [List.getElem_append]
    split
    · rename_i h1
      rw [List.getElem_append_left (by omega)] at hw
      exact F.w j h1 (by omega) hw
    · simp
  · rw [List.getElem_append] at e h0
    rw [List.getElem_append] at e
    split at e
    · rename_i h1
      rw [dif_pos h1] at h0
      split at e
      · rename_i h2; exact F.inj j l h1 h2 e h0
      · (simp at e) <;> omega
    · rename_i h1
      rw [dif_neg h1] at h0
      simp at h0
  · rw [F.tk m hm]
    constructor
    · rintro ⟨j, hj, e⟩
      exact ⟨j, by simp; omega, by rw [List.getElem_append_left hj]; exact e⟩
    · rintro ⟨j, hj, e⟩
      rw [List.getElem_append] at e
      split at e
      · rename_i h1; exact ⟨j, h1, e⟩
      · (simp at e) <;> omega
  · rw [List.getElem_append]
    split
    · rename_i h1
      rw [List.getElem_append_left (by omega)] at hw e
      exact F.nm j h1 (by omega) hw m hm e
    · rename_i h1
      rw [List.getElem_append_right (by omega)] at hw e
      have : j - A.length = 0 := by simp at hj; omega
      simp only [this, List.getElem_cons_zero] at hw e
      exact absurd e (h hw m hm)
theorem Fo.snoc_yes {A : List RT3} {E : List RT0} {o : List Int} {t : List Bool} (F : Fo A E o t) (hn : E.Pairwise fun a b => nmE a ≠ nmE b) (a : RT3) {i : Nat} (hi : i < E.length) (hw : wdA a = false) (he : nmE E[i] = nmA a) (hno : ∀ j (h : j < o.length), o[j] ≠ (i : Int)) : Fo (A ++ [a]) E (o ++ [(i : Int)]) (t.set i true) := by
  have hlo := F.lo
  have hlt := F.lt
  refine ⟨by simp [hlo], by simp [hlt], fun j hj => ?_, fun j hj h' hw' => ?_, fun j l hj hl e h0 => ?_, fun m hm => ?_, fun j hj h' hw' m hm e => ?_⟩
  · rw [List.getElem_append]
    split
    · exact F.v j _
    · exact .inr ⟨i, hi, by simp⟩
  · rw [List.getElem_append]
    split
    · rename_i h1
      rw [List.getElem_append_left (by omega)] at hw'
      exact F.w j h1 (by omega) hw'
    · rename_i h1
      rw [List.getElem_append_right (by omega)] at hw'
      have : j - A.length = 0 := by simp at hj; omega
      simp only [this, List.getElem_cons_zero] at hw'
      rw [hw] at hw'; cases hw'
  · rw [List.getElem_append] at e h0
    rw [List.getElem_append] at e
    split at e
    · rename_i h1
      rw [dif_pos h1] at h0
      split at e
      · rename_i h2; exact F.inj j l h1 h2 e h0
      · simp at e; exact absurd e (hno j h1)
    · rename_i h1
      split at e
      · rename_i h2
        simp at e
        exact absurd e.symm (hno l h2)
      · simp at hj hl; omega
  · rw [List.getElem_set]
    split
    · rename_i e1; subst e1
      exact ⟨fun _ => ⟨o.length, by simp, by simp⟩, fun _ => rfl⟩
    · rename_i e1
      rw [F.tk m (by simpa using hm)]
      constructor
      · rintro ⟨j, hj, e⟩
        exact ⟨j, by simp; omega, by rw [List.getElem_append_left hj]; exact e⟩
      · rintro ⟨j, hj, e⟩
        rw [List.getElem_append] at e
        split at e
        · rename_i h1; exact ⟨j, h1, e⟩
        · (simp at e) <;> omega
  · rw [List.getElem_append]
    split
    · rename_i h1
      rw [List.getElem_append_left (by omega)] at hw' e
      exact F.nm j h1 (by omega) hw' m hm e
    · rename_i h1
      rw [List.getElem_append_right (by omega)] at e
      have : j - A.length = 0 := by simp at hj; omega
      simp only [this, List.getElem_cons_zero] at e
      have hm' : m = i := by
        rcases Nat.lt_trichotomy m i with h | h | h
        · exact absurd (e.trans he.symm) (List.pairwise_iff_getElem.1 hn m i hm hi h)
        · exact h
        · exact absurd (he.trans e.symm) (List.pairwise_iff_getElem.1 hn i m hi hm h)
      subst hm'
      simp
end Go.Proofs.Ytnnfpoelkdgjdaa
end
section
namespace Go.Proofs.Ytnnfpoelkdgjdaa
set_option linter.unusedVariables false
set_option linter.unusedSimpArgs false
set_option linter.unnecessarySimpa false
theorem set_mid (p : List Int) (d : Nat) (v : Int) : (p ++ List.replicate (d + 1) 0).set p.length v = (p ++ [v]) ++ List.replicate d 0 := by
  rw [List.replicate_succ, List.set_append, if_neg (Nat.lt_irrefl _), Nat.sub_self]
  simp
theorem by_name_loop (A : List RT3) (E : List RT0) (hA : A.length ≤ 500) (hE : E.length ≤ 500) (hn : E.Pairwise fun a b => nmE a ≠ nmE b) (hnA : A.Pairwise fun a b => wdA a = false → wdA b = false → nmA a ≠ nmA b) :
    ∀ (R : List RT3) (k f : Nat) (p : List Int) (t : List Bool), A.drop k = R → R.length < f → k + R.length = A.length → p.length = k → Fo (A.take k) E p t → (∀ j (h : j < p.length) (h' : j < A.length) (i : Nat) (hi : i < E.length), p[j] = (i : Int) → nmE E[i] = nmA A[j] ∧ wdA A[j] = false) →
    ∃ o t', (F19_l20 600).L f (A.map Ren3, E.map Ren0, A.map Ren3, A.length, E.length, (A.length : Int), (k : Int), cI (p ++ List.replicate R.length 0), cB t, (nmI E 0).map row5) = some (A.map Ren3, E.map Ren0, A.length, E.length, cI o, cB t') ∧ Fo A E o t'
  | [], k, f, p, t, hR, hf, hk, hp, F, hc => by
    obtain ⟨f, rfl⟩ : ∃ f', f = f' + 1 := ⟨f - 1, by omega⟩
    have hk' : k = A.length := by simpa using hk
    refine ⟨p, t, ?_, by rw [hk', List.take_length] at F; exact F⟩
    show (F19_l20 600).b _ _ ((F19_l20 600).L f) some = _
    simp only [F19_l20]
    have e2 : decide ((k : Int) < (A.length : Int)) = false := by rw [decide_eq_false_iff_not]; omega
    simp only [e2, cI_dat, cB_dat, List.length_nil, List.replicate_zero, List.append_nil]
  | a :: R, k, f, p, t, hR, hf, hk, hp, F, hc => by
    obtain ⟨f, rfl⟩ : ∃ f', f = f' + 1 := ⟨f - 1, by omega⟩
    rw [List.length_cons] at hf hk
    obtain ⟨hkl, hek, hR'⟩ := drop_eq hR
    have htake : A.take (k + 1) = A.take k ++ [a] := by rw [List.take_succ_eq_append_getElem hkl, hek]
    have e2 : decide ((k : Int) < (A.length : Int)) = true := by rw [decide_eq_true_iff]; omega
    have e3 : (0 : Int) ≤ (k : Int) := by omega
    have hz : (0 : Int) ≤ (k : Int) ∧ (k : Int) < (A.length : Int) := by omega
    have hlen : (p ++ List.replicate (R.length + 1) (0 : Int)).length = A.length := by simp; omega
    have hroom := cI_room (p ++ List.replicate (R.length + 1) (0 : Int)) k (by omega)
    have hset : ∀ v : Int, splice (cI (p ++ List.replicate (R.length + 1) (0 : Int))) ((0 + ((k : Int)).toNat) * 1) [AV.v (.int .i64 v)] = cI (p ++ [v] ++ List.replicate R.length 0) := fun v => by
      rw [cI_set, ← hp, set_mid]
    -- no event
    have no : (wdA a = false → ∀ i (hi : i < E.length), nmE E[i] ≠ nmA a) → ∃ o t', (F19_l20 600).L f (A.map Ren3, E.map Ren0, A.map Ren3, A.length, E.length, (A.length : Int), ((k + 1 : Nat) : Int), cI (p ++ [-1] ++ List.replicate R.length 0), cB t, (nmI E 0).map row5) = some (A.map Ren3, E.map Ren0, A.length, E.length, cI o, cB t') ∧ Fo A E o t' := fun h =>
      by_name_loop A E hA hE hn hnA R (k + 1) f (p ++ [-1]) t hR' (by omega) (by omega) (by simp [hp]) (by rw [htake]; exact F.snoc_no a h) (fun j hj hj' i hi e => by
        rw [List.getElem_append] at e
        split at e
        · rename_i h1; exact hc j h1 hj' i hi e
        · exfalso; (simp at e) <;> omega)
    cases hw : wdA a with
    | true =>
      obtain ⟨o, t', r1, r2⟩ := no (fun h => by rw [hw] at h; cases h)
      refine ⟨o, t', ?_, r2⟩
      show (F19_l20 600).b _ _ ((F19_l20 600).L f) some = _
      obtain ⟨Lf, hLf⟩ : ∃ Lf, Lf = (F19_l20 600).L f := ⟨_, rfl⟩
      rw [← hLf] at r1 ⊢
      simp only [F19_l20]
      simp only [e2, e3, hz, and_self, if_true, Int.toNat_natCast, get3 A k hkl, hek, Rrd3_en, hw, List.length_cons]
      rw [Int.toNat_natCast] at hroom
      have hs := hset (-1)
      rw [Int.toNat_natCast] at hs
      simp only [hroom, if_true, hs, cI_dat, cB_dat, nat_succ (show k < 1000000 by omega)]
      exact r1
    | false =>
      by_cases hx : ∃ i, ∃ hi : i < E.length, nmE E[i] = nmA a
      · obtain ⟨i, hi, he⟩ := hx
        have hmem : (nmA a, (i : Int)) ∈ nmI E 0 := (nmI_mem E 0 _).2 ⟨i, hi, by rw [he, Nat.zero_add]⟩
        have hint := int_yes (nmI E 0) (nmA a) (i : Int) hmem (nmI_pair E 0 hn)
        have hno : ∀ j (h : j < p.length), p[j] ≠ (i : Int) := fun j h e => by
          obtain ⟨q1, q2⟩ := hc j h (by omega) i hi e
          exact List.pairwise_iff_getElem.1 hnA j k (by omega) hkl (by omega) q2 (by rw [hek]; exact hw) (by rw [hek, ← q1, he])
        have hlt := F.lt
        obtain ⟨o, t', r1, r2⟩ := by_name_loop A E hA hE hn hnA R (k + 1) f (p ++ [(i : Int)]) (t.set i true) hR' (by omega) (by omega) (by simp [hp]) (by rw [htake]; exact F.snoc_yes hn a hi hw he hno) (fun j hj hj' m hm e => by
          rw [List.getElem_append] at e
          split at e
          · rename_i h1; exact hc j h1 hj' m hm e
          · rename_i h1
            simp at e
            have : m = i := by omega
            subst this
            have : j = k := by simp at hj; omega
            subst this
            rw [hek]
            exact ⟨he, hw⟩)
        refine ⟨o, t', ?_, r2⟩
        show (F19_l20 600).b _ _ ((F19_l20 600).L f) some = _
        obtain ⟨Lf, hLf⟩ : ∃ Lf, Lf = (F19_l20 600).L f := ⟨_, rfl⟩
        rw [← hLf] at r1 ⊢
        simp only [F19_l20]
        have hs := hset (i : Int)
        have hb := cB_set t i true
        have hroom2 := cB_room t i (by omega)
        rw [Int.toNat_natCast] at hroom hs hb hroom2
        have hz2 : (0 : Int) ≤ (i : Int) ∧ (i : Int) < (E.length : Int) := by omega
        simp only [e2, e3, hz, hz2, and_self, if_true, Int.toNat_natCast, get3 A k hkl, hek, Rrd3_en, hw, hint, Option.isSome_some, Option.getD_some, Bool.not_true, List.length_cons, hroom, hroom2, hs, hb, cI_dat, cB_dat, nat_succ (show k < 1000000 by omega)]
        exact r1
      · have hnone : mpInt (Ren1 (nmA a)) ((nmI E 0).map row5) = none := (int_no (nmI E 0) (nmA a) 0 (fun q hq e => by
          obtain ⟨j, hj, rfl⟩ := (nmI_mem E 0 q).1 hq
          exact hx ⟨j, hj, e.symm⟩)).1
        obtain ⟨o, t', r1, r2⟩ := no (fun _ i hi e => hx ⟨i, hi, e⟩)
        refine ⟨o, t', ?_, r2⟩
        show (F19_l20 600).b _ _ ((F19_l20 600).L f) some = _
        obtain ⟨Lf, hLf⟩ : ∃ Lf, Lf = (F19_l20 600).L f := ⟨_, rfl⟩
        rw [← hLf] at r1 ⊢
        simp only [F19_l20]
        have hs := hset (-1)
        rw [Int.toNat_natCast] at hroom hs
        simp only [e2, e3, hz, and_self, if_true, Int.toNat_natCast, get3 A k hkl, hek, Rrd3_en, hw, hnone, Option.isSome_none, Bool.not_false, List.length_cons, hroom, hs, cI_dat, cB_dat, nat_succ (show k < 1000000 by omega)]
        exact r1
theorem pick_loop (A : List RT3) (E : List RT0) (k : Nat) (hk : k < A.length) (hE : E.length ≤ 500) (hpE : ∀ e ∈ E, PkOk e) (hpA : PkOk (evA A[k])) (hw : wdA A[k] = false) (o : List Int) (t : List Bool) (F : Fo A E o t) (hko : k < o.length) (hneg : o[k] < 0) :
    ∀ (d i f : Nat), i + d = E.length → d < f → ∃ o' t', (F19_l47 600).L f (E.map Ren0, A.map Ren3, E.map Ren0, A.length, E.length, (k : Int), (A.length : Int), (k : Int), (E.length : Int), (i : Int), A[k], cI o, cB t) = some (E.map Ren0, A.map Ren3, A.length, E.length, (A.length : Int), (k : Int), cI o', cB t') ∧ Fo A E o' t' := by
  intro d
  induction d with
  | zero =>
    intro i f hi hf
    obtain ⟨f, rfl⟩ : ∃ f', f = f' + 1 := ⟨f - 1, by omega⟩
    refine ⟨o, t, ?_, F⟩
    show (F19_l47 600).b _ _ ((F19_l47 600).L f) some = _
    simp only [F19_l47]
    have e2 : decide ((i : Int) < (E.length : Int)) = false := by rw [decide_eq_false_iff_not]; omega
    simp only [e2, cI_dat, cB_dat]
  | succ d ih =>
    intro i f hi hf
    obtain ⟨f, rfl⟩ : ∃ f', f = f' + 1 := ⟨f - 1, by omega⟩
    have hil : i < E.length := by omega
    have hlt := F.lt
    have hlo := F.lo
    have hit : i < t.length := by omega
    have e2 : decide ((i : Int) < (E.length : Int)) = true := by rw [decide_eq_true_iff]; omega
    have e3 : (0 : Int) ≤ (i : Int) := by omega
    have hz : (0 : Int) ≤ (i : Int) ∧ (i : Int) < (E.length : Int) := by omega
    have hz2 : (0 : Int) ≤ (k : Int) ∧ (k : Int) < (A.length : Int) := by omega
    obtain ⟨P, p1, p2⟩ := hpA
    obtain ⟨Q, q1, q2⟩ := hpE _ (List.getElem_mem hil)
    obtain ⟨b, hb, -⟩ := shared_ok P Q (evA A[k]) E[i] p2 q2 (by omega) (by omega)
    obtain ⟨o', t', r1, r2⟩ := ih (i + 1) f (by omega) (by omega)
    have hg := cB_get t i hit
    have hb2 := cB_set t i true
    have hs2 := cI_set o k (i : Int)
    have hr1 := cI_room o k hko
    have hr2 := cB_room t i hit
    rw [Int.toNat_natCast] at hg hb2 hs2 hr1 hr2
    cases ht : t[i] with
    | true =>
      refine ⟨o', t', ?_, r2⟩
      show (F19_l47 600).b _ _ ((F19_l47 600).L f) some = _
      obtain ⟨Lf, hLf⟩ : ∃ Lf, Lf = (F19_l47 600).L f := ⟨_, rfl⟩
      rw [← hLf] at r1 ⊢
      simp only [F19_l47]
      rw [ht] at hg
      simp only [e2, e3, hz, and_self, if_true, Int.toNat_natCast, get0 E i hil, Rrd0_en, hg, Bool.not_true, cI_dat, cB_dat, nat_succ (show i < 1000000 by omega)]
      exact r1
    | false =>
      cases b with
      | true =>
        refine ⟨_, _, ?_, F.set hko hk hil hit hw hneg ht⟩
        show (F19_l47 600).b _ _ ((F19_l47 600).L f) some = _
        simp only [F19_l47]
        rw [ht] at hg
        simp only [e2, e3, hz, hz2, and_self, if_true, Int.toNat_natCast, get0 E i hil, Rrd0_en, hg, Bool.not_false, hb, hr1, hr2, hs2, hb2, cI_dat, cB_dat, decide_true]
      | false =>
        refine ⟨o', t', ?_, r2⟩
        show (F19_l47 600).b _ _ ((F19_l47 600).L f) some = _
        obtain ⟨Lf, hLf⟩ : ∃ Lf, Lf = (F19_l47 600).L f := ⟨_, rfl⟩
        rw [← hLf] at r1 ⊢
        simp only [F19_l47]
        rw [ht] at hg
        simp only [e2, e3, hz, and_self, if_true, Int.toNat_natCast, get0 E i hil, Rrd0_en, hg, Bool.not_false, hb, cI_dat, cB_dat, nat_succ (show i < 1000000 by omega)]
        exact r1
theorem by_pick_loop (A : List RT3) (E : List RT0) (hA : A.length ≤ 500) (hE : E.length ≤ 500) (hpE : ∀ e ∈ E, PkOk e) (hpA : ∀ a ∈ A, PkOk (evA a)) : ∀ (d k f : Nat) (o : List Int) (t : List Bool), k + d = A.length → d < f → Fo A E o t →
    ∃ o' t', (F19_l35 600).L f (E.map Ren0, A.map Ren3, A.length, E.length, (A.length : Int), (k : Int), cI o, cB t) = some (A.length, cI o') ∧ Fo A E o' t' := by
  intro d
  induction d with
  | zero =>
    intro k f o t hk hf F
    obtain ⟨f, rfl⟩ : ∃ f', f = f' + 1 := ⟨f - 1, by omega⟩
    refine ⟨o, t, ?_, F⟩
    show (F19_l35 600).b _ _ ((F19_l35 600).L f) some = _
    simp only [F19_l35]
    have e2 : decide ((k : Int) < (A.length : Int)) = false := by rw [decide_eq_false_iff_not]; omega
    simp only [e2, cI_dat]
  | succ d ih =>
    intro k f o t hk hf F
    obtain ⟨f, rfl⟩ : ∃ f', f = f' + 1 := ⟨f - 1, by omega⟩
    have hkl : k < A.length := by omega
    have hlo := F.lo
    have hko : k < o.length := by omega
    have e2 : decide ((k : Int) < (A.length : Int)) = true := by rw [decide_eq_true_iff]; omega
    have e3 : (0 : Int) ≤ (k : Int) := by omega
    have hz : (0 : Int) ≤ (k : Int) ∧ (k : Int) < (A.length : Int) := by omega
    have hg := cI_get o k hko
    rw [Int.toNat_natCast] at hg
    cases hw : wdA A[k] with
    | true =>
      obtain ⟨o', t', r1, r2⟩ := ih (k + 1) f o t (by omega) (by omega) F
      refine ⟨o', t', ?_, r2⟩
      show (F19_l35 600).b _ _ ((F19_l35 600).L f) some = _
      obtain ⟨Lf, hLf⟩ : ∃ Lf, Lf = (F19_l35 600).L f := ⟨_, rfl⟩
      rw [← hLf] at r1 ⊢
      simp only [F19_l35]
      simp only [e2, e3, if_true, Int.toNat_natCast, get3 A k hkl, Rrd3_en, hw, cI_dat, cB_dat, nat_succ (show k < 1000000 by omega)]
      exact r1
    | false =>
      by_cases hn : o[k] ≥ 0
      · obtain ⟨o', t', r1, r2⟩ := ih (k + 1) f o t (by omega) (by omega) F
        refine ⟨o', t', ?_, r2⟩
        show (F19_l35 600).b _ _ ((F19_l35 600).L f) some = _
        obtain ⟨Lf, hLf⟩ : ∃ Lf, Lf = (F19_l35 600).L f := ⟨_, rfl⟩
        rw [← hLf] at r1 ⊢
        simp only [F19_l35]
        simp only [e2, e3, hz, and_self, if_true, Int.toNat_natCast, get3 A k hkl, Rrd3_en, hw, hg, hn, decide_true, cI_dat, cB_dat, nat_succ (show k < 1000000 by omega)]
        exact r1
      · obtain ⟨o1, t1, q1, F1⟩ := pick_loop A E k hkl hE hpE (hpA _ (List.getElem_mem hkl)) hw o t F hko (by omega) E.length 0 600 (by omega) (by omega)
        replace q1 : (F19_l47 600).L 600 (E.map Ren0, A.map Ren3, E.map Ren0, A.length, E.length, (k : Int), (A.length : Int), (k : Int), (E.length : Int), 0, A[k], cI o, cB t) = some (E.map Ren0, A.map Ren3, A.length, E.length, (A.length : Int), (k : Int), cI o1, cB t1) := q1
        obtain ⟨o', t', r1, r2⟩ := ih (k + 1) f o1 t1 (by omega) (by omega) F1
        refine ⟨o', t', ?_, r2⟩
        show (F19_l35 600).b _ _ ((F19_l35 600).L f) some = _
        obtain ⟨Lf, hLf⟩ : ∃ Lf, Lf = (F19_l35 600).L f := ⟨_, rfl⟩
        rw [← hLf] at r1 ⊢
        simp only [F19_l35]
        simp only [e2, e3, hz, and_self, if_true, Int.toNat_natCast, get3 A k hkl, Rrd3_en, hw, hg, hn, decide_false, F19_d47, List.length_map, q1, cI_dat, cB_dat, nat_succ (show k < 1000000 by omega)]
        exact r1
theorem follow_ok (A : List RT3) (E : List RT0) (hA : A.length ≤ 500) (hE : E.length ≤ 500) (hn : E.Pairwise fun a b => nmE a ≠ nmE b) (hnA : A.Pairwise fun a b => wdA a = false → wdA b = false → nmA a ≠ nmA b) (hpE : ∀ e ∈ E, PkOk e) (hpA : ∀ a ∈ A, PkOk (evA a)) :
    ∃ o t, F19_d 600 (A.map Ren3, E.map Ren0) = some (rowsI o) ∧ Fo A E o t := by
  have h1 := names_loop (A.map Ren3) E hE E 0 600 [] rfl (by omega) (by omega) hn (fun e _ q hq => by cases hq)
  replace h1 : (F19_l5 600).L 600 (A.map Ren3, E.map Ren0, E.map Ren0, (E.length : Int), 0, []) = some (A.map Ren3, E.map Ren0, (nmI E 0).map row5) := h1
  have F0 : Fo (A.take 0) E [] (List.replicate E.length false) := ⟨rfl, by simp, fun k h => (by cases h), fun k h => (by cases h), fun j k h => (by cases h), fun i h => ⟨fun e => by simp at e, fun ⟨k, h, _⟩ => by cases h⟩, fun k h => by cases h⟩
  obtain ⟨o1, t1, h2, F1⟩ := by_name_loop A E hA hE hn hnA A 0 600 [] (List.replicate E.length false) rfl (by omega) (by omega) rfl F0 (fun j h => by cases h)
  replace h2 : (F19_l20 600).L 600 (A.map Ren3, E.map Ren0, A.map Ren3, A.length, E.length, (A.length : Int), 0, cI (List.replicate A.length 0), cB (List.replicate E.length false), (nmI E 0).map row5) = some (A.map Ren3, E.map Ren0, A.length, E.length, cI o1, cB t1) := h2
  obtain ⟨o2, t2, h3, F2⟩ := by_pick_loop A E hA hE hpE hpA A.length 0 600 o1 t1 (by omega) (by omega) F1
  replace h3 : (F19_l35 600).L 600 (E.map Ren0, A.map Ren3, A.length, E.length, (A.length : Int), 0, cI o1, cB t1) = some (A.length, cI o2) := h3
  refine ⟨o2, t2, ?_, F2⟩
  have g1 : (0 : Int) ≤ (A.length : Int) ∧ (A.length : Int) ≤ (A.length : Int) ∧ ((A.length : Int)).toNat * 8 ≤ maxBytes := by unfold maxBytes; omega
  have g2 : (0 : Int) ≤ (E.length : Int) ∧ (E.length : Int) ≤ (E.length : Int) ∧ ((E.length : Int)).toNat * 1 ≤ maxBytes := by unfold maxBytes; omega
  have g1b : A.length * 8 ≤ maxBytes := by unfold maxBytes; omega
  have g2b : E.length * 1 ≤ maxBytes := by unfold maxBytes; omega
  have hlo := F2.lo
  have g3 : A.length * 1 ≤ (cI o2).length := by rw [cI_len]; omega
  simp only [F19_d, FSpec.d, F19_s, F19_d5, List.length_map, h1, g1.1, g1.2.1, g2.1, g2.2.1, g1b, g2b, and_self, if_true, Int.toNat_natCast, cI_rep, cB_rep, cI_dat, cB_dat, F19_d20, h2, F19_d35, h3]
  rw [if_pos g3, cI_chunks o2 _ (by omega)]
end Go.Proofs.Ytnnfpoelkdgjdaa
end
section
namespace Go.Proofs.Ytnnfpoelkdgjdaa
set_option linter.unusedVariables false
set_option linter.unusedSimpArgs false
set_option linter.unnecessarySimpa false
theorem nm00 (e : RT0) : Rrd1 ((Ren0 e).drop 0) = some (nmE e) := rfl
theorem rindex_loop (E : List RT0) (p : RT1) (hE : E.length ≤ 500) : ∀ (d k f : Nat), k + d = E.length → d < f → (∀ i (h : i < E.length), i < k → nmE E[i] ≠ p) → ∃ y, (F13_l4 600).L f (E.map Ren0, (k : Int), p) = some y ∧ ((∃ i, ∃ h : i < E.length, nmE E[i] = p ∧ y = .inl (i : Int)) ∨ ((∀ i (h : i < E.length), nmE E[i] ≠ p) ∧ y = .inr ())) := by
  intro d
  induction d with
  | zero =>
    intro k f hk hf hno
    obtain ⟨f, rfl⟩ : ∃ f', f = f' + 1 := ⟨f - 1, by omega⟩
    refine ⟨.inr (), ?_, .inr ⟨fun i h => hno i h (by omega), rfl⟩⟩
    show (F13_l4 600).b _ _ ((F13_l4 600).L f) some = _
    simp only [F13_l4]
    have e2 : decide ((k : Int) < (E.length : Int)) = false := by rw [decide_eq_false_iff_not]; omega
    simp only [List.length_map, e2]
  | succ d ih =>
    intro k f hk hf hno
    obtain ⟨f, rfl⟩ : ∃ f', f = f' + 1 := ⟨f - 1, by omega⟩
    have hkl : k < E.length := by omega
    have e2 : decide ((k : Int) < (E.length : Int)) = true := by rw [decide_eq_true_iff]; omega
    have e3 : (0 : Int) ≤ (k : Int) := by omega
    by_cases hc : nmE E[k] = p
    · refine ⟨.inl (k : Int), ?_, .inl ⟨k, hkl, hc, rfl⟩⟩
      show (F13_l4 600).b _ _ ((F13_l4 600).L f) some = _
      simp only [F13_l4]
      have e4 : eqP (nmE E[k]) p = true := by rw [hc]; exact eqP_tt p
      simp only [List.length_map, e2, e3, if_true, Int.toNat_natCast, get0 E k hkl, nm00, e4]
    · obtain ⟨y, r1, r2⟩ := ih (k + 1) f (by omega) (by omega) (fun i h hi => by
        by_cases e : i = k
        · subst e; exact hc
        · exact hno i h (by omega))
      refine ⟨y, ?_, r2⟩
      show (F13_l4 600).b _ _ ((F13_l4 600).L f) some = _
      obtain ⟨Lf, hLf⟩ : ∃ Lf, Lf = (F13_l4 600).L f := ⟨_, rfl⟩
      rw [← hLf] at r1 ⊢
      simp only [F13_l4]
      have e4 : eqP (nmE E[k]) p = false := eqP_ff hc
      simp only [List.length_map, e2, e3, if_true, Int.toNat_natCast, get0 E k hkl, nm00, e4, nat_succ (show k < 1000000 by omega)]
      exact r1
theorem rindex_ok (E : List RT0) (p : RT1) (hE : E.length ≤ 500) : ∃ v : Int, F13_d 600 (E.map Ren0, p) = some v ∧ ((∃ i, ∃ h : i < E.length, nmE E[i] = p ∧ v = (i : Int)) ∨ ((∀ i (h : i < E.length), nmE E[i] ≠ p) ∧ v = -1)) := by
  obtain ⟨y, h1, h2⟩ := rindex_loop E p hE E.length 0 600 (by omega) (by omega) (fun i h hi => by omega)
  replace h1 : (F13_l4 600).L 600 (E.map Ren0, 0, p) = some y := h1
  simp only [F13_d, FSpec.d, F13_s, F13_d4, h1]
  rcases h2 with ⟨i, h, q1, rfl⟩ | ⟨q1, rfl⟩
  · exact ⟨_, rfl, .inl ⟨i, h, q1, rfl⟩⟩
  · exact ⟨_, rfl, .inr ⟨q1, rfl⟩⟩
end Go.Proofs.Ytnnfpoelkdgjdaa
end
section
namespace Go.Proofs.Ytnnfpoelkdgjdaa
set_option linter.unusedVariables false
set_option linter.unusedSimpArgs false
set_option linter.unnecessarySimpa false
def s1 (lv : RT0 → Int) (mv : RT0 → RT0 → Bool) (ev now : Int) (a : RT3) : Option RT0 → RT3 × Int
  | none => if wdA a = true then (a, 0) else (mkA (idA a) true (nmA a) (lvA a) (evA a) now, 3)
  | some e => if wdA a = true then (a, 0) else if lv e = 0 then (mkA (idA a) true (nmE e) (lvA a) (evA a) now, 3)
    else if now - atA a ≥ ev ∧ mv (evA a) e = true then (mkA (idA a) (wdA a) (nmE e) (lv e) e now, 2)
    else (mkA (idA a) (wdA a) (nmE e) (lvA a) (evA a) (atA a), 0)
def evI (E : List RT0) (i : Int) : Option RT0 := if 0 ≤ i then E[i.toNat]? else none
def bul (n k : Int) (a : RT3) (now : Int) : RT6 := mkB n k (idA a) now (lvA a) (evA a)
theorem rowsI_at (o : List Int) (k : Nat) (h : k < o.length) : (rowsI o)[k]? = some [AV.v (.int .i64 o[k])] := rowsI_get o k h
theorem c3_wd (L : List RT3) (k : Nat) (h : k < L.length) : (fl Ren3 L)[(0 + ((k : Int)).toNat) * 38 + 1]? = some (AV.v (.bool (wdA L[k]))) := by
  rw [Nat.zero_add, Int.toNat_natCast, fl_get Ren3 38 Ren3_len L k 1 h (by omega)]; rfl
theorem c3_at (L : List RT3) (k : Nat) (h : k < L.length) : (fl Ren3 L)[(0 + ((k : Int)).toNat) * 38 + 37]? = some (AV.v (.int .i64 (atA L[k]))) := by
  rw [Nat.zero_add, Int.toNat_natCast, fl_get Ren3 38 Ren3_len L k 37 h (by omega)]; rfl
theorem row3 (L : List RT3) (k : Nat) (h : k < L.length) : Rrd3 ((fl Ren3 L).drop ((0 + ((k : Int)).toNat) * 38)) = some L[k] := by
  rw [Nat.zero_add, Int.toNat_natCast]
  have := fl_drop Ren3 38 Ren3_len L k 0 h (by omega)
  rw [Nat.add_zero, List.drop_zero] at this
  rw [this, Rrd3_app]
theorem room3 (L : List RT3) (k j m : Nat) (h : k < L.length) (hj : j + m ≤ 38) : (0 + ((k : Int)).toNat) * 38 + j + m ≤ (fl Ren3 L).length := by
  rw [len3, Nat.zero_add, Int.toNat_natCast]; omega
def clA (a : RT3) (now : Int) : RT3 := mkA (idA a) true (nmA a) (lvA a) (evA a) now
def nmS (a : RT3) (p : RT1) : RT3 := mkA (idA a) (wdA a) p (lvA a) (evA a) (atA a)
def upA (a : RT3) (l : Int) (e : RT0) (now : Int) : RT3 := mkA (idA a) (wdA a) (nmA a) l e now
theorem evA_cl (a : RT3) (now : Int) : evA (clA a now) = evA a := rfl
theorem evA_up (a : RT3) (l : Int) (e : RT0) (now : Int) : evA (upA a l e now) = e := rfl
theorem put_cl (L : List RT3) (k : Nat) (h : k < L.length) (now : Int) : splice (splice (fl Ren3 L) ((0 + ((k : Int)).toNat) * 38 + 1) [AV.v (.bool true)]) ((0 + ((k : Int)).toNat) * 38 + 37) [AV.v (.int .i64 now)] = fl Ren3 (L.set k (clA L[k] now)) := by
  obtain ⟨b, hb⟩ : ∃ b, splice (Ren3 L[k]) 1 [AV.v (.bool true)] = Ren3 b := ⟨_, sp_wd L[k] true⟩
  rw [splice3 L k 1 h _ b (by simp) hb, splice3 (L.set k b) k 37 (by simpa using h) _ (clA L[k] now) (by simp) ?_, List.set_set]
  rw [List.getElem_set_self, ← hb, sp_wd, sp_at]
  rfl
theorem put_nm (L : List RT3) (k : Nat) (h : k < L.length) (p : RT1) : splice (fl Ren3 L) ((0 + ((k : Int)).toNat) * 38 + 2) (Ren1 p) = fl Ren3 (L.set k (nmS L[k] p)) :=
  splice3 L k 2 h _ _ (by rw [Ren1_len]; omega) (sp_nm L[k] p)
theorem put_up (L : List RT3) (k : Nat) (h : k < L.length) (l : Int) (e : RT0) (now : Int) : splice (splice (splice (fl Ren3 L) ((0 + ((k : Int)).toNat) * 38 + 11) [AV.v (.int .i64 l)]) ((0 + ((k : Int)).toNat) * 38 + 12) (Ren0 e)) ((0 + ((k : Int)).toNat) * 38 + 37) [AV.v (.int .i64 now)] = fl Ren3 (L.set k (upA L[k] l e now)) := by
  obtain ⟨b, hb⟩ : ∃ b, splice (Ren3 L[k]) 11 [AV.v (.int .i64 l)] = Ren3 b := ⟨_, sp_lv L[k] l⟩
  obtain ⟨c, hc⟩ : ∃ c, splice (Ren3 b) 12 (Ren0 e) = Ren3 c := ⟨_, sp_ev b e⟩
  rw [splice3 L k 11 h _ b (by simp) hb, splice3 (L.set k b) k 12 (by simpa using h) _ c (by rw [Ren0_len]; omega) (by rw [List.getElem_set_self]; exact hc), List.set_set, splice3 (L.set k c) k 37 (by simpa using h) _ (upA L[k] l e now) (by simp) ?_, List.set_set]
  rw [List.getElem_set_self, ← hc, ← hb, sp_lv, sp_ev, sp_at]
  rfl
noncomputable def mvF (L : List RT4) (di ev : Int) (a e : RT0) : Bool := (F32_d 600 (L.map Ren4, di, ev, a, e)).getD false
noncomputable def tmF (L : List RT4) (di ev now : Int) (e : RT0) : Bool := (F12_d 600 (L.map Ren4, di, ev, e, now)).getD false
def lvF (L : List RT4) (di ev : Int) (e : RT0) : Int := (lev L di ev e : Int)
theorem mvF_ok {L : List RT4} {di ev : Int} (P : Pol L di ev) (a e : RT0) : F32_d 600 (L.map Ren4, di, ev, a, e) = some (mvF L di ev a e) := by
  obtain ⟨b, h, -⟩ := moved_ok P a e
  unfold mvF; rw [h]; rfl
theorem tmF_ok {L : List RT4} {di ev : Int} (P : Pol L di ev) (e : RT0) (now : Int) : F12_d 600 (L.map Ren4, di, ev, e, now) = some (tmF L di ev now e) := by
  obtain ⟨b, h, -⟩ := timely_ok P e now
  unfold tmF; rw [h]; rfl
theorem lvF_ok {L : List RT4} {di ev : Int} (P : Pol L di ev) (e : RT0) : F31_d 600 (L.map Ren4, di, ev, e) = some (lvF L di ev e) := level_is di ev e (by have := P.l; omega)
theorem PkOk.len {e : RT0} (h : PkOk e) : (pkE e).length ≤ 100000 := by
  obtain ⟨P, h1, h2⟩ := h
  rw [h2, List.length_map]; omega
structure Rd1 (L : List RT4) (di ev now number : Int) (E : List RT0) (B : List RT6) : Prop where
  P : Pol L di ev
  hE : E.length ≤ 500
  pE : ∀ e ∈ E, PkOk e
  hB : B.length ≤ 5000
  n : 0 ≤ number ∧ number ≤ 999
  now : 0 ≤ now ∧ now ≤ 1000000
theorem round_none {L : List RT4} {di ev now number : Int} {E : List RT0} {B : List RT6} (H : Rd1 L di ev now number E B) (out : List RT3) (o : List Int) (t : List Bool) (len : Int) (k : Nat) (hk : k < out.length) (hko : k < o.length) (hp : PkOk (evA out[k])) (hi : o[k] = -1) :
    F11_d19 600 (E.map Ren0, rowsI o, out.length, E.length, len, (k : Int), L.map Ren4, di, ev, number, now, B.map Ren6, false, fl Ren3 out, cB t) = some (E.map Ren0, rowsI o, out.length, E.length, len, (k : Int), L.map Ren4, di, ev, (if (s1 (lvF L di ev) (mvF L di ev) ev now out[k] none).2 = 0 then number else number + 1), now, (if (s1 (lvF L di ev) (mvF L di ev) ev now out[k] none).2 = 0 then B else B ++ [bul number (s1 (lvF L di ev) (mvF L di ev) ev now out[k] none).2 (s1 (lvF L di ev) (mvF L di ev) ev now out[k] none).1 now]).map Ren6, false, fl Ren3 (out.set k (s1 (lvF L di ev) (mvF L di ev) ev now out[k] none).1), cB t) := by
  have e3 : (0 : Int) ≤ (k : Int) := by omega
  have hz : (0 : Int) ≤ (k : Int) ∧ (k : Int) < (out.length : Int) := by omega
  show (F11_l19 600).b _ _ ((F11_l19 600).L 599) some = _
  obtain ⟨Lf, hLf⟩ : ∃ Lf, Lf = (F11_l19 600).L 599 := ⟨_, rfl⟩
  rw [← hLf]
  simp only [F11_l19]
  simp only [e3, if_true, Int.toNat_natCast, rowsI_at o k hko, List.getElem?_cons_zero, hz, and_self, hi]
  have hw := c3_wd out k hk
  rw [Int.toNat_natCast] at hw
  rw [hw]
  cases hwd : wdA out[k] with
  | true =>
    simp only [s1, hwd, if_true, fl3, cB_dat, set_same out k hk]
  | false =>
    have e1 : decide ((-1 : Int) ≥ 0) = false := by decide
    have e2 : ((0 : Int) == 0) = true := by decide
    have q28 : F11_d28 600 (E.map Ren0, rowsI o, out.length, E.length, -1, (0 + k) * 38, 0, len, (k : Int), false, L.map Ren4, di, ev, number, now, B.map Ren6, false, fl Ren3 out, cB t) = some (E.map Ren0, rowsI o, out.length, E.length, -1, (0 + k) * 38, 0, len, (k : Int), L.map Ren4, di, ev, number, now, B.map Ren6, false, fl Ren3 out, cB t) := by
      show (F11_l28 600).b _ _ ((F11_l28 600).L 599) some = _
      simp only [F11_l28]
      simp only [fl3, cB_dat]
    have q33 : F11_d33 600 (E.map Ren0, rowsI o, out.length, E.length, -1, (0 + k) * 38, 0, len, (k : Int), true, L.map Ren4, di, ev, number, now, B.map Ren6, false, fl Ren3 out, cB t) = some (E.map Ren0, rowsI o, out.length, E.length, len, (k : Int), L.map Ren4, di, ev, number + 1, now, (B ++ [bul number 3 (clA out[k] now) now]).map Ren6, false, fl Ren3 (out.set k (clA out[k] now)), cB t) := by
      show (F11_l33 600).b _ _ ((F11_l33 600).L 599) some = _
      simp only [F11_l33]
      have p1 := put_cl out k hk now
      have g1 := room3 out k 1 1 hk (by omega)
      have g2 : (0 + ((k : Int)).toNat) * 38 + 37 + 1 ≤ (splice (fl Ren3 out) ((0 + ((k : Int)).toNat) * 38 + 1) [AV.v (.bool true)]).length := by rw [splice_length]; exact room3 out k 37 1 hk (by omega)
      have r3 := row3 (out.set k (clA out[k] now)) k (by simpa using hk)
      rw [List.getElem_set_self] at r3
      rw [Int.toNat_natCast] at p1 g1 g2 r3
      have pub := publish_ok 3 (clA out[k] now) false number now B H.n (by have := H.hB; omega) (by rw [evA_cl]; exact hp.len) rfl
      simp only [g1, if_true, g2, p1, r3, pub, fl3, cB_dat]
      rfl
    simp only [e1, fl3, cB_dat, q28, e2, q33]
    simp only [s1, hwd]
    rfl
theorem evA_nm (a : RT3) (p : RT1) : evA (nmS a p) = evA a := rfl
theorem round_some {L : List RT4} {di ev now number : Int} {E : List RT0} {B : List RT6} (H : Rd1 L di ev now number E B) (out : List RT3) (o : List Int) (t : List Bool) (len : Int) (k i : Nat) (hk : k < out.length) (hko : k < o.length) (hp : PkOk (evA out[k])) (hw : wdA out[k] = false) (hat : 0 ≤ atA out[k] ∧ atA out[k] ≤ now) (hi : i < E.length) (hit : i < t.length) (hE : t.length = E.length) (ho : o[k] = (i : Int)) :
    F11_d19 600 (E.map Ren0, rowsI o, out.length, E.length, len, (k : Int), L.map Ren4, di, ev, number, now, B.map Ren6, false, fl Ren3 out, cB t) = some (E.map Ren0, rowsI o, out.length, E.length, len, (k : Int), L.map Ren4, di, ev, (if (s1 (lvF L di ev) (mvF L di ev) ev now out[k] (some E[i])).2 = 0 then number else number + 1), now, (if (s1 (lvF L di ev) (mvF L di ev) ev now out[k] (some E[i])).2 = 0 then B else B ++ [bul number (s1 (lvF L di ev) (mvF L di ev) ev now out[k] (some E[i])).2 (s1 (lvF L di ev) (mvF L di ev) ev now out[k] (some E[i])).1 now]).map Ren6, false, fl Ren3 (out.set k (s1 (lvF L di ev) (mvF L di ev) ev now out[k] (some E[i])).1), cB (t.set i true)) := by
  have hbl := H.hB
  have hnow := H.now
  have e3 : (0 : Int) ≤ (k : Int) := by omega
  have e3i : (0 : Int) ≤ (i : Int) := by omega
  have hz : (0 : Int) ≤ (k : Int) ∧ (k : Int) < (out.length : Int) := by omega
  have hzi : (0 : Int) ≤ (i : Int) ∧ (i : Int) < (E.length : Int) := by omega
  show (F11_l19 600).b _ _ ((F11_l19 600).L 599) some = _
  obtain ⟨Lf, hLf⟩ : ∃ Lf, Lf = (F11_l19 600).L 599 := ⟨_, rfl⟩
  rw [← hLf]
  simp only [F11_l19]
  simp only [e3, if_true, Int.toNat_natCast, rowsI_at o k hko, List.getElem?_cons_zero, hz, and_self, ho]
  have hwd := c3_wd out k hk
  rw [Int.toNat_natCast] at hwd
  rw [hwd, hw]
  have e1 : decide ((i : Int) ≥ 0) = true := by rw [decide_eq_true_iff]; omega
  have q28 : F11_d28 600 (E.map Ren0, rowsI o, out.length, E.length, (i : Int), (0 + k) * 38, 0, len, (k : Int), true, L.map Ren4, di, ev, number, now, B.map Ren6, false, fl Ren3 out, cB t) = some (E.map Ren0, rowsI o, out.length, E.length, (i : Int), (0 + k) * 38, lvF L di ev E[i], len, (k : Int), L.map Ren4, di, ev, number, now, B.map Ren6, false, fl Ren3 (out.set k (nmS out[k] (nmE E[i]))), cB (t.set i true)) := by
    show (F11_l28 600).b _ _ ((F11_l28 600).L 599) some = _
    simp only [F11_l28]
    have hb := cB_set t i true
    have hr := cB_room t i hit
    have hn := put_nm out k hk (nmE E[i])
    have hr2 := room3 out k 2 9 hk (by omega)
    rw [Int.toNat_natCast] at hb hr hn hr2
    simp only [hzi, and_self, if_true, Int.toNat_natCast, hr, e3i, get0 E i hi, nm0, Rrd0_en, hr2, lvF_ok H.P, hn, hb, fl3, cB_dat]
  obtain ⟨out1, ho1⟩ : ∃ out1, out1 = out.set k (nmS out[k] (nmE E[i])) := ⟨_, rfl⟩
  have hl1 : out1.length = out.length := by rw [ho1, List.length_set]
  have hk1 : k < out1.length := by omega
  have hg1 : out1[k] = nmS out[k] (nmE E[i]) := by simp only [ho1, List.getElem_set_self]
  have hs1 : ∀ b, out1.set k b = out.set k b := fun b => by rw [ho1, List.set_set]
  have hpn : (pkE (evA out1[k])).length ≤ 100000 := by rw [hg1, evA_nm]; exact hp.len
  have fin33 : ∃ r, F11_d33 600 (E.map Ren0, rowsI o, out.length, E.length, (i : Int), (0 + k) * 38, lvF L di ev E[i], len, (k : Int), (lvF L di ev E[i] == 0), L.map Ren4, di, ev, number, now, B.map Ren6, false, fl Ren3 out1, cB (t.set i true)) = some (E.map Ren0, rowsI o, out.length, E.length, len, (k : Int), L.map Ren4, di, ev, r) ∧ r = ((if (s1 (lvF L di ev) (mvF L di ev) ev now out[k] (some E[i])).2 = 0 then number else number + 1), now, (if (s1 (lvF L di ev) (mvF L di ev) ev now out[k] (some E[i])).2 = 0 then B else B ++ [bul number (s1 (lvF L di ev) (mvF L di ev) ev now out[k] (some E[i])).2 (s1 (lvF L di ev) (mvF L di ev) ev now out[k] (some E[i])).1 now]).map Ren6, false, fl Ren3 (out.set k (s1 (lvF L di ev) (mvF L di ev) ev now out[k] (some E[i])).1), cB (t.set i true)) := by
    by_cases h0 : lvF L di ev E[i] = 0
    · have hs : s1 (lvF L di ev) (mvF L di ev) ev now out[k] (some E[i]) = (clA out1[k] now, 3) := by
        simp only [s1, hw, h0, if_true, hg1]
        rfl
      rw [hs]
      refine ⟨_, ?_, rfl⟩
      have e2 : (lvF L di ev E[i] == 0) = true := by rw [h0]; rfl
      rw [e2]
      show (F11_l33 600).b _ _ ((F11_l33 600).L 599) some = _
      simp only [F11_l33]
      have p1 := put_cl out1 k hk1 now
      have g1 := room3 out1 k 1 1 hk1 (by omega)
      have g2 : (0 + ((k : Int)).toNat) * 38 + 37 + 1 ≤ (splice (fl Ren3 out1) ((0 + ((k : Int)).toNat) * 38 + 1) [AV.v (.bool true)]).length := by rw [splice_length]; exact room3 out1 k 37 1 hk1 (by omega)
      have r3 := row3 (out1.set k (clA out1[k] now)) k (by simpa using hk1)
      rw [List.getElem_set_self] at r3
      rw [Int.toNat_natCast] at p1 g1 g2 r3
      have pub := publish_ok 3 (clA out1[k] now) false number now B H.n (by omega) (by rw [evA_cl]; exact hpn) rfl
      simp only [g1, if_true, g2, p1, r3, pub, fl3, cB_dat]
      rw [hs1]
      rfl
    · have e2 : (lvF L di ev E[i] == 0) = false := by simp [h0]
      rw [e2]
      have q35 : ∃ r, F11_d35 600 (E.map Ren0, rowsI o, out.length, E.length, (i : Int), (0 + k) * 38, lvF L di ev E[i], len, (k : Int), L.map Ren4, di, ev, number, now, B.map Ren6, false, fl Ren3 out1, cB (t.set i true)) = some (E.map Ren0, rowsI o, out.length, E.length, len, (k : Int), L.map Ren4, di, ev, r) ∧ r = ((if (s1 (lvF L di ev) (mvF L di ev) ev now out[k] (some E[i])).2 = 0 then number else number + 1), now, (if (s1 (lvF L di ev) (mvF L di ev) ev now out[k] (some E[i])).2 = 0 then B else B ++ [bul number (s1 (lvF L di ev) (mvF L di ev) ev now out[k] (some E[i])).2 (s1 (lvF L di ev) (mvF L di ev) ev now out[k] (some E[i])).1 now]).map Ren6, false, fl Ren3 (out.set k (s1 (lvF L di ev) (mvF L di ev) ev now out[k] (some E[i])).1), cB (t.set i true)) := by
        have hat1 : atA out1[k] = atA out[k] := by rw [hg1]; rfl
        have hev1 : evA out1[k] = evA out[k] := by rw [hg1]; rfl
        have e5 : i64 (now - atA out1[k]) = now - atA out[k] := by rw [hat1, i64_id (by omega)]
        have c1 := c3_at out1 k hk1
        have c2 := drop_ev out1 k hk1
        rw [Int.toNat_natCast] at c1 c2
        have hmv := mvF_ok H.P (evA out1[k]) E[i]
        by_cases hd : now - atA out[k] ≥ ev
        · cases hm : mvF L di ev (evA out[k]) E[i] with
          | true =>
            have hs : s1 (lvF L di ev) (mvF L di ev) ev now out[k] (some E[i]) = (upA out1[k] (lvF L di ev E[i]) E[i] now, 2) := by
              simp only [s1, hw, h0, hm, hd, if_false, if_true, and_self, hg1]
              simp
              show mkA _ false _ _ _ _ = mkA (idA out[k]) (wdA out[k]) (nmE E[i]) (lvF L di ev E[i]) E[i] now
              rw [hw]
            rw [hs]
            refine ⟨_, ?_, rfl⟩
            show (F11_l35 600).b _ _ ((F11_l35 600).L 599) some = _
            simp only [F11_l35]
            rw [hev1, hm] at hmv
            have p1 := put_up out1 k hk1 (lvF L di ev E[i]) E[i] now
            have g1 := room3 out1 k 11 1 hk1 (by omega)
            have g2 : (0 + ((k : Int)).toNat) * 38 + 12 + 25 ≤ (splice (fl Ren3 out1) ((0 + ((k : Int)).toNat) * 38 + 11) [AV.v (.int .i64 (lvF L di ev E[i]))]).length := by rw [splice_length]; exact room3 out1 k 12 25 hk1 (by omega)
            have g3 : (0 + ((k : Int)).toNat) * 38 + 37 + 1 ≤ (splice (splice (fl Ren3 out1) ((0 + ((k : Int)).toNat) * 38 + 11) [AV.v (.int .i64 (lvF L di ev E[i]))]) ((0 + ((k : Int)).toNat) * 38 + 12) (Ren0 E[i])).length := by rw [splice_length, splice_length]; exact room3 out1 k 37 1 hk1 (by omega)
            have r3 := row3 (out1.set k (upA out1[k] (lvF L di ev E[i]) E[i] now)) k (by simpa using hk1)
            rw [List.getElem_set_self] at r3
            rw [Int.toNat_natCast] at p1 g1 g2 g3 r3
            have hcp := copied_ok E[i] (H.pE _ (List.getElem_mem hi)).len
            have pub := publish_ok 2 (upA out1[k] (lvF L di ev E[i]) E[i] now) false number now B H.n (by omega) (by rw [evA_up]; exact (H.pE _ (List.getElem_mem hi)).len) rfl
            simp only [c1, e5, hd, decide_true, if_true, c2, hev1, e3i, Int.toNat_natCast, get0 E i hi, Rrd0_en, hmv, hcp, g1, g2, g3, p1, r3, pub, fl3, cB_dat]
            rw [hs1]
            rfl
          | false =>
            have hs : s1 (lvF L di ev) (mvF L di ev) ev now out[k] (some E[i]) = (out1[k], 0) := by
              simp only [s1, hw, h0, hm, hd, if_false, hg1]
              simp
              show mkA _ false _ _ _ _ = mkA (idA out[k]) (wdA out[k]) (nmE E[i]) (lvA out[k]) (evA out[k]) (atA out[k])
              rw [hw]
            rw [hs]
            refine ⟨_, ?_, rfl⟩
            show (F11_l35 600).b _ _ ((F11_l35 600).L 599) some = _
            simp only [F11_l35]
            rw [hev1, hm] at hmv
            simp only [c1, e5, hd, decide_true, if_true, c2, hev1, e3i, Int.toNat_natCast, get0 E i hi, Rrd0_en, hmv, fl3, cB_dat]
            rw [← hs1, set_same out1 k hk1]
        · have hs : s1 (lvF L di ev) (mvF L di ev) ev now out[k] (some E[i]) = (out1[k], 0) := by
            simp only [s1, hw, h0, hd, if_false, hg1]
            simp
            show mkA _ false _ _ _ _ = mkA (idA out[k]) (wdA out[k]) (nmE E[i]) (lvA out[k]) (evA out[k]) (atA out[k])
            rw [hw]
          rw [hs]
          refine ⟨_, ?_, rfl⟩
          show (F11_l35 600).b _ _ ((F11_l35 600).L 599) some = _
          simp only [F11_l35]
          simp only [c1, e5, hd, decide_false, if_true, fl3, cB_dat]
          rw [← hs1, set_same out1 k hk1]
      obtain ⟨r, hq, hr⟩ := q35
      refine ⟨r, ?_, hr⟩
      subst hr
      show (F11_l33 600).b _ _ ((F11_l33 600).L 599) some = _
      simp only [F11_l33]
      simp only [fl3, cB_dat, hq]
  obtain ⟨r, hq, hr⟩ := fin33
  subst hr
  rw [← ho1] at q28
  simp only [e1, fl3, cB_dat, q28, hq]
end Go.Proofs.Ytnnfpoelkdgjdaa
end
section
namespace Go.Proofs.Ytnnfpoelkdgjdaa
set_option linter.unusedVariables false
set_option linter.unusedSimpArgs false
set_option linter.unnecessarySimpa false
def ph1 (lv : RT0 → Int) (mv : RT0 → RT0 → Bool) (ev now : Int) (E : List RT0) : List RT3 → List Int → Int → List RT3 × List RT6
  | a :: A, i :: o, n =>
    ((s1 lv mv ev now a (evI E i)).1 :: (ph1 lv mv ev now E A o (if (s1 lv mv ev now a (evI E i)).2 = 0 then n else n + 1)).1,
     (if (s1 lv mv ev now a (evI E i)).2 = 0 then [] else [bul n (s1 lv mv ev now a (evI E i)).2 (s1 lv mv ev now a (evI E i)).1 now]) ++ (ph1 lv mv ev now E A o (if (s1 lv mv ev now a (evI E i)).2 = 0 then n else n + 1)).2)
  | _, _, _ => ([], [])
def ph2 (lv : RT0 → Int) (tm : RT0 → Bool) (now : Int) (fw : Nat → Bool) : List RT0 → Nat → Int → List RT3 × List RT6
  | e :: R, i, n => if fw i = false ∧ tm e = true then
      (mkA n false (nmE e) (lv e) e now :: (ph2 lv tm now fw R (i + 1) (n + 1)).1, bul n 1 (mkA n false (nmE e) (lv e) e now) now :: (ph2 lv tm now fw R (i + 1) (n + 1)).2)
    else ph2 lv tm now fw R (i + 1) n
  | _, _, _ => ([], [])
noncomputable def fwO (o : List Int) (i : Nat) : Bool := decide ((i : Int) ∈ o)
theorem fwO_iff {o : List Int} {i : Nat} : fwO o i = true ↔ (i : Int) ∈ o := by unfold fwO; exact decide_eq_true_iff
theorem ph1_len (lv : RT0 → Int) (mv : RT0 → RT0 → Bool) (ev now : Int) (E : List RT0) : ∀ (A : List RT3) (o : List Int) (n : Int), A.length = o.length → (ph1 lv mv ev now E A o n).1.length = A.length ∧ (ph1 lv mv ev now E A o n).2.length ≤ A.length
  | [], o, n, h => by unfold ph1; simp
  | a :: A, [], n, h => by simp at h
  | a :: A, i :: o, n, h => by
    obtain ⟨h1, h2⟩ := ph1_len lv mv ev now E A o (if (s1 lv mv ev now a (evI E i)).2 = 0 then n else n + 1) (by simpa using h)
    unfold ph1
    refine ⟨by simp [h1], ?_⟩
    rw [List.length_append, List.length_cons]
    by_cases h0 : (s1 lv mv ev now a (evI E i)).2 = 0
    · simp only [h0, if_true] at h2 ⊢
      simp; omega
    · simp only [h0, if_false] at h2 ⊢
      simp; omega
theorem ph2_len (lv : RT0 → Int) (tm : RT0 → Bool) (now : Int) (fw : Nat → Bool) : ∀ (E : List RT0) (i : Nat) (n : Int), (ph2 lv tm now fw E i n).1.length ≤ E.length ∧ (ph2 lv tm now fw E i n).2.length = (ph2 lv tm now fw E i n).1.length
  | [], i, n => by unfold ph2; simp
  | e :: R, i, n => by
    unfold ph2
    split
    · obtain ⟨h1, h2⟩ := ph2_len lv tm now fw R (i + 1) (n + 1)
      simp; omega
    · obtain ⟨h1, h2⟩ := ph2_len lv tm now fw R (i + 1) n
      simp; omega
structure Rds (L : List RT4) (di ev now : Int) (E : List RT0) : Prop where
  P : Pol L di ev
  hE : E.length ≤ 500
  pE : ∀ e ∈ E, PkOk e
  now : 0 ≤ now ∧ now ≤ 1000000
theorem evI_neg (E : List RT0) : evI E (-1) = none := rfl
theorem evI_pos (E : List RT0) (i : Nat) (h : i < E.length) : evI E (i : Int) = some E[i] := by
  unfold evI
  rw [if_pos (by omega), Int.toNat_natCast, List.getElem?_eq_getElem h]
theorem ph1_loop {L : List RT4} {di ev now : Int} {E : List RT0} (H : Rds L di ev now E) (o : List Int) (ho : ∀ k (h : k < o.length), o[k] = -1 ∨ ∃ i : Nat, i < E.length ∧ o[k] = (i : Int)) (hol : o.length ≤ 500) :
    ∀ (R : List RT3) (k f : Nat) (pre : List RT3) (B : List RT6) (n : Int) (t : List Bool), pre.length = k → k + R.length = o.length → R.length < f → (∀ a ∈ R, PkOk (evA a) ∧ 0 ≤ atA a ∧ atA a ≤ now) → (∀ j (h : j < R.length) (h' : k + j < o.length), wdA R[j] = true → o[k + j] = -1) → B.length + R.length ≤ 5000 → 0 ≤ n ∧ n + R.length ≤ 1000 → t.length = E.length → (∀ i (h : i < t.length), t[i] = true ↔ ∃ j, ∃ h : j < o.length, j < k ∧ o[j] = (i : Int)) →
    ∃ t', (F11_l14 600).L f (E.map Ren0, rowsI o, (pre ++ R).length, E.length, (o.length : Int), (k : Int), L.map Ren4, di, ev, n, now, B.map Ren6, false, fl Ren3 (pre ++ R), cB t) = some (E.map Ren0, (pre ++ R).length, E.length, L.map Ren4, di, ev, n + (ph1 (lvF L di ev) (mvF L di ev) ev now E R (o.drop k) n).2.length, now, (B ++ (ph1 (lvF L di ev) (mvF L di ev) ev now E R (o.drop k) n).2).map Ren6, false, fl Ren3 (pre ++ (ph1 (lvF L di ev) (mvF L di ev) ev now E R (o.drop k) n).1), cB t') ∧ t'.length = E.length ∧ (∀ i (h : i < t'.length), t'[i] = true ↔ (i : Int) ∈ o)
  | [], k, f, pre, B, n, t, hpre, hk, hf, hR, hw, hB, hn, ht, hT => by
    obtain ⟨f, rfl⟩ : ∃ f', f = f' + 1 := ⟨f - 1, by omega⟩
    have hk' : k = o.length := by simpa using hk
    refine ⟨t, ?_, ht, fun i h => ?_⟩
    · show (F11_l14 600).b _ _ ((F11_l14 600).L f) some = _
      simp only [F11_l14]
      have e2 : decide ((k : Int) < (o.length : Int)) = false := by rw [decide_eq_false_iff_not]; omega
      simp only [e2, fl3, cB_dat, ph1, List.append_nil, List.length_nil]
      simp
    · rw [hT i h]
      constructor
      · rintro ⟨j, h, -, e⟩; rw [← e]; exact List.getElem_mem h
      · intro h; obtain ⟨j, hj, e⟩ := List.getElem_of_mem h; exact ⟨j, hj, by omega, e⟩
  | a :: R, k, f, pre, B, n, t, hpre, hk, hf, hR, hw, hB, hn, ht, hT => by
    obtain ⟨f, rfl⟩ : ∃ f', f = f' + 1 := ⟨f - 1, by omega⟩
    rw [List.length_cons] at hk hf hB hn
    have hko : k < o.length := by omega
    have hkl : k < (pre ++ a :: R).length := by simp; omega
    have hek : (pre ++ a :: R)[k] = a := by
      rw [List.getElem_append_right (by omega)]
      simp [hpre]
    have hset : ∀ b, (pre ++ a :: R).set k b = (pre ++ [b]) ++ R := fun b => by
      rw [List.set_append, if_neg (by omega), hpre, Nat.sub_self]
      simp
    have hdo : o.drop k = o[k] :: o.drop (k + 1) := List.drop_eq_getElem_cons hko
    obtain ⟨hp, hat1, hat2⟩ := hR a List.mem_cons_self
    have H1 : Rd1 L di ev now n E B := ⟨H.P, H.hE, H.pE, by omega, by omega, H.now⟩
    have e2 : decide ((k : Int) < (o.length : Int)) = true := by rw [decide_eq_true_iff]; omega
    -- the rest
    have rest : ∀ (a' : RT3) (kd : Int) (t1 : List Bool), s1 (lvF L di ev) (mvF L di ev) ev now a (evI E o[k]) = (a', kd) → t1.length = E.length → (∀ i (h : i < t1.length), t1[i] = true ↔ ∃ j, ∃ h : j < o.length, j < k + 1 ∧ o[j] = (i : Int)) →
        F11_d19 600 (E.map Ren0, rowsI o, (pre ++ a :: R).length, E.length, (o.length : Int), (k : Int), L.map Ren4, di, ev, n, now, B.map Ren6, false, fl Ren3 (pre ++ a :: R), cB t) = some (E.map Ren0, rowsI o, (pre ++ a :: R).length, E.length, (o.length : Int), (k : Int), L.map Ren4, di, ev, (if kd = 0 then n else n + 1), now, (if kd = 0 then B else B ++ [bul n kd a' now]).map Ren6, false, fl Ren3 ((pre ++ a :: R).set k a'), cB t1) →
        ∃ t', (F11_l14 600).L (f + 1) (E.map Ren0, rowsI o, (pre ++ a :: R).length, E.length, (o.length : Int), (k : Int), L.map Ren4, di, ev, n, now, B.map Ren6, false, fl Ren3 (pre ++ a :: R), cB t) = some (E.map Ren0, (pre ++ a :: R).length, E.length, L.map Ren4, di, ev, n + (ph1 (lvF L di ev) (mvF L di ev) ev now E (a :: R) (o.drop k) n).2.length, now, (B ++ (ph1 (lvF L di ev) (mvF L di ev) ev now E (a :: R) (o.drop k) n).2).map Ren6, false, fl Ren3 (pre ++ (ph1 (lvF L di ev) (mvF L di ev) ev now E (a :: R) (o.drop k) n).1), cB t') ∧ t'.length = E.length ∧ (∀ i (h : i < t'.length), t'[i] = true ↔ (i : Int) ∈ o) := by
      intro a' kd t1 hs ht1 hT1 hq
      obtain ⟨t', r1, r2, r3⟩ := ph1_loop H o ho hol R (k + 1) f (pre ++ [a']) (if kd = 0 then B else B ++ [bul n kd a' now]) (if kd = 0 then n else n + 1) t1 (by simp [hpre]) (by omega) (by omega) (fun x hx => hR x (List.mem_cons_of_mem _ hx)) (fun j h h' hwj => by
        have := hw (j + 1) (by simpa using h) (by omega) (by simpa using hwj)
        rw [← this]
        congr 1
        omega) (by split <;> first | omega | (rw [List.length_append, List.length_singleton]; omega)) (by split <;> omega) ht1 hT1
      refine ⟨t', ?_, r2, r3⟩
      rw [hset] at hq
      rw [hdo]
      unfold ph1
      rw [hs]
      have hl : (pre ++ a :: R).length = ((pre ++ [a']) ++ R).length := by simp
      rw [hl] at hq ⊢
      show (F11_l14 600).b _ _ ((F11_l14 600).L f) some = _
      obtain ⟨Lf, hLf⟩ : ∃ Lf, Lf = (F11_l14 600).L f := ⟨_, rfl⟩
      rw [← hLf] at r1 ⊢
      simp only [F11_l14]
      simp only [e2, fl3, cB_dat, hq, nat_succ (show k < 1000000 by omega)]
      rw [r1]
      by_cases h0 : kd = 0
      · simp only [h0, if_true, List.nil_append, List.append_assoc, List.singleton_append]
      · simp only [h0, if_false, List.append_assoc, List.singleton_append, List.length_cons]
        rw [show n + 1 + ((ph1 (lvF L di ev) (mvF L di ev) ev now E R (o.drop (k + 1)) (n + 1)).2.length : Int) = n + (((ph1 (lvF L di ev) (mvF L di ev) ev now E R (o.drop (k + 1)) (n + 1)).2.length + 1 : Nat) : Int) by omega]
    rcases ho k hko with h1 | ⟨i, hi, h1⟩
    · have hq := round_none H1 (pre ++ a :: R) o t (o.length : Int) k hkl hko (by rw [hek]; exact hp) h1
      rw [hek] at hq
      refine rest _ _ t (by rw [h1, evI_neg]) ht (fun i h => ?_) hq
      rw [hT i h]
      constructor
      · rintro ⟨j, q1, q2, q3⟩; exact ⟨j, q1, by omega, q3⟩
      · rintro ⟨j, q1, q2, q3⟩
        refine ⟨j, q1, ?_, q3⟩
        rcases Nat.lt_or_ge j k with h2 | h2
        · exact h2
        · obtain rfl : j = k := by omega
          rw [h1] at q3; omega
    · have hwa : wdA a = false := by
        cases hx : wdA a with
        | false => rfl
        | true =>
          have := hw 0 (by simp) (by omega) (by simpa using hx)
          simp only [Nat.add_zero] at this
          rw [this] at h1; omega
      have hq := round_some H1 (pre ++ a :: R) o t (o.length : Int) k i hkl hko (by rw [hek]; exact hp) (by rw [hek]; exact hwa) (by rw [hek]; exact ⟨hat1, hat2⟩) hi (by omega) ht h1
      rw [hek] at hq
      refine rest _ _ (t.set i true) (by rw [h1, evI_pos E i hi]) (by simpa using ht) (fun m h => ?_) hq
      rw [List.getElem_set]
      split
      · rename_i e; subst e
        exact ⟨fun _ => ⟨k, hko, by omega, h1⟩, fun _ => rfl⟩
      · rename_i e
        rw [hT m (by simpa using h)]
        constructor
        · rintro ⟨j, q1, q2, q3⟩; exact ⟨j, q1, by omega, q3⟩
        · rintro ⟨j, q1, q2, q3⟩
          refine ⟨j, q1, ?_, q3⟩
          rcases Nat.lt_or_ge j k with h2 | h2
          · exact h2
          · obtain rfl : j = k := by omega
            rw [h1] at q3; omega
theorem ph2_loop {L : List RT4} {di ev now : Int} {E : List RT0} (H : Rds L di ev now E) (o : List Int) (t : List Bool) (ht : t.length = E.length) (hT : ∀ i (h : i < t.length), t[i] = true ↔ (i : Int) ∈ o) :
    ∀ (R : List RT0) (i f : Nat) (out : List RT3) (B : List RT6) (n : Int), E.drop i = R → i + R.length = E.length → R.length < f → B.length + R.length ≤ 50000 → out.length + R.length ≤ 50000 → 0 ≤ n ∧ n + R.length ≤ 1000 →
    (F11_l41 600).L f (out.length, E.map Ren0, E.length, (E.length : Int), (i : Int), L.map Ren4, di, ev, n, now, B.map Ren6, false, cB t, fl Ren3 out) = some ((out ++ (ph2 (lvF L di ev) (tmF L di ev now) now (fwO o) R i n).1).length, (B ++ (ph2 (lvF L di ev) (tmF L di ev now) now (fwO o) R i n).2).map Ren6, false, fl Ren3 (out ++ (ph2 (lvF L di ev) (tmF L di ev now) now (fwO o) R i n).1))
  | [], i, f, out, B, n, hR, hi, hf, hB, ho, hn => by
    obtain ⟨f, rfl⟩ : ∃ f', f = f' + 1 := ⟨f - 1, by omega⟩
    show (F11_l41 600).b _ _ ((F11_l41 600).L f) some = _
    simp only [F11_l41]
    have e2 : decide ((i : Int) < (E.length : Int)) = false := by rw [decide_eq_false_iff_not]; simp at hi; omega
    simp only [e2, fl3, ph2, List.append_nil]
  | e :: R, i, f, out, B, n, hR, hi, hf, hB, ho, hn => by
    obtain ⟨f, rfl⟩ : ∃ f', f = f' + 1 := ⟨f - 1, by omega⟩
    rw [List.length_cons] at hi hf hB ho hn
    obtain ⟨hil, hei, hR'⟩ := drop_eq hR
    have hE := H.hE
    have hit : i < t.length := by omega
    have e2 : decide ((i : Int) < (E.length : Int)) = true := by rw [decide_eq_true_iff]; omega
    have e3 : (0 : Int) ≤ (i : Int) := by omega
    have hz : (0 : Int) ≤ (i : Int) ∧ (i : Int) < (E.length : Int) := by omega
    have hg := cB_get t i hit
    rw [Int.toNat_natCast] at hg
    have hfw : t[i] = fwO o i := by rw [Bool.eq_iff_iff, hT i hit, fwO_iff]
    rw [hfw] at hg
    have hpe : PkOk e := by rw [← hei]; exact H.pE _ (List.getElem_mem hil)
    unfold ph2
    cases hw : fwO o i with
    | true =>
      have r1 := ph2_loop H o t ht hT R (i + 1) f out B n hR' (by omega) (by omega) (by omega) (by omega) (by omega)
      rw [if_neg (by simp)]
      rw [hw] at hg
      show (F11_l41 600).b _ _ ((F11_l41 600).L f) some = _
      obtain ⟨Lf, hLf⟩ : ∃ Lf, Lf = (F11_l41 600).L f := ⟨_, rfl⟩
      rw [← hLf] at r1 ⊢
      simp only [F11_l41]
      rw [e2]
      simp only [e3, hz, and_self, if_true, Int.toNat_natCast, get0 E i hil, hei, Rrd0_en, hg, Bool.not_true, fl3, cB_dat, nat_succ (show i < 1000000 by omega)]
      exact r1
    | false =>
      rw [hw] at hg
      cases htm : tmF L di ev now e with
      | false =>
        have r1 := ph2_loop H o t ht hT R (i + 1) f out B n hR' (by omega) (by omega) (by omega) (by omega) (by omega)
        rw [if_neg (by simp)]
        show (F11_l41 600).b _ _ ((F11_l41 600).L f) some = _
        obtain ⟨Lf, hLf⟩ : ∃ Lf, Lf = (F11_l41 600).L f := ⟨_, rfl⟩
        rw [← hLf] at r1 ⊢
        simp only [F11_l41]
        rw [e2]
        simp only [e3, hz, and_self, if_true, Int.toNat_natCast, get0 E i hil, hei, Rrd0_en, hg, Bool.not_false, tmF_ok H.P, htm, fl3, cB_dat, nat_succ (show i < 1000000 by omega)]
        exact r1
      | true =>
        obtain ⟨a, ha⟩ : ∃ a, a = mkA n false (nmE e) (lvF L di ev e) e now := ⟨_, rfl⟩
        have r1 := ph2_loop H o t ht hT R (i + 1) f (out ++ [a]) (B ++ [bul n 1 a now]) (n + 1) hR' (by omega) (by omega) (by simp; omega) (by simp; omega) (by omega)
        rw [if_pos ⟨rfl, rfl⟩]
        have hev : evA a = e := by rw [ha]; rfl
        have hid : idA a = n := by rw [ha]; rfl
        have pub := publish_ok 1 a false n now B (by omega) (by omega) (by rw [hev]; exact hpe.len) rfl
        replace pub : F28_d 600 (1, a, false, n, B.map Ren6, now) = some (false, n + 1, (B ++ [bul n 1 a now]).map Ren6, now) := pub
        have hcp := copied_ok e hpe.len
        have hb1 : out.length * 38 ≤ (fl Ren3 out).length := by rw [len3]; exact Nat.le_refl _
        have hb2 : ∀ r : List AV, (out.length + [r].length) * 384 ≤ maxBytes := fun r => by unfold maxBytes; simp; omega
        rw [← ha]
        show (F11_l41 600).b _ _ ((F11_l41 600).L f) some = _
        obtain ⟨Lf, hLf⟩ : ∃ Lf, Lf = (F11_l41 600).L f := ⟨_, rfl⟩
        rw [← hLf] at r1 ⊢
        rw [List.length_append] at r1
        simp only [F11_l41]
        rw [e2]
        simp only [e3, hz, and_self, if_true, Int.toNat_natCast, get0 E i hil, hei, Rrd0_en, hg, Bool.not_false, tmF_ok H.P, htm, lvF_ok H.P, hcp, hb1, hb2, fl3, cB_dat, nat_succ (show i < 1000000 by omega)]
        have ha2 : ((n, false, e.1, e.2.1, e.2.2.1, e.2.2.2.1, e.2.2.2.2.1, e.2.2.2.2.2.1, e.2.2.2.2.2.2.1, e.2.2.2.2.2.2.2.1, e.2.2.2.2.2.2.2.2.1, lvF L di ev e, e.1, e.2.1, e.2.2.1, e.2.2.2.1, e.2.2.2.2.1, e.2.2.2.2.2.1, e.2.2.2.2.2.2.1, e.2.2.2.2.2.2.2.1, e.2.2.2.2.2.2.2.2.1, e.2.2.2.2.2.2.2.2.2.1, e.2.2.2.2.2.2.2.2.2.2.1, e.2.2.2.2.2.2.2.2.2.2.2.1, e.2.2.2.2.2.2.2.2.2.2.2.2.1, e.2.2.2.2.2.2.2.2.2.2.2.2.2.1, e.2.2.2.2.2.2.2.2.2.2.2.2.2.2.1, e.2.2.2.2.2.2.2.2.2.2.2.2.2.2.2.1, e.2.2.2.2.2.2.2.2.2.2.2.2.2.2.2.2.1, e.2.2.2.2.2.2.2.2.2.2.2.2.2.2.2.2.2.1, e.2.2.2.2.2.2.2.2.2.2.2.2.2.2.2.2.2.2.1, e.2.2.2.2.2.2.2.2.2.2.2.2.2.2.2.2.2.2.2.1, e.2.2.2.2.2.2.2.2.2.2.2.2.2.2.2.2.2.2.2.2.1, e.2.2.2.2.2.2.2.2.2.2.2.2.2.2.2.2.2.2.2.2.2.1, e.2.2.2.2.2.2.2.2.2.2.2.2.2.2.2.2.2.2.2.2.2.2.1, e.2.2.2.2.2.2.2.2.2.2.2.2.2.2.2.2.2.2.2.2.2.2.2.1, e.2.2.2.2.2.2.2.2.2.2.2.2.2.2.2.2.2.2.2.2.2.2.2.2.1, now, ()) : RT3) = a := ha.symm
        simp only [ha2, hb2, if_true, pub]
        rw [app3 out a _ rfl, fl3]
        refine Eq.trans r1 ?_
        simp only [List.append_assoc, List.singleton_append]
noncomputable def stA (L : List RT4) (di ev now : Int) (E : List RT0) (A : List RT3) (o : List Int) (n : Int) : List RT3 := (ph1 (lvF L di ev) (mvF L di ev) ev now E A o n).1 ++ (ph2 (lvF L di ev) (tmF L di ev now) now (fwO o) E 0 (n + (ph1 (lvF L di ev) (mvF L di ev) ev now E A o n).2.length)).1
noncomputable def stB (L : List RT4) (di ev now : Int) (E : List RT0) (A : List RT3) (o : List Int) (n : Int) : List RT6 := (ph1 (lvF L di ev) (mvF L di ev) ev now E A o n).2 ++ (ph2 (lvF L di ev) (tmF L di ev now) now (fwO o) E 0 (n + (ph1 (lvF L di ev) (mvF L di ev) ev now E A o n).2.length)).2
theorem step_ok' {L : List RT4} {di ev number now now' : Int} {A : List RT3} {E : List RT0} (P : Pol L di ev) (O : Ok A number now) (hE : EvOk E) (hn : now ≤ now' ∧ now' ≤ 1000000) : ∃ o t, Fo A E o t ∧ F19_d 600 (A.map Ren3, E.map Ren0) = some (rowsI o) ∧ F11_d 600 (L.map Ren4, di, ev, A.map Ren3, number, E.map Ren0, now') = some ((stA L di ev now' E A o number).map Ren3, (stB L di ev now' E A o number).map Ren6, 0) := by
  have hl := O.len
  have hnum := O.num
  have hnow := O.now
  have hEl := hE.l
  obtain ⟨o, t, h1, F⟩ := follow_ok A E (by omega) (by omega) hE.names O.nm hE.pk O.pk
  refine ⟨o, t, F, h1, ?_⟩
  have hlo := F.lo
  have H : Rds L di ev now' E := ⟨P, by omega, hE.pk, by omega⟩
  obtain ⟨t', q1, q2, q3⟩ := ph1_loop H o F.v (by omega) A 0 600 [] [] number (List.replicate E.length false) rfl (by omega) (by omega) (fun a ha => ⟨O.pk a ha, by have := O.rng a ha; omega, by have := O.rng a ha; omega⟩) (fun j h h' hw => by simp only [Nat.zero_add]; exact F.w j (by omega) h hw) (by simp; omega) (by omega) (by simp) (fun i h => ⟨fun e => by simp at e, fun ⟨j, _, hj, _⟩ => by omega⟩)
  rw [List.drop_zero] at q1
  obtain ⟨p, hp⟩ : ∃ p, ph1 (lvF L di ev) (mvF L di ev) ev now' E A o number = p := ⟨_, rfl⟩
  have hpl := ph1_len (lvF L di ev) (mvF L di ev) ev now' E A o number hlo.symm
  rw [hp] at q1 hpl
  replace q1 : (F11_l14 600).L 600 (E.map Ren0, rowsI o, A.length, E.length, (o.length : Int), 0, L.map Ren4, di, ev, number, now', [], false, fl Ren3 A, cB (List.replicate E.length false)) = some (E.map Ren0, A.length, E.length, L.map Ren4, di, ev, number + p.2.length, now', p.2.map Ren6, false, fl Ren3 p.1, cB t') := q1
  have q4 := ph2_loop H o t' q2 q3 E 0 600 p.1 p.2 (number + p.2.length) rfl (by omega) (by omega) (by omega) (by omega) (by omega)
  obtain ⟨r, hr⟩ : ∃ r, ph2 (lvF L di ev) (tmF L di ev now') now' (fwO o) E 0 (number + p.2.length) = r := ⟨_, rfl⟩
  have hrl := ph2_len (lvF L di ev) (tmF L di ev now') now' (fwO o) E 0 (number + p.2.length)
  rw [hr] at q4 hrl
  rw [hpl.1] at q4
  replace q4 : (F11_l41 600).L 600 (A.length, E.map Ren0, E.length, (E.length : Int), 0, L.map Ren4, di, ev, number + p.2.length, now', p.2.map Ren6, false, cB t', fl Ren3 p.1) = some ((p.1 ++ r.1).length, (p.2 ++ r.2).map Ren6, false, fl Ren3 (p.1 ++ r.1)) := q4
  have hsA : stA L di ev now' E A o number = p.1 ++ r.1 := by unfold stA; rw [hp, hr]
  have hsB : stB L di ev now' E A o number = p.2 ++ r.2 := by unfold stB; rw [hp, hr]
  rw [hsA, hsB]
  have e1 : ((0 : Int) != 0) = false := by decide
  have g1 : (0 : Int) ≤ (E.length : Int) := by omega
  have g2 : E.length * 1 ≤ maxBytes := by unfold maxBytes; omega
  have e2 : decide ((((p.1 ++ r.1).length : Nat) : Int) > 200) = false := by rw [decide_eq_false_iff_not, List.length_append]; omega
  have g3 : (p.1 ++ r.1).length * 38 ≤ (fl Ren3 (p.1 ++ r.1)).length := by rw [len3]; exact Nat.le_refl _
  simp only [F11_d, FSpec.d, F11_s, refused_ok P O hE hn, e1, all_ok A (by omega) (fun a ha => PkOk.len (O.pk a ha)), List.length_map, Int.toNat_natCast, g1, g2, Int.le_refl, and_self, if_true, h1, rowsI_len, F11_d14, fl3, cB_rep, cB_dat, q1, F11_d41, q4, e2, g3]
  rw [fl_chunks Ren3 38 Ren3_len (fun _ => rfl) _ _ rfl]
end Go.Proofs.Ytnnfpoelkdgjdaa
end
section
namespace Go.Proofs.Ytnnfpoelkdgjdaa
set_option linter.unusedVariables false
set_option linter.unusedSimpArgs false
set_option linter.unnecessarySimpa false
theorem lvR_ok {L : List RT4} {di ev : Int} (P : Pol L di ev) (e : RT0) : F14_d 600 (L.map Ren4, di, ev, e) = some (lvF L di ev e) := rlevel_ok P e
def r1 (lv : RT0 → Int) (mv : RT0 → RT0 → Bool) (ev now : Int) (a : RT3) : Option RT0 → RT3 × Int
  | none => if wdA a = true then (a, 0) else ((a.1, true, a.2.2), 3)
  | some e => if wdA a = true then (nmS a (nmE e), 0) else if lv e = 0 then (((nmS a (nmE e)).1, true, (nmS a (nmE e)).2.2), 3)
    else if mv (evA a) e = true ∧ now - atA a ≥ ev then (upA (nmS a (nmE e)) (lv e) e (atA a), 2)
    else (nmS a (nmE e), 0)
end Go.Proofs.Ytnnfpoelkdgjdaa
end
section
namespace Go.Proofs.Ytnnfpoelkdgjdaa
set_option linter.unusedVariables false
set_option linter.unusedSimpArgs false
set_option linter.unnecessarySimpa false
section
variable (lv : RT0 → Int) (mv : RT0 → RT0 → Bool) (tm : RT0 → Bool) (ev now : Int) (E : List RT0)
theorem ph1_get : ∀ (A : List RT3) (o : List Int) (n : Int) (h : A.length = o.length) (k : Nat) (hk : k < A.length) (hk' : k < o.length) (hk2 : k < (ph1 lv mv ev now E A o n).1.length), (ph1 lv mv ev now E A o n).1[k] = (s1 lv mv ev now A[k] (evI E o[k])).1
  | [], o, n, h, k, hk, hk', hk2 => by cases hk
  | a :: A, [], n, h, k, hk, hk', hk2 => by cases hk'
  | a :: A, i :: o, n, h, k, hk, hk', hk2 => by
    cases k with
    | zero => simp only [ph1, List.getElem_cons_zero]
    | succ k =>
      simp only [ph1, List.getElem_cons_succ]
      exact ph1_get A o _ (by simpa using h) k (by simpa using hk) (by simpa using hk') (by simpa [ph1] using hk2)
theorem s1_id (a : RT3) : ∀ x, idA (s1 lv mv ev now a x).1 = idA a
  | none => by unfold s1; dsimp only; split <;> rfl
  | some e => by
    unfold s1
    dsimp only
    split
    · rfl
    · split
      · rfl
      · split <;> rfl
theorem s1_at (a : RT3) : ∀ x, atA (s1 lv mv ev now a x).1 = atA a ∨ atA (s1 lv mv ev now a x).1 = now
  | none => by
    unfold s1
    dsimp only
    split
    · exact .inl rfl
    · exact .inr rfl
  | some e => by
    unfold s1
    dsimp only
    split
    · exact .inl rfl
    · split
      · exact .inr rfl
      · split
        · exact .inr rfl
        · exact .inl rfl
theorem s1_ev (a : RT3) : ∀ x, evA (s1 lv mv ev now a x).1 = evA a ∨ ∃ e, x = some e ∧ evA (s1 lv mv ev now a x).1 = e
  | none => by
    unfold s1
    dsimp only
    split
    · exact .inl rfl
    · exact .inl rfl
  | some e => by
    unfold s1
    dsimp only
    split
    · exact .inl rfl
    · split
      · exact .inl rfl
      · split
        · exact .inr ⟨e, rfl, rfl⟩
        · exact .inl rfl
theorem s1_open (a : RT3) : ∀ x, wdA (s1 lv mv ev now a x).1 = false → wdA a = false ∧ ∃ e, x = some e ∧ lv e ≠ 0 ∧ nmA (s1 lv mv ev now a x).1 = nmE e
  | none => by
    unfold s1
    dsimp only
    split
    · rename_i h; intro h2; dsimp only at h2; rw [h] at h2; cases h2
    · intro h2; cases h2
  | some e => by
    unfold s1
    dsimp only
    split
    · rename_i h; intro h2; dsimp only at h2; rw [h] at h2; cases h2
    · rename_i hw
      have hw' : wdA a = false := by simpa using hw
      split
      · intro h2; cases h2
      · rename_i h0
        split
        · intro _; exact ⟨hw', e, rfl, h0, rfl⟩
        · intro _; exact ⟨hw', e, rfl, h0, rfl⟩
variable (fw : Nat → Bool)
theorem ph2_asc : ∀ (R : List RT0) (i : Nat) (n : Int), (∀ a ∈ (ph2 lv tm now fw R i n).1, n ≤ idA a ∧ idA a < n + (ph2 lv tm now fw R i n).1.length) ∧ (ph2 lv tm now fw R i n).1.Pairwise fun a b => idA a < idA b
  | [], i, n => ⟨fun a h => (by simp [ph2] at h), by simp [ph2]⟩
  | e :: R, i, n => by
    unfold ph2
    split
    · obtain ⟨h1, h2⟩ := ph2_asc R (i + 1) (n + 1)
      refine ⟨fun a ha => ?_, .cons (fun a ha => ?_) h2⟩
      · rw [List.length_cons]
        rcases List.mem_cons.1 ha with h | h
        · subst h
          rw [idA_mk]; omega
        · have := h1 a h; omega
      · have := h1 a ha
        rw [idA_mk]; omega
    · exact ph2_asc R (i + 1) n
theorem ph2_mem : ∀ (R : List RT0) (i : Nat) (n : Int), ∀ a ∈ (ph2 lv tm now fw R i n).1, ∃ j, ∃ h : j < R.length, fw (i + j) = false ∧ tm R[j] = true ∧ ∃ m, a = mkA m false (nmE R[j]) (lv R[j]) R[j] now
  | [], i, n => fun a h => by simp [ph2] at h
  | e :: R, i, n => by
    unfold ph2
    split
    · rename_i hc
      intro a ha
      rcases List.mem_cons.1 ha with h | h
      · exact ⟨0, by simp, by rw [Nat.add_zero]; exact hc.1, hc.2, n, h⟩
      · obtain ⟨j, hj, q1, q2, q3⟩ := ph2_mem R (i + 1) (n + 1) a h
        exact ⟨j + 1, by simpa using hj, by rw [← q1]; congr 1; omega, q2, q3⟩
    · intro a h
      obtain ⟨j, hj, q1, q2, q3⟩ := ph2_mem R (i + 1) n a h
      exact ⟨j + 1, by simpa using hj, by rw [← q1]; congr 1; omega, q2, q3⟩
theorem ph2_names : ∀ (R : List RT0) (i : Nat) (n : Int), (R.Pairwise fun a b => nmE a ≠ nmE b) → (ph2 lv tm now fw R i n).1.Pairwise fun a b => nmA a ≠ nmA b
  | [], i, n, h => by simp [ph2]
  | e :: R, i, n, h => by
    rw [List.pairwise_cons] at h
    unfold ph2
    split
    · refine .cons (fun a ha => ?_) (ph2_names R (i + 1) (n + 1) h.2)
      obtain ⟨j, hj, _, _, m, q3⟩ := ph2_mem lv tm now fw R (i + 1) (n + 1) a ha
      rw [q3, nmA_mk, nmA_mk]
      exact h.1 _ (List.getElem_mem hj)
    · exact ph2_names R (i + 1) n h.2
end
theorem Ok.step {number now now' : Int} {A : List RT3} {E : List RT0} {m : Nat} {o : List Int} {t : List Bool} (O : Ok A number now) (hm : m ≤ 5) (hE : Evs 0 m E) (F : Fo A E o t) (hn : now ≤ now' ∧ now' ≤ 1000000) (h1 : A.length + m ≤ 100) (h2 : number + A.length + m ≤ 800)
    (lv : RT0 → Int) (mv : RT0 → RT0 → Bool) (tm : RT0 → Bool) (ev : Int) :
    Ok ((ph1 lv mv ev now' E A o number).1 ++ (ph2 lv tm now' (fwO o) E 0 (number + (ph1 lv mv ev now' E A o number).2.length)).1) (number + ((ph1 lv mv ev now' E A o number).2 ++ (ph2 lv tm now' (fwO o) E 0 (number + (ph1 lv mv ev now' E A o number).2.length)).2).length) now' := by
  have hEl := evs_lo hE
  have hlo := F.lo
  have hnum := O.num
  have hnow := O.now
  obtain ⟨p1, p2⟩ := ph1_len lv mv ev now' E A o number hlo.symm
  have pg := ph1_get lv mv ev now' E A o number hlo.symm
  obtain ⟨p, hp⟩ : ∃ p, ph1 lv mv ev now' E A o number = p := ⟨_, rfl⟩
  rw [hp] at p1 p2
  have pg : ∀ (k : Nat) (hk : k < A.length) (hk' : k < o.length) (hk2 : k < p.1.length), p.1[k] = (s1 lv mv ev now' A[k] (evI E o[k])).1 := by subst hp; exact pg
  rw [hp]
  obtain ⟨q1, q2⟩ := ph2_len lv tm now' (fwO o) E 0 (number + p.2.length)
  obtain ⟨q3, q4⟩ := ph2_asc lv tm now' (fwO o) E 0 (number + p.2.length)
  have q5 := ph2_mem lv tm now' (fwO o) E 0 (number + p.2.length)
  have q6 := ph2_names lv tm now' (fwO o) E 0 (number + p.2.length) hE.names
  obtain ⟨r, hr⟩ : ∃ r, ph2 lv tm now' (fwO o) E 0 (number + p.2.length) = r := ⟨_, rfl⟩
  rw [hr] at q1 q2 q3 q4 q5 q6 ⊢
  have pm : ∀ a ∈ p.1, ∃ k, ∃ hk : k < A.length, ∃ hk' : k < o.length, a = (s1 lv mv ev now' A[k] (evI E o[k])).1 := fun a ha => by
    obtain ⟨k, hk, e⟩ := List.getElem_of_mem ha
    exact ⟨k, by omega, by omega, by rw [← e]; exact pg k (by omega) (by omega) hk⟩
  refine ⟨by rw [List.length_append]; omega, ?_, fun a ha => ?_, ?_, fun a ha => ?_, by rw [List.length_append]; omega, by omega⟩
  · -- ascending
    rw [List.pairwise_append]
    refine ⟨List.pairwise_iff_getElem.2 fun i j hi hj hij => ?_, q4, fun a ha b hb => ?_⟩
    · rw [pg i (by omega) (by omega) hi, pg j (by omega) (by omega) hj, s1_id, s1_id]
      exact List.pairwise_iff_getElem.1 O.asc i j (by omega) (by omega) hij
    · obtain ⟨k, hk, hk', rfl⟩ := pm a ha
      rw [s1_id]
      have := O.rng _ (List.getElem_mem hk)
      have := q3 b hb
      omega
  · -- ranges
    rw [List.length_append]
    rcases List.mem_append.1 ha with h | h
    · obtain ⟨k, hk, hk', rfl⟩ := pm a h
      rw [s1_id]
      have := O.rng _ (List.getElem_mem hk)
      rcases s1_at lv mv ev now' A[k] (evI E o[k]) with e | e <;> rw [e] <;> omega
    · have h1 := q3 a h
      obtain ⟨j, hj, _, _, mm, e⟩ := q5 a h
      have : atA a = now' := by rw [e]; rfl
      omega
  · -- names
    rw [List.pairwise_append]
    have idx : ∀ k (hk : k < A.length) (hk' : k < o.length), wdA (s1 lv mv ev now' A[k] (evI E o[k])).1 = false → ∃ i, ∃ hi : i < E.length, o[k] = (i : Int) ∧ nmA (s1 lv mv ev now' A[k] (evI E o[k])).1 = nmE E[i] := fun k hk hk' hw => by
      obtain ⟨-, e, he, -, hnm⟩ := s1_open lv mv ev now' A[k] (evI E o[k]) hw
      rcases F.v k hk' with h | ⟨i, hi, h⟩
      · rw [h, evI_neg] at he; cases he
      · refine ⟨i, hi, h, ?_⟩
        rw [hnm]
        rw [h, evI_pos E i hi] at he
        cases he
        rfl
    refine ⟨List.pairwise_iff_getElem.2 fun i j hi hj hij w1 w2 e => ?_, q6.imp fun h _ _ => h, fun a ha b hb w1 w2 e => ?_⟩
    · rw [pg i (by omega) (by omega) hi] at w1 e
      rw [pg j (by omega) (by omega) hj] at w2 e
      obtain ⟨x, hx, ex, nx⟩ := idx i (by omega) (by omega) w1
      obtain ⟨y, hy, ey, ny⟩ := idx j (by omega) (by omega) w2
      rw [nx, ny] at e
      have hxy : x = y := by
        rcases Nat.lt_trichotomy x y with h | h | h
        · exact absurd e (List.pairwise_iff_getElem.1 hE.names x y hx hy h)
        · exact h
        · exact absurd e.symm (List.pairwise_iff_getElem.1 hE.names y x hy hx h)
      have := F.inj i j (by omega) (by omega) (by rw [ex, ey, hxy]) (by rw [ex]; omega)
      omega
    · obtain ⟨k, hk, hk', rfl⟩ := pm a ha
      obtain ⟨x, hx, ex, nx⟩ := idx k hk hk' w1
      obtain ⟨j, hj, hf, _, mm, eb⟩ := q5 b hb
      rw [nx, eb, nmA_mk] at e
      rw [Nat.zero_add] at hf
      have hxy : x = j := by
        rcases Nat.lt_trichotomy x j with h | h | h
        · exact absurd e (List.pairwise_iff_getElem.1 hE.names x j hx hj h)
        · exact h
        · exact absurd e.symm (List.pairwise_iff_getElem.1 hE.names j x hj hx h)
      subst hxy
      have : fwO o x = true := fwO_iff.2 (by rw [← ex]; exact List.getElem_mem hk')
      rw [hf] at this; cases this
  · -- picks
    rcases List.mem_append.1 ha with h | h
    · obtain ⟨k, hk, hk', rfl⟩ := pm a h
      rcases s1_ev lv mv ev now' A[k] (evI E o[k]) with e | ⟨e, e1, e2⟩
      · rw [e]; exact O.pk _ (List.getElem_mem hk)
      · rw [e2]
        refine hE.pk e ?_
        unfold evI at e1
        split at e1
        · exact List.mem_of_getElem? e1
        · cases e1
    · obtain ⟨j, hj, _, _, mm, e⟩ := q5 a h
      rw [e, evA_mk]
      exact hE.pk _ (List.getElem_mem hj)
end Go.Proofs.Ytnnfpoelkdgjdaa
end
section
namespace Go.Proofs.Ytnnfpoelkdgjdaa
set_option linter.unusedVariables false
set_option linter.unusedSimpArgs false
set_option linter.unnecessarySimpa false
def E0 : RT0 := (AB, st 0, LC, CH, 1000, 0, 0, 0, 0, [Ren1 (AB, st 0, LC, CH, 1000, 0, 0, 0, 0, ())], 0, 0, 0, 900, 0, 0, 0, 0, 0, 0, 0, 0, 0, 0, 1, ())
def A0 : RT3 := mkA 4 false (nmE E0) 1 E0 1200
def R0 : List RT4 := [(-1000, 1, 10000, 100000, ())]
theorem pol0 : Pol R0 0 0 := ⟨by simp [R0], fun r h => by
  have := List.mem_singleton.1 h
  subst this
  exact ⟨by dsimp only; omega, by dsimp only; omega, by dsimp only; omega, by dsimp only; omega⟩, by omega, by omega⟩
theorem evs0 : EvOk [E0] := ⟨by kernel_rfl, by simp, by simp, fun e h => by
  have := List.mem_singleton.1 h
  subst this
  exact ⟨[(AB, st 0, LC, CH, 1000, 0, 0, 0, 0, ())], by simp, rfl⟩⟩
theorem evs00 : EvOk [] := ⟨by kernel_rfl, by simp, .nil, fun e h => by cases h⟩
theorem awake1 : F11_d 600 (R0.map Ren4, 0, 0, [], 4, [Ren0 E0], 1200) = some ([Ren3 A0], [Ren6 (bul 4 1 A0 1200)], 0) := by
  have O0 : Ok [] 4 1200 := ⟨by simp, List.Pairwise.nil, fun a h => (by cases h), List.Pairwise.nil, fun a h => (by cases h), by omega, by omega⟩
  obtain ⟨o, t, F, -, h⟩ := step_ok' pol0 O0 evs0 (now' := 1200) (by omega)
  have ho : o = [] := List.eq_nil_of_length_eq_zero F.lo
  subst ho
  have h1 : tmF R0 0 0 1200 E0 = true := by kernel_rfl
  have h2 : lvF R0 0 0 E0 = 1 := by kernel_rfl
  have h3 : fwO [] 0 = false := by unfold fwO; simp
  have hA : stA R0 0 0 1200 [E0] [] [] 4 = [A0] := by
    unfold stA
    simp only [ph1, ph2, h1, h2, h3, and_self, if_true, List.nil_append]
    rfl
  have hB : stB R0 0 0 1200 [E0] [] [] 4 = [bul 4 1 A0 1200] := by
    unfold stB
    simp only [ph1, ph2, h1, h2, h3, and_self, if_true, List.nil_append]
    rfl
  rw [hA, hB] at h
  exact h
theorem awake2 : F11_d 600 (R0.map Ren4, 0, 0, [Ren3 A0], 5, [], 1300) = some ([Ren3 (clA A0 1300)], [Ren6 (bul 5 3 (clA A0 1300) 1300)], 0) := by
  have O1 : Ok [A0] 5 1200 := ⟨by simp, by simp, fun a h => (by
      have := List.mem_singleton.1 h
      subst this
      have h1 : idA A0 = 4 := rfl
      have h2 : atA A0 = 1200 := rfl
      omega), by simp, fun a h => (by
      have := List.mem_singleton.1 h
      subst this
      exact ⟨[(AB, st 0, LC, CH, 1000, 0, 0, 0, 0, ())], by simp, rfl⟩), by omega, by omega⟩
  obtain ⟨o, t, F, -, h⟩ := step_ok' pol0 O1 evs00 (now' := 1300) (by omega)
  have hl := F.lo
  obtain ⟨v, rfl⟩ : ∃ v, o = [v] := by
    match o, hl with
    | [v], _ => exact ⟨v, rfl⟩
  have hv : v = -1 := by
    rcases F.v 0 (by simp) with h | ⟨i, hi, _⟩
    · exact h
    · simp at hi
  subst hv
  have hw : wdA A0 = false := rfl
  have hA : stA R0 0 0 1300 [] [A0] [-1] 5 = [clA A0 1300] := by
    unfold stA
    simp only [ph1, ph2, evI_neg, s1, hw]
    rfl
  have hB : stB R0 0 0 1300 [] [A0] [-1] 5 = [bul 5 3 (clA A0 1300) 1300] := by
    unfold stB
    simp only [ph1, ph2, evI_neg, s1, hw]
    rfl
  rw [hA, hB] at h
  exact h
theorem awake_ok : F15_d 600 () = some true := by
  have h1 : F35_d 600 0 = some (AB, st 0, LC, CH, ()) := by kernel_rfl
  have h2 : F36_d 600 () = some (R0.map Ren4, 0, 0) := by kernel_rfl
  have h3 : F11_d 600 (R0.map Ren4, 0, 0, [], 4, [Ren0 (AB, st 0, LC, CH, 1000, 0, 0, 0, 0, [Ren1 (AB, st 0, LC, CH, 1000, 0, 0, 0, 0, ())], 0, 0, 0, 900, 0, 0, 0, 0, 0, 0, 0, 0, 0, 0, 1, ())], 1200) = some ([Ren3 A0], [Ren6 (bul 4 1 A0 1200)], 0) := awake1
  simp only [F15_d, FSpec.d, F15_s]
  simp only [h1, h2, h3, awake2]
  rfl
end Go.Proofs.Ytnnfpoelkdgjdaa
end
section
namespace Go.Proofs.Ytnnfpoelkdgjdaa
open Go.RowKit
set_option linter.unusedVariables false
set_option linter.unusedSimpArgs false
set_option linter.unnecessarySimpa false
theorem EvAt.lo {n : Nat} {e : RT0} (h : EvAt n e) : loE e ≤ hiE e := by
  obtain ⟨f, c, h1, h2, h3, h4, h5, h6⟩ := h
  exact h6
end Go.Proofs.Ytnnfpoelkdgjdaa
end
section
namespace Go.Proofs.Ytnnfpoelkdgjdaa
open Go.RowKit
set_option linter.unusedVariables false
set_option linter.unusedSimpArgs false
set_option linter.unnecessarySimpa false
def opn (a : RT3) : Bool := !wdA a
theorem get6 (P : List RT6) (k : Nat) (h : k < P.length) : (P.map Ren6)[k]? = some (Ren6 P[k]) := by simp [h]
end Go.Proofs.Ytnnfpoelkdgjdaa
end
