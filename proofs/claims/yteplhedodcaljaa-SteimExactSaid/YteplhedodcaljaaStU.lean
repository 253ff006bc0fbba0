/- Functions without memory. (written by sx.py) -/
import Derived.Test.YteplhedodcaljaaStT
namespace Go.Proofs.Yteplhedodcaljaa
open Go.RowKit
set_option linter.unusedVariables false
set_option linter.unusedSimpArgs false
set_option linter.unnecessarySimpa false
set_option maxRecDepth 4000
/-! ### seismonet/seismonetmade.Light (function 8) -/
def F8_an : Nat → Keep × Keep := anL []
noncomputable def F8_g (N : Nat) : GamK := gam (P := Try.prog) []
noncomputable def F8_s (N : Nat) : FSpec where
  X := (List (List AV))
  Y := Bool
  ash := [[some 1]]
  bsh := []
  S := ⟨[[none]], [], [], [], []⟩
  bm := false
  pat := fun a b => match a, b with
    | [(AV.list 1 a0 none)], [] => some a0
    | _, _ => none
  args := fun x => [(AV.list 1 x none)]
  bs := fun x => []
  ret := fun y => ⟨(AV.v (.bool y)), [], none, [], [], []⟩
  t := fun x α k => (k (decide ((x.length : Int) ≤ 500)))
noncomputable abbrev F8_d (N : Nat) (x : (List (List AV))) : Option (Bool) := (F8_s N).d x
theorem F8_parF (N : Nat) : ParF (F8_s N).t := by
  intro x α β k k' r r' h h1
  revert h
  dsimp only [F8_s]
  (repeat' (first | (with_reducible refine par_ite ?_ ?_) | (with_reducible refine par_both ?_ ?_) | split)) <;> intro h <;> first | exact h1 _ h | (cases h; done)
theorem F8_text (N : Nat) (x : (F8_s N).X) : acall (tabOf Try.prog) (F8_g N) F8_an (lam N []) Try.f8 (F8_s N).S ((F8_s N).args x) ((F8_s N).bs x) = (F8_s N).t x Ret (fun y => some ((F8_s N).ret y)) := by kernel_rfl
theorem F8_pat (N : Nat) (a : List AV) (b : List (List AV)) (x : (F8_s N).X) (h : (F8_s N).pat a b = some x) : a = (F8_s N).args x ∧ b = (F8_s N).bs x := by
  dsimp only [F8_s] at h
  split at h
  · cases h; exact ⟨rfl, rfl⟩
  · cases h
noncomputable def F8_e (N : Nat) : Ent Try.prog := entOf (tabOf_ok Try.prog) (gam_ok _) mixed 8 Try.f8 Try.func8 rfl F8_an (lam N []) (by
    have e : actOf F8_an (Try.f8.body.getD .skip) 0 = [] := by kernel_rfl
    rw [e]
    intro p hp
    cases hp) (F8_s N) (fun _ => ⟨rfl, rfl⟩) (F8_text N) (F8_pat N) (F8_parF N)
/-! ### seismonet/seismonetlaw05.sane (function 9) -/
def F9_an : Nat → Keep × Keep := anL []
noncomputable def F9_g (N : Nat) : GamK := gam (P := Try.prog) [F14_e N, F28_e N, F13_e N]
noncomputable def F9_s (N : Nat) : FSpec where
  X := Unit
  Y := Bool
  ash := []
  bsh := []
  S := ⟨[[none]], [], [], [], []⟩
  bm := false
  pat := fun a b => match a, b with
    | [], [] => some ()
    | _, _ => none
  args := fun x => []
  bs := fun x => []
  ret := fun y => ⟨(AV.v (.bool y)), [], none, [], [], []⟩
  t := fun x α k => (match F14_d N ([[(AV.v (.int .i64 5))], [(AV.v (.int .i64 6))], [(AV.v (.int .i64 4))], [(AV.v (.int .i64 4))], [(AV.v (.int .i64 4))]]) with | some y1 => (match F28_d N y1.1 with | some y2 => (match (y1.2 == 0) with | true => (match (y2.2 == 0) with | true => (match ((y2.1.length : Int) == 16) with | true => (if 0 ≤ (3 : Int) then (match y2.1[(3 : Int).toNat]? with | some c3 => (match c3[0]? with | some x4 => (match x4 with | .v (.int q6 n5) => (if q6 = .i64 then (match (n5 == 1) with | true => (if 0 ≤ (4 : Int) then (match y2.1[(4 : Int).toNat]? with | some c7 => (match c7[0]? with | some x8 => (match x8 with | .v (.int q10 n9) => (if q10 = .i64 then (match (n9 == 3) with | true => (if 0 ≤ (5 : Int) then (match y2.1[(5 : Int).toNat]? with | some c11 => (match c11[0]? with | some x12 => (match x12 with | .v (.int q14 n13) => (if q14 = .i64 then (match (n13 == 0) with | true => (match F13_d N ([[(AV.v (.int .i64 1))], [(AV.v (.int .i64 2))], [(AV.v (.int .i64 3))]]) with | some y15 => (k (y15 == 2)) | none => none) | false => (k false)) else none) | _ => none) | none => none) | none => none) else none) | false => (k false)) else none) | _ => none) | none => none) | none => none) else none) | false => (k false)) else none) | _ => none) | none => none) | none => none) else none) | false => (k false)) | false => (k false)) | false => (k false)) | none => none) | none => none)
noncomputable abbrev F9_d (N : Nat) (x : Unit) : Option (Bool) := (F9_s N).d x
theorem F9_parF (N : Nat) : ParF (F9_s N).t := by
  intro x α β k k' r r' h h1
  revert h
  dsimp only [F9_s]
  (repeat' (first | (with_reducible refine par_ite ?_ ?_) | (with_reducible refine par_both ?_ ?_) | split)) <;> intro h <;> first | exact h1 _ h | (cases h; done)
theorem F9_text (N : Nat) (x : (F9_s N).X) : acall (tabOf Try.prog) (F9_g N) F9_an (lam N []) Try.f9 (F9_s N).S ((F9_s N).args x) ((F9_s N).bs x) = (F9_s N).t x Ret (fun y => some ((F9_s N).ret y)) := by kernel_rfl
theorem F9_pat (N : Nat) (a : List AV) (b : List (List AV)) (x : (F9_s N).X) (h : (F9_s N).pat a b = some x) : a = (F9_s N).args x ∧ b = (F9_s N).bs x := by
  dsimp only [F9_s] at h
  split at h
  · cases h; exact ⟨rfl, rfl⟩
  · cases h
noncomputable def F9_e (N : Nat) : Ent Try.prog := entOf (tabOf_ok Try.prog) (gam_ok _) mixed 9 Try.f9 Try.func9 rfl F9_an (lam N []) (by
    have e : actOf F9_an (Try.f9.body.getD .skip) 0 = [] := by kernel_rfl
    rw [e]
    intro p hp
    cases hp) (F9_s N) (fun _ => ⟨rfl, rfl⟩) (F9_text N) (F9_pat N) (F9_parF N)
/-! ### seismonet/seismonetmade.Roll (function 10) -/
def F10_an : Nat → Keep × Keep := anL []
noncomputable def F10_g (N : Nat) : GamK := gam (P := Try.prog) []
noncomputable def F10_s (N : Nat) : FSpec where
  X := (List (List AV))
  Y := (List (List AV)) × Int
  ash := [[some 1]]
  bsh := []
  S := ⟨[[none]], [], [some 1, none], [], []⟩
  bm := false
  pat := fun a b => match a, b with
    | [(AV.list 1 a0 none)], [] => some a0
    | _, _ => none
  args := fun x => [(AV.list 1 x none)]
  bs := fun x => []
  ret := fun y => ⟨(AV.ptr 0 0), [], some [(AV.list 1 y.1 none), (AV.v (.int .i64 y.2))], [], [], []⟩
  t := fun x α k => (k (x, 0))
noncomputable abbrev F10_d (N : Nat) (x : (List (List AV))) : Option ((List (List AV)) × Int) := (F10_s N).d x
theorem F10_parF (N : Nat) : ParF (F10_s N).t := by
  intro x α β k k' r r' h h1
  revert h
  dsimp only [F10_s]
  (repeat' (first | (with_reducible refine par_ite ?_ ?_) | (with_reducible refine par_both ?_ ?_) | split)) <;> intro h <;> first | exact h1 _ h | (cases h; done)
theorem F10_text (N : Nat) (x : (F10_s N).X) : acall (tabOf Try.prog) (F10_g N) F10_an (lam N []) Try.f10 (F10_s N).S ((F10_s N).args x) ((F10_s N).bs x) = (F10_s N).t x Ret (fun y => some ((F10_s N).ret y)) := by kernel_rfl
theorem F10_pat (N : Nat) (a : List AV) (b : List (List AV)) (x : (F10_s N).X) (h : (F10_s N).pat a b = some x) : a = (F10_s N).args x ∧ b = (F10_s N).bs x := by
  dsimp only [F10_s] at h
  split at h
  · cases h; exact ⟨rfl, rfl⟩
  · cases h
noncomputable def F10_e (N : Nat) : Ent Try.prog := entOf (tabOf_ok Try.prog) (gam_ok _) mixed 10 Try.f10 Try.func10 rfl F10_an (lam N []) (by
    have e : actOf F10_an (Try.f10.body.getD .skip) 0 = [] := by kernel_rfl
    rw [e]
    intro p hp
    cases hp) (F10_s N) (fun _ => ⟨rfl, rfl⟩) (F10_text N) (F10_pat N) (F10_parF N)
/-! ### (*seismonet/seismonetmade.Dice).Next (function 11) -/
def F11_an : Nat → Keep × Keep := anL []
noncomputable def F11_g (N : Nat) : GamK := gam (P := Try.prog) []
noncomputable def F11_s (N : Nat) : FSpec where
  X := Int × (List (List AV)) × Int
  Y := Int × (List (List AV)) × Int
  ash := [[none], [none]]
  bsh := [[some 1, none]]
  S := ⟨[[none]], [[some 1, none]], [], [], []⟩
  bm := false
  pat := fun a b => match a, b with
    | [(AV.ptr 0 0), (AV.v (.int .i64 a0))], [[(AV.list 1 a1 none), (AV.v (.int .i64 a2))]] => some (a0, a1, a2)
    | _, _ => none
  args := fun x => [(AV.ptr 0 0), (AV.v (.int .i64 x.1))]
  bs := fun x => [[(AV.list 1 x.2.1 none), (AV.v (.int .i64 x.2.2))]]
  ret := fun y => ⟨(AV.v (.int .i64 y.1)), [[(AV.list 1 y.2.1 none), (AV.v (.int .i64 y.2.2))]], none, [], [], []⟩
  t := fun x α k => (match (decide (x.2.2 ≥ (x.2.1.length : Int))) with | true => (k (0, x.2.1, x.2.2)) | false => (match (decide (x.1 < 1)) with | true => (k (0, x.2.1, x.2.2)) | false => (if 0 ≤ x.2.2 then (match x.2.1[x.2.2.toNat]? with | some c1 => (match c1[0]? with | some x2 => (match x2 with | .v (.int q4 n3) => (if q4 = .i64 then (if x.1 = 0 then none else (match (decide ((n3.tmod x.1) < 0)) with | true => (k ((i64 ((n3.tmod x.1) + x.1)), x.2.1, (i64 (x.2.2 + 1)))) | false => (k ((n3.tmod x.1), x.2.1, (i64 (x.2.2 + 1)))))) else none) | _ => none) | none => none) | none => none) else none)))
noncomputable abbrev F11_d (N : Nat) (x : Int × (List (List AV)) × Int) : Option (Int × (List (List AV)) × Int) := (F11_s N).d x
theorem F11_parF (N : Nat) : ParF (F11_s N).t := by
  intro x α β k k' r r' h h1
  revert h
  dsimp only [F11_s]
  (repeat' (first | (with_reducible refine par_ite ?_ ?_) | (with_reducible refine par_both ?_ ?_) | split)) <;> intro h <;> first | exact h1 _ h | (cases h; done)
theorem F11_text (N : Nat) (x : (F11_s N).X) : acall (tabOf Try.prog) (F11_g N) F11_an (lam N []) Try.f11 (F11_s N).S ((F11_s N).args x) ((F11_s N).bs x) = (F11_s N).t x Ret (fun y => some ((F11_s N).ret y)) := by kernel_rfl
theorem F11_pat (N : Nat) (a : List AV) (b : List (List AV)) (x : (F11_s N).X) (h : (F11_s N).pat a b = some x) : a = (F11_s N).args x ∧ b = (F11_s N).bs x := by
  dsimp only [F11_s] at h
  split at h
  · cases h; exact ⟨rfl, rfl⟩
  · cases h
noncomputable def F11_e (N : Nat) : Ent Try.prog := entOf (tabOf_ok Try.prog) (gam_ok _) mixed 11 Try.f11 Try.func11 rfl F11_an (lam N []) (by
    have e : actOf F11_an (Try.f11.body.getD .skip) 0 = [] := by kernel_rfl
    rw [e]
    intro p hp
    cases hp) (F11_s N) (fun _ => ⟨rfl, rfl⟩) (F11_text N) (F11_pat N) (F11_parF N)
/-! ### (*seismonet/seismonetmade.Dice).Pick (function 12) -/
def F12_an : Nat → Keep × Keep := anL []
noncomputable def F12_g (N : Nat) : GamK := gam (P := Try.prog) [F11_e N]
noncomputable def F12_s (N : Nat) : FSpec where
  X := (List (List AV)) × (List (List AV)) × Int
  Y := Int × (List (List AV)) × Int
  ash := [[none], [some 1]]
  bsh := [[some 1, none]]
  S := ⟨[[none]], [[some 1, none]], [], [], []⟩
  bm := false
  pat := fun a b => match a, b with
    | [(AV.ptr 0 0), (AV.list 1 a0 none)], [[(AV.list 1 a1 none), (AV.v (.int .i64 a2))]] => some (a0, a1, a2)
    | _, _ => none
  args := fun x => [(AV.ptr 0 0), (AV.list 1 x.1 none)]
  bs := fun x => [[(AV.list 1 x.2.1 none), (AV.v (.int .i64 x.2.2))]]
  ret := fun y => ⟨(AV.v (.int .i64 y.1)), [[(AV.list 1 y.2.1 none), (AV.v (.int .i64 y.2.2))]], none, [], [], []⟩
  t := fun x α k => (match F11_d N ((x.1.length : Int), x.2.1, x.2.2) with | some y1 => (if 0 ≤ y1.1 then (match x.1[y1.1.toNat]? with | some c2 => (match c2[0]? with | some x3 => (match x3 with | .v (.int q5 n4) => (if q5 = .i64 then (k (n4, y1.2.1, y1.2.2)) else none) | _ => none) | none => none) | none => none) else none) | none => none)
noncomputable abbrev F12_d (N : Nat) (x : (List (List AV)) × (List (List AV)) × Int) : Option (Int × (List (List AV)) × Int) := (F12_s N).d x
theorem F12_parF (N : Nat) : ParF (F12_s N).t := by
  intro x α β k k' r r' h h1
  revert h
  dsimp only [F12_s]
  (repeat' (first | (with_reducible refine par_ite ?_ ?_) | (with_reducible refine par_both ?_ ?_) | split)) <;> intro h <;> first | exact h1 _ h | (cases h; done)
theorem F12_text (N : Nat) (x : (F12_s N).X) : acall (tabOf Try.prog) (F12_g N) F12_an (lam N []) Try.f12 (F12_s N).S ((F12_s N).args x) ((F12_s N).bs x) = (F12_s N).t x Ret (fun y => some ((F12_s N).ret y)) := by kernel_rfl
theorem F12_pat (N : Nat) (a : List AV) (b : List (List AV)) (x : (F12_s N).X) (h : (F12_s N).pat a b = some x) : a = (F12_s N).args x ∧ b = (F12_s N).bs x := by
  dsimp only [F12_s] at h
  split at h
  · cases h; exact ⟨rfl, rfl⟩
  · cases h
noncomputable def F12_e (N : Nat) : Ent Try.prog := entOf (tabOf_ok Try.prog) (gam_ok _) mixed 12 Try.f12 Try.func12 rfl F12_an (lam N []) (by
    have e : actOf F12_an (Try.f12.body.getD .skip) 0 = [] := by kernel_rfl
    rw [e]
    intro p hp
    cases hp) (F12_s N) (fun _ => ⟨rfl, rfl⟩) (F12_text N) (F12_pat N) (F12_parF N)
/-! ### seismonet/seismonetlaw05.SteimSizes (function 3) -/
def F3_an : Nat → Keep × Keep := anL [(11, ⟨[1, 5, 8, 9], [(6, 1), (7, 1)], [22], [], [], [], [], [], false⟩, ⟨[], [(6, 1), (7, 1)], [], [], [], [], [], [], false⟩), (28, ⟨[10, 11, 13, 15], [], [], [], [], [], [], [], false⟩, ⟨[4, 10, 11], [], [], [], [], [], [], [], false⟩)]
noncomputable def F3_g (N : Nat) : GamK := gam (P := Try.prog) [F8_e N, F9_e N, F10_e N, F11_e N, F12_e N, F13_e N, F14_e N, F15_e N]
noncomputable def F3_l28 (N : Nat) : LSpec where
  X := Int × ByteArray × ByteArray × Int
  Y := (Bool × Int × ByteArray) ⊕ (Int × ByteArray)
  p := fun s => match s.env.length, s.nin, s.at 10, s.at 11, s.at 13, s.at 15 with
    | 136, 0, (AV.v (.int .i64 a0)), (AV.v (.string a1)), (AV.v (.string a2)), (AV.v (.int .i64 a3)) => some (a0, a1, a2, a3)
    | _, _, _, _, _, _ => none
  st := fun x => mkS 136 [(10, (AV.v (.int .i64 x.1))), (11, (AV.v (.string x.2.1))), (13, (AV.v (.string x.2.2.1))), (15, (AV.v (.int .i64 x.2.2.2)))] [] (F3_an 28).1.toks 0
  out := fun y => match y with
    | .inl y => (.ret, mkS 136 [(4, (AV.v (.bool y.1))), (10, (AV.v (.int .i64 y.2.1))), (11, (AV.v (.string y.2.2)))] [] (F3_an 28).2.toks 0)
    | .inr y => (.exit 2, mkS 136 [(10, (AV.v (.int .i64 y.1))), (11, (AV.v (.string y.2)))] [] (F3_an 28).2.toks 0)
  sp := fun y α k => match y with
    | .inl y => k (.ret, mkS 136 [(4, (AV.v (.bool y.1))), (10, (AV.v (.int .i64 y.2.1))), (11, (AV.v (.string y.2.2)))] [] (F3_an 28).2.toks 0)
    | .inr y => k (.exit 2, mkS 136 [(10, (AV.v (.int .i64 y.1))), (11, (AV.v (.string y.2)))] [] (F3_an 28).2.toks 0)
  spe := fun y α k => by rcases y with _ | _ <;> rfl
  b := fun x α kn ke => (match (decide (x.2.2.2 < (x.2.1.size : Int))) with | true => (if 0 ≤ x.2.2.2 then (match x.2.1[x.2.2.2.toNat]? with | some c12 => (if 0 ≤ x.2.2.2 then (match x.2.2.1[x.2.2.2.toNat]? with | some c13 => (match ((c12.toNat : Int) != (c13.toNat : Int)) with | true => (match (decide (x.2.2.2 < 4)) with | true => (ke (.inl (false, x.1, x.2.1))) | false => (match (decide (x.2.2.2 ≥ 12)) with | true => (ke (.inl (false, x.1, x.2.1))) | false => (kn (x.1, x.2.1, x.2.2.1, (i64 (x.2.2.2 + 1)))))) | false => (kn (x.1, x.2.1, x.2.2.1, (i64 (x.2.2.2 + 1))))) | none => none) else none) | none => none) else none) | false => (ke (.inr (x.1, x.2.1))))
noncomputable abbrev F3_d28 (N : Nat) (x : Int × ByteArray × ByteArray × Int) : Option ((Bool × Int × ByteArray) ⊕ (Int × ByteArray)) := (F3_l28 N).L N x
noncomputable def F3_l11 (N : Nat) : LSpec where
  X := (List (List AV)) × (List (List AV)) × Int × Int × Int × (List (List AV)) × Int
  Y := ((List (List AV)) × (List (List AV)))
  p := fun s => match s.env.length, s.nin, s.at 6, s.at 7, s.at 1, s.at 5, s.at 8, s.at 9, s.bx 22 with
    | 136, 0, (AV.list 1 a0 (some 1280000384)), (AV.list 1 a1 (some 1280000448)), (AV.v (.int .u16 a2)), (AV.ptr 22 0), (AV.v (.int .i64 a3)), (AV.v (.int .i64 a4)), some [(AV.list 1 a5 none), (AV.v (.int .i64 a6))] => some (a0, a1, a2, a3, a4, a5, a6)
    | _, _, _, _, _, _, _, _, _ => none
  st := fun x => mkS 136 [(6, (AV.list 1 x.1 (some 1280000384))), (7, (AV.list 1 x.2.1 (some 1280000448))), (1, (AV.v (.int .u16 x.2.2.1))), (5, (AV.ptr 22 0)), (8, (AV.v (.int .i64 x.2.2.2.1))), (9, (AV.v (.int .i64 x.2.2.2.2.1)))] [(22, [(AV.list 1 x.2.2.2.2.2.1 none), (AV.v (.int .i64 x.2.2.2.2.2.2))])] (F3_an 11).1.toks 0
  out := fun y => (.exit 0, mkS 136 [(6, (AV.list 1 y.1 (some 1280000384))), (7, (AV.list 1 y.2 (some 1280000448)))] [] (F3_an 11).2.toks 0)
  sp := fun y α k => k (.exit 0, mkS 136 [(6, (AV.list 1 y.1 (some 1280000384))), (7, (AV.list 1 y.2 (some 1280000448)))] [] (F3_an 11).2.toks 0)
  spe := fun y α k => rfl
  b := fun x α kn ke => (match (decide (x.2.2.2.2.1 > 0)) with | true => (match F12_d N ([[(AV.v (.int .i64 0))], [(AV.v (.int .i64 1))], [(AV.v (.int .i64 (-3)))], [(AV.v (.int .i64 127))], [(AV.v (.int .i64 128))], [(AV.v (.int .i64 (-128)))], [(AV.v (.int .i64 (-129)))], [(AV.v (.int .i64 40000))], [(AV.v (.int .i64 (-40000)))]], x.2.2.2.2.2.1, x.2.2.2.2.2.2) with | some y5 => (if (x.1.length + [[(AV.v (.int .i64 (i64 (x.2.2.2.1 + y5.1))))]].length) * 8 ≤ maxBytes then (if (x.2.1.length + [[(AV.v (.int .i64 (i64 ((i64 (x.2.2.2.1 + y5.1)) + (IntKind.i64.wrap x.2.2.1)))))]].length) * 8 ≤ maxBytes then (kn ((x.1 ++ [[(AV.v (.int .i64 (i64 (x.2.2.2.1 + y5.1))))]]), (x.2.1 ++ [[(AV.v (.int .i64 (i64 ((i64 (x.2.2.2.1 + y5.1)) + (IntKind.i64.wrap x.2.2.1)))))]]), x.2.2.1, (i64 (x.2.2.2.1 + y5.1)), (i64 (x.2.2.2.2.1 - 1)), y5.2.1, y5.2.2)) else none) else none) | none => none) | false => (ke (x.1, x.2.1)))
noncomputable abbrev F3_d11 (N : Nat) (x : (List (List AV)) × (List (List AV)) × Int × Int × Int × (List (List AV)) × Int) : Option (((List (List AV)) × (List (List AV)))) := (F3_l11 N).L N x
noncomputable def F3_s (N : Nat) : FSpec where
  X := (List (List AV)) × Int
  Y := Bool
  ash := [[some 1], [none]]
  bsh := []
  S := ⟨[[none]], [], [], [], []⟩
  bm := false
  pat := fun a b => match a, b with
    | [(AV.list 1 a0 none), (AV.v (.int .u16 a1))], [] => some (a0, a1)
    | _, _ => none
  args := fun x => [(AV.list 1 x.1 none), (AV.v (.int .u16 x.2))]
  bs := fun x => []
  ret := fun y => ⟨(AV.v (.bool y)), [], none, [], [], []⟩
  t := fun x α k => (match F8_d N x.1 with | some y1 => (match (!y1) with | true => (match F9_d N () with | some y2 => (k y2) | none => none) | false => (match F10_d N x.1 with | some y3 => (match F11_d N (90, y3.1, y3.2) with | some y4 => (match F3_d11 N (([] : List (List AV)), ([] : List (List AV)), x.2, 0, (i64 (1 + y4.1)), y4.2.1, y4.2.2) with | some y6 => (match F13_d N y6.1 with | some y7 => (match F14_d N y6.1 with | some y8 => (match F14_d N y6.2 with | some y9 => (match (decide ((i64 (4 * y7)) < (y6.1.length : Int))) with | true => (k false) | false => (match (decide (y7 > (y6.1.length : Int))) with | true => (k false) | false => (match (y8.2 != 0) with | true => (k false) | false => (match (y9.2 != 0) with | true => (k false) | false => (match ((y8.1.size : Int) != (y9.1.size : Int)) with | true => (k false) | false => (match F15_d N y6.1 with | some y10 => (match ((y8.1.size : Int) != (i64 (64 * y10))) with | true => (k false) | false => (match F13_d N y6.2 with | some y11 => (match (y11 != y7) with | true => (k false) | false => (match F3_d28 N (y7, y8.1, y9.1, 0) with | some y14 => (match y14 with | .inl z15 => (k z15.1) | .inr z16 => (match (decide ((i64 ((i64 ((i64 (15 * (z16.2.size : Int))).tdiv 64)) - 2)) ≥ z16.1)) with | true => (match (decide ((i64 ((i64 ((i64 ((i64 (15 * (z16.2.size : Int))).tdiv 64)) - 2)) - z16.1)) < 15)) with | true => (match F9_d N () with | some y17 => (k y17) | none => none) | false => (k false)) | false => (k false))) | none => none)) | none => none)) | none => none)))))) | none => none) | none => none) | none => none) | none => none) | none => none) | none => none)) | none => none)
noncomputable abbrev F3_d (N : Nat) (x : (List (List AV)) × Int) : Option (Bool) := (F3_s N).d x
theorem F3_par28 (N : Nat) : Par (F3_l28 N).b := by
  intro x α β kn ke kn' ke' r r' h h1 h2
  revert h
  dsimp only [F3_l28]
  (repeat' (first | (with_reducible refine par_ite ?_ ?_) | (with_reducible refine par_both ?_ ?_) | split)) <;> intro h <;> first | exact h1 _ h | exact h2 _ h | (cases h; done)
theorem F3_body28 (N : Nat) (x : (F3_l28 N).X) (α : Type) (kn : AS → Option α) (ke : Out → Option α) : around (tabOf Try.prog) (F3_g N) F3_an (lam N [(11, F3_l11 N), (28, F3_l28 N)]) 28 (bodyOf (nthLoop 28 (Try.f3.body.getD .skip))) ((F3_l28 N).st x) kn ke = (F3_l28 N).b x α (fun x' => kn ((F3_l28 N).st x')) (fun y => (F3_l28 N).sp y α ke) := by kernel_rfl
theorem F3_pat28 (N : Nat) (s : AS) (x : (F3_l28 N).X) (hc : s = canon (F3_an 28).1 s) (h : (F3_l28 N).p s = some x) : s = (F3_l28 N).st x := by
  dsimp only [F3_l28] at h
  split at h
  · cases h
    exact canon_mk hc ‹_› ‹_› rfl rfl rfl ⟨‹_›, ‹_›, ‹_›, ‹_›, trivial⟩ trivial
  · cases h
theorem F3_loop28 (N : Nat) : ∀ s o, s = canon (F3_an 28).1 s → (lam N [(11, F3_l11 N), (28, F3_l28 N)]).v 28 s = some o → LoopSem Try.prog (nthLoop 28 (Try.f3.body.getD .skip)) s o :=
  loop_ok (tabOf_ok Try.prog) (gam_ok _) mixed F3_an N [(11, F3_l11 N), (28, F3_l28 N)] 28 (bodyOf (nthLoop 28 (Try.f3.body.getD .skip))) (nthLoop 28 (Try.f3.body.getD .skip)) (by kernel_rfl) (by
    have e : actOf F3_an (bodyOf (nthLoop 28 (Try.f3.body.getD .skip))) (28 + 1) = [] := by kernel_rfl
    rw [e]
    intro p hp
    cases hp) (F3_l28 N) rfl (fun s x hc h => F3_pat28 N s x hc h) (fun x => rfl) (fun x α kn ke => (F3_body28 N x α kn ke).trans (congrArg ((F3_l28 N).b x α _) (funext fun y => (F3_l28 N).spe y α ke))) (F3_par28 N)
theorem F3_par11 (N : Nat) : Par (F3_l11 N).b := by
  intro x α β kn ke kn' ke' r r' h h1 h2
  revert h
  dsimp only [F3_l11]
  (repeat' (first | (with_reducible refine par_ite ?_ ?_) | (with_reducible refine par_both ?_ ?_) | split)) <;> intro h <;> first | exact h1 _ h | exact h2 _ h | (cases h; done)
theorem F3_body11 (N : Nat) (x : (F3_l11 N).X) (α : Type) (kn : AS → Option α) (ke : Out → Option α) : around (tabOf Try.prog) (F3_g N) F3_an (lam N [(11, F3_l11 N), (28, F3_l28 N)]) 11 (bodyOf (nthLoop 11 (Try.f3.body.getD .skip))) ((F3_l11 N).st x) kn ke = (F3_l11 N).b x α (fun x' => kn ((F3_l11 N).st x')) (fun y => (F3_l11 N).sp y α ke) := by kernel_rfl
theorem F3_pat11 (N : Nat) (s : AS) (x : (F3_l11 N).X) (hc : s = canon (F3_an 11).1 s) (h : (F3_l11 N).p s = some x) : s = (F3_l11 N).st x := by
  dsimp only [F3_l11] at h
  split at h
  · cases h
    exact canon_mk hc ‹_› ‹_› rfl rfl rfl ⟨‹_›, ‹_›, ‹_›, ‹_›, ‹_›, ‹_›, trivial⟩ ⟨‹_›, trivial⟩
  · cases h
theorem F3_loop11 (N : Nat) : ∀ s o, s = canon (F3_an 11).1 s → (lam N [(11, F3_l11 N), (28, F3_l28 N)]).v 11 s = some o → LoopSem Try.prog (nthLoop 11 (Try.f3.body.getD .skip)) s o :=
  loop_ok (tabOf_ok Try.prog) (gam_ok _) mixed F3_an N [(11, F3_l11 N), (28, F3_l28 N)] 11 (bodyOf (nthLoop 11 (Try.f3.body.getD .skip))) (nthLoop 11 (Try.f3.body.getD .skip)) (by kernel_rfl) (by
    have e : actOf F3_an (bodyOf (nthLoop 11 (Try.f3.body.getD .skip))) (11 + 1) = [] := by kernel_rfl
    rw [e]
    intro p hp
    cases hp) (F3_l11 N) rfl (fun s x hc h => F3_pat11 N s x hc h) (fun x => rfl) (fun x α kn ke => (F3_body11 N x α kn ke).trans (congrArg ((F3_l11 N).b x α _) (funext fun y => (F3_l11 N).spe y α ke))) (F3_par11 N)
theorem F3_parF (N : Nat) : ParF (F3_s N).t := by
  intro x α β k k' r r' h h1
  revert h
  dsimp only [F3_s]
  (repeat' (first | (with_reducible refine par_ite ?_ ?_) | (with_reducible refine par_both ?_ ?_) | split)) <;> intro h <;> first | exact h1 _ h | (cases h; done)
theorem F3_text (N : Nat) (x : (F3_s N).X) : acall (tabOf Try.prog) (F3_g N) F3_an (lam N [(11, F3_l11 N), (28, F3_l28 N)]) Try.f3 (F3_s N).S ((F3_s N).args x) ((F3_s N).bs x) = (F3_s N).t x Ret (fun y => some ((F3_s N).ret y)) := by kernel_rfl
theorem F3_pat (N : Nat) (a : List AV) (b : List (List AV)) (x : (F3_s N).X) (h : (F3_s N).pat a b = some x) : a = (F3_s N).args x ∧ b = (F3_s N).bs x := by
  dsimp only [F3_s] at h
  split at h
  · cases h; exact ⟨rfl, rfl⟩
  · cases h
noncomputable def F3_e (N : Nat) : Ent Try.prog := entOf (tabOf_ok Try.prog) (gam_ok _) mixed 3 Try.f3 Try.func3 rfl F3_an (lam N [(11, F3_l11 N), (28, F3_l28 N)]) (by
    have e : actOf F3_an (Try.f3.body.getD .skip) 0 = [(11, nthLoop 11 (Try.f3.body.getD .skip)), (28, nthLoop 28 (Try.f3.body.getD .skip))] := by kernel_rfl
    rw [e]
    intro p hp
    rcases List.mem_cons.1 hp with rfl | hp
    · exact F3_loop11 N
    rcases List.mem_cons.1 hp with rfl | hp
    · exact F3_loop28 N
    cases hp) (F3_s N) (fun _ => ⟨rfl, rfl⟩) (F3_text N) (F3_pat N) (F3_parF N)
/-! ### (*seismonet/seismonetmade.Dice).Samples (function 18) -/
def F18_an : Nat → Keep × Keep := anL [(6, ⟨[0, 6, 7], [(5, 1)], [0], [], [], [], [], [], false⟩, ⟨[], [(5, 1)], [0], [], [], [], [], [], false⟩)]
noncomputable def F18_g (N : Nat) : GamK := gam (P := Try.prog) [F12_e N, F11_e N]
noncomputable def F18_l6 (N : Nat) : LSpec where
  X := (List (List AV)) × Int × Int × (List (List AV)) × Int
  Y := ((List (List AV)) × (List (List AV)) × Int)
  p := fun s => match s.env.length, s.nin, s.at 5, s.at 0, s.at 6, s.at 7, s.bx 0 with
    | 53, 1, (AV.list 1 a0 (some 1280000320)), (AV.ptr 0 0), (AV.v (.int .i64 a1)), (AV.v (.int .i64 a2)), some [(AV.list 1 a3 none), (AV.v (.int .i64 a4))] => some (a0, a1, a2, a3, a4)
    | _, _, _, _, _, _, _ => none
  st := fun x => mkS 53 [(5, (AV.list 1 x.1 (some 1280000320))), (0, (AV.ptr 0 0)), (6, (AV.v (.int .i64 x.2.1))), (7, (AV.v (.int .i64 x.2.2.1)))] [(0, [(AV.list 1 x.2.2.2.1 none), (AV.v (.int .i64 x.2.2.2.2))])] (F18_an 6).1.toks 1
  out := fun y => (.exit 0, mkS 53 [(5, (AV.list 1 y.1 (some 1280000320)))] [(0, [(AV.list 1 y.2.1 none), (AV.v (.int .i64 y.2.2))])] (F18_an 6).2.toks 1)
  sp := fun y α k => k (.exit 0, mkS 53 [(5, (AV.list 1 y.1 (some 1280000320)))] [(0, [(AV.list 1 y.2.1 none), (AV.v (.int .i64 y.2.2))])] (F18_an 6).2.toks 1)
  spe := fun y α k => rfl
  b := fun x α kn ke => (match (decide (x.2.2.1 > 0)) with | true => (match F11_d N (10, x.2.2.2.1, x.2.2.2.2) with | some y8 => (match (y8.1 == 0) with | true => (match F12_d N ([[(AV.v (.int .i64 127))], [(AV.v (.int .i64 128))], [(AV.v (.int .i64 (-128)))], [(AV.v (.int .i64 (-129)))], [(AV.v (.int .i64 300))]], y8.2.1, y8.2.2) with | some y9 => (if (x.1.length + [[(AV.v (.int .i64 (if 1073741823 < (if (-1073741823) > (i64 (x.2.1 + y9.1)) then (-1073741823) else (i64 (x.2.1 + y9.1))) then 1073741823 else (if (-1073741823) > (i64 (x.2.1 + y9.1)) then (-1073741823) else (i64 (x.2.1 + y9.1))))))]].length) * 8 ≤ maxBytes then (kn ((x.1 ++ [[(AV.v (.int .i64 (if 1073741823 < (if (-1073741823) > (i64 (x.2.1 + y9.1)) then (-1073741823) else (i64 (x.2.1 + y9.1))) then 1073741823 else (if (-1073741823) > (i64 (x.2.1 + y9.1)) then (-1073741823) else (i64 (x.2.1 + y9.1))))))]]), (if 1073741823 < (if (-1073741823) > (i64 (x.2.1 + y9.1)) then (-1073741823) else (i64 (x.2.1 + y9.1))) then 1073741823 else (if (-1073741823) > (i64 (x.2.1 + y9.1)) then (-1073741823) else (i64 (x.2.1 + y9.1)))), (i64 (x.2.2.1 - 1)), y9.2.1, y9.2.2)) else none) | none => none) | false => (match (y8.1 == 1) with | true => (match F12_d N ([[(AV.v (.int .i64 32767))], [(AV.v (.int .i64 32768))], [(AV.v (.int .i64 (-32768)))], [(AV.v (.int .i64 (-32769)))]], y8.2.1, y8.2.2) with | some y10 => (if (x.1.length + [[(AV.v (.int .i64 (if 1073741823 < (if (-1073741823) > (i64 (x.2.1 + y10.1)) then (-1073741823) else (i64 (x.2.1 + y10.1))) then 1073741823 else (if (-1073741823) > (i64 (x.2.1 + y10.1)) then (-1073741823) else (i64 (x.2.1 + y10.1))))))]].length) * 8 ≤ maxBytes then (kn ((x.1 ++ [[(AV.v (.int .i64 (if 1073741823 < (if (-1073741823) > (i64 (x.2.1 + y10.1)) then (-1073741823) else (i64 (x.2.1 + y10.1))) then 1073741823 else (if (-1073741823) > (i64 (x.2.1 + y10.1)) then (-1073741823) else (i64 (x.2.1 + y10.1))))))]]), (if 1073741823 < (if (-1073741823) > (i64 (x.2.1 + y10.1)) then (-1073741823) else (i64 (x.2.1 + y10.1))) then 1073741823 else (if (-1073741823) > (i64 (x.2.1 + y10.1)) then (-1073741823) else (i64 (x.2.1 + y10.1)))), (i64 (x.2.2.1 - 1)), y10.2.1, y10.2.2)) else none) | none => none) | false => (match (y8.1 == 2) with | true => (match F12_d N ([[(AV.v (.int .i64 0))], [(AV.v (.int .i64 1073741823))], [(AV.v (.int .i64 (-1073741823)))], [(AV.v (.int .i64 536870912))]], y8.2.1, y8.2.2) with | some y11 => (if (x.1.length + [[(AV.v (.int .i64 (if 1073741823 < (if (-1073741823) > y11.1 then (-1073741823) else y11.1) then 1073741823 else (if (-1073741823) > y11.1 then (-1073741823) else y11.1))))]].length) * 8 ≤ maxBytes then (kn ((x.1 ++ [[(AV.v (.int .i64 (if 1073741823 < (if (-1073741823) > y11.1 then (-1073741823) else y11.1) then 1073741823 else (if (-1073741823) > y11.1 then (-1073741823) else y11.1))))]]), (if 1073741823 < (if (-1073741823) > y11.1 then (-1073741823) else y11.1) then 1073741823 else (if (-1073741823) > y11.1 then (-1073741823) else y11.1)), (i64 (x.2.2.1 - 1)), y11.2.1, y11.2.2)) else none) | none => none) | false => (match F11_d N (9, y8.2.1, y8.2.2) with | some y12 => (if (x.1.length + [[(AV.v (.int .i64 (if 1073741823 < (if (-1073741823) > (i64 (x.2.1 + (i64 (y12.1 - 4)))) then (-1073741823) else (i64 (x.2.1 + (i64 (y12.1 - 4))))) then 1073741823 else (if (-1073741823) > (i64 (x.2.1 + (i64 (y12.1 - 4)))) then (-1073741823) else (i64 (x.2.1 + (i64 (y12.1 - 4))))))))]].length) * 8 ≤ maxBytes then (kn ((x.1 ++ [[(AV.v (.int .i64 (if 1073741823 < (if (-1073741823) > (i64 (x.2.1 + (i64 (y12.1 - 4)))) then (-1073741823) else (i64 (x.2.1 + (i64 (y12.1 - 4))))) then 1073741823 else (if (-1073741823) > (i64 (x.2.1 + (i64 (y12.1 - 4)))) then (-1073741823) else (i64 (x.2.1 + (i64 (y12.1 - 4))))))))]]), (if 1073741823 < (if (-1073741823) > (i64 (x.2.1 + (i64 (y12.1 - 4)))) then (-1073741823) else (i64 (x.2.1 + (i64 (y12.1 - 4))))) then 1073741823 else (if (-1073741823) > (i64 (x.2.1 + (i64 (y12.1 - 4)))) then (-1073741823) else (i64 (x.2.1 + (i64 (y12.1 - 4)))))), (i64 (x.2.2.1 - 1)), y12.2.1, y12.2.2)) else none) | none => none)))) | none => none) | false => (ke (x.1, x.2.2.2.1, x.2.2.2.2)))
noncomputable abbrev F18_d6 (N : Nat) (x : (List (List AV)) × Int × Int × (List (List AV)) × Int) : Option (((List (List AV)) × (List (List AV)) × Int)) := (F18_l6 N).L N x
noncomputable def F18_s (N : Nat) : FSpec where
  X := Int × (List (List AV)) × Int
  Y := (List (List AV)) × (List (List AV)) × Int
  ash := [[none], [none]]
  bsh := [[some 1, none]]
  S := ⟨[[some 2000001]], [[some 1, none]], [], [], []⟩
  bm := false
  pat := fun a b => match a, b with
    | [(AV.ptr 0 0), (AV.v (.int .i64 a0))], [[(AV.list 1 a1 none), (AV.v (.int .i64 a2))]] => some (a0, a1, a2)
    | _, _ => none
  args := fun x => [(AV.ptr 0 0), (AV.v (.int .i64 x.1))]
  bs := fun x => [[(AV.list 1 x.2.1 none), (AV.v (.int .i64 x.2.2))]]
  ret := fun y => ⟨(AV.list 1 y.1 (some 2560000000)), [[(AV.list 1 y.2.1 none), (AV.v (.int .i64 y.2.2))]], none, [], [2560000000], []⟩
  t := fun x α k => (match F12_d N ([[(AV.v (.int .i64 0))], [(AV.v (.int .i64 5))], [(AV.v (.int .i64 (-100)))], [(AV.v (.int .i64 1000))]], x.2.1, x.2.2) with | some y1 => (match F11_d N (x.1, y1.2.1, y1.2.2) with | some y2 => (match F18_d6 N (([] : List (List AV)), y1.1, (i64 (1 + y2.1)), y2.2.1, y2.2.2) with | some y13 => (k (y13.1, y13.2.1, y13.2.2)) | none => none) | none => none) | none => none)
noncomputable abbrev F18_d (N : Nat) (x : Int × (List (List AV)) × Int) : Option ((List (List AV)) × (List (List AV)) × Int) := (F18_s N).d x
theorem F18_par6 (N : Nat) : Par (F18_l6 N).b := by
  intro x α β kn ke kn' ke' r r' h h1 h2
  revert h
  dsimp only [F18_l6]
  (repeat' (first | (with_reducible refine par_ite ?_ ?_) | (with_reducible refine par_both ?_ ?_) | split)) <;> intro h <;> first | exact h1 _ h | exact h2 _ h | (cases h; done)
theorem F18_body6 (N : Nat) (x : (F18_l6 N).X) (α : Type) (kn : AS → Option α) (ke : Out → Option α) : around (tabOf Try.prog) (F18_g N) F18_an (lam N [(6, F18_l6 N)]) 6 (bodyOf (nthLoop 6 (Try.f18.body.getD .skip))) ((F18_l6 N).st x) kn ke = (F18_l6 N).b x α (fun x' => kn ((F18_l6 N).st x')) (fun y => (F18_l6 N).sp y α ke) := by kernel_rfl
theorem F18_pat6 (N : Nat) (s : AS) (x : (F18_l6 N).X) (hc : s = canon (F18_an 6).1 s) (h : (F18_l6 N).p s = some x) : s = (F18_l6 N).st x := by
  dsimp only [F18_l6] at h
  split at h
  · cases h
    exact canon_mk hc ‹_› ‹_› rfl rfl rfl ⟨‹_›, ‹_›, ‹_›, ‹_›, trivial⟩ ⟨‹_›, trivial⟩
  · cases h
theorem F18_loop6 (N : Nat) : ∀ s o, s = canon (F18_an 6).1 s → (lam N [(6, F18_l6 N)]).v 6 s = some o → LoopSem Try.prog (nthLoop 6 (Try.f18.body.getD .skip)) s o :=
  loop_ok (tabOf_ok Try.prog) (gam_ok _) mixed F18_an N [(6, F18_l6 N)] 6 (bodyOf (nthLoop 6 (Try.f18.body.getD .skip))) (nthLoop 6 (Try.f18.body.getD .skip)) (by kernel_rfl) (by
    have e : actOf F18_an (bodyOf (nthLoop 6 (Try.f18.body.getD .skip))) (6 + 1) = [] := by kernel_rfl
    rw [e]
    intro p hp
    cases hp) (F18_l6 N) rfl (fun s x hc h => F18_pat6 N s x hc h) (fun x => rfl) (fun x α kn ke => (F18_body6 N x α kn ke).trans (congrArg ((F18_l6 N).b x α _) (funext fun y => (F18_l6 N).spe y α ke))) (F18_par6 N)
theorem F18_parF (N : Nat) : ParF (F18_s N).t := by
  intro x α β k k' r r' h h1
  revert h
  dsimp only [F18_s]
  (repeat' (first | (with_reducible refine par_ite ?_ ?_) | (with_reducible refine par_both ?_ ?_) | split)) <;> intro h <;> first | exact h1 _ h | (cases h; done)
theorem F18_text (N : Nat) (x : (F18_s N).X) : acall (tabOf Try.prog) (F18_g N) F18_an (lam N [(6, F18_l6 N)]) Try.f18 (F18_s N).S ((F18_s N).args x) ((F18_s N).bs x) = (F18_s N).t x Ret (fun y => some ((F18_s N).ret y)) := by kernel_rfl
theorem F18_pat (N : Nat) (a : List AV) (b : List (List AV)) (x : (F18_s N).X) (h : (F18_s N).pat a b = some x) : a = (F18_s N).args x ∧ b = (F18_s N).bs x := by
  dsimp only [F18_s] at h
  split at h
  · cases h; exact ⟨rfl, rfl⟩
  · cases h
noncomputable def F18_e (N : Nat) : Ent Try.prog := entOf (tabOf_ok Try.prog) (gam_ok _) mixed 18 Try.f18 Try.func18 rfl F18_an (lam N [(6, F18_l6 N)]) (by
    have e : actOf F18_an (Try.f18.body.getD .skip) 0 = [(6, nthLoop 6 (Try.f18.body.getD .skip))] := by kernel_rfl
    rw [e]
    intro p hp
    rcases List.mem_cons.1 hp with rfl | hp
    · exact F18_loop6 N
    cases hp) (F18_s N) (fun _ => ⟨rfl, rfl⟩) (F18_text N) (F18_pat N) (F18_parF N)
/-! ### seismonet/seismonetref01.In (function 42) -/
def F42_an : Nat → Keep × Keep := anL []
noncomputable def F42_g (N : Nat) : GamK := gam (P := Try.prog) []
noncomputable def F42_s (N : Nat) : FSpec where
  X := Int × Int × Int
  Y := Bool
  ash := [[none], [none], [none]]
  bsh := []
  S := ⟨[[none]], [], [], [], []⟩
  bm := false
  pat := fun a b => match a, b with
    | [(AV.v (.int .i64 a0)), (AV.v (.int .i64 a1)), (AV.v (.int .i64 a2))], [] => some (a0, a1, a2)
    | _, _ => none
  args := fun x => [(AV.v (.int .i64 x.1)), (AV.v (.int .i64 x.2.1)), (AV.v (.int .i64 x.2.2))]
  bs := fun x => []
  ret := fun y => ⟨(AV.v (.bool y)), [], none, [], [], []⟩
  t := fun x α k => (match (decide (x.1 ≥ x.2.1)) with | true => (k (decide (x.1 ≤ x.2.2))) | false => (k false))
noncomputable abbrev F42_d (N : Nat) (x : Int × Int × Int) : Option (Bool) := (F42_s N).d x
theorem F42_parF (N : Nat) : ParF (F42_s N).t := by
  intro x α β k k' r r' h h1
  revert h
  dsimp only [F42_s]
  (repeat' (first | (with_reducible refine par_ite ?_ ?_) | (with_reducible refine par_both ?_ ?_) | split)) <;> intro h <;> first | exact h1 _ h | (cases h; done)
theorem F42_text (N : Nat) (x : (F42_s N).X) : acall (tabOf Try.prog) (F42_g N) F42_an (lam N []) Try.f42 (F42_s N).S ((F42_s N).args x) ((F42_s N).bs x) = (F42_s N).t x Ret (fun y => some ((F42_s N).ret y)) := by kernel_rfl
theorem F42_pat (N : Nat) (a : List AV) (b : List (List AV)) (x : (F42_s N).X) (h : (F42_s N).pat a b = some x) : a = (F42_s N).args x ∧ b = (F42_s N).bs x := by
  dsimp only [F42_s] at h
  split at h
  · cases h; exact ⟨rfl, rfl⟩
  · cases h
noncomputable def F42_e (N : Nat) : Ent Try.prog := entOf (tabOf_ok Try.prog) (gam_ok _) mixed 42 Try.f42 Try.func42 rfl F42_an (lam N []) (by
    have e : actOf F42_an (Try.f42.body.getD .skip) 0 = [] := by kernel_rfl
    rw [e]
    intro p hp
    cases hp) (F42_s N) (fun _ => ⟨rfl, rfl⟩) (F42_text N) (F42_pat N) (F42_parF N)
/-! ### seismonet/seismonetref04.Get (function 19) -/
def F19_an : Nat → Keep × Keep := anL [(13, ⟨[0, 1, 2, 8, 9], [], [], [], [], [], [], [], false⟩, ⟨[8], [], [], [], [], [], [], [], false⟩)]
noncomputable def F19_g (N : Nat) : GamK := gam (P := Try.prog) [F42_e N]
noncomputable def F19_l13 (N : Nat) : LSpec where
  X := ByteArray × Int × Int × Int × Int
  Y := (Int)
  p := fun s => match s.env.length, s.nin, s.at 0, s.at 1, s.at 2, s.at 8, s.at 9 with
    | 38, 0, (AV.v (.string a0)), (AV.v (.int .i64 a1)), (AV.v (.int .i64 a2)), (AV.v (.int .i64 a3)), (AV.v (.int .i64 a4)) => some (a0, a1, a2, a3, a4)
    | _, _, _, _, _, _, _ => none
  st := fun x => mkS 38 [(0, (AV.v (.string x.1))), (1, (AV.v (.int .i64 x.2.1))), (2, (AV.v (.int .i64 x.2.2.1))), (8, (AV.v (.int .i64 x.2.2.2.1))), (9, (AV.v (.int .i64 x.2.2.2.2)))] [] (F19_an 13).1.toks 0
  out := fun y => (.exit 0, mkS 38 [(8, (AV.v (.int .i64 y)))] [] (F19_an 13).2.toks 0)
  sp := fun y α k => k (.exit 0, mkS 38 [(8, (AV.v (.int .i64 y)))] [] (F19_an 13).2.toks 0)
  spe := fun y α k => rfl
  b := fun x α kn ke => (match (decide (x.2.2.2.2 < x.2.2.1)) with | true => (if 0 ≤ (i64 (x.2.1 + x.2.2.2.2)) then (match x.1[(i64 (x.2.1 + x.2.2.2.2)).toNat]? with | some c2 => (kn (x.1, x.2.1, x.2.2.1, (bOr .i64 (shL .i64 x.2.2.2.1 (8 : Int)) (IntKind.i64.wrap (c2.toNat : Int))), (i64 (x.2.2.2.2 + 1)))) | none => none) else none) | false => (ke x.2.2.2.1))
noncomputable abbrev F19_d13 (N : Nat) (x : ByteArray × Int × Int × Int × Int) : Option ((Int)) := (F19_l13 N).L N x
noncomputable def F19_s (N : Nat) : FSpec where
  X := ByteArray × Int × Int
  Y := Int × Int
  ash := [[none], [none], [none]]
  bsh := []
  S := ⟨[[none], [none]], [], [], [], []⟩
  bm := false
  pat := fun a b => match a, b with
    | [(AV.v (.string a0)), (AV.v (.int .i64 a1)), (AV.v (.int .i64 a2))], [] => some (a0, a1, a2)
    | _, _ => none
  args := fun x => [(AV.v (.string x.1)), (AV.v (.int .i64 x.2.1)), (AV.v (.int .i64 x.2.2))]
  bs := fun x => []
  ret := fun y => ⟨(AV.tup [(AV.v (.int .i64 y.1)), (AV.v (.int .i64 y.2))]), [], none, [], [], []⟩
  t := fun x α k => (match F42_d N (x.2.2, 1, 7) with | some y1 => (match (!y1) with | true => (k (0, 2)) | false => (match (decide (x.2.1 < 0)) with | true => (k (0, 2)) | false => (match (decide (x.2.1 > (i64 ((x.1.size : Int) - x.2.2)))) with | true => (k (0, 4)) | false => (match F19_d13 N (x.1, x.2.1, x.2.2, 0, 0) with | some y3 => (k (y3, 0)) | none => none)))) | none => none)
noncomputable abbrev F19_d (N : Nat) (x : ByteArray × Int × Int) : Option (Int × Int) := (F19_s N).d x
theorem F19_par13 (N : Nat) : Par (F19_l13 N).b := by
  intro x α β kn ke kn' ke' r r' h h1 h2
  revert h
  dsimp only [F19_l13]
  (repeat' (first | (with_reducible refine par_ite ?_ ?_) | (with_reducible refine par_both ?_ ?_) | split)) <;> intro h <;> first | exact h1 _ h | exact h2 _ h | (cases h; done)
theorem F19_body13 (N : Nat) (x : (F19_l13 N).X) (α : Type) (kn : AS → Option α) (ke : Out → Option α) : around (tabOf Try.prog) (F19_g N) F19_an (lam N [(13, F19_l13 N)]) 13 (bodyOf (nthLoop 13 (Try.f19.body.getD .skip))) ((F19_l13 N).st x) kn ke = (F19_l13 N).b x α (fun x' => kn ((F19_l13 N).st x')) (fun y => (F19_l13 N).sp y α ke) := by kernel_rfl
theorem F19_pat13 (N : Nat) (s : AS) (x : (F19_l13 N).X) (hc : s = canon (F19_an 13).1 s) (h : (F19_l13 N).p s = some x) : s = (F19_l13 N).st x := by
  dsimp only [F19_l13] at h
  split at h
  · cases h
    exact canon_mk hc ‹_› ‹_› rfl rfl rfl ⟨‹_›, ‹_›, ‹_›, ‹_›, ‹_›, trivial⟩ trivial
  · cases h
theorem F19_loop13 (N : Nat) : ∀ s o, s = canon (F19_an 13).1 s → (lam N [(13, F19_l13 N)]).v 13 s = some o → LoopSem Try.prog (nthLoop 13 (Try.f19.body.getD .skip)) s o :=
  loop_ok (tabOf_ok Try.prog) (gam_ok _) mixed F19_an N [(13, F19_l13 N)] 13 (bodyOf (nthLoop 13 (Try.f19.body.getD .skip))) (nthLoop 13 (Try.f19.body.getD .skip)) (by kernel_rfl) (by
    have e : actOf F19_an (bodyOf (nthLoop 13 (Try.f19.body.getD .skip))) (13 + 1) = [] := by kernel_rfl
    rw [e]
    intro p hp
    cases hp) (F19_l13 N) rfl (fun s x hc h => F19_pat13 N s x hc h) (fun x => rfl) (fun x α kn ke => (F19_body13 N x α kn ke).trans (congrArg ((F19_l13 N).b x α _) (funext fun y => (F19_l13 N).spe y α ke))) (F19_par13 N)
theorem F19_parF (N : Nat) : ParF (F19_s N).t := by
  intro x α β k k' r r' h h1
  revert h
  dsimp only [F19_s]
  (repeat' (first | (with_reducible refine par_ite ?_ ?_) | (with_reducible refine par_both ?_ ?_) | split)) <;> intro h <;> first | exact h1 _ h | (cases h; done)
theorem F19_text (N : Nat) (x : (F19_s N).X) : acall (tabOf Try.prog) (F19_g N) F19_an (lam N [(13, F19_l13 N)]) Try.f19 (F19_s N).S ((F19_s N).args x) ((F19_s N).bs x) = (F19_s N).t x Ret (fun y => some ((F19_s N).ret y)) := by kernel_rfl
theorem F19_pat (N : Nat) (a : List AV) (b : List (List AV)) (x : (F19_s N).X) (h : (F19_s N).pat a b = some x) : a = (F19_s N).args x ∧ b = (F19_s N).bs x := by
  dsimp only [F19_s] at h
  split at h
  · cases h; exact ⟨rfl, rfl⟩
  · cases h
noncomputable def F19_e (N : Nat) : Ent Try.prog := entOf (tabOf_ok Try.prog) (gam_ok _) mixed 19 Try.f19 Try.func19 rfl F19_an (lam N [(13, F19_l13 N)]) (by
    have e : actOf F19_an (Try.f19.body.getD .skip) 0 = [(13, nthLoop 13 (Try.f19.body.getD .skip))] := by kernel_rfl
    rw [e]
    intro p hp
    rcases List.mem_cons.1 hp with rfl | hp
    · exact F19_loop13 N
    cases hp) (F19_s N) (fun _ => ⟨rfl, rfl⟩) (F19_text N) (F19_pat N) (F19_parF N)
/-! ### seismonet/seismonetref04.Put (function 20) -/
def F20_an : Nat → Keep × Keep := anL [(9, ⟨[1, 9], [(8, 1)], [], [], [], [], [], [], false⟩, ⟨[], [(8, 1)], [], [], [], [], [], [], false⟩)]
noncomputable def F20_g (N : Nat) : GamK := gam (P := Try.prog) [F42_e N]
noncomputable def F20_l9 (N : Nat) : LSpec where
  X := (List (List AV)) × Int × Int
  Y := ((List (List AV)))
  p := fun s => match s.env.length, s.nin, s.at 8, s.at 1, s.at 9 with
    | 44, 0, (AV.list 1 a0 (some 1280000512)), (AV.v (.int .i64 a1)), (AV.v (.int .i64 a2)) => some (a0, a1, a2)
    | _, _, _, _, _ => none
  st := fun x => mkS 44 [(8, (AV.list 1 x.1 (some 1280000512))), (1, (AV.v (.int .i64 x.2.1))), (9, (AV.v (.int .i64 x.2.2)))] [] (F20_an 9).1.toks 0
  out := fun y => (.exit 0, mkS 44 [(8, (AV.list 1 y (some 1280000512)))] [] (F20_an 9).2.toks 0)
  sp := fun y α k => k (.exit 0, mkS 44 [(8, (AV.list 1 y (some 1280000512)))] [] (F20_an 9).2.toks 0)
  spe := fun y α k => rfl
  b := fun x α kn ke => (match (decide (x.2.2 ≥ 0)) with | true => (if (IntKind.u64.wrap (i64 (8 * x.2.2))) < 0 then none else (if (x.1.length + [[(AV.v (.int .u8 (IntKind.u8.wrap (shR .i64 x.2.1 (IntKind.u64.wrap (i64 (8 * x.2.2)))))))]].length) * 1 ≤ maxBytes then (kn ((x.1 ++ [[(AV.v (.int .u8 (IntKind.u8.wrap (shR .i64 x.2.1 (IntKind.u64.wrap (i64 (8 * x.2.2)))))))]]), x.2.1, (i64 (x.2.2 - 1)))) else none)) | false => (ke x.1))
noncomputable abbrev F20_d9 (N : Nat) (x : (List (List AV)) × Int × Int) : Option (((List (List AV)))) := (F20_l9 N).L N x
noncomputable def F20_s (N : Nat) : FSpec where
  X := ByteArray × Int × Int
  Y := ByteArray × Int
  ash := [[none], [none], [none]]
  bsh := []
  S := ⟨[[none], [none]], [], [], [], []⟩
  bm := false
  pat := fun a b => match a, b with
    | [(AV.v (.string a0)), (AV.v (.int .i64 a1)), (AV.v (.int .i64 a2))], [] => some (a0, a1, a2)
    | _, _ => none
  args := fun x => [(AV.v (.string x.1)), (AV.v (.int .i64 x.2.1)), (AV.v (.int .i64 x.2.2))]
  bs := fun x => []
  ret := fun y => ⟨(AV.tup [(AV.v (.string y.1)), (AV.v (.int .i64 y.2))]), [], none, [], [], []⟩
  t := fun x α k => (match F42_d N (x.2.2, 1, 7) with | some y1 => (match (!y1) with | true => (k ((⟨#[]⟩ : ByteArray), 2)) | false => (match (decide (x.2.1 < 0)) with | true => (k ((⟨#[]⟩ : ByteArray), 2)) | false => (if (IntKind.u64.wrap (i64 (8 * x.2.2))) < 0 then none else (match (decide (x.2.1 ≥ (shL .i64 (1 : Int) (IntKind.u64.wrap (i64 (8 * x.2.2)))))) with | true => (k ((⟨#[]⟩ : ByteArray), 2)) | false => (match F20_d9 N ((bytesL x.1), x.2.1, (i64 (x.2.2 - 1))) with | some y2 => (match numsOf y2 with | some s3 => (k ((strOfNums s3), 0)) | none => none) | none => none))))) | none => none)
noncomputable abbrev F20_d (N : Nat) (x : ByteArray × Int × Int) : Option (ByteArray × Int) := (F20_s N).d x
theorem F20_par9 (N : Nat) : Par (F20_l9 N).b := by
  intro x α β kn ke kn' ke' r r' h h1 h2
  revert h
  dsimp only [F20_l9]
  (repeat' (first | (with_reducible refine par_ite ?_ ?_) | (with_reducible refine par_both ?_ ?_) | split)) <;> intro h <;> first | exact h1 _ h | exact h2 _ h | (cases h; done)
theorem F20_body9 (N : Nat) (x : (F20_l9 N).X) (α : Type) (kn : AS → Option α) (ke : Out → Option α) : around (tabOf Try.prog) (F20_g N) F20_an (lam N [(9, F20_l9 N)]) 9 (bodyOf (nthLoop 9 (Try.f20.body.getD .skip))) ((F20_l9 N).st x) kn ke = (F20_l9 N).b x α (fun x' => kn ((F20_l9 N).st x')) (fun y => (F20_l9 N).sp y α ke) := by kernel_rfl
theorem F20_pat9 (N : Nat) (s : AS) (x : (F20_l9 N).X) (hc : s = canon (F20_an 9).1 s) (h : (F20_l9 N).p s = some x) : s = (F20_l9 N).st x := by
  dsimp only [F20_l9] at h
  split at h
  · cases h
    exact canon_mk hc ‹_› ‹_› rfl rfl rfl ⟨‹_›, ‹_›, ‹_›, trivial⟩ trivial
  · cases h
theorem F20_loop9 (N : Nat) : ∀ s o, s = canon (F20_an 9).1 s → (lam N [(9, F20_l9 N)]).v 9 s = some o → LoopSem Try.prog (nthLoop 9 (Try.f20.body.getD .skip)) s o :=
  loop_ok (tabOf_ok Try.prog) (gam_ok _) mixed F20_an N [(9, F20_l9 N)] 9 (bodyOf (nthLoop 9 (Try.f20.body.getD .skip))) (nthLoop 9 (Try.f20.body.getD .skip)) (by kernel_rfl) (by
    have e : actOf F20_an (bodyOf (nthLoop 9 (Try.f20.body.getD .skip))) (9 + 1) = [] := by kernel_rfl
    rw [e]
    intro p hp
    cases hp) (F20_l9 N) rfl (fun s x hc h => F20_pat9 N s x hc h) (fun x => rfl) (fun x α kn ke => (F20_body9 N x α kn ke).trans (congrArg ((F20_l9 N).b x α _) (funext fun y => (F20_l9 N).spe y α ke))) (F20_par9 N)
theorem F20_parF (N : Nat) : ParF (F20_s N).t := by
  intro x α β k k' r r' h h1
  revert h
  dsimp only [F20_s]
  (repeat' (first | (with_reducible refine par_ite ?_ ?_) | (with_reducible refine par_both ?_ ?_) | split)) <;> intro h <;> first | exact h1 _ h | (cases h; done)
theorem F20_text (N : Nat) (x : (F20_s N).X) : acall (tabOf Try.prog) (F20_g N) F20_an (lam N [(9, F20_l9 N)]) Try.f20 (F20_s N).S ((F20_s N).args x) ((F20_s N).bs x) = (F20_s N).t x Ret (fun y => some ((F20_s N).ret y)) := by kernel_rfl
theorem F20_pat (N : Nat) (a : List AV) (b : List (List AV)) (x : (F20_s N).X) (h : (F20_s N).pat a b = some x) : a = (F20_s N).args x ∧ b = (F20_s N).bs x := by
  dsimp only [F20_s] at h
  split at h
  · cases h; exact ⟨rfl, rfl⟩
  · cases h
noncomputable def F20_e (N : Nat) : Ent Try.prog := entOf (tabOf_ok Try.prog) (gam_ok _) mixed 20 Try.f20 Try.func20 rfl F20_an (lam N [(9, F20_l9 N)]) (by
    have e : actOf F20_an (Try.f20.body.getD .skip) 0 = [(9, nthLoop 9 (Try.f20.body.getD .skip))] := by kernel_rfl
    rw [e]
    intro p hp
    rcases List.mem_cons.1 hp with rfl | hp
    · exact F20_loop9 N
    cases hp) (F20_s N) (fun _ => ⟨rfl, rfl⟩) (F20_text N) (F20_pat N) (F20_parF N)
/-! ### seismonet/seismonetlaw05.SteimDamage (function 5) -/
def F5_an : Nat → Keep × Keep := anL []
noncomputable def F5_g (N : Nat) : GamK := gam (P := Try.prog) [F8_e N, F9_e N, F10_e N, F18_e N, F14_e N, F19_e N, F20_e N, F16_e N, F17_e N]
noncomputable def F5_s (N : Nat) : FSpec where
  X := (List (List AV)) × Int
  Y := Bool
  ash := [[some 1], [none]]
  bsh := []
  S := ⟨[[none]], [], [], [], []⟩
  bm := false
  pat := fun a b => match a, b with
    | [(AV.list 1 a0 none), (AV.v (.int .u32 a1))], [] => some (a0, a1)
    | _, _ => none
  args := fun x => [(AV.list 1 x.1 none), (AV.v (.int .u32 x.2))]
  bs := fun x => []
  ret := fun y => ⟨(AV.v (.bool y)), [], none, [], [], []⟩
  t := fun x α k => (match F8_d N x.1 with | some y1 => (match (!y1) with | true => (match F9_d N () with | some y2 => (k y2) | none => none) | false => (match F10_d N x.1 with | some y3 => (match F18_d N (60, y3.1, y3.2) with | some y4 => (match F14_d N y4.1 with | some y5 => (match (y5.2 != 0) with | true => (k false) | false => (match (decide ((y5.1.size : Int) < 64)) with | true => (k false) | false => (match F19_d N (y5.1, 8, 4) with | some y6 => (match F20_d N ((⟨#[]⟩ : ByteArray), (bXor .i64 y6.1 (bOr .i64 (IntKind.i64.wrap x.2) (1 : Int))), 4) with | some y7 => (if 0 ≤ (8 : Int) ∧ (8 : Int) ≤ y5.1.size then (if (y5.1.extract 0 (8 : Int).toNat).size + y7.1.size ≤ 9223372036854775807 then (if 0 ≤ (12 : Int) ∧ (12 : Int) ≤ y5.1.size then (if ((y5.1.extract 0 (8 : Int).toNat) ++ y7.1).size + (y5.1.extract (12 : Int).toNat y5.1.size).size ≤ 9223372036854775807 then (match F16_d N ((((y5.1.extract 0 (8 : Int).toNat) ++ y7.1) ++ (y5.1.extract (12 : Int).toNat y5.1.size)), (y4.1.length : Int)) with | some y8 => (if y4.1.length * 8 ≤ maxBytes then (if 0 ≤ (i64 ((y4.1.length : Int) - 1)) then (match y4.1[(i64 ((y4.1.length : Int) - 1)).toNat]? with | some c9 => (match c9[0]? with | some x10 => (match x10 with | .v (.int q12 n11) => (if q12 = .i64 then (if (y4.1.length + [[(AV.v (.int .i64 n11))]].length) * 8 ≤ maxBytes then (match F14_d N (y4.1 ++ [[(AV.v (.int .i64 n11))]]) with | some y13 => (match F16_d N (y13.1, (y4.1.length : Int)) with | some y14 => (match (y8.2 == 11) with | true => (match (y13.2 == 0) with | true => (match (y14.2 == 0) with | true => (match F17_d N (y14.1, y4.1) with | some y15 => (match y15 with | true => (match F9_d N () with | some y16 => (k y16) | none => none) | false => (k false)) | none => none) | false => (k false)) | false => (k false)) | false => (k false)) | none => none) | none => none) else none) else none) | _ => none) | none => none) | none => none) else none) else none) | none => none) else none) else none) else none) else none) | none => none) | none => none))) | none => none) | none => none) | none => none)) | none => none)
noncomputable abbrev F5_d (N : Nat) (x : (List (List AV)) × Int) : Option (Bool) := (F5_s N).d x
theorem F5_parF (N : Nat) : ParF (F5_s N).t := by
  intro x α β k k' r r' h h1
  revert h
  dsimp only [F5_s]
  (repeat' (first | (with_reducible refine par_ite ?_ ?_) | (with_reducible refine par_both ?_ ?_) | split)) <;> intro h <;> first | exact h1 _ h | (cases h; done)
theorem F5_text (N : Nat) (x : (F5_s N).X) : acall (tabOf Try.prog) (F5_g N) F5_an (lam N []) Try.f5 (F5_s N).S ((F5_s N).args x) ((F5_s N).bs x) = (F5_s N).t x Ret (fun y => some ((F5_s N).ret y)) := by kernel_rfl
theorem F5_pat (N : Nat) (a : List AV) (b : List (List AV)) (x : (F5_s N).X) (h : (F5_s N).pat a b = some x) : a = (F5_s N).args x ∧ b = (F5_s N).bs x := by
  dsimp only [F5_s] at h
  split at h
  · cases h; exact ⟨rfl, rfl⟩
  · cases h
noncomputable def F5_e (N : Nat) : Ent Try.prog := entOf (tabOf_ok Try.prog) (gam_ok _) mixed 5 Try.f5 Try.func5 rfl F5_an (lam N []) (by
    have e : actOf F5_an (Try.f5.body.getD .skip) 0 = [] := by kernel_rfl
    rw [e]
    intro p hp
    cases hp) (F5_s N) (fun _ => ⟨rfl, rfl⟩) (F5_text N) (F5_pat N) (F5_parF N)
/-! ### seismonet/seismonetlaw05.SteimBack (function 7) -/
def F7_an : Nat → Keep × Keep := anL []
noncomputable def F7_g (N : Nat) : GamK := gam (P := Try.prog) [F8_e N, F9_e N, F10_e N, F18_e N, F14_e N, F16_e N, F17_e N, F26_e N, F11_e N]
noncomputable def F7_s (N : Nat) : FSpec where
  X := (List (List AV))
  Y := Bool
  ash := [[some 1]]
  bsh := []
  S := ⟨[[none]], [], [], [], []⟩
  bm := false
  pat := fun a b => match a, b with
    | [(AV.list 1 a0 none)], [] => some a0
    | _, _ => none
  args := fun x => [(AV.list 1 x none)]
  bs := fun x => []
  ret := fun y => ⟨(AV.v (.bool y)), [], none, [], [], []⟩
  t := fun x α k => (match F8_d N x with | some y1 => (match (!y1) with | true => (match F9_d N () with | some y2 => (k y2) | none => none) | false => (match F10_d N x with | some y3 => (match F18_d N (100, y3.1, y3.2) with | some y4 => (match F14_d N y4.1 with | some y5 => (match F16_d N (y5.1, (y4.1.length : Int)) with | some y6 => (match (y5.2 != 0) with | true => (k false) | false => (match (y6.2 != 0) with | true => (k false) | false => (match F17_d N (y6.1, y4.1) with | some y7 => (match (!y7) with | true => (k false) | false => (match F26_d N (y5.1, (y4.1.length : Int)) with | some y8 => (match (!y8) with | true => (k false) | false => (match F11_d N ((y4.1.length : Int), y4.2.1, y4.2.2) with | some y9 => (match F16_d N (y5.1, (i64 (1 + y9.1))) with | some y10 => (if 0 ≤ (i64 ((i64 (1 + y9.1)) - 1)) then (match y4.1[(i64 ((i64 (1 + y9.1)) - 1)).toNat]? with | some c11 => (match c11[0]? with | some x12 => (match x12 with | .v (.int q14 n13) => (if q14 = .i64 then (if 0 ≤ (i64 ((y4.1.length : Int) - 1)) then (match y4.1[(i64 ((y4.1.length : Int) - 1)).toNat]? with | some c15 => (match c15[0]? with | some x16 => (match x16 with | .v (.int q18 n17) => (if q18 = .i64 then (match (n13 == n17) with | true => (match (y10.2 == 0) with | true => (if 0 ≤ (i64 (1 + y9.1)) ∧ (i64 (1 + y9.1)) ≤ y4.1.length then (match F17_d N (y10.1, (y4.1.take (i64 (1 + y9.1)).toNat)) with | some y19 => (match y19 with | true => (match F9_d N () with | some y20 => (k y20) | none => none) | false => (k false)) | none => none) else none) | false => (k false)) | false => (match (y10.2 == 11) with | true => (match F9_d N () with | some y21 => (k y21) | none => none) | false => (k false))) else none) | _ => none) | none => none) | none => none) else none) else none) | _ => none) | none => none) | none => none) else none) | none => none) | none => none)) | none => none)) | none => none))) | none => none) | none => none) | none => none) | none => none)) | none => none)
noncomputable abbrev F7_d (N : Nat) (x : (List (List AV))) : Option (Bool) := (F7_s N).d x
theorem F7_parF (N : Nat) : ParF (F7_s N).t := by
  intro x α β k k' r r' h h1
  revert h
  dsimp only [F7_s]
  (repeat' (first | (with_reducible refine par_ite ?_ ?_) | (with_reducible refine par_both ?_ ?_) | split)) <;> intro h <;> first | exact h1 _ h | (cases h; done)
theorem F7_text (N : Nat) (x : (F7_s N).X) : acall (tabOf Try.prog) (F7_g N) F7_an (lam N []) Try.f7 (F7_s N).S ((F7_s N).args x) ((F7_s N).bs x) = (F7_s N).t x Ret (fun y => some ((F7_s N).ret y)) := by kernel_rfl
theorem F7_pat (N : Nat) (a : List AV) (b : List (List AV)) (x : (F7_s N).X) (h : (F7_s N).pat a b = some x) : a = (F7_s N).args x ∧ b = (F7_s N).bs x := by
  dsimp only [F7_s] at h
  split at h
  · cases h; exact ⟨rfl, rfl⟩
  · cases h
noncomputable def F7_e (N : Nat) : Ent Try.prog := entOf (tabOf_ok Try.prog) (gam_ok _) mixed 7 Try.f7 Try.func7 rfl F7_an (lam N []) (by
    have e : actOf F7_an (Try.f7.body.getD .skip) 0 = [] := by kernel_rfl
    rw [e]
    intro p hp
    cases hp) (F7_s N) (fun _ => ⟨rfl, rfl⟩) (F7_text N) (F7_pat N) (F7_parF N)
end Go.Proofs.Yteplhedodcaljaa
